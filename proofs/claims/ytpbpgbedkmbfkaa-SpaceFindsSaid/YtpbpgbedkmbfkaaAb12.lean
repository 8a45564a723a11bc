/-
  Ab12: the simulation of slice expressions, and of literals.
-/
import Derived.Test.YtpbpgbedkmbfkaaAb11
namespace Go.Ab

theorem oopd_sim {T : Tab} {gl : GL} {B : BM} {ρ : Env} {a : Act} {x : Option Opd} {y : Option Operand} (h : oopdOk gl x y = true) (hE : ER T B ρ a.tmps) (hG : GlobR gl B) :
    (x = none ∧ y = none) ∨ ∃ x0 y0, x = some x0 ∧ y = some y0 ∧ VR T B (x0.ev ρ) (a.eval y0) := by
  cases x with
  | none => cases y with
    | none => exact .inl ⟨rfl, rfl⟩
    | some _ => simp [oopdOk] at h
  | some x0 => cases y with
    | none => simp [oopdOk] at h
    | some y0 => exact .inr ⟨x0, y0, rfl, rfl, opd_sim h hE hG⟩

/-- A bound of a slice expression, given or not. -/
theorem bound_sim {T : Tab} {B : BM} {P : Program} {w : World} {x : V} {y : Value} {n d k : Nat} {code : BoundsCode} (hx : VR T B x y) (hb : bound n (some x) d = some k) {N : Nat} (hn : n ≤ N) : (Instr.sliceBound y N code).run P w = .ok k w ∧ k ≤ n := by
  cases x with
  | int kk i =>
    simp only [bound] at hb
    rw [vr_int] at hx
    by_cases h : 0 ≤ i ∧ i ≤ n
    · rw [if_pos h] at hb
      simp only [Option.some.injEq] at hb
      subst hb
      have h2 : 0 ≤ i ∧ i ≤ (N : Int) := by omega
      exact ⟨by simp [hx, Instr.sliceBound, asIntOf, h2], by omega⟩
    · rw [if_neg h] at hb; cases hb
  | _ => simp [bound] at hb

/-- The three bounds. -/
theorem bounds_sim {T : Tab} {gl : GL} {B : BM} {P : Program} {w : World} {ρ : Env} {a : Act} {lo hi mx : Option Opd} {lo' hi' mx' : Option Operand} (hlo : oopdOk gl lo lo' = true) (hhi : oopdOk gl hi hi' = true) (hmx : oopdOk gl mx mx' = true) (hmh : (mx.isNone || hi.isSome) = true)
    (hE : ER T B ρ a.tmps) (hG : GlobR gl B) {n N cb m h l : Nat} (isS : Bool) (hcN : cb ≤ N) (hnb : n ≤ cb) 
    (h1 : bound cb (mx.map (Opd.ev ρ)) cb = some m) (h2 : bound (hbnd mx.isSome m n) (hi.map (Opd.ev ρ)) n = some h) (h3 : bound h (lo.map (Opd.ev ρ)) 0 = some l) :
    ∃ M, (Instr.sliceBounds isS n N (lo'.map a.eval) (hi'.map a.eval) (mx'.map a.eval)).run P w = .ok (l, h, M) w ∧ l ≤ h ∧ h ≤ n ∧ h ≤ M ∧ M ≤ N ∧ (mx = none → M = N) ∧ (∀ z, mx = some z → M = m) := by
  have hlow : ∀ code, (match lo'.map a.eval with | some v => Instr.sliceBound v h code | none => pure 0 : Sem Nat).run P w = .ok l w ∧ l ≤ h := by
    intro code
    rcases oopd_sim hlo hE hG with ⟨rfl, rfl⟩ | ⟨x0, y0, rfl, rfl, hv⟩
    · simp only [Option.map_none, bound, Option.some.injEq] at h3
      subst h3
      exact ⟨rfl, Nat.zero_le _⟩
    · simp only [Option.map_some] at h3 ⊢
      exact bound_sim hv h3 (Nat.le_refl _)
  rcases oopd_sim hmx hE hG with ⟨rfl, rfl⟩ | ⟨x0, y0, rfl, rfl, hv⟩
  · simp only [hbnd, Option.isSome_none, Bool.false_eq_true, if_false] at h2
    have hhigh : (match hi'.map a.eval with | some v => Instr.sliceBound v N (if isS then .sliceAcap else .sliceAlen) | none => pure n : Sem Nat).run P w = .ok h w ∧ h ≤ n := by
      rcases oopd_sim hhi hE hG with ⟨rfl, rfl⟩ | ⟨x0, y0, rfl, rfl, hv⟩
      · simp only [Option.map_none, bound, Option.some.injEq] at h2
        subst h2
        exact ⟨rfl, Nat.le_refl _⟩
      · simp only [Option.map_some] at h2 ⊢
        exact bound_sim hv h2 (by omega)
    refine ⟨N, ?_, (hlow .sliceB).2, hhigh.2, by have := hhigh.2; omega, Nat.le_refl _, fun _ => rfl, fun z hz => by cases hz⟩
    have hl := (hlow .sliceB).1
    have hh := hhigh.1
    rcases oopd_sim hhi hE hG with ⟨rfl, rfl⟩ | ⟨x0, y0, rfl, rfl, hv⟩ <;> rcases oopd_sim hlo hE hG with ⟨rfl, rfl⟩ | ⟨x1, y1, rfl, rfl, hv1⟩ <;>
      simp only [Option.map_none, Option.map_some, Sem.run_pure, Result.ok.injEq, and_true] at hh hl <;> simp [Instr.sliceBounds, hh, hl]
  · simp only [hbnd, Option.isSome_some, if_true] at h2
    simp only [Option.map_some] at h1
    obtain ⟨x1, hx1⟩ : ∃ x1, hi = some x1 := by cases hi with | none => simp at hmh | some x1 => exact ⟨x1, rfl⟩
    subst hx1
    rcases oopd_sim hhi hE hG with ⟨hno, _⟩ | ⟨x2, y2, he2, rfl, hv2⟩
    · cases hno
    · cases he2
      simp only [Option.map_some] at h2
      obtain ⟨g1, g2⟩ := bound_sim (P := P) (w := w) (code := if isS then .slice3Acap else .slice3Alen) hv h1 hcN
      obtain ⟨g3, g4⟩ := bound_sim (P := P) (w := w) (code := .slice3B) (N := m) hv2 h2 (Nat.min_le_left _ _)
      refine ⟨m, ?_, (hlow .slice3C).2, by omega, by omega, by omega, fun hz => (by cases hz), fun z _ => rfl⟩
      have hl := (hlow .slice3C).1
      rcases oopd_sim hlo hE hG with ⟨rfl, rfl⟩ | ⟨x3, y3, rfl, rfl, hv1⟩ <;>
        simp only [Option.map_none, Option.map_some, Sem.run_pure, Result.ok.injEq, and_true] at hl <;> simp [Instr.sliceBounds, g1, g3, hl]

/-- An array that can be read lies within its block. -/
theorem arr_bound {T : Tab} (hT : tabOk T = true) {B0 : Nat} {B : BM} {s : St} {w : World} (h : SR T B0 B s w) {a : Loc} {path : List Nat} (hr : (s.read a path).isSome = true)
    {ad : Addr} {r o t n e : Nat} (hB : B.at a = some (ad, r)) (ho : offOf T r path = some (o, t)) (hti : T.info t = some (.arr n e)) (hne : 0 < n) : ∀ N, ad.spot = some N → ad.off + o + n * T.size e ≤ N := by
  intro N hN
  unfold St.read at hr
  cases hs : s.at a with
  | none => rw [hs] at hr; cases hr
  | some b =>
    rw [hs] at hr
    have hb := h.blk a b _ hs hB
    cases b with
    | dead => cases hr
    | ro u =>
      obtain ⟨_, _, _, _, _, _, _, _, _, h6⟩ := hb
      simp only at h6
      rw [hN] at h6; cases h6
    | rw u =>
      obtain ⟨h1, h2, c, e', cs, h3, h4, h5, h6⟩ := hb
      simp only at h6 h2 h5
      rw [hN] at h6
      cases h6
      simp only at hr
      cases hat : V.at path u with
      | none => rw [hat] at hr; cases hr
      | some x =>
        obtain ⟨p1, p2, p3, rfl, hl, hwx, htx, hcx, hnr, _⟩ := at_cells hT h1 h4 hat (by rw [h2]; exact ho)
        have hnt : T.noRow x.tag = true := by
          rw [htx]
          unfold Tab.noRow
          unfold Tab.info at hti
          cases hf : T.find t with
          | none => rfl
          | some z =>
            obtain ⟨ti, sz⟩ := z
            rw [hf] at hti
            cases hti
            rfl
        have hlen := CR_len hT hwx hcx hnt
        rw [htx, (arrOk hT hti).size] at hlen
        have hpos : 0 < n * T.size e := Nat.mul_pos hne (arrOk hT hti).pos
        have hi : (p1 ++ p2 ++ p3)[o + (n * T.size e - 1)]? = some (p2[n * T.size e - 1]'(by omega)) := by
          rw [List.append_assoc, List.getElem?_append_right (by omega), List.getElem?_append_left (by omega), hl, Nat.add_sub_cancel_left, List.getElem?_eq_getElem]
        have := h5 _ _ hi
        have := (Array.getElem?_eq_some_iff.1 this).1
        omega

section sims
variable {c : Cfg} (hT : tabOk c.T = true) (hm : tmOk c = true) {B0 base : Nat} {B : BM} {s s' : St} {w : World} {a : Act} {ρ : Env} {v : V}
  (hE : ER c.T B ρ a.tmps) (hG : GlobR c.gl B) (hS : SR c.T B0 B s w) (hb : base ≤ s.loc.length) (hB0 : B0 ≤ w.heap.size)
include hE hG hS

include hT hm in
theorem sim_slc {e : Nat} {x : Opd} {lo hi mx : Option Opd} {q : Oper} (hc : chkOp c (.slc e x lo hi mx) q.op = true) (he : evOp base ρ s (.slc e x lo hi mx) = some (v, s')) : OpOk c B0 base B s w a q v s' := by
  simp only [chkOp] at hc
  split at hc
  · rename_i ty y lo' hi' mx' hq
    simp only [Bool.and_eq_true] at hc
    obtain ⟨⟨⟨⟨⟨hel, hcx⟩, hlo⟩, hhi⟩, hmx⟩, hmh⟩ := hc
    have hx := opd_sim hcx hE hG
    unfold elOk at hel
    split at hel
    · rename_i ety hu
      simp only [decide_eq_true_eq] at hel
      obtain ⟨i', d', hty'⟩ := ty_of hT hm hel
      simp only [evOp] at he
      cases hv : x.ev ρ with
      | sl l path off len cap e' =>
        rw [hv] at he hx
        simp only at he
        by_cases hee : e' = e
        · rw [if_pos hee] at he
          subst hee
          obtain ⟨ad, r, o, u, c', ad', h1, h2, h3, h4, h5, h6, h7, h10, h8⟩ := vr_sl.1 hx
          have hcb : ∃ cb, cb = cap.getD len ∧ cb ≤ c' ∧ len ≤ cb := by
            cases cap with
            | none => exact ⟨len, rfl, h5, Nat.le_refl _⟩
            | some k => exact ⟨k, rfl, by rw [h6 k rfl]; exact Nat.le_refl _, by rw [← h6 k rfl]; exact h5⟩
          obtain ⟨cb, hcbe, hcb1, hcb2⟩ := hcb
          rw [← hcbe] at he
          cases hm1 : bound cb (mx.map (Opd.ev ρ)) cb with
          | none => rw [hm1] at he; cases he
          | some m =>
            rw [hm1] at he
            simp only at he
            cases hm2 : bound (hbnd mx.isSome m len) (hi.map (Opd.ev ρ)) len with
            | none => rw [hm2] at he; cases he
            | some h =>
              rw [hm2] at he
              simp only at he
              cases hm3 : bound h (lo.map (Opd.ev ρ)) 0 with
              | none => rw [hm3] at he; cases he
              | some l0 =>
                rw [hm3] at he
                simp only [Option.some.injEq, Prod.mk.injEq] at he
                obtain ⟨rfl, rfl⟩ := he
                obtain ⟨M, k1, k2, k3, k4, k5, k6, k7⟩ := bounds_sim (P := c.P) (w := w) hlo hhi hmx hmh hE hG (N := c') true hcb1 hcb2 hm1 hm2 hm3
                refine pureOk hS (x := .slice (if M = l0 then some ad' else some (ad'.add (l0 * c.T.size e'))) (h - l0) (M - l0)) ?_ ?_
                · simp [execOp, hq, h8, Instr.sliceAt, Instr.slice, run_underlying hu, k1, sizeOf_run hty']
                · obtain ⟨ad2, had2⟩ : ∃ ad2, (if M = l0 then some ad' else some (ad'.add (l0 * c.T.size e'))) = some ad2 := by split <;> exact ⟨_, rfl⟩
                  rw [had2]
                  refine vr_sl.2 ⟨ad, r, o, u, M - l0, ad2, h1, h2, h3, fun n' e2 hi2 => by have := h4 n' e2 hi2; omega, by omega, ?_, ?_, ?_, rfl⟩
                  · intro c2 hc2
                    unfold ncap at hc2
                    cases mx with
                    | some z =>
                      have := k7 z rfl
                      simp only [Option.isSome_some, Bool.true_or, if_true, Option.some.injEq] at hc2
                      omega
                    | none =>
                      cases cap with
                      | none => simp at hc2
                      | some k =>
                        simp only [Option.isSome_some, Bool.or_true, if_true, Option.some.injEq] at hc2
                        have hmk : m = cb := by simp only [Option.map_none, bound, Option.some.injEq] at hm1; exact hm1.symm
                        have := k6 rfl
                        have := h6 k rfl
                        simp only [Option.getD_some] at hcbe
                        omega
                  · by_cases hMl : M = l0
                    · left; omega
                    · right
                      rw [if_neg hMl] at had2
                      simp only [Option.some.injEq] at had2
                      rcases h7 with h7 | h7
                      · omega
                      · rw [← had2, h7, Addr.add_mid]
                        simp only [Addr.mk.injEq, and_true, true_and]
                        rw [Nat.add_mul]
                        omega
                  · intro N hN
                    have h11 := h10 N hN
                    have e1 : (off + l0) * c.T.size e' + (M - l0) * c.T.size e' = off * c.T.size e' + M * c.T.size e' := by
                      rw [← Nat.add_mul, ← Nat.add_mul]; congr 1; omega
                    have e2 : M * c.T.size e' ≤ c' * c.T.size e' := Nat.mul_le_mul_right _ k5
                    omega
        · rw [if_neg hee] at he; cases he
      | nils =>
        rw [hv] at he hx
        rw [vr_nils] at hx
        simp only at he
        cases hm1 : bound 0 (mx.map (Opd.ev ρ)) 0 with
        | none => rw [hm1] at he; cases he
        | some m =>
          cases hm2 : bound 0 (hi.map (Opd.ev ρ)) 0 with
          | none => rw [hm1, hm2] at he; cases he
          | some h =>
            cases hm3 : bound 0 (lo.map (Opd.ev ρ)) 0 with
            | none => rw [hm1, hm2, hm3] at he; cases he
            | some l0 =>
              rw [hm1, hm2, hm3] at he
              simp only [Option.some.injEq, Prod.mk.injEq] at he
              obtain ⟨rfl, rfl⟩ := he
              have hz : ∀ (z : Option V) (k : Nat), bound 0 z 0 = some k → k = 0 := by
                intro z k hz
                unfold bound at hz
                split at hz
                · simpa using hz.symm
                · rename_i kk i _
                  split at hz
                  · simp only [Option.some.injEq] at hz; omega
                  · cases hz
                · cases hz
              have e1 := hz _ _ hm1
              have e2 := hz _ _ hm2
              have e3 := hz _ _ hm3
              subst e1 e2 e3
              obtain ⟨M, k1, k2, k3, k4, k5, k6, k7⟩ := bounds_sim (P := c.P) (w := w) (n := 0) (N := 0) (cb := 0) hlo hhi hmx hmh hE hG true (Nat.le_refl _) (Nat.le_refl _) hm1 (by unfold hbnd; split <;> simpa using hm2) hm3
              have hM : M = 0 := by omega
              subst hM
              exact pureOk hS (x := .slice none 0 0) (by simp [execOp, hq, hx, Instr.sliceAt, Instr.slice, run_underlying hu, k1, sizeOf_run hty']) (vr_nils.2 rfl)
      | _ => rw [hv] at he; cases he
    · cases hel
  · cases hc

theorem sim_slstr {x : Opd} {lo hi : Option Opd} {q : Oper} (hc : chkOp c (.slstr x lo hi) q.op = true) (he : evOp base ρ s (.slstr x lo hi) = some (v, s')) : OpOk c B0 base B s w a q v s' := by
  simp only [chkOp] at hc
  split at hc
  · rename_i ty y lo' hi' mx' hq
    simp only [Bool.and_eq_true] at hc
    obtain ⟨⟨⟨⟨hu, hcx⟩, hlo⟩, hhi⟩, hmx⟩ := hc
    have hmx' : mx' = none := by simpa using hmx
    subst hmx'
    have hx := opd_sim hcx hE hG
    split at hu
    · rename_i hu'
      simp only [evOp] at he
      cases hv : x.ev ρ with
      | str b =>
        rw [hv] at he hx
        rw [vr_str] at hx
        simp only at he
        cases hm2 : bound b.size (hi.map (Opd.ev ρ)) b.size with
        | none => rw [hm2] at he; cases he
        | some h =>
          rw [hm2] at he
          simp only at he
          cases hm3 : bound h (lo.map (Opd.ev ρ)) 0 with
          | none => rw [hm3] at he; cases he
          | some l0 =>
            rw [hm3] at he
            simp only [Option.some.injEq, Prod.mk.injEq] at he
            obtain ⟨rfl, rfl⟩ := he
            obtain ⟨M, k1, _⟩ := bounds_sim (P := c.P) (w := w) (mx := none) (mx' := none) (cb := b.size) (n := b.size) (N := b.size) (m := b.size) hlo hhi rfl (by rfl) hE hG false (Nat.le_refl _) (Nat.le_refl _) rfl hm2 hm3
            simp only [Option.map_none] at k1
            exact pureOk hS (x := .string (b.extract l0 h)) (by simp [execOp, hq, hx, Instr.sliceAt, Instr.slice, run_underlying hu', k1]) (vr_str.2 rfl)
      | _ => rw [hv] at he; cases he
    · cases hu
  · cases hc

include hT hm in
theorem sim_slarr {t n e : Nat} {x : Opd} {lo hi mx : Option Opd} {q : Oper} (hc : chkOp c (.slarr t n e x lo hi mx) q.op = true) (he : evOp base ρ s (.slarr t n e x lo hi mx) = some (v, s')) : OpOk c B0 base B s w a q v s' := by
  simp only [chkOp] at hc
  split at hc
  · rename_i ty y lo' hi' mx' hq
    simp only [Bool.and_eq_true, decide_eq_true_eq] at hc
    obtain ⟨⟨⟨⟨⟨⟨hu, htg⟩, hcx⟩, hlo⟩, hhi⟩, hmx⟩, hmh⟩ := hc
    have hx := opd_sim hcx hE hG
    obtain ⟨i, d, hty⟩ := ty_of hT hm htg
    split at hu
    · rename_i n' ety hu'
      simp only [Bool.and_eq_true, decide_eq_true_eq] at hu
      obtain ⟨⟨rfl, hety⟩, hn0⟩ := hu
      obtain ⟨i', d', hty'⟩ := ty_of hT hm hety
      have hti : c.T.info t = some (.arr n e) := by
        have := hty.all
        unfold tyOk1 at this
        rw [hty.info, hu'] at this
        simp only [Bool.and_eq_true, decide_eq_true_eq] at this
        have h5 := this.2
        split at h5
        · rename_i m u hi
          simp only [Bool.and_eq_true, decide_eq_true_eq] at h5
          have : u = e := by rw [hety] at h5; exact (Option.some.inj h5.2).symm
          rw [hi, ← h5.1, this]
        · cases h5
      simp only [evOp] at he
      cases hv : x.ev ρ with
      | ptr l path t' =>
        rw [hv] at he hx
        simp only at he
        by_cases hee : t' = t ∧ (s.read l path).isSome = true
        · rw [if_pos hee] at he
          obtain ⟨rfl, hrd⟩ := hee
          obtain ⟨ad, r, o, h1, h2, h3⟩ := vr_ptr.1 hx
          have hab := arr_bound hT hS hrd h1 h2 hti hn0
          cases hm1 : bound n (mx.map (Opd.ev ρ)) n with
          | none => rw [hm1] at he; cases he
          | some m =>
            rw [hm1] at he
            simp only at he
            cases hm2 : bound m (hi.map (Opd.ev ρ)) n with
            | none => rw [hm2] at he; cases he
            | some h =>
              rw [hm2] at he
              simp only at he
              cases hm3 : bound h (lo.map (Opd.ev ρ)) 0 with
              | none => rw [hm3] at he; cases he
              | some l0 =>
                rw [hm3] at he
                simp only [Option.some.injEq, Prod.mk.injEq] at he
                obtain ⟨rfl, rfl⟩ := he
                have hmn : m ≤ n ∧ (mx = none → m = n) := by
                  unfold bound at hm1
                  split at hm1
                  · simp only [Option.some.injEq] at hm1; exact ⟨by omega, fun _ => hm1.symm⟩
                  · rename_i kk i0 hz
                    split at hm1
                    · simp only [Option.some.injEq] at hm1
                      exact ⟨by omega, fun hz2 => by rw [hz2] at hz; cases hz⟩
                    · cases hm1
                  · cases hm1
                obtain ⟨M, k1, k2, k3, k4, k5, k6, k7⟩ := bounds_sim (P := c.P) (w := w) hlo hhi hmx hmh hE hG (n := n) (N := n) false (Nat.le_refl _) (Nat.le_refl _) hm1 (by
                  cases mx with
                  | none => have := hmn.2 rfl; subst this; exact hm2
                  | some z => simp only [hbnd, Option.isSome_some, if_true]; rw [Nat.min_eq_left hmn.1]; exact hm2) hm3
                have hM : M = m := by
                  cases mx with
                  | none => rw [k6 rfl, hmn.2 rfl]
                  | some z => exact k7 z rfl
                subst hM
                refine pureOk hS (x := .slice (some (if M = l0 then ⟨ad.block, ad.off + o, none⟩ else (⟨ad.block, ad.off + o, none⟩ : Addr).add (l0 * c.T.size e))) (h - l0) (M - l0)) ?_ ?_
                · simp [execOp, hq, h3, Instr.sliceAt, Instr.sureAddr, run_underlying hu', k1, sizeOf_run hty']
                · refine vr_sl.2 ⟨ad, r, o, t', M - l0, _, h1, h2, by simp [Tab.elem, hti], fun n' e2 hi2 => by rw [hti] at hi2; cases hi2; omega, by omega, fun c2 hc2 => by simpa using hc2, ?_, ?_, rfl⟩
                  · by_cases hMl : M = l0
                    · left; omega
                    · right
                      rw [if_neg hMl, Addr.add_mid]
                      simp only [Addr.mk.injEq, and_true, true_and]
                      omega
                  · intro N hN
                    have h11 := hab N hN
                    have e1 : l0 * c.T.size e + (M - l0) * c.T.size e = M * c.T.size e := by
                      rw [← Nat.add_mul]; congr 1; omega
                    have e2 : M * c.T.size e ≤ n * c.T.size e := Nat.mul_le_mul_right _ hmn.1
                    omega
        · rw [if_neg hee] at he; cases he
      | _ => rw [hv] at he; cases he
    · cases hu
  · cases hc
end sims
end Go.Ab
