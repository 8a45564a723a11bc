/-
  Ab9: the simulation of the operations that touch memory at most by a load or a store.
-/
import Derived.Test.YtpbpgbedkmbfkaaAb8
namespace Go.Ab

theorem agg_of_info {T : Tab} (hT : tabOk T = true) {v : V} (hw : v.wf T) {ti : TI} (hi : T.info v.tag = some ti) : ∃ l, v = .agg v.tag l := by
  by_cases ht : v.tag < 20
  · rw [info_leaf hT ht] at hi; cases hi
  · cases v with
    | agg t l => exact ⟨l, rfl⟩
    | dead => exact hw.elim
    | tup l => exact hw.elim
    | int k n => exact absurd (itag_lt k) ht
    | _ => exact absurd (by simp [V.tag]) ht
theorem leaf_of_info {T : Tab} {v : V} (hw : v.wf T) (hi : T.info v.tag = none) : isAggV v = false := by
  cases v with
  | agg t l =>
    simp only [V.wf] at hw
    unfold aggOk at hw
    simp only [V.tag] at hi
    rw [hi] at hw
    exact hw.1.elim
  | _ => rfl

/-- What the type map tells of a type. -/
structure Ty (c : Cfg) (ty t : Nat) (i : TypeInfo) (d : TypeDesc) : Prop where
  info : c.P.info? ty = some i
  under : c.P.underlying ty = some d
  size : i.size = c.T.size t
  pos : 0 < c.T.size t
  nr : c.T.noRow t = true
  row : (d.isRow = true ∧ ∃ ti, c.T.info t = some ti) ∨ (d.isRow = false ∧ c.T.info t = none)
  all : tyOk1 c ty t = true

theorem ty_of {c : Cfg} (hT : tabOk c.T = true) (hm : tmOk c = true) {ty t : Nat} (h : tg c.tm ty = some t) : ∃ i d, Ty c ty t i d := by
  have h1 := tyOk_of hm h
  have h0 := h1
  unfold tyOk1 at h1
  cases hi : c.P.info? ty with
  | none => rw [hi] at h1; simp at h1
  | some i =>
    cases hd : c.P.underlying ty with
    | none => rw [hi, hd] at h1; simp at h1
    | some d =>
      rw [hi, hd] at h1
      simp only [Bool.and_eq_true, decide_eq_true_eq] at h1
      obtain ⟨⟨⟨h2, h3⟩, h4⟩, h5⟩ := h1
      refine ⟨i, d, hi, hd, h2, h3, h4, ?_, h0⟩
      cases d with
      | struct fs =>
        left
        refine ⟨rfl, ?_⟩
        simp only [Bool.and_eq_true] at h5
        cases hti : c.T.info t with
        | none => rw [hti] at h5; simp at h5
        | some ti => exact ⟨ti, rfl⟩
      | array n e =>
        left
        refine ⟨rfl, ?_⟩
        cases hti : c.T.info t with
        | none => rw [hti] at h5; simp at h5
        | some ti => exact ⟨ti, rfl⟩
      | bool => right; simp only [decide_eq_true_eq] at h5; subst h5; exact ⟨rfl, info_leaf hT (by decide)⟩
      | string => right; simp only [decide_eq_true_eq] at h5; subst h5; exact ⟨rfl, info_leaf hT (by decide)⟩
      | int k => right; simp only [decide_eq_true_eq] at h5; subst h5; exact ⟨rfl, info_leaf hT (itag_lt k)⟩
      | pointer _ => right; simp only [decide_eq_true_eq] at h5; subst h5; exact ⟨rfl, info_leaf hT (by decide)⟩
      | slice _ => right; simp only [decide_eq_true_eq] at h5; subst h5; exact ⟨rfl, info_leaf hT (by decide)⟩
      | func _ _ _ => right; simp only [decide_eq_true_eq] at h5; subst h5; exact ⟨rfl, info_leaf hT (by decide)⟩
      | _ => simp at h5

/-- A load of whatever type. -/
theorem run_load_any {c : Cfg} (hT : tabOk c.T = true) {ty t : Nat} {i : TypeInfo} {d : TypeDesc} (hty : Ty c ty t i d) {B : BM} {v : V} (hw : v.wf c.T) (ht : v.tag = t) {cs : List Value} (hc : CR c.T B v cs) {w : World} {b o : Nat} (hr : w.rangeAt b o cs) :
    ∃ x, (Instr.loadAt ty (.pointer (some ⟨b, o, none⟩))).run c.P w = .ok x w ∧ VR1 c.T B v x := by
  have hl : cs.length = c.T.size t := by rw [← ht]; exact CR_len hT hw hc (by rw [ht]; exact hty.nr)
  rcases hty.row with ⟨hrow, ti, hti⟩ | ⟨hrow, hti⟩
  · obtain ⟨l, hv⟩ := agg_of_info hT hw (by rw [ht]; exact hti)
    refine ⟨.agg cs.toArray, run_loadAt_mid w b o ty cs d hr hty.under hrow (by rw [hty.info]; simp [hty.size, hl]), hw, by simpa [Value.cells] using hc, ?_⟩
    rw [hv]; rfl
  · have hone : c.T.size t = 1 := by
      cases hf : c.T.find t with
      | none => unfold Tab.size; rw [hf]
      | some x => unfold Tab.info at hti; rw [hf] at hti; cases hti
    rw [hone] at hl
    obtain ⟨x, rfl⟩ := List.length_eq_one_iff.1 hl
    have hcell := hr 0 x rfl
    have hx1 : x.oneCell' = true := CR_one hc x (by simp)
    refine ⟨x, ?_, hw, ?_, ?_⟩
    · have hagg : (isAgg ty).run c.P w = .ok false w := by
        unfold isAgg
        rw [Sem.run_bind, run_underlying hty.under w]
        cases d <;> simp_all [TypeDesc.isRow]
      simp only [Nat.add_zero] at hcell
      simp [Instr.loadAt, Instr.sureAddr, loadVar, hagg, hcell]
    · cases x <;> simp_all [Value.cells, Value.oneCell']
    · rw [leaf_of_info hw (by rw [ht]; exact hti)]
      cases x <;> simp_all [isAggX, Value.oneCell']

/-- A store of whatever type. -/
theorem run_store_any {c : Cfg} {ty t : Nat} {i : TypeInfo} {d : TypeDesc} (hty : Ty c ty t i d) {x : Value} (h1 : ∀ u ∈ x.cells.toList, u.oneCell' = true) (hl : x.cells.toList.length = c.T.size t) {w : World} {b o : Nat} (hr : w.there b o x.cells.toList.length) :
    (Instr.storeAt ty (.pointer (some ⟨b, o, none⟩)) x).run c.P w = .ok () (w.setCells b o x.cells.toList) := by
  have h := run_storeCells_cells (P := c.P) b o x.cells.toList 0 w (fun j hj => by simpa using (hr j hj).1) (fun j hj => by simpa using (hr j hj).2) h1
  have hs : ¬ (x.cells.size ≠ i.size) := by rw [hty.size]; simp at hl; simp [hl]
  simp only [Nat.add_zero] at h
  simp [Instr.storeAt, Instr.sureAddr, storeVar, sizeOf, typeInfo, hty.info, hs, h]

theorem wf_of_write {base : Nat} {s s' : St} {l : Loc} {path : List Nat} {x : V} (h : s.write base l path x = some s') : ∃ u, s.read l path = some u := by
  unfold St.write at h
  unfold St.read
  cases hs : s.at l with
  | none => rw [hs] at h; cases h
  | some b =>
    rw [hs] at h
    cases b with
    | rw v =>
      simp only at h
      split at h
      · cases hq : V.setAt path x v with
        | none => rw [hq] at h; cases h
        | some v' =>
          have key : ∀ (path : List Nat) (v v' : V), V.setAt path x v = some v' → ∃ u, V.at path v = some u := by
            intro path
            induction path with
            | nil => exact fun v _ _ => ⟨v, rfl⟩
            | cons i p ih =>
              intro v v' hv
              cases v with
              | agg t m =>
                simp only [V.setAt] at hv
                simp only [V.at]
                cases hy : m[i]? with
                | none => rw [hy] at hv; cases hv
                | some y =>
                  rw [hy] at hv
                  simp only at hv
                  cases hz : V.setAt p x y with
                  | none => rw [hz] at hv; cases hv
                  | some y' => exact ih y y' hz
              | _ => simp [V.setAt] at hv
          exact key path v v' hq
      · cases h
    | _ => cases h

section sims
variable {c : Cfg} (hT : tabOk c.T = true) (hm : tmOk c = true) {B0 base : Nat} {B : BM} {s s' : St} {w : World} {a : Act} {ρ : Env} {v : V}
  (hE : ER c.T B ρ a.tmps) (hG : GlobR c.gl B) (hS : SR c.T B0 B s w)
include hE hG hS

theorem sim_mv {x : Opd} {q : Oper} (hc : chkOp c (.mv x) q.op = true) (he : evOp base ρ s (.mv x) = some (v, s')) : OpOk c B0 base B s w a q v s' := by
  simp only [evOp, Option.some.injEq, Prod.mk.injEq] at he
  obtain ⟨rfl, rfl⟩ := he
  simp only [chkOp] at hc
  split at hc
  · rename_i y hq
    exact pureOk hS (by simp only [execOp, hq]; rfl) (opd_sim hc hE hG)
  · rename_i y hq
    exact pureOk hS (by simp only [execOp, hq]; rfl) (opd_sim hc hE hG)
  · cases hc

theorem sim_pick {x y z : Opd} {q : Oper} (hc : chkOp c (.pick x y z) q.op = true) (he : evOp base ρ s (.pick x y z) = some (v, s')) : OpOk c B0 base B s w a q v s' := by
  simp only [chkOp] at hc
  split at hc
  · rename_i x' y' z' hq
    simp only [Bool.and_eq_true] at hc
    simp only [evOp] at he
    have hx := opd_sim hc.1.1 hE hG
    have hy := opd_sim hc.1.2 hE hG
    have hz := opd_sim hc.2 hE hG
    cases hv : x.ev ρ with
    | bool t =>
      rw [hv] at he hx
      simp only [Option.some.injEq, Prod.mk.injEq] at he
      obtain ⟨rfl, rfl⟩ := he
      rw [vr_bool] at hx
      refine pureOk hS (x := if t then a.eval y' else a.eval z') (by simp [execOp, hq, hx, asBool]) ?_
      cases t
      · exact hz
      · exact hy
    | _ => rw [hv] at he; cases he
  · cases hc

include hT hm in
theorem sim_ld {t : Nat} {p : Opd} {q : Oper} (hc : chkOp c (.ld t p) q.op = true) (he : evOp base ρ s (.ld t p) = some (v, s')) : OpOk c B0 base B s w a q v s' := by
  simp only [chkOp] at hc
  split at hc
  · rename_i ty p' hq
    simp only [Bool.and_eq_true, decide_eq_true_eq] at hc
    simp only [evOp] at he
    have hp := opd_sim hc.1 hE hG
    obtain ⟨i, d, hty⟩ := ty_of hT hm hc.2
    cases hv : p.ev ρ with
    | ptr l path t' =>
      rw [hv] at he hp
      simp only at he
      by_cases htt : t' = t
      · rw [if_pos htt] at he
        subst htt
        cases hr : s.read l path with
        | none => rw [hr] at he; cases he
        | some u =>
          rw [hr] at he
          simp only [Option.some.injEq, Prod.mk.injEq] at he
          obtain ⟨rfl, rfl⟩ := he
          obtain ⟨ad, r, o, h1, h2, h3⟩ := vr_ptr.1 hp
          obtain ⟨g1, g2, cs, g3, g4, _⟩ := read_sim hT hS hr h1 h2
          obtain ⟨x, hx1, hx2⟩ := run_load_any hT hty g1 g2 g3 g4
          exact pureOk hS (by simp [execOp, hq, h3, hx1]) (VR_of1 hx2)
      · rw [if_neg htt] at he; cases he
    | _ => rw [hv] at he; cases he
  · cases hc

include hT hm in
theorem sim_st {t : Nat} {p x : Opd} {q : Oper} (hc : chkOp c (.st t p x) q.op = true) (he : evOp base ρ s (.st t p x) = some (v, s')) : OpOk c B0 base B s w a q v s' := by
  simp only [chkOp] at hc
  split at hc
  · rename_i ty p' x' hq
    simp only [Bool.and_eq_true, decide_eq_true_eq] at hc
    simp only [evOp] at he
    have hp := opd_sim hc.1.1 hE hG
    have hx := opd_sim hc.1.2 hE hG
    obtain ⟨i, d, hty⟩ := ty_of hT hm hc.2
    cases hv : p.ev ρ with
    | ptr l path t' =>
      rw [hv] at he hp
      simp only at he
      by_cases htt : t' = t ∧ (x.ev ρ).tag = t
      · rw [if_pos htt] at he
        obtain ⟨rfl, hxt⟩ := htt
        cases hwr : s.write base l path (x.ev ρ) with
        | none => rw [hwr] at he; cases he
        | some s1 =>
          rw [hwr] at he
          simp only [Option.some.injEq, Prod.mk.injEq] at he
          obtain ⟨rfl, rfl⟩ := he
          obtain ⟨ad, r, o, h1, h2, h3⟩ := vr_ptr.1 hp
          obtain ⟨u, hr⟩ := wf_of_write hwr
          obtain ⟨g1, g2, cs, g3, g4, _⟩ := read_sim hT hS hr h1 h2
          have hok : (x.ev ρ).ok = true := by
            cases hxv : x.ev ρ with
            | dead =>
              rw [hxv] at hxt
              simp only [V.tag] at hxt
              have := hty.all
              rw [← hxt] at this hty
              unfold tyOk1 at this
              rw [hty.info, hty.under] at this
              simp only [Bool.and_eq_true, decide_eq_true_eq] at this
              have h5 := this.2
              have hi3 : c.T.info 3 = none := info_leaf hT (by decide)
              cases d with
              | int k => simp only [decide_eq_true_eq] at h5; cases k <;> simp [itag] at h5
              | struct fs => simp [hi3] at h5
              | array n e => simp [hi3] at h5
              | _ => simp at h5
            | tup l =>
              rw [hxv] at hxt
              simp only [V.tag] at hxt
              have := hty.all
              rw [← hxt] at this hty
              unfold tyOk1 at this
              rw [hty.info, hty.under] at this
              simp only [Bool.and_eq_true, decide_eq_true_eq] at this
              have h5 := this.2
              have hi3 : c.T.info 5 = none := info_leaf hT (by decide)
              cases d with
              | int k => simp only [decide_eq_true_eq] at h5; cases k <;> simp [itag] at h5
              | struct fs => simp [hi3] at h5
              | array n e => simp [hi3] at h5
              | _ => simp at h5
            | _ => rfl
          obtain ⟨hxw, hxc, hxa⟩ := (VR_ok hok).1 hx
          have hxl : (a.eval x').cells.toList.length = c.T.size t' := by rw [← hxt]; exact CR_len hT hxw hxc (by rw [hxt]; exact hty.nr)
          obtain ⟨k1, k2⟩ := write_sim hT hS hr hwr h1 h2 hxw hxt hxc (fun cu hcu => by
            rw [hxl, ← g2]; exact (CR_len hT g1 hcu (by rw [g2]; exact hty.nr)).symm) (by rw [hxl]; exact hty.pos)
          refine ⟨.skip, _, B, ?_, .inr ⟨rfl, rfl⟩, k2⟩
          simp only [execOp, hq, h3]
          simp [run_store_any hty (CR_one hxc) hxl k1]
      · rw [if_neg htt] at he; cases he
    | _ => rw [hv] at he; cases he
  · cases hc

theorem sim_nilc {x : Opd} {q : Oper} (hc : chkOp c (.nilc x) q.op = true) (he : evOp base ρ s (.nilc x) = some (v, s')) : OpOk c B0 base B s w a q v s' := by
  simp only [chkOp] at hc
  split at hc
  · rename_i y hq
    have hx := opd_sim hc hE hG
    simp only [evOp] at he
    cases hv : x.ev ρ with
    | ptr l p t =>
      rw [hv] at he hx
      simp only [Option.some.injEq, Prod.mk.injEq] at he
      obtain ⟨rfl, rfl⟩ := he
      obtain ⟨ad, r, o, h1, h2, h3⟩ := vr_ptr.1 hx
      exact pureOk hS (by simp [execOp, hq, h3]) (h3 ▸ hx)
    | fn f l =>
      rw [hv] at he hx
      simp only [Option.some.injEq, Prod.mk.injEq] at he
      obtain ⟨rfl, rfl⟩ := he
      obtain ⟨vs, h1, h2, h3, h4⟩ := vr_fn.1 hx
      exact pureOk hS (by simp [execOp, hq, h4]) (h4 ▸ hx)
    | _ => rw [hv] at he; cases he
  · cases hc

theorem sim_un {o : UnOp} {x : Opd} {q : Oper} (hc : chkOp c (.un o x) q.op = true) (he : evOp base ρ s (.un o x) = some (v, s')) : OpOk c B0 base B s w a q v s' := by
  simp only [chkOp] at hc
  split at hc
  · rename_i o' ty y hq
    simp only [Bool.and_eq_true, decide_eq_true_eq] at hc
    obtain ⟨rfl, hc⟩ := hc
    have hx := opd_sim hc hE hG
    simp only [evOp] at he
    cases hv : x.ev ρ with
    | bool b =>
      rw [hv] at he hx
      rw [vr_bool] at hx
      cases o <;> simp [vun] at he
      obtain ⟨rfl, rfl⟩ := he
      exact pureOk hS (by simp [execOp, hq, hx, Op.unary]) (vr_bool.2 rfl)
    | int k n =>
      rw [hv] at he hx
      rw [vr_int] at hx
      cases o <;> simp [vun] at he
      · obtain ⟨rfl, rfl⟩ := he
        exact pureOk hS (x := .int k (k.wrap (0 - n))) (by simp [execOp, hq, hx, Op.unary, Op.intArith]) (vr_int.2 (by simp))
      · obtain ⟨rfl, rfl⟩ := he
        exact pureOk hS (x := .int k (bits k (· ^^^ ·) (if k.signed then -1 else k.max) n)) (by simp [execOp, hq, hx, Op.unary, Op.intBits, bits]) (vr_int.2 rfl)
    | _ => rw [hv] at he; cases o <;> simp [vun] at he
  · cases hc

theorem sim_conv {k : IntKind} {x : Opd} {q : Oper} (hc : chkOp c (.conv k x) q.op = true) (he : evOp base ρ s (.conv k x) = some (v, s')) : OpOk c B0 base B s w a q v s' := by
  simp only [chkOp] at hc
  split at hc
  · rename_i sy dy y hq
    simp only [Bool.and_eq_true] at hc
    obtain ⟨⟨hc, hs⟩, hd⟩ := hc
    have hx := opd_sim hc hE hG
    simp only [evOp] at he
    cases hu : c.P.underlying sy with
    | none => rw [hu] at hs; cases hs
    | some ud =>
      cases hv : x.ev ρ with
      | int k' n =>
        rw [hv] at he hx
        rw [vr_int] at hx
        simp only [Option.some.injEq, Prod.mk.injEq] at he
        obtain ⟨rfl, rfl⟩ := he
        split at hd
        · rename_i k2 hk2
          simp only [decide_eq_true_eq] at hd
          subst hd
          exact pureOk hS (by simp [execOp, hq, hx, convert, run_underlying hu, run_underlying hk2, Conv.intToInt]) (vr_int.2 rfl)
        · cases hd
      | _ => rw [hv] at he; cases he
  · cases hc
end sims
end Go.Ab
