/-
  Ab10: the simulation of arithmetic, addresses, fields, elements.
-/
import Derived.Test.YtpbpgbedkmbfkaaAb9
namespace Go.Ab

theorem offOf_append {T : Tab} : ∀ {p q : List Nat} {r o t o' t' : Nat}, offOf T r p = some (o, t) → offOf T t q = some (o', t') → offOf T r (p ++ q) = some (o + o', t')
  | [], q, r, o, t, o', t', h, h' => by
    simp only [offOf, Option.some.injEq, Prod.mk.injEq] at h
    obtain ⟨rfl, rfl⟩ := h
    simpa using h'
  | i :: p, q, r, o, t, o', t', h, h' => by
    simp only [offOf, List.cons_append] at h ⊢
    cases hi : T.info r with
    | none => rw [hi] at h; cases h
    | some ti =>
      rw [hi] at h
      cases ti with
      | st fs =>
        simp only at h ⊢
        cases hf : fs[i]? with
        | none => rw [hf] at h; cases h
        | some c =>
          rw [hf] at h
          simp only [Option.map_eq_some_iff] at h ⊢
          obtain ⟨⟨o1, t1⟩, hx, hxe⟩ := h
          cases hxe
          exact ⟨_, offOf_append hx h', by simp; omega⟩
      | arr n e =>
        simp only at h ⊢
        by_cases hin : i < n
        · rw [if_pos hin] at h ⊢
          simp only [Option.map_eq_some_iff] at h ⊢
          obtain ⟨⟨o1, t1⟩, hx, hxe⟩ := h
          cases hxe
          exact ⟨_, offOf_append hx h', by simp; omega⟩
        · rw [if_neg hin] at h; cases h
      | row e =>
        simp only [Option.map_eq_some_iff] at h ⊢
        obtain ⟨⟨o1, t1⟩, hx, hxe⟩ := h
        cases hxe
        exact ⟨_, offOf_append hx h', by simp; omega⟩

theorem tyStruct {c : Cfg} {ty t : Nat} {i : TypeInfo} {d : TypeDesc} (hty : Ty c ty t i d) {ts : List Nat} (hi : c.T.info t = some (.st ts)) : ∃ fs, d = .struct fs ∧ ts.length = fs.size ∧ c.P.stoodInHeld ty = false ∧
    ∀ (j : Nat) (f : Field), fs[j]? = some f → ∃ u, ts[j]? = some u ∧ f.offset = c.T.sum (ts.take j) ∧ tg c.tm f.type = some u ∧ (f.name != "_") = true := by
  have h := hty.all
  unfold tyOk1 at h
  rw [hty.info, hty.under] at h
  simp only [Bool.and_eq_true, decide_eq_true_eq] at h
  have h5 := h.2
  cases d with
  | struct fs =>
    rw [hi] at h5
    simp only [Bool.and_eq_true, Bool.not_eq_true', decide_eq_true_eq, List.all_eq_true, List.mem_range] at h5
    refine ⟨fs, rfl, h5.2.1, h5.1, fun j f hf => ?_⟩
    have hj : j < fs.size := (Array.getElem?_eq_some_iff.1 hf).1
    have := h5.2.2 j hj
    rw [hf] at this
    cases hu : ts[j]? with
    | none => rw [hu] at this; cases this
    | some u =>
      rw [hu] at this
      simp only [Bool.and_eq_true, decide_eq_true_eq] at this
      exact ⟨u, rfl, this.1.1, this.1.2, this.2⟩
  | array n e => rw [hi] at h5; simp at h5
  | _ => exfalso; rcases hty.row with ⟨h1, _⟩ | ⟨_, h1⟩ <;> first | (simp [TypeDesc.isRow] at h1; done) | (rw [hi] at h1; cases h1)
theorem tyArray {c : Cfg} {ty t : Nat} {i : TypeInfo} {d : TypeDesc} (hty : Ty c ty t i d) {n e : Nat} (hi : c.T.info t = some (.arr n e)) : ∃ ety, d = .array n ety ∧ tg c.tm ety = some e := by
  have h := hty.all
  unfold tyOk1 at h
  rw [hty.info, hty.under] at h
  simp only [Bool.and_eq_true, decide_eq_true_eq] at h
  have h5 := h.2
  cases d with
  | array m ety =>
    rw [hi] at h5
    simp only [Bool.and_eq_true, decide_eq_true_eq] at h5
    exact ⟨ety, by rw [h5.1], h5.2⟩
  | struct fs => rw [hi] at h5; simp at h5
  | _ => exfalso; rcases hty.row with ⟨h1, _⟩ | ⟨_, h1⟩ <;> first | (simp [TypeDesc.isRow] at h1; done) | (rw [hi] at h1; cases h1)
theorem tyNoRow {c : Cfg} {ty t : Nat} {i : TypeInfo} {d : TypeDesc} (hty : Ty c ty t i d) {e : Nat} (hi : c.T.info t = some (.row e)) : False := noRow_iff hty.nr e hi

theorem isAgg_of {c : Cfg} {ty t : Nat} {i : TypeInfo} {d : TypeDesc} (hty : Ty c ty t i d) (w : World) : (isAgg ty).run c.P w = .ok d.isRow w := by
  unfold isAgg
  rw [Sem.run_bind, run_underlying hty.under w]
  cases d <;> rfl
/-- A part of a struct or an array. -/
theorem run_part_any {c : Cfg} (hT : tabOk c.T = true) {ty t : Nat} {i : TypeInfo} {d : TypeDesc} (hty : Ty c ty t i d) {B : BM} {y : V} (hw : y.wf c.T) (ht : y.tag = t) {xs : Array Value} {a b z : List Value} (hxs : xs.toList = a ++ b ++ z) (hc : CR c.T B y b) {off : Nat} (ho : a.length = off) (w : World) :
    ∃ x, (part ty xs off).run c.P w = .ok x w ∧ VR1 c.T B y x := by
  have hl : b.length = c.T.size t := by rw [← ht]; exact CR_len hT hw hc (by rw [ht]; exact hty.nr)
  have hbs : (xs.extract off (off + i.size)).toList = b := by
    rw [Array.toList_extract, hxs, hty.size, ← ho, ← hl, List.append_assoc]
    simp [List.extract]
  rcases hty.row with ⟨hrow, ti, hti⟩ | ⟨hrow, hti⟩
  · obtain ⟨l, hv⟩ := agg_of_info hT hw (by rw [ht]; exact hti)
    have hagg : (isAgg ty).run c.P w = .ok true w := by rw [isAgg_of hty w, hrow]
    refine ⟨.agg (xs.extract off (off + i.size)), by simp [part, hagg, sizeOf, typeInfo, hty.info], hw, by simp only [Value.cells]; rw [hbs]; exact hc, ?_⟩
    rw [hv]; rfl
  · have hone : c.T.size t = 1 := by
      cases hf : c.T.find t with
      | none => unfold Tab.size; rw [hf]
      | some x => unfold Tab.info at hti; rw [hf] at hti; cases hti
    rw [hone] at hl
    obtain ⟨x, rfl⟩ := List.length_eq_one_iff.1 hl
    have hx1 : x.oneCell' = true := CR_one hc x (by simp)
    have hagg : (isAgg ty).run c.P w = .ok false w := by rw [isAgg_of hty w, hrow]
    have hget : xs[off]? = some x := by
      rw [← Array.getElem?_toList, hxs, List.append_assoc, List.getElem?_append_right (by omega), ho, Nat.sub_self]; rfl
    have hxc : x.cells.toList = [x] := by cases x <;> simp [Value.oneCell'] at hx1 <;> rfl
    refine ⟨x, by simp [part, hagg, hget], hw, by rw [hxc]; exact hc, ?_⟩
    rw [leaf_of_info hw (by rw [ht]; exact hti)]
    cases x <;> simp [Value.oneCell'] at hx1 <;> rfl

theorem sizeOf_run {c : Cfg} {ty t : Nat} {i : TypeInfo} {d : TypeDesc} (hty : Ty c ty t i d) (w : World) : (sizeOf ty).run c.P w = .ok (c.T.size t) w := by
  simp [sizeOf, typeInfo, hty.info, hty.size]

section sims
variable {c : Cfg} (hT : tabOk c.T = true) (hm : tmOk c = true) {B0 base : Nat} {B : BM} {s s' : St} {w : World} {a : Act} {ρ : Env} {v : V}
  (hE : ER c.T B ρ a.tmps) (hG : GlobR c.gl B) (hS : SR c.T B0 B s w)
include hE hG hS

theorem sim_bin {o : BinOp} {x y : Opd} {q : Oper} (hc : chkOp c (.bin o x y) q.op = true) (he : evOp base ρ s (.bin o x y) = some (v, s')) : OpOk c B0 base B s w a q v s' := by
  simp only [chkOp] at hc
  split at hc
  · rename_i o' ty x' y' ty' hq
    simp only [Bool.and_eq_true, decide_eq_true_eq] at hc
    obtain ⟨⟨rfl, hcx⟩, hcy⟩ := hc
    have hx := opd_sim hcx hE hG
    have hy := opd_sim hcy hE hG
    simp only [evOp] at he
    cases hb : vbin o (x.ev ρ) (y.ev ρ) with
    | none => rw [hb] at he; cases he
    | some r =>
      rw [hb] at he
      simp only [Option.some.injEq, Prod.mk.injEq] at he
      obtain ⟨rfl, rfl⟩ := he
      unfold vbin at hb
      split at hb
      · rename_i k n k' m hxv hyv
        rw [hxv, vr_int] at hx
        rw [hyv, vr_int] at hy
        by_cases hsh : BinOp.isShift o = true
        · rw [if_pos hsh] at hb
          unfold shf at hb
          by_cases hm0 : m < 0
          · rw [if_pos hm0] at hb; cases hb
          · rw [if_neg hm0] at hb
            cases o <;> simp [BinOp.isShift] at hsh <;> simp only [Option.some.injEq] at hb <;> subst hb
            · exact pureOk hS (x := .int k (k.wrap (n * 2 ^ (min m.toNat k.bits)))) (by simp [execOp, hq, hx, hy, eqGuard, Go.binOp, Op.shift, hm0]) (vr_int.2 rfl)
            · exact pureOk hS (x := .int k (n.fdiv (2 ^ (min m.toNat k.bits)))) (by simp [execOp, hq, hx, hy, eqGuard, Go.binOp, Op.shift, hm0]) (vr_int.2 rfl)
        · rw [if_neg hsh] at hb
          by_cases hk : k = k'
          · subst hk
            rw [if_pos rfl] at hb
            cases o <;> simp [BinOp.isShift] at hsh <;> simp only [ibin, Option.some.injEq] at hb
            case add => subst hb; exact pureOk hS (x := .int k (k.wrap (n + m))) (by simp [execOp, hq, hx, hy, eqGuard, Go.binOp, Op.intArith]) (vr_int.2 rfl)
            case sub => subst hb; exact pureOk hS (x := .int k (k.wrap (n - m))) (by simp [execOp, hq, hx, hy, eqGuard, Go.binOp, Op.intArith]) (vr_int.2 rfl)
            case mul => subst hb; exact pureOk hS (x := .int k (k.wrap (n * m))) (by simp [execOp, hq, hx, hy, eqGuard, Go.binOp, Op.intArith]) (vr_int.2 rfl)
            case quo =>
              by_cases h0 : m = 0
              · rw [if_pos h0] at hb; cases hb
              · rw [if_neg h0] at hb; cases hb
                exact pureOk hS (x := .int k (k.wrap (n.tdiv m))) (by simp [execOp, hq, hx, hy, eqGuard, Go.binOp, Op.intDiv, h0]) (vr_int.2 rfl)
            case rem =>
              by_cases h0 : m = 0
              · rw [if_pos h0] at hb; cases hb
              · rw [if_neg h0] at hb; cases hb
                exact pureOk hS (x := .int k (n.tmod m)) (by simp [execOp, hq, hx, hy, eqGuard, Go.binOp, Op.intDiv, h0]) (vr_int.2 rfl)
            case and => subst hb; exact pureOk hS (x := .int k (bits k (· &&& ·) n m)) (by simp [execOp, hq, hx, hy, eqGuard, Go.binOp, Op.intBits, bits]) (vr_int.2 rfl)
            case or => subst hb; exact pureOk hS (x := .int k (bits k (· ||| ·) n m)) (by simp [execOp, hq, hx, hy, eqGuard, Go.binOp, Op.intBits, bits]) (vr_int.2 rfl)
            case xor => subst hb; exact pureOk hS (x := .int k (bits k (· ^^^ ·) n m)) (by simp [execOp, hq, hx, hy, eqGuard, Go.binOp, Op.intBits, bits]) (vr_int.2 rfl)
            case andNot => subst hb; exact pureOk hS (x := .int k (bits k (fun x y => x &&& ~~~y) n m)) (by simp [execOp, hq, hx, hy, eqGuard, Go.binOp, Op.intBits, bits]) (vr_int.2 rfl)
            case eql => subst hb; exact pureOk hS (x := .bool (n == m)) (by simp [execOp, hq, hx, hy, eqGuard, Go.binOp, Op.intCmp]) (vr_bool.2 (by congr 1))
            case neq => subst hb; exact pureOk hS (x := .bool (n != m)) (by simp [execOp, hq, hx, hy, eqGuard, Go.binOp, Op.intCmp]) (vr_bool.2 (by congr 1))
            case lss => subst hb; exact pureOk hS (x := .bool (decide (n < m))) (by simp [execOp, hq, hx, hy, eqGuard, Go.binOp, Op.intCmp]) (vr_bool.2 rfl)
            case leq => subst hb; exact pureOk hS (x := .bool (decide (n ≤ m))) (by simp [execOp, hq, hx, hy, eqGuard, Go.binOp, Op.intCmp]) (vr_bool.2 rfl)
            case gtr => subst hb; exact pureOk hS (x := .bool (decide (n > m))) (by simp [execOp, hq, hx, hy, eqGuard, Go.binOp, Op.intCmp]) (vr_bool.2 rfl)
            case geq => subst hb; exact pureOk hS (x := .bool (decide (n ≥ m))) (by simp [execOp, hq, hx, hy, eqGuard, Go.binOp, Op.intCmp]) (vr_bool.2 rfl)
          · rw [if_neg hk] at hb; cases hb
      · rename_i n m hxv hyv
        rw [hxv, vr_str] at hx
        rw [hyv, vr_str] at hy
        cases o <;> simp only [sbin, Option.some.injEq, reduceCtorEq] at hb
        case add =>
          by_cases h0 : n.size + m.size ≤ 4611686018427387904
          · rw [if_pos h0] at hb; cases hb
            have h1 : ¬ (((n.size + m.size : Nat) : Int) > IntKind.i64.max) := by simp [IntKind.max, IntKind.signed, IntKind.bits]; omega
            exact pureOk hS (x := .string (n ++ m)) (by
              simp only [execOp, hq, hx, hy, eqGuard, Go.binOp, Op.stringOp, if_neg h1]; simp) (vr_str.2 rfl)
          · rw [if_neg h0] at hb; cases hb
        case eql => subst hb; exact pureOk hS (x := .bool (n.toList == m.toList)) (by simp [execOp, hq, hx, hy, eqGuard, Go.binOp, Op.stringOp]) (vr_bool.2 rfl)
        case neq => subst hb; exact pureOk hS (x := .bool (!(n.toList == m.toList))) (by simp [execOp, hq, hx, hy, eqGuard, Go.binOp, Op.stringOp]) (vr_bool.2 rfl)
        case lss => subst hb; exact pureOk hS (x := .bool (Op.bytesLess n.toList m.toList)) (by simp [execOp, hq, hx, hy, eqGuard, Go.binOp, Op.stringOp]) (vr_bool.2 rfl)
        case leq => subst hb; exact pureOk hS (x := .bool (Op.bytesLess n.toList m.toList || n.toList == m.toList)) (by simp [execOp, hq, hx, hy, eqGuard, Go.binOp, Op.stringOp]) (vr_bool.2 rfl)
        case gtr => subst hb; exact pureOk hS (x := .bool (!(Op.bytesLess n.toList m.toList || n.toList == m.toList))) (by simp [execOp, hq, hx, hy, eqGuard, Go.binOp, Op.stringOp]) (vr_bool.2 rfl)
        case geq => subst hb; exact pureOk hS (x := .bool (!Op.bytesLess n.toList m.toList)) (by simp [execOp, hq, hx, hy, eqGuard, Go.binOp, Op.stringOp]) (vr_bool.2 rfl)
      · cases hb
  · cases hc

include hT hm in
theorem sim_fad {t f u : Nat} {x : Opd} {q : Oper} (hc : chkOp c (.fad t f u x) q.op = true) (he : evOp base ρ s (.fad t f u x) = some (v, s')) : OpOk c B0 base B s w a q v s' := by
  simp only [chkOp] at hc
  split at hc
  · rename_i ty y f' hq
    simp only [Bool.and_eq_true, decide_eq_true_eq] at hc
    obtain ⟨⟨⟨hty, rfl⟩, hcx⟩, hts⟩ := hc
    have hx := opd_sim hcx hE hG
    obtain ⟨i, d, hty⟩ := ty_of hT hm hty
    simp only [evOp] at he
    cases hti : c.T.info t with
    | none => rw [hti] at hts; cases hts
    | some ti =>
      rw [hti] at hts
      cases ti with
      | st ts =>
        simp only [decide_eq_true_eq] at hts
        obtain ⟨fs, hd, hlen, _, hfs⟩ := tyStruct hty hti
        have hf : f < fs.size := by rw [← hlen]; exact (List.getElem?_eq_some_iff.1 hts).1
        obtain ⟨u', hu1, hu2, hu3, _⟩ := hfs f fs[f] (Array.getElem?_eq_getElem hf)
        have huu : u' = u := by rw [hts] at hu1; exact (Option.some.inj hu1).symm
        subst huu
        obtain ⟨i', d', hty'⟩ := ty_of hT hm hu3
        cases hv : x.ev ρ with
        | ptr l path t' =>
          rw [hv] at he hx
          simp only at he
          by_cases htt : t' = t
          · rw [if_pos htt] at he
            subst htt
            simp only [Option.some.injEq, Prod.mk.injEq] at he
            obtain ⟨rfl, rfl⟩ := he
            obtain ⟨ad, r, o, h1, h2, h3⟩ := vr_ptr.1 hx
            have hne : ¬ (c.T.size u' = 0) := by have := hty'.pos; omega
            refine pureOk hS (x := .pointer (some ⟨ad.block, ad.off + o + fs[f].offset, none⟩)) ?_ (vr_ptr.2 ⟨ad, r, o + fs[f].offset, h1, ?_, by rw [Nat.add_assoc]⟩)
            · simp [execOp, hq, h3, Instr.fieldAt, run_underlying (hd ▸ hty.under), Array.getElem?_eq_getElem hf, Instr.sureAddr, fieldPlace, sizeOf_run hty', hne, Addr.add_mid]
            · refine offOf_append h2 ?_
              simp only [offOf, hti, hts, hu2, Option.map_some, Nat.add_zero]
          · rw [if_neg htt] at he; cases he
        | _ => rw [hv] at he; cases he
      | _ => cases hts
  · cases hc

include hT hm in
theorem sim_iad {t n e : Nat} {x y : Opd} {q : Oper} (hc : chkOp c (.iad t n e x y) q.op = true) (he : evOp base ρ s (.iad t n e x y) = some (v, s')) : OpOk c B0 base B s w a q v s' := by
  simp only [chkOp] at hc
  split at hc
  · rename_i ty x' y' hq
    simp only [Bool.and_eq_true, decide_eq_true_eq] at hc
    obtain ⟨⟨⟨hty, hcx⟩, hcy⟩, hti⟩ := hc
    have hx := opd_sim hcx hE hG
    have hy := opd_sim hcy hE hG
    obtain ⟨i, d, hty⟩ := ty_of hT hm hty
    obtain ⟨ety, hd, hety⟩ := tyArray hty hti
    obtain ⟨i', d', hty'⟩ := ty_of hT hm hety
    simp only [evOp] at he
    split at he
    · rename_i l path t' k j hxv hyv
      rw [hxv] at hx
      rw [hyv, vr_int] at hy
      by_cases htt : t' = t ∧ 0 ≤ j ∧ j < n
      · rw [if_pos htt] at he
        obtain ⟨rfl, hj0, hjn⟩ := htt
        simp only [Option.some.injEq, Prod.mk.injEq] at he
        obtain ⟨rfl, rfl⟩ := he
        obtain ⟨ad, r, o, h1, h2, h3⟩ := vr_ptr.1 hx
        refine pureOk hS (x := .pointer (some ⟨ad.block, ad.off + o + j.toNat * c.T.size e, none⟩)) ?_ (vr_ptr.2 ⟨ad, r, o + j.toNat * c.T.size e, h1, ?_, by rw [Nat.add_assoc]⟩)
        · simp [execOp, hq, h3, hy, Instr.indexAt, asIntOf, run_underlying (hd ▸ hty.under), Instr.sureAddr, hj0, hjn, sizeOf_run hty', Addr.add_mid]
        · refine offOf_append h2 ?_
          simp only [offOf, hti, if_pos (show j.toNat < n by omega), Option.map_some, Nat.add_zero]
      · rw [if_neg htt] at he; cases he
    · cases he
  · cases hc

include hT hm in
theorem sim_sad {e : Nat} {x y : Opd} {q : Oper} (hc : chkOp c (.sad e x y) q.op = true) (he : evOp base ρ s (.sad e x y) = some (v, s')) : OpOk c B0 base B s w a q v s' := by
  simp only [chkOp] at hc
  split at hc
  · rename_i ty x' y' hq
    simp only [Bool.and_eq_true] at hc
    obtain ⟨⟨hel, hcx⟩, hcy⟩ := hc
    have hx := opd_sim hcx hE hG
    have hy := opd_sim hcy hE hG
    unfold elOk at hel
    split at hel
    · rename_i ety hu
      simp only [decide_eq_true_eq] at hel
      obtain ⟨i', d', hty'⟩ := ty_of hT hm hel
      simp only [evOp] at he
      split at he
      · rename_i l path off len cap e' k j hxv hyv
        rw [hxv] at hx
        rw [hyv, vr_int] at hy
        by_cases htt : e' = e ∧ 0 ≤ j ∧ j < len
        · rw [if_pos htt] at he
          obtain ⟨rfl, hj0, hjn⟩ := htt
          simp only [Option.some.injEq, Prod.mk.injEq] at he
          obtain ⟨rfl, rfl⟩ := he
          obtain ⟨ad, r, o, u, c', ad', h1, h2, h3, h4, h5, h6, h7, h10, h8⟩ := vr_sl.1 hx
          have had : ad' = ⟨ad.block, ad.off + (o + off * c.T.size e'), none⟩ := by
            rcases h7 with h7 | h7
            · omega
            · exact h7
          refine pureOk hS (x := .pointer (some ⟨ad.block, ad.off + (o + off * c.T.size e') + j.toNat * c.T.size e', none⟩)) ?_ (vr_ptr.2 ⟨ad, r, o + (off + j.toNat) * c.T.size e', h1, ?_, ?_⟩)
          · simp [execOp, hq, h8, hy, had, Instr.indexAt, asIntOf, run_underlying hu, hj0, hjn, sizeOf_run hty', Addr.add_mid]
          · refine offOf_append h2 ?_
            unfold Tab.elem at h3
            cases hti : c.T.info u with
            | none => rw [hti] at h3; cases h3
            | some ti =>
              rw [hti] at h3
              cases ti with
              | st _ => cases h3
              | arr n e2 =>
                simp only [Option.some.injEq] at h3
                subst h3
                have := h4 n e2 hti
                simp only [offOf, hti, if_pos (show off + j.toNat < n by omega), Option.map_some, Nat.add_zero]
              | row e2 =>
                simp only [Option.some.injEq] at h3
                subst h3
                simp only [offOf, hti, Option.map_some, Nat.add_zero]
          · rw [Nat.add_mul]; congr 2; simp only [Addr.mk.injEq, and_true, true_and]; omega
        · rw [if_neg htt] at he; cases he
      · cases he
    · cases hel
  · cases hc

include hT hm in
theorem sim_fld {t f : Nat} {x : Opd} {q : Oper} (hc : chkOp c (.fld t f x) q.op = true) (he : evOp base ρ s (.fld t f x) = some (v, s')) : OpOk c B0 base B s w a q v s' := by
  simp only [chkOp] at hc
  split at hc
  · rename_i ty y f' hq
    simp only [Bool.and_eq_true, decide_eq_true_eq] at hc
    obtain ⟨⟨⟨hty, rfl⟩, hcx⟩, hts⟩ := hc
    have hx := opd_sim hcx hE hG
    obtain ⟨i, d, hty⟩ := ty_of hT hm hty
    simp only [evOp] at he
    cases hti : c.T.info t with
    | none => rw [hti] at hts; cases hts
    | some ti =>
      rw [hti] at hts
      cases ti with
      | st ts =>
        obtain ⟨fs, hd, hlen, _, hfs⟩ := tyStruct hty hti
        cases hv : x.ev ρ with
        | agg t' l =>
          rw [hv] at he hx
          simp only at he
          by_cases htt : t' = t
          · rw [if_pos htt] at he
            subst htt
            cases hy : l[f]? with
            | none => rw [hy] at he; cases he
            | some u =>
              rw [hy] at he
              simp only [Option.some.injEq, Prod.mk.injEq] at he
              obtain ⟨rfl, rfl⟩ := he
              obtain ⟨cs, hx1, hx2, hx3, hx4⟩ := vr_agg.1 hx
              unfold aggOk at hx2
              rw [hti] at hx2
              simp only at hx2
              have hok := stOk hT hti
              have hfl : f < fs.size := by
                have := (List.getElem?_eq_some_iff.1 hy).1
                rw [← hlen, ← hx2, List.length_map]; exact this
              obtain ⟨u', hu1, hu2, hu3, _⟩ := hfs f fs[f] (Array.getElem?_eq_getElem hfl)
              have hut : u.tag = u' := by
                have : ts[f]? = some u.tag := by rw [← hx2, List.getElem?_map, hy]; rfl
                rw [hu1] at this
                exact (Option.some.inj this).symm
              obtain ⟨i', d', hty'⟩ := ty_of hT hm hu3
              obtain ⟨p1, p2, p3, hp1, hp2, hp3, hp4, _⟩ := CRs_split hT hx3 hx4 (fun z hz => hok.nr _ (by rw [← hx2]; exact List.mem_map_of_mem hz)) hy
              obtain ⟨z, hz1, hz2⟩ := run_part_any hT hty' hp3 hut hp1 hp4 (off := fs[f].offset) (by rw [hp2, hu2, ← hx2, List.map_take]) w
              exact pureOk hS (by simp [execOp, hq, hx1, Instr.field, run_underlying (hd ▸ hty.under), Array.getElem?_eq_getElem hfl, asAgg, hz1]) (VR_of1 hz2)
          · rw [if_neg htt] at he; cases he
        | _ => rw [hv] at he; cases he
      | _ => cases hts
  · cases hc

include hT hm in
theorem sim_idx {t n : Nat} {x y : Opd} {q : Oper} (hc : chkOp c (.idx t n x y) q.op = true) (he : evOp base ρ s (.idx t n x y) = some (v, s')) : OpOk c B0 base B s w a q v s' := by
  simp only [chkOp] at hc
  split at hc
  · rename_i ty x' y' hq
    simp only [Bool.and_eq_true, decide_eq_true_eq] at hc
    obtain ⟨⟨⟨hty, hcx⟩, hcy⟩, hts⟩ := hc
    have hx := opd_sim hcx hE hG
    have hy := opd_sim hcy hE hG
    obtain ⟨i, d, hty⟩ := ty_of hT hm hty
    simp only [evOp] at he
    cases hti : c.T.info t with
    | none => rw [hti] at hts; cases hts
    | some ti =>
      rw [hti] at hts
      cases ti with
      | arr m e =>
        simp only [decide_eq_true_eq] at hts
        subst hts
        obtain ⟨ety, hd, hety⟩ := tyArray hty hti
        obtain ⟨i', d', hty'⟩ := ty_of hT hm hety
        split at he
        · rename_i t' l k j hxv hyv
          rw [hxv] at hx
          rw [hyv, vr_int] at hy
          by_cases htt : t' = t ∧ 0 ≤ j ∧ j < n
          · rw [if_pos htt] at he
            obtain ⟨rfl, hj0, hjn⟩ := htt
            cases hyy : l[j.toNat]? with
            | none => rw [hyy] at he; cases he
            | some u =>
              rw [hyy] at he
              simp only [Option.some.injEq, Prod.mk.injEq] at he
              obtain ⟨rfl, rfl⟩ := he
              obtain ⟨cs, hx1, hx2, hx3, hx4⟩ := vr_agg.1 hx
              unfold aggOk at hx2
              rw [hti] at hx2
              simp only at hx2
              have hok := arrOk hT hti
              have hut : u.tag = e := hx2.2 u (List.mem_of_getElem? hyy)
              obtain ⟨p1, p2, p3, hp1, hp2, hp3, hp4, _⟩ := CRs_split hT hx3 hx4 (fun z hz => by rw [hx2.2 z hz]; exact hok.nr) hyy
              have hjl : j.toNat < l.length := (List.getElem?_eq_some_iff.1 hyy).1
              obtain ⟨z, hz1, hz2⟩ := run_part_any hT hty' hp3 hut hp1 hp4 (off := j.toNat * c.T.size e) (by
                rw [hp2, sum_const (fun z hz => hx2.2 z (List.mem_of_mem_take hz)), List.length_take, Nat.min_eq_left (by omega)]) w
              exact pureOk hS (by simp [execOp, hq, hx1, hy, Instr.index, asIntOf, run_underlying (hd ▸ hty.under), hj0, hjn, sizeOf_run hty', hz1]) (VR_of1 hz2)
          · rw [if_neg htt] at he; cases he
        · cases he
      | _ => cases hts
  · cases hc

theorem sim_sidx {x y : Opd} {q : Oper} (hc : chkOp c (.sidx x y) q.op = true) (he : evOp base ρ s (.sidx x y) = some (v, s')) : OpOk c B0 base B s w a q v s' := by
  simp only [chkOp] at hc
  split at hc
  · rename_i ty x' y' hq
    simp only [Bool.and_eq_true] at hc
    obtain ⟨⟨hu, hcx⟩, hcy⟩ := hc
    have hx := opd_sim hcx hE hG
    have hy := opd_sim hcy hE hG
    split at hu
    · rename_i hu'
      simp only [evOp] at he
      split at he
      · rename_i b k j hxv hyv
        rw [hxv, vr_str] at hx
        rw [hyv, vr_int] at hy
        by_cases hj : 0 ≤ j
        · rw [if_pos hj] at he
          cases hb : b[j.toNat]? with
          | none => rw [hb] at he; cases he
          | some z =>
            rw [hb] at he
            simp only [Option.some.injEq, Prod.mk.injEq] at he
            obtain ⟨rfl, rfl⟩ := he
            exact pureOk hS (x := .int .u8 z.toNat) (by simp [execOp, hq, hx, hy, Instr.index, asIntOf, run_underlying hu', hj, hb]) (vr_int.2 rfl)
        · rw [if_neg hj] at he; cases he
      · cases he
    · cases hu
  · cases hc

theorem sim_ext {x : Opd} {i : Nat} {q : Oper} (hc : chkOp c (.ext x i) q.op = true) (he : evOp base ρ s (.ext x i) = some (v, s')) : OpOk c B0 base B s w a q v s' := by
  simp only [chkOp] at hc
  split at hc
  · rename_i y j hq
    simp only [Bool.and_eq_true, decide_eq_true_eq] at hc
    obtain ⟨rfl, hcx⟩ := hc
    have hx := opd_sim hcx hE hG
    simp only [evOp] at he
    cases hv : x.ev ρ with
    | tup l =>
      rw [hv] at he hx
      simp only at he
      cases hy : l[i]? with
      | none => rw [hy] at he; cases he
      | some u =>
        rw [hy] at he
        simp only [Option.some.injEq, Prod.mk.injEq] at he
        obtain ⟨rfl, rfl⟩ := he
        obtain ⟨xs, hx1, hx2⟩ := hx
        have key : ∀ (l : List V) (m : List Value) (i : Nat) (u : V), All2 (VR1 c.T B) l m → l[i]? = some u → ∃ z, m[i]? = some z ∧ VR1 c.T B u z := by
          intro l
          induction l with
          | nil => intro m i u _ h; simp at h
          | cons p l ih =>
            intro m i u h hi
            cases m with
            | nil => exact h.elim
            | cons z m =>
              cases i with
              | zero => simp at hi; subst hi; exact ⟨z, rfl, h.1⟩
              | succ i => exact ih m i u h.2 (by simpa using hi)
        obtain ⟨z, hz1, hz2⟩ := key l _ i u hx2 hy
        exact pureOk hS (by simp [execOp, hq, hx1, Instr.extract]; rw [Array.getElem?_toList] at hz1; simp [hz1]) (VR_of1 hz2)
    | _ => rw [hv] at he; cases he
  · cases hc
end sims
end Go.Ab
