/-
  Ab11: the simulation of what makes values and blocks.
-/
import Derived.Test.YtpbpgbedkmbfkaaAb10
import Derived.Laws.StructEq
namespace Go.Ab

theorem All2_len {α β : Type} {R : α → β → Prop} : ∀ {l : List α} {m : List β}, All2 R l m → l.length = m.length
  | [], [], _ => rfl
  | _ :: _, _ :: _, h => by simp [All2_len h.2]
  | [], _ :: _, h => h.elim
  | _ :: _, [], h => h.elim

theorem opds_sim {T : Tab} {gl : GL} {B : BM} {ρ : Env} {a : Act} : ∀ {xs : List Opd} {ys : List Operand}, opdsOk gl xs ys = true → ER T B ρ a.tmps → GlobR gl B → All2 (VR T B) (xs.map (Opd.ev ρ)) (ys.map a.eval)
  | [], [], _, _, _ => trivial
  | x :: xs, y :: ys, h, hE, hG => by
    simp only [opdsOk, Bool.and_eq_true] at h
    exact ⟨opd_sim h.1 hE hG, opds_sim h.2 hE hG⟩
  | [], _ :: _, h, _, _ => by simp [opdsOk] at h
  | _ :: _, [], h, _, _ => by simp [opdsOk] at h

theorem ref_cells {T : Tab} {B : BM} {v : V} {x : Value} (ht : v.tag = 1) (hT : tabOk T = true) (h : VR T B v x) : v.wf T ∧ CR T B v [x] := by
  have hok : v.ok = true := by cases v <;> simp [V.tag] at ht <;> rfl
  obtain ⟨h1, h2, h3⟩ := (VR_ok hok).1 h
  have h4 : isAggX x = false := by rw [← h3]; exact leaf_of_info h1 (by rw [ht]; exact info_leaf hT (by decide))
  refine ⟨h1, ?_⟩
  have : x.cells.toList = [x] := by cases x <;> simp [isAggX] at h4 <;> rfl
  rw [← this]; exact h2

theorem refs_cells {T : Tab} (hT : tabOk T = true) {B : BM} : ∀ {l : List V} {m : List Value}, (∀ v ∈ l, v.tag = 1) → All2 (VR T B) l m → V.wfs T l ∧ CRs T B l m
  | [], [], _, _ => by simp [V.wfs, CRs]
  | v :: l, x :: m, ht, h => by
    obtain ⟨h1, h2⟩ := ref_cells (ht v List.mem_cons_self) hT h.1
    obtain ⟨h3, h4⟩ := refs_cells hT (fun u hu => ht u (List.mem_cons_of_mem _ hu)) h.2
    simp only [V.wfs, CRs]
    exact ⟨⟨h1, h3⟩, [x], m, rfl, h2, h4⟩
  | [], _ :: _, _, h => h.elim
  | _ :: _, [], _, h => h.elim

section sims
variable {c : Cfg} (hT : tabOk c.T = true) (hm : tmOk c = true) {B0 base : Nat} {B : BM} {s s' : St} {w : World} {a : Act} {ρ : Env} {v : V}
  (hE : ER c.T B ρ a.tmps) (hG : GlobR c.gl B) (hS : SR c.T B0 B s w) (hb : base ≤ s.loc.length) (hB0 : B0 ≤ w.heap.size)
include hE hG hS

omit hE hG in
include hb hB0 in
theorem sim_alloc {h : Bool} {z : V} {q : Oper} (hc : chkOp c (.alloc h z) q.op = true) (he : evOp base ρ s (.alloc h z) = some (v, s')) : OpOk c B0 base B s w a q v s' := by
  simp only [chkOp] at hc
  split at hc
  · rename_i ty hq
    obtain ⟨i, x, hz⟩ := zOk_of hc
    simp only [evOp, Option.some.injEq, Prod.mk.injEq] at he
    obtain ⟨rfl, rfl⟩ := he
    have hmay : mayNew h z = true := by cases h <;> simp [mayNew, hz.lt]
    refine ⟨_, _, _, ?_, .inl ⟨.pointer (some ⟨w.heap.size, 0, none⟩), rfl, ?_⟩, new_sim hS hb hB0 hz.wf hmay (hz.cr B) (c := x.cells) (fun i u hu => by rw [Nat.zero_add]; simpa using hu) ty⟩
    · simp [execOp, hq, Instr.alloc, zeroValue, typeInfo, hz.info, hz.zero, newVar, newRow]
    · exact vr_ptr.2 ⟨_, _, 0, push_fresh hS.lenL hS.lenH, rfl, rfl⟩
  · cases hc

include hb hB0 in
theorem sim_box {h : Bool} {x : Opd} {q : Oper} (hc : chkOp c (.box h x) q.op = true) (he : evOp base ρ s (.box h x) = some (v, s')) : OpOk c B0 base B s w a q v s' := by
  simp only [chkOp] at hc
  split at hc
  · rename_i ty y hq
    have hx := opd_sim hc hE hG
    simp only [evOp] at he
    by_cases hok : ((x.ev ρ).ok && mayNew h (x.ev ρ)) = true
    · rw [if_pos hok] at he
      simp only [Option.some.injEq, Prod.mk.injEq] at he
      obtain ⟨rfl, rfl⟩ := he
      simp only [Bool.and_eq_true] at hok
      obtain ⟨h1, h2, _⟩ := (VR_ok hok.1).1 hx
      refine ⟨_, _, _, ?_, .inl ⟨.pointer (some ⟨w.heap.size, 0, none⟩), rfl, ?_⟩, new_sim hS hb hB0 h1 hok.2 h2 (c := (a.eval y).cells) (fun i u hu => by rw [Nat.zero_add]; simpa using hu) ty⟩
      · simp [execOp, hq, Instr.box, newVar, newRow]
      · exact vr_ptr.2 ⟨_, _, 0, push_fresh hS.lenL hS.lenH, rfl, rfl⟩
    · rw [if_neg hok] at he; cases he
  · cases hc

include hT in
theorem sim_mkfn {f : Nat} {caps : List Opd} {q : Oper} (hc : chkOp c (.mkfn f caps) q.op = true) (he : evOp base ρ s (.mkfn f caps) = some (v, s')) : OpOk c B0 base B s w a q v s' := by
  simp only [chkOp] at hc
  split at hc
  · rename_i g first caps' hq
    simp only [Bool.and_eq_true, decide_eq_true_eq] at hc
    obtain ⟨⟨rfl, hf⟩, hcs⟩ := hc
    have hx := opds_sim hcs hE hG
    simp only [evOp] at he
    by_cases ht : ((caps.map (Opd.ev ρ)).all fun v => v.tag == 1) = true
    · rw [if_pos ht] at he
      simp only [Option.some.injEq, Prod.mk.injEq] at he
      obtain ⟨rfl, rfl⟩ := he
      simp only [List.all_eq_true, beq_iff_eq] at ht
      obtain ⟨h1, h2⟩ := refs_cells hT ht hx
      have hf0 : first = #[] := by simpa using hf
      exact pureOk hS (x := .func (.func f) #[] (caps'.map a.eval)) (by simp [execOp, hq, Instr.makeFunc, hf0]) (vr_fn.2 ⟨caps'.map a.eval, by simpa using h2, h1, ht, rfl⟩)
    · rw [if_neg ht] at he; cases he
  · cases hc

omit hE hG in
theorem sim_lenk {n : Nat} {q : Oper} (hc : chkOp c (.lenk n) q.op = true) (he : evOp base ρ s (.lenk n) = some (v, s')) : OpOk c B0 base B s w a q v s' := by
  simp only [evOp, Option.some.injEq, Prod.mk.injEq] at he
  obtain ⟨rfl, rfl⟩ := he
  simp only [chkOp] at hc
  split at hc
  · rename_i args argTypes hq
    simp only [Bool.and_eq_true, beq_iff_eq] at hc
    obtain ⟨ha, hc⟩ := hc
    obtain ⟨y, rfl⟩ : ∃ y, args = #[y] := by
      obtain ⟨l⟩ := args
      cases l with
      | nil => simp at ha
      | cons y l => cases l with
        | nil => exact ⟨y, rfl⟩
        | cons _ _ => simp at ha
    cases ht : argTypes[0]? with
    | none => rw [ht] at hc; simp at hc
    | some ty =>
      rw [ht] at hc
      simp only [Option.bind_some] at hc
      split at hc
      · rename_i m _ hu
        simp only [decide_eq_true_eq] at hc
        subst hc
        exact pureOk hS (x := goInt n) (by simp [execOp, hq, resolve, invoke, builtin, Builtin.len_, ht, run_underlying hu]) (vr_int.2 rfl)
      · rename_i p hu
        split at hc
        · rename_i m _ hu2
          simp only [decide_eq_true_eq] at hc
          subst hc
          exact pureOk hS (x := goInt n) (by simp [execOp, hq, resolve, invoke, builtin, Builtin.len_, ht, run_underlying hu, run_underlying hu2]) (vr_int.2 rfl)
        · cases hc
      · cases hc
  · cases hc

theorem sim_len {k : Bool} {x : Opd} {q : Oper} (hc : chkOp c (.len k x) q.op = true) (he : evOp base ρ s (.len k x) = some (v, s')) : OpOk c B0 base B s w a q v s' := by
  simp only [chkOp] at hc
  split at hc
  · rename_i args argTypes hq
    simp only [Bool.and_eq_true] at hc
    obtain ⟨ha, hc⟩ := hc
    split at ha
    · rename_i y hargs
      have hargs' : args = #[y] := by rw [← Array.toArray_toList (xs := args), hargs]
      subst hargs'
      have hx := opd_sim ha hE hG
      simp only [evOp] at he
      cases ht : argTypes[0]? with
      | none => rw [ht] at hc; simp at hc
      | some ty =>
        rw [ht] at hc
        simp only [Option.bind_some] at hc
        split at hc
        · rename_i e hu
          have hk : k = false := by simpa using hc
          subst hk
          cases hv : x.ev ρ with
          | nils =>
            rw [hv] at he hx
            simp only [V.slen, Option.some.injEq, Prod.mk.injEq] at he
            obtain ⟨rfl, rfl⟩ := he
            rw [vr_nils] at hx
            exact pureOk hS (x := goInt 0) (by simp [execOp, hq, resolve, invoke, builtin, Builtin.len_, ht, run_underlying hu, hx]) (vr_int.2 rfl)
          | sl l p off len cap e' =>
            rw [hv] at he hx
            simp only [V.slen, Option.some.injEq, Prod.mk.injEq] at he
            obtain ⟨rfl, rfl⟩ := he
            obtain ⟨_, _, _, _, c', ad', _, _, _, _, _, _, _, _, hx8⟩ := vr_sl.1 hx
            exact pureOk hS (x := goInt len) (by simp [execOp, hq, resolve, invoke, builtin, Builtin.len_, ht, run_underlying hu, hx8]) (vr_int.2 rfl)
          | _ => rw [hv] at he; simp [V.slen] at he
        · rename_i hu
          subst hc
          cases hv : x.ev ρ with
          | str b =>
            rw [hv] at he hx
            simp only [V.slen, Option.some.injEq, Prod.mk.injEq] at he
            obtain ⟨rfl, rfl⟩ := he
            rw [vr_str] at hx
            exact pureOk hS (x := goInt b.size) (by simp [execOp, hq, resolve, invoke, builtin, Builtin.len_, ht, run_underlying hu, hx]) (vr_int.2 rfl)
          | _ => rw [hv] at he; simp [V.slen] at he
        · cases hc
    · cases ha
  · cases hc

theorem sim_mnx {mx : Bool} {x y : Opd} {q : Oper} (hc : chkOp c (.mnx mx x y) q.op = true) (he : evOp base ρ s (.mnx mx x y) = some (v, s')) : OpOk c B0 base B s w a q v s' := by
  simp only [chkOp] at hc
  split at hc
  · rename_i b args argTypes hq
    simp only [Bool.and_eq_true, decide_eq_true_eq] at hc
    obtain ⟨hb, hcs⟩ := hc
    obtain ⟨x', y', hargs⟩ : ∃ x' y', args.toList = [x', y'] := by
      match h : args.toList, hcs with
      | [x', y'], _ => exact ⟨x', y', rfl⟩
      | [], hcs => simp [opdsOk] at hcs
      | [_], hcs => simp [opdsOk] at hcs
      | _ :: _ :: _ :: _, hcs => simp [opdsOk] at hcs
    have hargs' : args = #[x', y'] := by rw [← Array.toArray_toList (xs := args), hargs]
    subst hargs'
    simp only [opdsOk, Bool.and_eq_true, Bool.and_true] at hcs
    have hx := opd_sim hcs.1 hE hG
    have hy := opd_sim hcs.2 hE hG
    simp only [evOp] at he
    cases hv : vmnx mx (x.ev ρ) (y.ev ρ) with
    | none => rw [hv] at he; cases he
    | some r =>
      rw [hv] at he
      simp only [Option.some.injEq, Prod.mk.injEq] at he
      obtain ⟨rfl, rfl⟩ := he
      unfold vmnx at hv
      split at hv
      · rename_i k n k' m hxv hyv
        rw [hxv, vr_int] at hx
        rw [hyv, vr_int] at hy
        by_cases hk : k = k'
        · subst hk
          rw [if_pos rfl] at hv
          cases hv
          cases mx with
          | true =>
            simp only [if_true] at hb
            subst hb
            refine pureOk hS (x := .int k (if m > n then m else n)) (by simp [execOp, hq, resolve, invoke, builtin, Builtin.max_, Builtin.max2, hx, hy]) (vr_int.2 ?_)
            simp only [if_true]
            congr 1
            split <;> omega
          | false =>
            simp only [Bool.false_eq_true, if_false] at hb
            subst hb
            refine pureOk hS (x := .int k (if m < n then m else n)) (by simp [execOp, hq, resolve, invoke, builtin, Builtin.min_, Builtin.min2, hx, hy]) (vr_int.2 ?_)
            simp only [Bool.false_eq_true, if_false]
            congr 1
            split <;> omega
        · rw [if_neg hk] at hv; cases hv
      · cases hv
  · cases hc
end sims
end Go.Ab
