/-
  ReachB: whom a capability names in a world, and what can be come to by it.
-/
import Derived.Test.YtfdaihhnlohckaaR1
import Derived.Test.YtfdaihhnlohckaaAb26
set_option maxRecDepth 100000
namespace Go.Proofs.Ytfdaihhnlohckaa
open Go.Ab

structure Obj where
  kind : Int
  ver : Int
  l : List Int
def noObj : Obj := ⟨0, 0, []⟩
def Obj.v (o : Obj) : V := .agg 26 [.int .i64 o.kind, .int .i64 o.ver, .agg 24 (o.l.map (.int .u64))]
def worldV (W : List Obj) : V := .agg 30 (W.map Obj.v)
structure OkW (W : List Obj) : Prop where
  len : W.length = 49
  l8 : ∀ o ∈ W, o.l.length = 8
  words : ∀ o ∈ W, ∀ x ∈ o.l, 0 ≤ x ∧ x ≤ 18446744073709551615
def objAt (W : List Obj) (i : Nat) : Obj := W.getD i noObj
theorem objAt_get {W : List Obj} (h : OkW W) {i : Nat} (hi : i < 49) : (W.map Obj.v)[i]? = some (objAt W i).v := by
  rw [List.getElem?_map, List.getElem?_eq_getElem (by rw [h.len]; exact hi)]
  simp [objAt, List.getD_eq_getElem?_getD, List.getElem?_eq_getElem (show i < W.length by rw [h.len]; exact hi)]
theorem objAt_mem {W : List Obj} (h : OkW W) {i : Nat} (hi : i < 49) : objAt W i ∈ W := by
  simp only [objAt, List.getD_eq_getElem?_getD]
  rw [List.getElem?_eq_getElem (by rw [h.len]; exact hi)]
  exact List.getElem_mem _

def names (W : List Obj) (c : Int) : Option Nat :=
  if (capOf c).may ∧ entryNames (objAt W (capOf c).id.toNat).kind (objAt W (capOf c).id.toNat).ver (capOf c).id c = 0 then some (capOf c).id.toNat else none
theorem names_lt {W : List Obj} {c : Int} {i : Nat} (h : names W c = some i) : i < 49 := by
  unfold names at h
  split at h
  · rename_i hc
    have := may_id hc.1
    cases h
    omega
  · cases h
theorem rf_Names (W : List Obj) (hW : OkW W) (c : Int) (h0 : 0 ≤ c) (h1 : c ≤ 18446744073709551615) (s : St) : rf D f_reach_Names [worldV W, .int .u64 c] s =
    some (.tup [.int .i64 ((names W c).getD 0 : Nat), .bool (names W c).isSome], s) := by
  have hc := fun s => rf_caps_Of c h0 h1 s
  rw [rf_o D_reach_Names rfl]
  unfold names
  by_cases hm : (capOf c).may = true
  · have hid := may_id hm
    obtain ⟨i, hi⟩ : ∃ i : Nat, (capOf c).id = i := ⟨(capOf c).id.toNat, by omega⟩
    have hcc : capsOf c = capOf c := by unfold capsOf; rw [if_pos hm]
    have hg := objAt_get hW (i := i) (by omega)
    have hen := fun k v l s => rf_entry_Names k v l (i : Int) c h0 h1 s
    rw [hcc, hm] at hc
    simp only [Cap.v, hi] at hc
    have c1 : (i : Int) < 49 := by omega
    have c2 : (0 : Int) ≤ i := by omega
    simp only [Obj.v] at hg
    simp only [hi, hm, Int.toNat_natCast, true_and]
    simp only [go_sem, worldV, hc, c1, c2, Int.toNat_natCast, hg, hen, List.replicate]
    by_cases he : entryNames (objAt W i).kind (objAt W i).ver i c = 0 <;> simp [he]
  · have hm' : (capOf c).may = false := by simpa using hm
    rw [hm'] at hc
    simp only [Cap.v] at hc
    simp only [hm']
    simp only [go_sem, worldV, hc]
/-! ### Reach -/
def Succ (W : List Obj) (i j : Nat) : Prop := (objAt W i).kind = 2 ∧ ∃ w ∈ (objAt W i).l, names W w = some j
inductive Reach (W : List Obj) : Nat → Nat → Prop where
  | refl (i : Nat) : Reach W i i
  | step {i j k : Nat} : Succ W i j → Reach W j k → Reach W i k
/-- What a visit adds. -/
structure Vis (W : List Obj) (A : List Bool) (R : Nat → Prop) (B : List Bool) : Prop where
  len : B.length = A.length
  sub : ∀ j : Nat, A[j]? = some true → B[j]? = some true
  root : ∀ i, R i → B[i]? = some true
  sound : ∀ j : Nat, B[j]? = some true → A[j]? = some true ∨ ∃ i, R i ∧ Reach W i j
  clos : ∀ j : Nat, B[j]? = some true → A[j]? = some true ∨ ∀ k, Succ W j k → B[k]? = some true
def visitArgs (a b d : Nat) : List V := [.ptr (.loc a) [] 30, .ptr (.loc b) [] 32, .ptr (.loc d) [] 1]
def inV (A : List Bool) : Blk := .rw (.agg 32 (A.map .bool))
theorem visit (W : List Obj) (hW : OkW W) (L H : List Blk) (a b d : Nat) (ha : L[a]? = some (.rw (worldV W))) (hb : b < L.length) (hd : L[d]? = some (.rw (.fn f_reach_From_1 (visitArgs a b d)))) (hab : a ≠ b) (hdb : d ≠ b) :
    ∀ n (A : List Bool), A.count false < n → A.length = 49 → ∀ c : Int, 0 ≤ c → c ≤ 18446744073709551615 →
      ∃ B, rf D f_reach_From_1 (.int .u64 c :: visitArgs a b d) ⟨L.set b (inV A), H⟩ = some (.tup [], ⟨L.set b (inV B), H⟩) ∧ Vis W A (fun i => names W c = some i) B := by
  have ga : ∀ x, (L.set b x)[a]? = some (.rw (worldV W)) := fun x => by rw [List.getElem?_set_ne (Ne.symm hab)]; exact ha
  have gd : ∀ x, (L.set b x)[d]? = some (.rw (.fn f_reach_From_1 (visitArgs a b d))) := fun x => by rw [List.getElem?_set_ne (Ne.symm hdb)]; exact hd
  have gb : ∀ x, (L.set b x)[b]? = some x := fun x => List.getElem?_set_self hb
  have hdl := (List.getElem?_eq_some_iff.1 hd).1
  intro n
  induction n with
  | zero => intro A hn; omega
  | succ n ih =>
    intro A hn hA c h0 h1
    have hnm := fun s => rf_Names W hW c h0 h1 s
    have htake : ∀ x, (L.set b x).take L.length = L.set b x := fun x => by rw [List.take_of_length_le (by simp)]
    have hdrop : ∀ x, (L.set b x).drop L.length = [] := fun x => by rw [List.drop_eq_nil_iff]; simp
    simp only [visitArgs] at gd ⊢
    cases hr : names W c with
    | none =>
      rw [hr] at hnm
      refine ⟨A, ?_, rfl, (fun j h => h), (fun i h => by cases h), (fun j h => .inl h), (fun j h => .inl h)⟩
      rw [rf_o D_reach_From_1 rfl]
      simp only [go_sem, ga, gb, hnm, List.length_set, htake]
    | some i =>
      rw [hr] at hnm
      have hi49 := names_lt hr
      have hia : i < A.length := by omega
      have c1 : (i : Int) < 49 := by omega
      have c2 : (0 : Int) ≤ i := by omega
      simp only [Option.getD_some, Option.isSome_some] at hnm
      rcases getElem?_bool hia with ht | hf
      · have hg : (A.map V.bool)[i]? = some (.bool true) := by rw [List.getElem?_map, ht]; rfl
        refine ⟨A, ?_, rfl, (fun j h => h), (fun k h => by cases h; exact ht), (fun j h => .inl h), (fun j h => .inl h)⟩
        rw [rf_o D_reach_From_1 rfl]
        simp only [inV] at *
        simp only [go_sem, ga, gb, hnm, List.length_set, htake, c1, c2, Int.toNat_natCast, hg]
      · have hg : (A.map V.bool)[i]? = some (.bool false) := by rw [List.getElem?_map, hf]; rfl
        have hw : (W.map Obj.v)[i]? = some (objAt W i).v := objAt_get hW hi49
        simp only [Obj.v] at hw
        have hcf := count_false_set hf
        have hset : (A.set i true).length = 49 := by simp [hA]
        have hsi : (A.set i true)[i]? = some true := by rw [List.getElem?_set_self hia]
        by_cases hk : (objAt W i).kind = 2
        · have hl8 := hW.l8 _ (objAt_mem hW hi49)
          have hwords := hW.words _ (objAt_mem hW hi49)
          generalize hwl : (objAt W i).l = wl at hl8 hwords hw
          have loop : ∃ r, rc D L.length (.loop [3, 32, 33] b_reach_From_1_0) [(3, .ptr (.loc d) [] 1), (32, .agg 24 (wl.map (.int .u64))), (33, .int .i64 0)] ⟨L.set b (inV (A.set i true)), H⟩ = some r ∧
              ∃ B, r = (.exit 0, [(3, .ptr (.loc d) [] 1), (32, .agg 24 (wl.map (.int .u64))), (33, .int .i64 8), (34, .bool false)], ⟨L.set b (inV B), H⟩) ∧
                Vis W (A.set i true) (fun k => ∃ m, m < 8 ∧ names W (wl.getD m 0) = some k) B := by
            refine loop_ex (fun x : Nat × List Bool => [(3, .ptr (.loc d) [] 1), (32, .agg 24 (wl.map (.int .u64))), (33, .int .i64 x.1)]) (fun x => ⟨L.set b (inV x.2), H⟩) _ (fun x => 8 - x.1)
              (fun x => x.1 ≤ 8 ∧ Vis W (A.set i true) (fun k => ∃ m, m < x.1 ∧ names W (wl.getD m 0) = some k) x.2) (0, A.set i true) ?_ ?_ ?_ ?_
            · rintro ⟨k, B⟩ ⟨hk8, hv⟩
              simp only at hk8 hv
              by_cases hlt : k < 8
              · left
                have c3 : (k : Int) < 8 := by omega
                have c4 : (0 : Int) ≤ k := by omega
                have c5 : IntKind.i64.wrap ((k : Int) + 1) = (k : Int) + 1 := i64_id (by omega) (by omega)
                have hkl : k < wl.length := by omega
                have hgk : (wl.map (V.int .u64))[k]? = some (.int .u64 (wl.getD k 0)) := by simp [List.getD_eq_getElem?_getD, hkl]
                have hwk := hwords (wl.getD k 0) (by simp only [List.getD_eq_getElem?_getD, List.getElem?_eq_getElem hkl, Option.getD_some]; exact List.getElem_mem _)
                have hBl : B.length = 49 := by rw [hv.len, hset]
                obtain ⟨B', e1, hv'⟩ := ih B (by have := count_false_le (a := A.set i true) (b := B) (by rw [hv.len]) hv.sub; omega) hBl (wl.getD k 0) hwk.1 hwk.2
                refine ⟨(k + 1, B'), ⟨by simp only; omega, ?_⟩, by simp only; omega, ?_⟩
                · refine ⟨by rw [hv'.len, hv.len], fun j h => hv'.sub j (hv.sub j h), ?_, ?_, ?_⟩
                  · rintro q ⟨m, hm, hq⟩
                    by_cases hmk : m = k
                    · subst hmk; exact hv'.root q hq
                    · exact hv'.sub q (hv.root q ⟨m, by simp only at hm; omega, hq⟩)
                  · intro j hj
                    rcases hv'.sound j hj with h | ⟨q, hq, hr'⟩
                    · rcases hv.sound j h with h | ⟨q, ⟨m, hm, hq⟩, hr'⟩
                      · exact .inl h
                      · exact .inr ⟨q, ⟨m, by simp only; omega, hq⟩, hr'⟩
                    · exact .inr ⟨q, ⟨k, by simp only; omega, hq⟩, hr'⟩
                  · intro j hj
                    rcases hv'.clos j hj with h | h
                    · rcases hv.clos j h with h | h
                      · exact .inl h
                      · exact .inr fun q hs => hv'.sub q (h q hs)
                    · exact .inr h
                · simp only [visitArgs] at e1
                  simp only [go_sem, b_reach_From_1_0, c3, c4, c5, Int.toNat_natCast, hgk, gd, List.length_set, e1, hdl, htake, hdrop]
                  rfl
              · right
                have hk8' : k = 8 := by omega
                subst hk8'
                refine ⟨_, ?_, B, rfl, hv⟩
                simp only [go_sem, b_reach_From_1_0]
            · exact ⟨Nat.zero_le _, rfl, (fun j h => h), (fun k h => by obtain ⟨m, hm, _⟩ := h; simp only at hm; omega), (fun j h => .inl h), (fun j h => .inl h)⟩
            · rfl
            · rfl
          obtain ⟨_, hloop, B, rfl, hv⟩ := loop
          refine ⟨B, ?_, by rw [hv.len]; simp, (fun j h => hv.sub j (set_true_sub h)), (fun k h => by cases h; exact hv.sub i hsi), (fun j h => ?_), (fun j h => ?_)⟩
          · rw [rf_o D_reach_From_1 rfl]
            simp only [inV, worldV] at *
            simp only [go_sem, ga, gb, hnm, List.length_set, htake, c1, c2, Int.toNat_natCast, hg, hw, hk, map_vset, List.set_set, hloop]
          · rcases hv.sound j h with h | ⟨q, ⟨m, hm, hq⟩, hr'⟩
            · rcases set_true h with h | rfl
              · exact .inl h
              · exact .inr ⟨j, rfl, .refl j⟩
            · refine .inr ⟨i, rfl, .step ⟨hk, wl.getD m 0, ?_, hq⟩ hr'⟩
              rw [hwl, List.getD_eq_getElem?_getD, List.getElem?_eq_getElem (show m < wl.length by omega), Option.getD_some]
              exact List.getElem_mem _
          · rcases hv.clos j h with h | h
            · rcases set_true h with h | rfl
              · exact .inl h
              · right
                rintro k ⟨_, w, hw1, hw2⟩
                rw [hwl] at hw1
                obtain ⟨m, hm, rfl⟩ := List.getElem_of_mem hw1
                exact hv.root k ⟨m, by omega, by rw [List.getD_eq_getElem?_getD, List.getElem?_eq_getElem hm, Option.getD_some]; exact hw2⟩
            · exact .inr h
        · refine ⟨A.set i true, ?_, by simp, (fun j h => set_true_sub h), (fun k h => by cases h; exact hsi), (fun j h => ?_), (fun j h => ?_)⟩
          · rw [rf_o D_reach_From_1 rfl]
            simp only [inV, worldV] at *
            simp only [go_sem, ga, gb, hnm, List.length_set, htake, c1, c2, Int.toNat_natCast, hg, hw, hk, map_vset, List.set_set]
          · rcases set_true h with h | rfl
            · exact .inl h
            · exact .inr ⟨j, rfl, .refl j⟩
          · rcases set_true h with h | rfl
            · exact .inl h
            · exact .inr fun k hs => absurd hs.1 hk
/-- What can be come to by a word. -/
structure FromS (W : List Obj) (c : Int) (B : List Bool) : Prop where
  len : B.length = 49
  iff : ∀ j : Nat, B[j]? = some true ↔ ∃ i, names W c = some i ∧ Reach W i j
theorem from_of {W : List Obj} {c : Int} {B : List Bool} (h : Vis W (List.replicate 49 false) (fun i => names W c = some i) B) : FromS W c B := by
  have no : ∀ j : Nat, (List.replicate 49 false)[j]? ≠ some true := by
    intro j hj
    rw [List.getElem?_replicate] at hj
    split at hj <;> cases hj
  refine ⟨by rw [h.len]; rfl, fun j => ⟨fun hj => (h.sound j hj).resolve_left (no j), ?_⟩⟩
  rintro ⟨i, hi, hr⟩
  have key : ∀ {i j : Nat}, Reach W i j → B[i]? = some true → B[j]? = some true := by
    intro i j hr
    induction hr with
    | refl i => exact id
    | step hs _ ih => exact fun hi => ih (((h.clos _ hi).resolve_left (no _)) _ hs)
  exact key hr (h.root i hi)
theorem from_unique {W : List Obj} {c : Int} {B B' : List Bool} (h : FromS W c B) (h' : FromS W c B') : B = B' := by
  apply List.ext_getElem?
  intro j
  by_cases hj : j < 49
  · have e := (h.iff j).trans (h'.iff j).symm
    rcases getElem?_bool (a := B) (j := j) (by rw [h.len]; exact hj) with h1 | h1
    · rw [h1, e.1 h1]
    · rcases getElem?_bool (a := B') (j := j) (by rw [h'.len]; exact hj) with h2 | h2
      · rw [e.2 h2] at h1; cases h1
      · rw [h1, h2]
  · rw [List.getElem?_eq_none (by rw [h.len]; omega), List.getElem?_eq_none (by rw [h'.len]; omega)]
theorem rf_From (W : List Obj) (hW : OkW W) (c : Int) (h0 : 0 ≤ c) (h1 : c ≤ 18446744073709551615) : ∃ B, FromS W c B ∧ ∀ s, rf D f_reach_From [worldV W, .int .u64 c] s = some (.agg 32 (B.map .bool), s) := by
  have run : ∀ s, ∃ B, FromS W c B ∧ rf D f_reach_From [worldV W, .int .u64 c] s = some (.agg 32 (B.map .bool), s) := by
    intro s
    obtain ⟨B, e1, hv⟩ := visit W hW (s.loc ++ [.rw (worldV W), .rw (.agg 32 ((List.replicate 49 false).map .bool)), .rw (.agg 32 ((List.replicate 49 false).map .bool)), .rw (.fn f_reach_From_1 (visitArgs s.loc.length (s.loc.length + 2) (s.loc.length + 3)))]) s.hp s.loc.length (s.loc.length + 2) (s.loc.length + 3)
      (by simp) (by simp) (by simp) (by omega) (by omega) 50 (List.replicate 49 false) (by decide) (by simp) c h0 h1
    refine ⟨B, from_of hv, ?_⟩
    rw [app_set] at e1
    rw [app_set] at e1
    simp only [visitArgs, inV, List.set_cons_zero, List.set_cons_succ, List.map_replicate] at e1
    rw [rf_o D_reach_From rfl]
    simp only [worldV] at e1 ⊢
    simp only [go_sem, e1]
  obtain ⟨B, hB, _⟩ := run ⟨[], []⟩
  refine ⟨B, hB, fun s => ?_⟩
  obtain ⟨B', hB', h⟩ := run s
  rw [from_unique hB hB']
  exact h
end Go.Proofs.Ytfdaihhnlohckaa
