/-
  ReachD: nothing more by less.
-/
import Derived.Test.YtfdaihhnlohckaaR3
set_option maxRecDepth 100000
namespace Go.Proofs.Ytfdaihhnlohckaa
open Go.Ab

theorem rf_shown (s : St) : rf D f_steadfastlaw23_shown [] s = some (.bool true, s) :=
  rf_anywhere0 (G := []) (by simp) D_clos rfl rfl ev_shown (List.nil_prefix)

theorem fromLen {W : List Obj} {c : Int} {B : List Bool} (h : FromS W c B) {j : Nat} (hj : j < 49) : (B.map V.bool)[j]? = some (.bool (B.getD j false)) :=
  get_map (by rw [h.len]; exact hj) false
theorem names_zero (W : List Obj) : names W 0 = none := by
  unfold names
  rw [if_neg]
  rintro ⟨h, _⟩
  exact absurd h (by decide)
/-- One word of one object emptied. -/
def drop (W : List Obj) (i k : Nat) : List Obj := W.set i ⟨(objAt W i).kind, (objAt W i).ver, (objAt W i).l.set k 0⟩
theorem drop_ok {W : List Obj} (h : OkW W) {i : Nat} (k : Nat) (hi : i < 49) : OkW (drop W i k) := by
  have hm := objAt_mem h hi
  refine ⟨by simp [drop, h.len], ?_, ?_⟩ <;> intro o ho <;> rcases List.mem_or_eq_of_mem_set ho with ho | rfl
  · exact h.l8 _ ho
  · simpa using h.l8 _ hm
  · exact h.words _ ho
  · intro x hx
    rcases List.mem_or_eq_of_mem_set hx with hx | rfl
    · exact h.words _ hm x hx
    · omega
theorem drop_at {W : List Obj} (h : OkW W) {i k : Nat} (hi : i < 49) (j : Nat) : (objAt (drop W i k) j).kind = (objAt W j).kind ∧ (objAt (drop W i k) j).ver = (objAt W j).ver ∧ ∀ x ∈ (objAt (drop W i k) j).l, x ∈ (objAt W j).l ∨ x = 0 := by
  have hl := h.len
  unfold drop
  generalize ho : (⟨(objAt W i).kind, (objAt W i).ver, (objAt W i).l.set k 0⟩ : Obj) = o
  simp only [objAt, List.getD_eq_getElem?_getD, List.getElem?_set] at ho ⊢
  by_cases hij : i = j
  · subst hij
    rw [if_pos rfl, if_pos (by omega)]
    subst ho
    refine ⟨rfl, rfl, fun x hx => List.mem_or_eq_of_mem_set hx⟩
  · rw [if_neg hij]
    exact ⟨rfl, rfl, fun x hx => .inl hx⟩
theorem drop_names {W : List Obj} (h : OkW W) {i k : Nat} (hi : i < 49) (c : Int) : names (drop W i k) c = names W c := by
  unfold names
  rw [(drop_at h hi _).1, (drop_at h hi _).2.1]
theorem drop_reach {W : List Obj} (h : OkW W) {i k : Nat} (hi : i < 49) {a b : Nat} (hr : Reach (drop W i k) a b) : Reach W a b := by
  induction hr with
  | refl i => exact .refl i
  | step hs _ ih =>
    obtain ⟨h1, w, hw, hn⟩ := hs
    rw [(drop_at h hi _).1] at h1
    rw [drop_names h hi] at hn
    rcases (drop_at h hi _).2.2 w hw with hw | rfl
    · exact .step ⟨h1, w, hw, hn⟩ ih
    · rw [names_zero] at hn; cases hn
theorem drop_from {W : List Obj} (h : OkW W) {i k : Nat} (hi : i < 49) {c : Int} {A B : List Bool} (ha : FromS W c A) (hb : FromS (drop W i k) c B) (j : Nat) (hj : B.getD j false = true) : A.getD j false = true := by
  have key : B[j]? = some true → A[j]? = some true := by
    intro hB
    obtain ⟨q, hq, hr⟩ := (hb.iff j).1 hB
    rw [drop_names h hi] at hq
    exact (ha.iff j).2 ⟨q, hq, drop_reach h hi hr⟩
  rw [List.getD_eq_getElem?_getD] at hj ⊢
  cases hB : B[j]? with
  | none => rw [hB] at hj; cases hj
  | some b =>
    rw [hB] at hj
    simp only [Option.getD_some] at hj
    subst hj
    rw [key hB]; rfl
theorem less_loop (A B : List Bool) (hA : A.length = 49) (hB : B.length = 49) (h : ∀ j, B.getD j false = true → A.getD j false = true) (X Y : Blk) (hX : blkLt 4 X = true) (hY : blkLt 4 Y = true) (hp : List Blk) :
    rc D 0 (.loop [7, 9, 12, 13] b_steadfastlaw23_ReachLess_0) [(7, .bool true), (9, .ptr (.loc 2) [] 32), (12, .ptr (.loc 3) [] 32), (13, .int .i64 0)] ⟨[X, Y, .rw (.agg 32 (A.map .bool)), .rw (.agg 32 (B.map .bool))], hp⟩ =
      some (.exit 0, [(7, .bool true), (9, .ptr (.loc 2) [] 32), (12, .ptr (.loc 3) [] 32), (13, .int .i64 49), (48, .bool false)], ⟨[X, Y, .rw (.agg 32 (A.map .bool)), .rw (.agg 32 (B.map .bool))], hp⟩) := by
  refine loop_runs (fun x : Nat => [(7, .bool true), (9, .ptr (.loc 2) [] 32), (12, .ptr (.loc 3) [] 32), (13, .int .i64 x)]) (fun _ => ⟨[X, Y, .rw (.agg 32 (A.map .bool)), .rw (.agg 32 (B.map .bool))], hp⟩) (fun _ => _) (fun x => 49 - x) (fun x => x ≤ 49) 0 ?_ (by omega) rfl rfl
  intro i hi
  by_cases c1 : i < 49
  · left
    have d1 : (i : Int) < 49 := by omega
    have d2 : (0 : Int) ≤ i := by omega
    have d4 : IntKind.i64.wrap ((i : Int) + 1) = (i : Int) + 1 := i64_id (by omega) (by omega)
    have g1 := get_map (f := V.bool) (l := A) (i := i) (by omega) false
    have g2 := get_map (f := V.bool) (l := B) (i := i) (by omega) false
    have hi := h i
    refine ⟨i + 1, by omega, by omega, rfl, ?_⟩
    generalize A.getD i false = a at *
    generalize B.getD i false = b at *
    simp only [go_sem, b_steadfastlaw23_ReachLess_0, d1, d2, d4, Int.toNat_natCast, g1, g2]
    cases b
    · simp only [go_sem, hX, hY]; rfl
    · cases a
      · cases hi rfl
      · simp only [go_sem, hX, hY]; rfl
  · right
    have d1 : i = 49 := by omega
    subst d1
    simp only [go_sem, b_steadfastlaw23_ReachLess_0]
theorem law_ReachLess : ∀ hp vs, Sh.FitsL hp [(.sl 28 (.st 26 [(.int .i64), (.int .i64), (.arr 24 8 (.int .u64))])), (.int .u64), (.arr 22 2 (.int .i64))] vs → ∃ s', rf D f_steadfastlaw23_ReachLess vs ⟨[], hp⟩ = some (.bool true, s') := by
  intro hp vs hf
  obtain ⟨v, y, z, rfl, h1, ⟨c, rfl, hc0, hc1⟩, h3⟩ := fits3 hf
  obtain ⟨_, _, rfl, ⟨p, rfl, hp0, hp1⟩, ⟨q, rfl, hq0, hq1⟩⟩ := arr2 h3
  obtain ⟨W, hW, hw⟩ := rf_world h1
  have hc0' : (0 : Int) ≤ c := hc0
  have hc1' : c ≤ 18446744073709551615 := hc1
  obtain ⟨A, hA, ha⟩ := rf_From W hW.ok c hc0 hc1
  obtain ⟨i, hi⟩ : ∃ i : Nat, absm p 49 = i := ⟨(absm p 49).toNat, by have := absm_le p (m := 49) (by omega); omega⟩
  obtain ⟨k, hk⟩ : ∃ i : Nat, absm q 8 = i := ⟨(absm q 8).toNat, by have := absm_le q (m := 8) (by omega); omega⟩
  have hi49 : i < 49 := by have := absm_le p (m := 49) (by omega); omega
  have hk8 : k < 8 := by have := absm_le q (m := 8) (by omega); omega
  have q1 := neg_tmod p (m := 49) (by omega) (by omega)
  have q2 := neg_tmod q (m := 8) (by omega) (by omega)
  have hwg := objAt_get hW.ok hi49
  have hw' := fun L => hw ⟨L, hp⟩ rfl
  refine ⟨⟨[], hp⟩, ?_⟩
  rw [rf_o D_steadfastlaw23_ReachLess rfl]
  simp only [absm] at hi hk
  simp only [worldV] at *
  simp only [go_sem, rf_shown, hw', ha, q1, q2]
  simp only [hi, hk]
  have d1 : (i : Int) < 49 := by omega
  have d2 : (0 : Int) ≤ i := by omega
  have d3 : (k : Int) < 8 := by omega
  have d4 : (0 : Int) ≤ k := by omega
  have hl8 := hW.ok.l8 _ (objAt_mem hW.ok hi49)
  have hkg := get_map (f := V.int .u64) (l := (objAt W i).l) (i := k) (by omega) 0
  obtain ⟨B, hB, hb⟩ := rf_From (drop W i k) (drop_ok hW.ok k hi49) c hc0 hc1
  have hl1 := less_loop A B hA.len hB.len (drop_from hW.ok hi49 hA hB) (.rw (.agg 22 [.int .i64 p, .int .i64 q])) (.rw (.agg 30 ((drop W i k).map Obj.v))) (by simp only [go_sem]) (by simp only [go_sem]) hp
  have hl2 := less_loop A A hA.len hA.len (fun _ h => h) (.rw (.agg 22 [.int .i64 p, .int .i64 q])) (.rw (.agg 30 (W.map Obj.v))) (by simp only [go_sem]) (by simp only [go_sem]) hp
  simp only [Obj.v] at hwg
  by_cases hkind : (objAt W i).kind = 2
  · simp only [worldV, drop, List.map_set, Obj.v] at hb hl1
    simp only [hkind] at hb hl1
    simp only [go_sem, d1, d2, d3, d4, Int.toNat_natCast, hwg, hkind, hkg, hb, hl1]
  · simp only [go_sem, d1, d2, d3, d4, Int.toNat_natCast, hwg, hkind, ha, hl2]
end Go.Proofs.Ytfdaihhnlohckaa
