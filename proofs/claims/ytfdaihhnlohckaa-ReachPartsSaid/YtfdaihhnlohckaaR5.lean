/-
  ReachE: what can be come to by a node is the node and what can be by its slots.
-/
import Derived.Test.YtfdaihhnlohckaaR4
set_option maxRecDepth 100000
namespace Go.Proofs.Ytfdaihhnlohckaa
open Go.Ab

theorem veqs_bools : ∀ {A B : List Bool}, A.length = B.length → veqs (A.map .bool) (B.map .bool) = some (decide (A = B))
  | [], [], _ => rfl
  | a :: A, b :: B, h => by
    have ih := veqs_bools (A := A) (B := B) (by simpa using h)
    simp only [List.map_cons, veqs, veq]
    by_cases hab : a = b
    · subst hab; simp [ih]
    · have : (a == b) = false := by simpa using hab
      simp [this, hab]
theorem eqv_bools {A B : List Bool} (h : A.length = B.length) : eqv false 32 (.agg 32 (A.map .bool)) (.agg 32 (B.map .bool)) = some (.bool (decide (A = B))) := by
  simp [eqv, veqT, veq, V.tag, veqs_bools h, obind_some]
theorem getD_of_get {B : List Bool} {j : Nat} : B.getD j false = true ↔ B[j]? = some true := by
  rw [List.getD_eq_getElem?_getD]
  cases h : B[j]? with
  | none => simp
  | some b => simp
theorem getD_set {B : List Bool} {i j : Nat} {v : Bool} (hi : i < B.length) : (B.set i v).getD j false = if i = j then v else B.getD j false := by
  rw [List.getD_eq_getElem?_getD, List.getD_eq_getElem?_getD, List.getElem?_set]
  by_cases h : i = j
  · subst h; simp [hi]
  · simp [h]
theorem bools_ext {A B : List Bool} (ha : A.length = B.length) (h : ∀ j, A.getD j false = true ↔ B.getD j false = true) : A = B := by
  apply List.ext_getElem ha
  intro j h1 h2
  have := h j
  rw [List.getD_eq_getElem?_getD, List.getD_eq_getElem?_getD, List.getElem?_eq_getElem h1, List.getElem?_eq_getElem h2] at this
  simp only [Option.getD_some] at this
  exact Bool.eq_iff_iff.2 this
theorem getD_repl {n j : Nat} : (List.replicate n false).getD j false = false := by
  rw [List.getD_eq_getElem?_getD, List.getElem?_replicate]
  split <;> rfl
theorem from_none {W : List Obj} {c : Int} {B : List Bool} (h : FromS W c B) (hn : names W c = none) : B = List.replicate 49 false := by
  refine bools_ext (by rw [h.len]; simp) fun j => ?_
  rw [getD_repl, getD_of_get, h.iff j]
  simp [hn]
theorem FromS.get {W : List Obj} {c : Int} {B : List Bool} (h : FromS W c B) (j : Nat) : B.getD j false = true ↔ ∃ i, names W c = some i ∧ Reach W i j := by
  rw [getD_of_get]; exact h.iff j
theorem reach_lt {W : List Obj} {i j : Nat} (h : Reach W i j) (hi : i < 49) : j < 49 := by
  induction h with
  | refl i => exact hi
  | step hs _ ih => exact ih (names_lt hs.2.choose_spec.2)
theorem reach_iff {W : List Obj} {i j : Nat} : Reach W i j ↔ j = i ∨ ∃ q, Succ W i q ∧ Reach W q j := by
  constructor
  · intro h
    cases h with
    | refl => exact .inl rfl
    | step hs hr => exact .inr ⟨_, hs, hr⟩
  · rintro (rfl | ⟨q, hs, hr⟩)
    · exact .refl _
    · exact .step hs hr

theorem or_loop (X B0 : List Bool) (hX : X.length = 49) (hB : B0.length = 49) (i k : Nat) (P Q : Blk) (hP : blkLt 4 P = true) (hQ : blkLt 4 Q = true) (hp : List Blk) :
    ∃ r, rc D 0 (.loop [5, 6, 7, 8, 10, 11, 12, 13] b_steadfastlaw23_ReachParts_1) [(5, .bool true), (6, .ptr (.loc 0) [] 30), (7, .ptr (.loc 1) [] 32), (8, .int .i64 i), (10, .ptr (.loc 2) [] 32), (11, .int .i64 k), (12, .ptr (.loc 3) [] 32), (13, .int .i64 0)]
      ⟨[P, Q, .rw (.agg 32 (B0.map .bool)), .rw (.agg 32 (X.map .bool))], hp⟩ = some r ∧
      ∃ B : List Bool, r = (.exit 2, [(5, .bool true), (6, .ptr (.loc 0) [] 30), (7, .ptr (.loc 1) [] 32), (8, .int .i64 i), (10, .ptr (.loc 2) [] 32), (11, .int .i64 k), (12, .ptr (.loc 3) [] 32), (13, .int .i64 49), (67, .bool false)], ⟨[P, Q, .rw (.agg 32 (B.map .bool)), .rw (.agg 32 (X.map .bool))], hp⟩) ∧
        B.length = 49 ∧ ∀ j, B.getD j false = true ↔ B0.getD j false = true ∨ (j < 49 ∧ X.getD j false = true) := by
  refine loop_ex (fun x : Nat × List Bool => [(5, .bool true), (6, .ptr (.loc 0) [] 30), (7, .ptr (.loc 1) [] 32), (8, .int .i64 i), (10, .ptr (.loc 2) [] 32), (11, .int .i64 k), (12, .ptr (.loc 3) [] 32), (13, .int .i64 x.1)]) (fun x => ⟨[P, Q, .rw (.agg 32 (x.2.map .bool)), .rw (.agg 32 (X.map .bool))], hp⟩) _ (fun x => 49 - x.1)
    (fun x => x.1 ≤ 49 ∧ x.2.length = 49 ∧ ∀ j, x.2.getD j false = true ↔ B0.getD j false = true ∨ (j < x.1 ∧ X.getD j false = true)) (0, B0) ?_ ?_ rfl rfl
  · rintro ⟨n, B⟩ ⟨hn, hBl, hB'⟩
    simp only at hn hBl hB'
    by_cases c1 : n < 49
    · left
      have d1 : (n : Int) < 49 := by omega
      have d2 : (0 : Int) ≤ n := by omega
      have d4 : IntKind.i64.wrap ((n : Int) + 1) = (n : Int) + 1 := i64_id (by omega) (by omega)
      have g1 := get_map (f := V.bool) (l := B) (i := n) (by omega) false
      have g2 := get_map (f := V.bool) (l := X) (i := n) (by omega) false
      refine ⟨(n + 1, B.set n (B.getD n false || X.getD n false)), ⟨by simp only; omega, by simpa using hBl, fun j => ?_⟩, by simp only; omega, ?_⟩
      · simp only
        rw [getD_set (by omega)]
        by_cases hj : n = j
        · subst hj
          simp only [if_true, Bool.or_eq_true, hB' n]
          constructor
          · rintro ((h | ⟨h, _⟩) | h)
            · exact .inl h
            · omega
            · exact .inr ⟨by omega, h⟩
          · rintro (h | ⟨_, h⟩)
            · exact .inl (.inl h)
            · exact .inr h
        · simp only [hj, if_false, hB' j]
          constructor
          · rintro (h | ⟨h1, h2⟩)
            · exact .inl h
            · exact .inr ⟨by omega, h2⟩
          · rintro (h | ⟨h1, h2⟩)
            · exact .inl h
            · exact .inr ⟨by omega, h2⟩
      · generalize B.getD n false = b at *
        generalize X.getD n false = x at *
        simp only [go_sem, b_steadfastlaw23_ReachParts_1, d1, d2, d4, Int.toNat_natCast, g1, g2, List.map_set]
        cases b
        · simp only [go_sem, hP, hQ]; rfl
        · simp only [go_sem, hP, hQ]; rfl
    · right
      have d1 : n = 49 := by omega
      subst d1
      refine ⟨_, ?_, B, rfl, hBl, hB'⟩
      simp only [go_sem, b_steadfastlaw23_ReachParts_1]
  · exact ⟨by simp only; omega, hB, fun j => by simp⟩

theorem law_ReachParts : ∀ hp vs, Sh.FitsL hp [(.sl 28 (.st 26 [(.int .i64), (.int .i64), (.arr 24 8 (.int .u64))])), (.int .u64)] vs → ∃ s', rf D f_steadfastlaw23_ReachParts vs ⟨[], hp⟩ = some (.bool true, s') := by
  intro hp vs hf
  obtain ⟨v, y, rfl, h1, ⟨c, rfl, hc0, hc1⟩⟩ := fits2 hf
  obtain ⟨W, hW, hw⟩ := rf_world h1
  have hc0' : (0 : Int) ≤ c := hc0
  have hc1' : c ≤ 18446744073709551615 := hc1
  obtain ⟨A, hA, ha⟩ := rf_From W hW.ok c hc0 hc1
  have hw' := fun L => hw ⟨L, hp⟩ rfl
  have hnm := fun s => rf_Names W hW.ok c hc0 hc1 s
  have hAl := hA.len
  refine ⟨⟨[], hp⟩, ?_⟩
  cases hr : names W c with
  | none =>
    rw [hr] at hnm
    have e := from_none hA hr
    subst e
    have he := veqs_bools (A := List.replicate 49 false) (B := List.replicate 49 false) rfl
    simp only [List.map_replicate] at he ha
    rw [rf_o D_steadfastlaw23_ReachParts rfl]
    simp only [worldV] at *
    simp only [go_sem, rf_shown, hw', ha, hnm, he]
  | some i =>
    rw [hr] at hnm
    have hi49 := names_lt hr
    have d1 : (i : Int) < 49 := by omega
    have d2 : (0 : Int) ≤ i := by omega
    have hAi : A.getD i false = true := (hA.get i).2 ⟨i, hr, .refl i⟩
    have hgA := get_map (f := V.bool) (l := A) (i := i) (by omega) false
    rw [hAi] at hgA
    have hwg := objAt_get hW.ok hi49
    simp only [Obj.v] at hwg
    by_cases hk : (objAt W i).kind = 2
    · have hl8 := hW.ok.l8 _ (objAt_mem hW.ok hi49)
      have hwords := hW.ok.words _ (objAt_mem hW.ok hi49)
      generalize hwl : (objAt W i).l = wl at hl8 hwords hwg
      have loop : ∃ r, rc D 0 (.loop [5, 6, 7, 8, 10, 11] b_steadfastlaw23_ReachParts_0) [(5, .bool true), (6, .ptr (.loc 0) [] 30), (7, .ptr (.loc 1) [] 32), (8, .int .i64 i), (10, .ptr (.loc 2) [] 32), (11, .int .i64 0)]
          ⟨[.rw (worldV W), .rw (.agg 32 (A.map .bool)), .rw (.agg 32 (((List.replicate 49 false).set i true).map .bool))], hp⟩ = some r ∧
          ∃ B : List Bool, r = (.exit 0, [(5, .bool true), (6, .ptr (.loc 0) [] 30), (7, .ptr (.loc 1) [] 32), (8, .int .i64 i), (10, .ptr (.loc 2) [] 32), (11, .int .i64 8), (55, .bool false)], ⟨[.rw (worldV W), .rw (.agg 32 (A.map .bool)), .rw (.agg 32 (B.map .bool))], hp⟩) ∧
            B.length = 49 ∧ ∀ j, B.getD j false = true ↔ j = i ∨ ∃ m, m < 8 ∧ ∃ q, names W (wl.getD m 0) = some q ∧ Reach W q j := by
        refine loop_ex (fun x : Nat × List Bool => [(5, .bool true), (6, .ptr (.loc 0) [] 30), (7, .ptr (.loc 1) [] 32), (8, .int .i64 i), (10, .ptr (.loc 2) [] 32), (11, .int .i64 x.1)]) (fun x => ⟨[.rw (worldV W), .rw (.agg 32 (A.map .bool)), .rw (.agg 32 (x.2.map .bool))], hp⟩) _ (fun x => 8 - x.1)
          (fun x => x.1 ≤ 8 ∧ x.2.length = 49 ∧ ∀ j, x.2.getD j false = true ↔ j = i ∨ ∃ m, m < x.1 ∧ ∃ q, names W (wl.getD m 0) = some q ∧ Reach W q j) (0, (List.replicate 49 false).set i true) ?_ ?_ rfl rfl
        · rintro ⟨k, B⟩ ⟨hk8, hBl, hB⟩
          simp only at hk8 hBl hB
          by_cases c1 : k < 8
          · left
            have d3 : (k : Int) < 8 := by omega
            have d4 : (0 : Int) ≤ k := by omega
            have d5 : IntKind.i64.wrap ((k : Int) + 1) = (k : Int) + 1 := i64_id (by omega) (by omega)
            have hgk := get_map (f := V.int .u64) (l := wl) (i := k) (by omega) 0
            have hwk := hwords _ (getD_mem (l := wl) (i := k) (by omega) 0)
            obtain ⟨X, hX, hx⟩ := rf_From W hW.ok (wl.getD k 0) hwk.1 hwk.2
            obtain ⟨_, hl, B', rfl, hBl', hB'⟩ := or_loop X B hX.len hBl i k (.rw (worldV W)) (.rw (.agg 32 (A.map .bool))) (by simp only [go_sem, worldV]) (by simp only [go_sem]) hp
            refine ⟨(k + 1, B'), ⟨by simp only; omega, hBl', fun j => ?_⟩, by simp only; omega, ?_⟩
            · simp only
              rw [hB' j, hB j]
              constructor
              · rintro ((h | ⟨m, hm, q, hq⟩) | ⟨_, h⟩)
                · exact .inl h
                · exact .inr ⟨m, by omega, q, hq⟩
                · obtain ⟨q, hq⟩ := (hX.get j).1 h
                  exact .inr ⟨k, by omega, q, hq⟩
              · rintro (h | ⟨m, hm, q, hq, hr⟩)
                · exact .inl (.inl h)
                · by_cases hmk : m = k
                  · subst hmk
                    exact .inr ⟨reach_lt hr (names_lt hq), (hX.get j).2 ⟨q, hq, hr⟩⟩
                  · exact .inl (.inr ⟨m, by omega, q, hq, hr⟩)
            · simp only [worldV] at *
              simp only [go_sem, b_steadfastlaw23_ReachParts_0, d1, d2, d3, d4, d5, Int.toNat_natCast, hwg, hgk, hx, hl]
              rfl
          · right
            have d1 : k = 8 := by omega
            subst d1
            refine ⟨_, ?_, B, rfl, hBl, hB⟩
            simp only [go_sem, b_steadfastlaw23_ReachParts_0]
        · refine ⟨by simp only; omega, by simp, fun j => ?_⟩
          simp only
          rw [getD_set (by simpa using hi49), getD_repl]
          by_cases h : i = j
          · simp [h]
          · simp [h, Ne.symm h]
      obtain ⟨_, hl, B, rfl, hBl, hB⟩ := loop
      have hAB : A = B := by
        refine bools_ext (by rw [hA.len, hBl]) fun j => ?_
        rw [hA.get j, hB j]
        constructor
        · rintro ⟨q, hq, hr'⟩
          rw [hr] at hq
          cases hq
          rcases reach_iff.1 hr' with h | ⟨q, ⟨_, w, hw1, hw2⟩, h⟩
          · exact .inl h
          · rw [hwl] at hw1
            obtain ⟨m, hm, rfl⟩ := List.getElem_of_mem hw1
            exact .inr ⟨m, by omega, q, by rw [List.getD_eq_getElem?_getD, List.getElem?_eq_getElem hm, Option.getD_some]; exact hw2, h⟩
        · rintro (rfl | ⟨m, hm, q, hq, h⟩)
          · exact ⟨j, hr, .refl j⟩
          · exact ⟨i, hr, .step ⟨hk, _, by rw [hwl]; exact getD_mem (i := m) (by omega) 0, hq⟩ h⟩
      subst hAB
      have he := veqs_bools (A := A) (B := A) rfl
      have hgr : (List.replicate 49 (V.bool false))[i]? = some (V.bool false) := by rw [List.getElem?_replicate, if_pos hi49]
      rw [rf_o D_steadfastlaw23_ReachParts rfl]
      simp only [worldV, List.map_set, List.map_replicate] at *
      simp only [go_sem, rf_shown, hw', ha, hnm, d1, d2, Int.toNat_natCast, hgA, hwg, hk, hl, he, hgr]
    · have hz : A.set i false = List.replicate 49 false := by
        refine bools_ext (by simp [hA.len]) fun j => ?_
        rw [getD_set (by omega), getD_repl]
        by_cases h : i = j
        · simp [h]
        · simp only [h, if_false, hA.get j]
          constructor
          · rintro ⟨q, hq, hr'⟩
            rw [hr] at hq
            cases hq
            rcases reach_iff.1 hr' with h' | ⟨q, hs, _⟩
            · exact absurd h'.symm h
            · exact absurd hs.1 hk
          · intro h; cases h
      have hz' := congrArg (List.map V.bool) hz
      rw [List.map_set, List.map_replicate] at hz'
      have he := veqs_bools (A := List.replicate 49 false) (B := List.replicate 49 false) rfl
      simp only [List.map_replicate] at he
      rw [rf_o D_steadfastlaw23_ReachParts rfl]
      simp only [worldV] at *
      simp only [go_sem, rf_shown, hw', ha, hnm, d1, d2, Int.toNat_natCast, hgA, hwg, hk, hz', he]
end Go.Proofs.Ytfdaihhnlohckaa
