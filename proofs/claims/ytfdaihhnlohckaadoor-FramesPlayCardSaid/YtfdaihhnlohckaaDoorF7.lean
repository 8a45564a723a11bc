/-
  FramesG: Settle; how many are left, where the first word alone has some.
-/
import Derived.Test.YtfdaihhnlohckaaDoorF5
import Derived.Test.YtfdaihhnlohckaaDoorF6
set_option maxRecDepth 100000
namespace Go.Proofs.YtfdaihhnlohckaaDoor
open Go.Ab

theorem word_of {w : List Nat} (hw : OkS w) {q x : Nat} (hq : q < 16) (hx : x < 18446744073709551616) (h : ∀ k, k < 64 → bit w (64 * q + k) = x.testBit k) : w.getD q 0 = x := by
  apply Nat.eq_of_testBit_eq
  intro k
  by_cases hk : k < 64
  · have := h k hk
    unfold bit at this
    rw [show (64 * q + k) / 64 = q by omega, show (64 * q + k) % 64 = k by omega] at this
    exact this
  · have h2 : 2 ^ 64 ≤ 2 ^ k := Nat.pow_le_pow_right (by decide) (by omega)
    rw [Nat.testBit_lt_two_pow (Nat.lt_of_lt_of_le (hw.get hq) h2), Nat.testBit_lt_two_pow (Nat.lt_of_lt_of_le hx h2)]
theorem rf_Left1 {s : St} {a : Nat} {f l : Int} {wf wl : List Nat} (h : Fr s a f l wf wl) (hz : ∀ q, 1 ≤ q → q < 16 → wf.getD q 0 = 0) :
    rf D f_frames_Frames_Left [.ptr (.hp a) [] 80] s = some (.int .i64 (pc 64 (wf.getD 0 0) : Nat), s) := by
  have hb := h.blk
  have hlen := h.okf.len
  simp only [frV] at hb ⊢
  have hp := pc_le 64 (wf.getD 0 0)
  have loop : rc D s.loc.length (.loop [3, 9, 10] b_frames_Frames_Left_0) [(3, .int .i64 0), (9, .agg 78 (wf.map cN)), (10, .int .i64 0)] s =
      some (.exit 0, [(3, .int .i64 (pc 64 (wf.getD 0 0) : Nat)), (9, .agg 78 (wf.map cN)), (10, .int .i64 16), (11, .bool false)], s) := by
    refine loop_runs (fun x : Nat => [(3, .int .i64 (if x = 0 then 0 else pc 64 (wf.getD 0 0) : Nat)), (9, .agg 78 (wf.map cN)), (10, .int .i64 x)]) (fun _ => s) (fun _ => _) (fun x => 16 - x) (fun x => x ≤ 16) 0 ?_ (by omega) rfl rfl
    intro i hi
    by_cases c1 : i < 16
    · left
      have d1 : (i : Int) < 16 := by omega
      have d2 : (0 : Int) ≤ i := by omega
      have d4 : IntKind.i64.wrap ((i : Int) + 1) = (i : Int) + 1 := i64_id (by omega) (by omega)
      have hg := get_map (f := cN) (l := wf) (i := i) (by omega) 0
      have h1 := fun s => rf_ones (h.okf.get c1) s
      have e : (if i = 0 then 0 else pc 64 (wf.getD 0 0) : Nat) + pc 64 (wf.getD i 0) = pc 64 (wf.getD 0 0) := by
        by_cases h0 : i = 0
        · subst h0; simp
        · rw [hz i (by omega) c1, show pc 64 0 = 0 by decide]; simp [h0]
      refine ⟨i + 1, by omega, by omega, rfl, ?_⟩
      simp only [show (i + 1 = 0) = False by simp, if_false]
      generalize wf.getD i 0 = x at *
      generalize pc 64 x = y at *
      generalize pc 64 (wf.getD 0 0) = t at *
      generalize (if i = 0 then 0 else t : Nat) = n at *
      have d5 : IntKind.i64.wrap ((n : Int) + (y : Int)) = (t : Int) := by rw [i64_id (by omega) (by omega)]; omega
      simp only [go_sem, b_frames_Frames_Left_0, d1, d2]
      rw [Int.toNat_natCast]
      simp only [go_sem, hg, h1, d4, d5]
      rfl
    · right
      have : i = 16 := by omega
      subst this
      simp only [go_sem, b_frames_Frames_Left_0, show ((16 : Nat) = 0) = False by simp]
  rw [rf_o D_frames_Frames_Left rfl]
  simp only [go_sem, hb, loop]
theorem OkS.or {w : List Nat} (h : OkS w) {i x : Nat} (hi : i < 16) (hx : x < 18446744073709551616) : OkS (w.set i (w.getD i 0 ||| x)) := by
  refine ⟨by simp [h.len], fun y hy => ?_⟩
  rcases List.mem_or_eq_of_mem_set hy with hy | rfl
  · exact h.lt y hy
  · exact Nat.or_lt_two_pow (n := 64) (h.get hi) hx
theorem bit_or {w v : List Nat} (h : OkS w) {i : Nat} (hi : i < 16) (j : Nat) : bit (w.set i (w.getD i 0 ||| v.getD i 0)) j = (bit w j || (decide (j / 64 = i) && bit v j)) := by
  unfold bit
  have hlen := h.len
  by_cases hq : i = j / 64
  · subst hq
    rw [List.getD_eq_getElem?_getD, List.getElem?_set_self (by omega)]
    simp [Nat.testBit_or]
  · have hq' : ¬ j / 64 = i := fun h => hq h.symm
    rw [List.getD_eq_getElem?_getD, List.getElem?_set_ne hq, ← List.getD_eq_getElem?_getD]
    simp [hq']
theorem w16_nil : (w16 []).map cN = List.replicate 16 (V.int .u64 0) := rfl
theorem rf_Settle {s : St} {a : Nat} {f l : Int} {wf wl : List Nat} (h : Fr s a f l wf wl) :
    ∃ w, OkS w ∧ (∀ j, j < 1024 → bit w j = (bit wf j || bit wl j)) ∧ rf D f_frames_Frames_Settle [.ptr (.hp a) [] 80] s = some (.tup [], ⟨s.loc, s.hp.set a (.rw (frV f l w (w16 [])))⟩) := by
  have hb := h.blk
  have hll := h.okl.len
  have ha := (List.getElem?_eq_some_iff.1 hb).1
  simp only [frV] at hb ⊢
  have loop : ∃ r, rc D s.loc.length (.loop [0, 7, 8] b_frames_Frames_Settle_0) [(0, .ptr (.hp a) [] 80), (7, .agg 78 (wl.map cN)), (8, .int .i64 0)] ⟨s.loc, s.hp.set a (.rw (.agg 80 [.int .i64 f, .int .i64 l, .agg 78 (wf.map cN), .agg 78 (wl.map cN)]))⟩ = some r ∧
      ∃ w : List Nat, r = (.exit 0, [(0, .ptr (.hp a) [] 80), (7, .agg 78 (wl.map cN)), (8, .int .i64 16), (9, .bool false)], ⟨s.loc, s.hp.set a (.rw (.agg 80 [.int .i64 f, .int .i64 l, .agg 78 (w.map cN), .agg 78 (wl.map cN)]))⟩) ∧
        OkS w ∧ ∀ j, j < 1024 → bit w j = (bit wf j || bit wl j) := by
    refine loop_ex (fun x : Nat × List Nat => [(0, .ptr (.hp a) [] 80), (7, .agg 78 (wl.map cN)), (8, .int .i64 x.1)]) (fun x => ⟨s.loc, s.hp.set a (.rw (.agg 80 [.int .i64 f, .int .i64 l, .agg 78 (x.2.map cN), .agg 78 (wl.map cN)]))⟩) _ (fun x => 16 - x.1)
      (fun x => x.1 ≤ 16 ∧ OkS x.2 ∧ ∀ j, j < 1024 → bit x.2 j = (bit wf j || (decide (j / 64 < x.1) && bit wl j))) (0, wf) ?_ ⟨by simp only; omega, h.okf, fun j hj => by simp⟩ rfl rfl
    rintro ⟨i, w⟩ ⟨hi, hok, hbit⟩
    simp only at hi hok hbit
    by_cases c1 : i < 16
    · left
      have d1 : (i : Int) < 16 := by omega
      have d2 : (0 : Int) ≤ i := by omega
      have d4 : IntKind.i64.wrap ((i : Int) + 1) = (i : Int) + 1 := i64_id (by omega) (by omega)
      have hg := get_map (f := cN) (l := wl) (i := i) (by omega) 0
      have hg2 := get_map (f := cN) (l := w) (i := i) (by rw [hok.len]; exact c1) 0
      refine ⟨(i + 1, w.set i (w.getD i 0 ||| wl.getD i 0)), ⟨by simp only; omega, hok.or c1 (h.okl.get c1), fun j hj => ?_⟩, by simp only; omega, ?_⟩
      · simp only
        rw [bit_or hok c1, hbit j hj]
        by_cases hj1 : j / 64 < i
        · have : ¬ j / 64 = i := by omega
          have h2 : j / 64 < i + 1 := by omega
          simp [hj1, this, h2]
        · by_cases hj2 : j / 64 = i
          · have h2 : j / 64 < i + 1 := by omega
            simp [hj2]
          · have h2 : ¬ j / 64 < i + 1 := by omega
            simp [hj1, hj2, h2]
      · have e := ior_nat (hok.get c1) (h.okl.get c1)
        rw [List.map_set]
        generalize w.getD i 0 ||| wl.getD i 0 = y at *
        generalize w.getD i 0 = x at *
        generalize wl.getD i 0 = z at *
        have hs : ∀ b, (s.hp.set a b)[a]? = some b := fun b => List.getElem?_set_self ha
        simp only [go_sem, b_frames_Frames_Settle_0, d1, d2]
        rw [Int.toNat_natCast]
        simp only [go_sem, hg, hs, d1, d2]
        rw [Int.toNat_natCast]
        simp only [go_sem, hg2, e, d4, List.set_set]
        rfl
    · right
      have : i = 16 := by omega
      subst this
      refine ⟨_, ?_, w, rfl, hok, fun j hj => ?_⟩
      · simp only [go_sem, b_frames_Frames_Settle_0]
      · rw [hbit j hj]
        have : j / 64 < 16 := by omega
        simp [this]
  obtain ⟨_, hl, w, rfl, hok, hbit⟩ := loop
  have e0 : s.hp.set a (.rw (.agg 80 [.int .i64 f, .int .i64 l, .agg 78 (wf.map cN), .agg 78 (wl.map cN)])) = s.hp := by
    apply List.ext_getElem?
    intro j
    by_cases e : a = j
    · subst e; rw [List.getElem?_set_self ha]; exact hb.symm
    · rw [List.getElem?_set_ne e]
  rw [e0] at hl
  refine ⟨w, hok, hbit, ?_⟩
  have hs : ∀ b, (s.hp.set a b)[a]? = some b := fun b => List.getElem?_set_self ha
  rw [w16_nil, rf_o D_frames_Frames_Settle rfl]
  have hl' : rc D s.loc.length (.loop [0, 7, 8] b_frames_Frames_Settle_0) [(0, .ptr (.hp a) [] 80), (7, .agg 78 (wl.map cN)), (8, .int .i64 0)] s = _ := hl
  simp only [go_sem, hb, hl', hs, List.set_set]
end Go.Proofs.YtfdaihhnlohckaaDoor
