/-
  FramesK: how many are left, in general; New at any lines.
-/
import Derived.Test.YtfdaihhnlohckaaDoorF10
set_option maxRecDepth 100000
namespace Go.Proofs.YtfdaihhnlohckaaDoor
open Go.Ab

/-- How many bits of the first n words are set; of the first n lines. -/
def cntU (w : List Nat) : Nat → Nat
  | 0 => 0
  | n + 1 => cntU w n + pc 64 (w.getD n 0)
def nb (w : List Nat) : Nat → Nat
  | 0 => 0
  | n + 1 => nb w n + if bit w n then 1 else 0
theorem pc_succ (k x : Nat) : pc (k + 1) x = pc k x + if x.testBit k then 1 else 0 := by
  rw [pc_add k 1, Nat.testBit_eq_decide_div_mod_eq]
  simp only [pc, Nat.add_zero]
  by_cases h : x / 2 ^ k % 2 = 1
  · simp [h]
  · have : x / 2 ^ k % 2 = 0 := by omega
    simp [this]
theorem nb_part (w : List Nat) (q : Nat) : ∀ k, k ≤ 64 → nb w (64 * q + k) = nb w (64 * q) + pc k (w.getD q 0)
  | 0, _ => by simp [pc]
  | k + 1, hk => by
    have ih := nb_part w q k (by omega)
    rw [← Nat.add_assoc, pc_succ]
    simp only [nb]
    rw [ih]
    have : bit w (64 * q + k) = (w.getD q 0).testBit k := by
      unfold bit
      rw [show (64 * q + k) / 64 = q by omega, show (64 * q + k) % 64 = k by omega]
    rw [this, Nat.add_assoc]
theorem nb_cnt (w : List Nat) : ∀ q, nb w (64 * q) = cntU w q
  | 0 => rfl
  | q + 1 => by
    rw [show 64 * (q + 1) = 64 * q + 64 by omega, nb_part w q 64 (Nat.le_refl _), nb_cnt w q]
    rfl
theorem cnt_le (w : List Nat) : ∀ q, cntU w q ≤ 64 * q
  | 0 => Nat.le_refl _
  | q + 1 => by
    have := cnt_le w q
    have := pc_le 64 (w.getD q 0)
    simp only [cntU]
    omega
theorem rf_Left {s : St} {a : Nat} {f l : Int} {wf wl : List Nat} (h : Fr s a f l wf wl) :
    rf D f_frames_Frames_Left [.ptr (.hp a) [] 80] s = some (.int .i64 (nb wf 1024 : Nat), s) := by
  have hb := h.blk
  have hlen := h.okf.len
  rw [show (1024 : Nat) = 64 * 16 by rfl, nb_cnt]
  simp only [frV] at hb ⊢
  have loop : rc D s.loc.length (.loop [3, 9, 10] b_frames_Frames_Left_0) [(3, .int .i64 0), (9, .agg 78 (wf.map cN)), (10, .int .i64 0)] s =
      some (.exit 0, [(3, .int .i64 (cntU wf 16 : Nat)), (9, .agg 78 (wf.map cN)), (10, .int .i64 16), (11, .bool false)], s) := by
    refine loop_runs (fun x : Nat => [(3, .int .i64 (cntU wf x : Nat)), (9, .agg 78 (wf.map cN)), (10, .int .i64 x)]) (fun _ => s) (fun _ => _) (fun x => 16 - x) (fun x => x ≤ 16) 0 ?_ (by omega) rfl rfl
    intro i hi
    by_cases c1 : i < 16
    · left
      have d1 : (i : Int) < 16 := by omega
      have d2 : (0 : Int) ≤ i := by omega
      have d4 : IntKind.i64.wrap ((i : Int) + 1) = (i : Int) + 1 := i64_id (by omega) (by omega)
      have hg := get_map (f := cN) (l := wf) (i := i) (by omega) 0
      have h1 := fun s => rf_ones (h.okf.get c1) s
      have hle := cnt_le wf i
      have hle2 := pc_le 64 (wf.getD i 0)
      refine ⟨i + 1, by omega, by omega, rfl, ?_⟩
      simp only [cntU]
      generalize wf.getD i 0 = x at *
      generalize pc 64 x = y at *
      generalize cntU wf i = n at *
      have d5 : IntKind.i64.wrap ((n : Int) + (y : Int)) = ((n + y : Nat) : Int) := by rw [i64_id (by omega) (by omega)]; omega
      simp only [go_sem, b_frames_Frames_Left_0, d1, d2]
      rw [Int.toNat_natCast]
      simp only [go_sem, hg, h1, d4, d5]
      rfl
    · right
      have : i = 16 := by omega
      subst this
      simp only [go_sem, b_frames_Frames_Left_0]
  rw [rf_o D_frames_Frames_Left rfl]
  simp only [go_sem, hb, loop]
theorem rf_New_err (f l : Int) (h : f < 0 ∨ l < f ∨ 1024 < l) (s : St) : rf D f_frames_New [.int .i64 f, .int .i64 l] s = some (.tup [.nilp, .int .i64 1], s) := by
  rw [rf_o D_frames_New rfl]
  by_cases h1 : f < 0
  · simp only [go_sem, h1]
  · by_cases h2 : l < f
    · simp only [go_sem, h1, h2]
    · have h3 : 1024 < l := by omega
      simp only [go_sem, h1, h2, h3]
theorem rf_New_ok (f l : Int) (h0 : 0 ≤ f) (h1 : f ≤ l) (h2 : l ≤ 1024) (s : St) :
    ∃ w, OkS w ∧ (∀ j : Nat, j < 1024 → bit w j = (decide (f ≤ j) && decide ((j : Int) < l))) ∧
      rf D f_frames_New [.int .i64 f, .int .i64 l] s = some (.tup [.ptr (.hp s.hp.length) [] 80, .int .i64 0], ⟨s.loc, s.hp ++ [.rw (frV f l w (w16 []))]⟩) := by
  obtain ⟨a, rfl⟩ : ∃ n : Nat, f = n := ⟨f.toNat, by omega⟩
  obtain ⟨b, rfl⟩ : ∃ n : Nat, l = n := ⟨l.toNat, by omega⟩
  have loop : ∃ r, rc D s.loc.length (.loop [0, 6, 25, 26] b_frames_New_0) [(0, .int .i64 a), (6, .ptr (.hp s.hp.length) [] 80), (25, .int .i64 (b - a : Nat)), (26, .int .i64 0)] ⟨s.loc, s.hp ++ [.rw (frV a b (w16 []) (w16 []))]⟩ = some r ∧
      ∃ w : List Nat, r = (.exit 0, [(0, .int .i64 a), (6, .ptr (.hp s.hp.length) [] 80), (25, .int .i64 (b - a : Nat)), (26, .int .i64 (b - a : Nat)), (27, .bool false)], ⟨s.loc, s.hp ++ [.rw (frV a b w (w16 []))]⟩) ∧
        OkS w ∧ ∀ j : Nat, j < 1024 → bit w j = (decide (a ≤ j) && decide (j < b)) := by
    refine loop_ex (fun x : Nat × List Nat => [(0, .int .i64 a), (6, .ptr (.hp s.hp.length) [] 80), (25, .int .i64 (b - a : Nat)), (26, .int .i64 x.1)]) (fun x => ⟨s.loc, s.hp ++ [.rw (frV a b x.2 (w16 []))]⟩) _ (fun x => b - a - x.1)
      (fun x => x.1 ≤ b - a ∧ OkS x.2 ∧ ∀ j : Nat, j < 1024 → bit x.2 j = (decide (a ≤ j) && decide (j < a + x.1))) (0, w16 []) ?_ ⟨by simp, ok_nil, fun j hj => ?_⟩ rfl rfl
    · rintro ⟨i, w⟩ ⟨hi, hok, hbit⟩
      simp only at hi hok hbit
      by_cases c1 : i < b - a
      · left
        have d1 : (i : Int) < (b - a : Nat) := by omega
        have d4 : IntKind.i64.wrap ((i : Int) + 1) = (i : Int) + 1 := i64_id (by omega) (by omega)
        have e1 : IntKind.i64.wrap ((a : Int) + (i : Int)) = ((a + i : Nat) : Int) := by rw [i64_id (by omega) (by omega)]; omega
        have r1 := rf_turn2 ⟨s.loc, s.hp ++ [.rw (.agg 80 [.int .i64 a, .int .i64 b, .agg 78 (w.map cN), .agg 78 ((w16 []).map cN)])]⟩ s.hp.length (.int .i64 a) (.int .i64 b) (.agg 78 ((w16 []).map cN)) w hok (by simp) (a + i) (by omega)
        simp only [app_set0, List.set_cons_zero] at r1
        refine ⟨(i + 1, flip w (a + i)), ⟨by simp only; omega, hok.flip (by omega), fun j hj => ?_⟩, by simp only; omega, ?_⟩
        · simp only
          rw [bit_flip hok (by omega), hbit j hj]
          by_cases hij : a + i = j
          · subst hij
            simp
          · have : decide (j < a + (i + 1)) = decide (j < a + i) := decide_eq_decide.2 (by omega)
            simp [hij, this]
        · simp only [frV]
          generalize a + i = n at *
          simp only [go_sem, b_frames_New_0, d1, d4, e1, r1]
          rfl
      · right
        have : i = b - a := by omega
        subst this
        refine ⟨_, ?_, w, rfl, hok, fun j hj => ?_⟩
        · have d1 : ¬ ((b - a : Nat) : Int) < ((b - a : Nat) : Int) := by omega
          simp only [go_sem, b_frames_New_0, d1]
        · rw [hbit j hj, show a + (b - a) = b by omega]
    · simp only
      rw [bit_nil]
      by_cases h1 : a ≤ j
      · simp
      · simp [h1]
  obtain ⟨_, hl, w, rfl, hok, hbit⟩ := loop
  refine ⟨w, hok, fun j hj => ?_, ?_⟩
  · rw [hbit j hj]
    have e1 : decide ((a : Int) ≤ j) = decide (a ≤ j) := decide_eq_decide.2 (by omega)
    have e2 : decide ((j : Int) < b) = decide (j < b) := decide_eq_decide.2 (by omega)
    rw [e1, e2]
  · have c1 : ¬ (a : Int) < 0 := by omega
    have c2 : ¬ (b : Int) < a := by omega
    have c3 : ¬ 1024 < (b : Int) := by omega
    have e1 : IntKind.i64.wrap ((b : Int) - (a : Int)) = ((b - a : Nat) : Int) := by rw [i64_id (by omega) (by omega)]; omega
    simp only [frV, w16_nil] at hl ⊢
    generalize b - a = n at *
    rw [rf_o D_frames_New rfl]
    simp only [go_sem, c1, c2, c3, e1, hl]
end Go.Proofs.YtfdaihhnlohckaaDoor
