/-
  FramesD: New, Left of nothing, the law FramesFirst.
-/
import Derived.Test.YtfdaihhnlohckaaDoorF3
set_option maxRecDepth 100000
namespace Go.Proofs.YtfdaihhnlohckaaDoor
open Go.Ab

theorem G_pre {s : St} (hG : s.hp[0]? = some (.ro globV_0)) : G <+: s.hp := by
  cases h : s.hp with
  | nil => rw [h] at hG; simp at hG
  | cons b t =>
    rw [h] at hG
    simp only [List.getElem?_cons_zero, Option.some.injEq] at hG
    subst hG
    exact ⟨t, rfl⟩
theorem G_ro : ∀ b ∈ G, ∃ v, b = .ro v ∧ v.flat = true := by
  intro b hb
  simp only [G, List.mem_singleton] at hb
  exact ⟨globV_0, hb, by kernel_rfl⟩
theorem rf_New_of {args : List V} {f l : Int} {wf wl : List Nat} (ha : V.flats args = true) (h : ev D 3000 (.f f_frames_New args) ⟨[], G⟩ = some (.v (.tup [.ptr (.hp 1) [] 80, .int .i64 0]) ⟨[], G ++ [.rw (frV f l wf wl)]⟩))
    (hflat : (frV f l wf wl).flat = true) {s : St} (hG : s.hp[0]? = some (.ro globV_0)) :
    rf D f_frames_New args s = some (.tup [.ptr (.hp s.hp.length) [] 80, .int .i64 0], ⟨s.loc, s.hp ++ [.rw (frV f l wf wl)]⟩) := by
  obtain ⟨x, hx⟩ := G_pre hG
  obtain ⟨g1, _⟩ := shift (F := ⟨G, s.loc, x⟩) ⟨G_ro⟩ D_clos 3000 (.f f_frames_New args) ⟨[], G⟩ _ rfl (by simp [Sft.In]) h
  rw [rf_def]
  refine run_of_ev (n := 3000) ?_
  have e2 : Sft.v ⟨G, s.loc, x⟩ (.tup [.ptr (.hp 1) [] 80, .int .i64 0]) = .tup [.ptr (.hp s.hp.length) [] 80, .int .i64 0] := by
    simp only [Sft.v, Sft.vs, Sft.a, ← hx, List.length_append]
    rw [if_neg (by decide)]
    rfl
  simp only [Sft.t, vs_flat ha, Sft.r, e2, Sft.s, List.map_nil, List.append_nil, List.drop_length, List.drop_left, List.map_cons, Sft.b, v_flat hflat, hx] at g1
  exact g1
theorem flat_of {w : List Nat} : V.flats (w.map cN) = true := by
  induction w with
  | nil => rfl
  | cons a w ih => simp [V.flats, V.flat, ih]
theorem frV_flat {f l : Int} {wf wl : List Nat} : (frV f l wf wl).flat = true := by
  simp [frV, V.flat, V.flats, flat_of]
theorem rf_shown {s : St} (hG : s.hp[0]? = some (.ro globV_0)) : ∃ more, rf D f_steadfastlaw04_shown [] s = some (.bool true, ⟨s.loc, s.hp ++ more⟩) :=
  rf_anywhere G_ro D_clos rfl rfl ev_shown (G_pre hG)
theorem ev_ones0 : ev D 100 (.f f_math_bits_OnesCount64 [.int .u64 0]) ⟨[], G⟩ = some (.v (.int .i64 0) ⟨[], G⟩) := by kernel_rfl
theorem rf_ones0 {s : St} (hG : s.hp[0]? = some (.ro globV_0)) : rf D f_math_bits_OnesCount64 [.int .u64 0] s = some (.int .i64 0, s) :=
  rf_anywhere0 G_ro D_clos rfl rfl ev_ones0 (G_pre hG)
theorem empty_word {w : List Nat} (hw : OkS w) (h : Empty w) {q : Nat} (hq : q < 16) : w.getD q 0 = 0 := by
  apply Nat.eq_of_testBit_eq
  intro k
  rw [Nat.zero_testBit]
  by_cases hk : k < 64
  · have := h (64 * q + k) (by omega)
    unfold bit at this
    rw [show (64 * q + k) / 64 = q by omega, show (64 * q + k) % 64 = k by omega] at this
    exact this
  · exact Nat.testBit_lt_two_pow (Nat.lt_of_lt_of_le (hw.get hq) (show 2 ^ 64 ≤ 2 ^ k from Nat.pow_le_pow_right (by decide) (by omega)))
theorem rf_Left0 {s : St} {a : Nat} {f l : Int} {wf wl : List Nat} (h : Fr s a f l wf wl) (he : Empty wf) (hG : s.hp[0]? = some (.ro globV_0)) :
    rf D f_frames_Frames_Left [.ptr (.hp a) [] 80] s = some (.int .i64 0, s) := by
  have hb := h.blk
  have hlen := h.okf.len
  simp only [frV] at hb ⊢
  have loop : rc D s.loc.length (.loop [3, 9, 10] b_frames_Frames_Left_0) [(3, .int .i64 0), (9, .agg 78 (wf.map cN)), (10, .int .i64 0)] s =
      some (.exit 0, [(3, .int .i64 0), (9, .agg 78 (wf.map cN)), (10, .int .i64 16), (11, .bool false)], s) := by
    refine loop_runs (fun x : Nat => [(3, .int .i64 0), (9, .agg 78 (wf.map cN)), (10, .int .i64 x)]) (fun _ => s) (fun _ => _) (fun x => 16 - x) (fun x => x ≤ 16) 0 ?_ (by omega) rfl rfl
    intro i hi
    by_cases c1 : i < 16
    · left
      have d1 : (i : Int) < 16 := by omega
      have d2 : (0 : Int) ≤ i := by omega
      have d4 : IntKind.i64.wrap ((i : Int) + 1) = (i : Int) + 1 := i64_id (by omega) (by omega)
      have hg := get_map (f := cN) (l := wf) (i := i) (by omega) 0
      rw [empty_word h.okf he c1] at hg
      have h1 := rf_ones0 hG
      refine ⟨i + 1, by omega, by omega, rfl, ?_⟩
      simp only [go_sem, b_frames_Frames_Left_0, d1, d2]
      rw [Int.toNat_natCast]
      have hg' : (wf.map cN)[i]? = some (.int .u64 0) := hg
      simp only [go_sem, hg', h1, d4]
      rfl
    · right
      have : i = 16 := by omega
      subst this
      simp only [go_sem, b_frames_Frames_Left_0]
  rw [rf_o D_frames_Frames_Left rfl]
  simp only [go_sem, hb, loop]
end Go.Proofs.YtfdaihhnlohckaaDoor
