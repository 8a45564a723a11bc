/-
  FramesQ: the law FramesPlay.
-/
import Derived.Test.YtfdaihhnlohckaaDoorF16
set_option maxRecDepth 100000
namespace Go.Proofs.YtfdaihhnlohckaaDoor
open Go.Ab

theorem play_last {hp : List Blk} {a b c : Nat} {f l : Int} {wf wl : List Nat} {S : List Int} (h : Pl hp a b c f l wf wl S) :
    rc D 0 (.loop [0, 1, 8, 10, 19] b_steadfastlaw04_FramesPlay_1) [(0, .int .i64 f), (1, .int .i64 l), (8, .ptr (.hp a) [] 80), (10, .ptr (.hp b) [] 21), (19, .int .i64 0)] ⟨[], hp⟩ =
      some (.exit 3, [(0, .int .i64 f), (1, .int .i64 l), (8, .ptr (.hp a) [] 80), (10, .ptr (.hp b) [] 21), (19, .int .i64 (S.length : Nat)), (161, .bool false)], ⟨[], hp⟩) := by
  have h0 := h.f0
  have hl := h.len
  have h1 := h.l1
  have hb := h.rb
  have hc := h.sb
  simp only [rfV] at hb
  refine loop_runs (fun x : Nat => [(0, .int .i64 f), (1, .int .i64 l), (8, .ptr (.hp a) [] 80), (10, .ptr (.hp b) [] 21), (19, .int .i64 x)]) (fun _ => ⟨[], hp⟩) (fun _ => _) (fun x => S.length - x) (fun x => x ≤ S.length) 0 ?_ (by omega) rfl rfl
  intro i hi
  by_cases c1 : i < S.length
  · left
    have d1 : (i : Int) < (S.length : Nat) := by omega
    have d4 : IntKind.i64.wrap ((i : Int) + 1) = (i : Int) + 1 := i64_id (by omega) (by omega)
    have d5 : IntKind.i64.wrap (f + (i : Int)) = f + i := i64_id (by omega) (by omega)
    have hg := get_map (f := V.int .i64) (l := S) c1 0
    have r := rf_State (h.fr (L := [])) (f + i)
    have e : stOf f l wf wl (f + i) = S.getD i 0 := by
      rw [← h.same]
      unfold stS
      rw [if_neg (by omega), show (f + (i : Int) - f).toNat = i by omega]
    rw [e] at r
    refine ⟨i + 1, by omega, by omega, rfl, ?_⟩
    generalize S.getD i 0 = x at *
    simp only [go_sem, b_steadfastlaw04_FramesPlay_1, hb, d1, d5, r, sad_r c1, hc, hg, eq_self, decide_true, d4]
    rfl
  · right
    have : i = S.length := by omega
    subst this
    have d1 : ¬ ((S.length : Nat) : Int) < (S.length : Nat) := by omega
    simp only [go_sem, b_steadfastlaw04_FramesPlay_1, hb, d1]
theorem law_FramesPlay : ∀ hp vs, G <+: hp → Sh.FitsL hp [(.int .i64), (.int .i64), (.sl 36 (.st 34 [(.int .i64), (.int .i64)]))] vs → ∃ s', rf D f_steadfastlaw04_FramesPlay vs ⟨[], hp⟩ = some (.bool true, s') := by
  intro hp vs hpre hf
  obtain ⟨_, _, v, rfl, ⟨f, rfl, hf0, hf1⟩, ⟨l, rfl, hl0, hl1⟩, hv⟩ := fits3 hf
  obtain ⟨_, hrs, hlt, hlen, hfit⟩ := rs_of_fits hv
  obtain ⟨lo, rfl, hlo⟩ := map_of (f := opV) (fun x hx => op_of (hfit x hx))
  have hG : hp[0]? = some (.ro globV_0) := by
    obtain ⟨t, rfl⟩ := hpre
    rfl
  obtain ⟨more, hsh⟩ := rf_shown (s := ⟨[], hp⟩) hG
  have hG1 : (hp ++ more)[0]? = some (.ro globV_0) := by
    rw [List.getElem?_append_left (List.getElem?_eq_some_iff.1 hG).1]; exact hG
  have hrr : RS ⟨[], hp ++ more⟩ 34 v (lo.map opV) := hrs.more ⟨by simp, List.prefix_append _ _⟩
  simp only at hsh
  generalize hp ++ more = H at *
  by_cases bad : f < 0 ∨ l < f ∨ 1024 < l
  · have n1 := fun s => rf_New_err f l bad s
    have n2 := fun s => rf_rNew_err f l bad s
    refine ⟨⟨[], H⟩, ?_⟩
    rw [rf_o D_steadfastlaw04_FramesPlay rfl]
    simp only [go_sem, hsh, n1, n2]
  · obtain ⟨w, hokw, hbw, n1⟩ := rf_New_ok f l (by omega) (by omega) (by omega) ⟨[], H⟩
    have n2 := rf_rNew_ok f l (by omega) (by omega) (by omega) ⟨[], H ++ [.rw (frV f l w (w16 []))]⟩
    simp only [List.length_append, List.length_cons, List.length_nil, Nat.zero_add] at n1 n2
    obtain ⟨n, hn⟩ : ∃ n : Nat, l - f = n := ⟨(l - f).toNat, by omega⟩
    rw [hn, Int.toNat_natCast] at n2
    have P : Pl (H ++ [.rw (frV f l w (w16 []))] ++ [.rw (.agg 38 (List.replicate n (.int .i64 0))), .rw (rfV f (H.length + 1) n)]) H.length (H.length + 1 + 1) (H.length + 1) f l w (w16 []) (List.replicate n 0) := by
      refine ⟨by rw [List.append_assoc]; exact app_get0, by rw [List.append_assoc, List.length_replicate]; exact app_get (i := 2), by rw [List.append_assoc, List.map_replicate]; exact app_get (i := 1), by omega, by omega, by omega, by simp [hn], hokw, ok_nil, fun j hj g => ?_, fun j hj g => (by rw [bit_nil] at g; cases g), fun j hj g => bit_nil j, fun k hk => ?_⟩
      · rw [hbw j hj] at g
        simp only [Bool.and_eq_true, decide_eq_true_eq] at g
        exact g
      · have hk' : k < n := by simpa using hk
        rw [hbw _ (by omega), List.getD_eq_getElem?_getD, List.getElem?_replicate, if_pos hk']
        have g1 : f ≤ ((f.toNat + k : Nat) : Int) := by omega
        have g2 : ((f.toNat + k : Nat) : Int) < l := by omega
        simp only [g1, g2, decide_true, Bool.and_self, if_true, Option.getD_some]
    obtain ⟨_, hl, x, hx, rfl⟩ := play_loop H hG1 _ (H.length + 1) (by omega) f l v lo hlo hlt hrr ⟨0, _, H.length, w, w16 [], List.replicate n 0⟩ ⟨by simp, P, by rw [List.append_assoc]; exact List.prefix_append _ _, Nat.le_refl _⟩
    obtain ⟨i, hp', a, wf, wl, S⟩ := x
    obtain ⟨_, P', _, _⟩ := hx
    simp only at P'
    have hlast := play_last P'
    have s1 := rf_State (P'.fr (L := [])) (f - 1)
    have s2 := rf_State (P'.fr (L := [])) l
    have e1 : stOf f l wf wl (f - 1) = -1 := by unfold stOf; rw [if_pos (.inl (by omega))]
    have e2 : stOf f l wf wl l = -1 := by unfold stOf; rw [if_pos (.inr (Int.le_refl l))]
    rw [e1] at s1
    rw [e2] at s2
    have d1 : IntKind.i64.wrap (f - 1) = f - 1 := i64_id (by omega) (by omega)
    simp only [PSt.env, List.cons_append, List.nil_append, Int.natCast_zero, List.append_assoc] at hl
    refine ⟨⟨[], hp'⟩, ?_⟩
    rw [rf_o D_steadfastlaw04_FramesPlay rfl]
    simp only [go_sem, hsh, n1, n2]
    simp only [go_sem, hl, hlast, s1, s2, d1]
end Go.Proofs.YtfdaihhnlohckaaDoor
