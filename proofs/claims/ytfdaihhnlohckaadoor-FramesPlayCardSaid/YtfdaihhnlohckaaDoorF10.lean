/-
  FramesJ: the law FramesOnce.
-/
import Derived.Test.YtfdaihhnlohckaaDoorF9
set_option maxRecDepth 100000
namespace Go.Proofs.YtfdaihhnlohckaaDoor
open Go.Ab

def opV (x : Int × Int) : V := .agg 34 [.int .i64 x.1, .int .i64 x.2]
def tkV : V := .sl (.loc 0) [] 0 20 (some 20) 0
theorem getD_setB {B : List Bool} {i j : Nat} {v : Bool} (hi : i < B.length) : (B.set i v).getD j false = if i = j then v else B.getD j false := by
  rw [List.getD_eq_getElem?_getD, List.getD_eq_getElem?_getD, List.getElem?_set]
  by_cases h : i = j
  · subst h; simp [hi]
  · simp [h]
theorem once_sub (H : List Blk) (v : V) (hv : v.locLt 1 = true) (i : Int) (t0 : List Bool) (ht0 : t0.length = 20) (w : List Nat) (hok : OkS w) :
    ∃ r, rc D 0 (.loop [0, 4, 6, 7, 11] b_steadfastlaw04_FramesOnce_1) [(0, v), (4, .ptr (.hp H.length) [] 80), (6, tkV), (7, .int .i64 i), (11, .int .i64 4)] ⟨[.rw (.agg 20 (t0.map .bool))], H ++ [.rw (frV 4 20 w (w16 []))]⟩ = some r ∧
      ∃ t : List Bool, r = (.exit 3, [(0, v), (4, .ptr (.hp H.length) [] 80), (6, tkV), (7, .int .i64 i), (11, .int .i64 20), (99, .bool false)], ⟨[.rw (.agg 20 (t.map .bool))], H ++ [.rw (frV 4 20 w (w16 []))]⟩) ∧
        t.length = 20 ∧ ∀ j, 4 ≤ j → j < 20 → t.getD j false = (t0.getD j false && !bit w j) := by
  refine loop_ex (fun x : Nat × List Bool => [(0, v), (4, .ptr (.hp H.length) [] 80), (6, tkV), (7, .int .i64 i), (11, .int .i64 x.1)]) (fun x => ⟨[.rw (.agg 20 (x.2.map .bool))], H ++ [.rw (frV 4 20 w (w16 []))]⟩) _ (fun x => 20 - x.1)
    (fun x => 4 ≤ x.1 ∧ x.1 ≤ 20 ∧ x.2.length = 20 ∧ ∀ j, 4 ≤ j → j < 20 → x.2.getD j false = (t0.getD j false && !(decide (j < x.1) && bit w j))) (4, t0) ?_ ⟨by simp, by simp, ht0, fun j h1 h2 => (by have : ¬ j < 4 := (by omega); simp [this])⟩ rfl rfl
  rintro ⟨k, t⟩ ⟨hk4, hk, ht, hb⟩
  simp only at hk4 hk ht hb
  by_cases c1 : k < 20
  · left
    have d1 : (k : Int) < 20 := by omega
    have d2 : (0 : Int) ≤ k := by omega
    have d4 : IntKind.i64.wrap ((k : Int) + 1) = (k : Int) + 1 := i64_id (by omega) (by omega)
    have hfr := fr_at (H := H) (L := [.rw (.agg 20 (t.map .bool))]) (f := 4) (l := 20) (wf := w) (wl := w16 []) (by decide) (by decide) hok ok_nil
    have r3 := rf_State hfr k
    have hg := get_map (f := V.bool) (l := t) (i := k) (by omega) false
    have hs : stOf 4 20 w (w16 []) (k : Int) = if bit w k then 0 else 1 := by
      unfold stOf
      rw [if_neg (by omega), Int.toNat_natCast, bit_nil]
      simp
    rw [hs] at r3
    cases hbk : bit w k
    · rw [hbk] at r3
      simp only [Bool.false_eq_true, if_false] at r3
      refine ⟨(k + 1, t), ⟨by simp only; omega, by simp only; omega, ht, fun j h1 h2 => ?_⟩, by simp only; omega, ?_⟩
      · simp only
        rw [hb j h1 h2]
        by_cases hjk : j = k
        · subst hjk; simp [hbk]
        · have : decide (j < k + 1) = decide (j < k) := decide_eq_decide.2 (by omega)
          rw [this]
      · simp only [tkV]
        simp only [go_sem, b_steadfastlaw04_FramesOnce_1, d1, r3, d4, hv]
        rfl
    · rw [hbk] at r3
      simp only [if_true] at r3
      refine ⟨(k + 1, t.set k false), ⟨by simp only; omega, by simp only; omega, by simpa using ht, fun j h1 h2 => ?_⟩, by simp only; omega, ?_⟩
      · simp only
        rw [getD_setB (by omega), hb j h1 h2]
        by_cases hjk : k = j
        · subst hjk; simp [hbk]
        · have : decide (j < k + 1) = decide (j < k) := decide_eq_decide.2 (by omega)
          rw [this]; simp [hjk]
      · simp only [tkV, List.map_set]
        simp only [go_sem, b_steadfastlaw04_FramesOnce_1, d1, d2, r3, sadv]
        rw [Int.toNat_natCast]
        simp only [go_sem, hg, d4, hv]
        rfl
  · right
    have : k = 20 := by omega
    subst this
    refine ⟨_, ?_, t, rfl, ht, fun j h1 h2 => ?_⟩
    · simp only [tkV]
      simp only [go_sem, b_steadfastlaw04_FramesOnce_1]
    · rw [hb j h1 h2]; simp [h2]
theorem sad_tk {m : Nat} (h : m < 20) : sadv 0 (.sl (.loc 0) [] 0 20 (some 20) 0) (.int .i64 (m : Int)) = some (.ptr (.loc 0) [m] 0) := by
  have h2 : (m : Int) < 20 := by omega
  simp [sadv, h2]
theorem inE_no {st want : Int} (h : st ≠ want) : ¬ inE st want = 0 := by
  unfold inE
  split
  · decide
  · simp
/-- What holds ahead of each call. -/
structure Once (t : List Bool) (wf wl : List Nat) : Prop where
  len : t.length = 20
  okf : OkS wf
  okl : OkS wl
  inf : ∀ j, j < 1024 → bit wf j = true → 4 ≤ j ∧ j < 20
  inl : ∀ j, j < 1024 → bit wl j = true → 4 ≤ j ∧ j < 20
  tk : ∀ j, 4 ≤ j → j < 20 → t.getD j false = !bit wf j
theorem once_loop (H : List Blk) (hG : ∀ x, (H ++ [x])[0]? = some (.ro globV_0)) (v : V) (lo : List (Int × Int)) (hlo : ∀ x ∈ lo, (-9223372036854775808 ≤ x.1 ∧ x.1 ≤ 9223372036854775807) ∧ -9223372036854775808 ≤ x.2 ∧ x.2 ≤ 9223372036854775807)
    (hv : v.locLt 1 = true) (hrs : ∀ L x, RS ⟨L, H ++ [x]⟩ 34 v (lo.map opV)) (t0 : List Bool) (wf0 : List Nat) (h0 : Once t0 wf0 (w16 [])) :
    ∃ r, rc D 0 (.loop [0, 4, 6, 7] b_steadfastlaw04_FramesOnce_0) [(0, v), (4, .ptr (.hp H.length) [] 80), (6, tkV), (7, .int .i64 0)] ⟨[.rw (.agg 20 (t0.map .bool))], H ++ [.rw (frV 4 20 wf0 (w16 []))]⟩ = some r ∧
      ∃ (i : Nat) (t : List Bool) (wf wl : List Nat), r = (.exit 0, [(0, v), (4, .ptr (.hp H.length) [] 80), (6, tkV), (7, .int .i64 i), (31, .bool false)], ⟨[.rw (.agg 20 (t.map .bool))], H ++ [.rw (frV 4 20 wf wl)]⟩) := by
  refine loop_ex (fun x : Nat × List Bool × List Nat × List Nat => [(0, v), (4, .ptr (.hp H.length) [] 80), (6, tkV), (7, .int .i64 x.1)]) (fun x => ⟨[.rw (.agg 20 (x.2.1.map .bool))], H ++ [.rw (frV 4 20 x.2.2.1 x.2.2.2)]⟩) _ (fun x => 150 - x.1)
    (fun x => x.1 ≤ 150 ∧ Once x.2.1 x.2.2.1 x.2.2.2) (0, t0, wf0, w16 []) ?_ ⟨by simp, h0⟩ rfl rfl
  rintro ⟨i, t, wf, wl⟩ ⟨hi, ho⟩
  simp only at hi ho
  have hrr := hrs [.rw (.agg 20 (t.map .bool))] (.rw (frV 4 20 wf wl))
  have hs := hrr.slen
  rw [List.length_map] at hs
  by_cases c1 : i < lo.length
  · by_cases c2 : i < 150
    · left
      have d1 : (i : Int) < lo.length := by omega
      have d2 : (i : Int) < 150 := by omega
      have d4 : IntKind.i64.wrap ((i : Int) + 1) = (i : Int) + 1 := i64_id (by omega) (by omega)
      have hg := get_map (f := opV) c1 (0, 0)
      obtain ⟨hx1, hx2⟩ := hlo _ (getD_mem c1 (0, 0))
      generalize lo.getD i (0, 0) = x at *
      obtain ⟨kd, ln⟩ := x
      simp only [opV] at hg hx1 hx2
      have k1 := fun s => rf_kind ln 16 hx2.1 hx2.2 (by decide) s
      have k2 := fun s => rf_kind kd 5 hx1.1 hx1.2 (by decide) s
      have kl1 := kind_lt ln 16 (by decide)
      have kl2 := kind_lt kd 5 (by decide)
      obtain ⟨n, hn⟩ : ∃ n : Nat, 4 + kindI ln 16 = n := ⟨(4 + kindI ln 16).toNat, by omega⟩
      have e1 : IntKind.i64.wrap (4 + kindI ln 16) = n := by rw [i64_id (by omega) (by omega)]; exact hn
      have hn4 : 4 ≤ n := by omega
      have hn20 : n < 20 := by omega
      have dn1 : (n : Int) < 20 := by omega
      have dn2 : (0 : Int) ≤ n := by omega
      clear hn
      generalize kindI kd 5 = q at *
      generalize kindI ln 16 = u at *
      have hfr := fr_at (H := H) (L := [.rw (.agg 20 (t.map .bool))]) (f := 4) (l := 20) (wf := wf) (wl := wl) (by decide) (by decide) ho.okf ho.okl
      have hgn := get_map (f := V.bool) (l := t) (i := n) (by rw [ho.len]; exact hn20) false
      by_cases q01 : q = 0 ∨ q = 1
      · rcases rf_Alloc hfr (hG _) with ⟨m, h1, ha⟩ | ⟨he, ha⟩
        · simp only [app_set0, List.set_cons_zero] at ha
          have hm := ho.inf m h1.lt h1.set
          have htm : t.getD m false = false := by rw [ho.tk m hm.1 hm.2, h1.set]; rfl
          have hgm := get_map (f := V.bool) (l := t) (i := m) (by rw [ho.len]; exact hm.2) false
          rw [htm] at hgm
          have m1 : ¬ (m : Int) < 4 := by omega
          have m2 : ¬ 19 < (m : Int) := by omega
          have m3 : (m : Int) < 20 := by omega
          have m4 : (0 : Int) ≤ m := by omega
          refine ⟨(i + 1, t.set m true, flip wf m, wl), ⟨by simp only; omega, ⟨by simp [ho.len], ho.okf.flip h1.lt, ho.okl, fun j hj hb => ?_, ho.inl, fun j g1 g2 => ?_⟩⟩, by simp only; omega, ?_⟩
          · rw [bit_flip ho.okf h1.lt] at hb
            by_cases hmj : m = j
            · subst hmj; exact hm
            · simp only [hmj, decide_false, Bool.xor_false] at hb
              exact ho.inf j hj hb
          · rw [getD_setB (by rw [ho.len]; exact hm.2), bit_flip ho.okf h1.lt, ho.tk j g1 g2]
            by_cases hmj : m = j
            · subst hmj; simp [h1.set]
            · simp [hmj]
          · simp only [tkV, List.map_set]
            rcases q01 with rfl | rfl <;>
            · simp only [go_sem, b_steadfastlaw04_FramesOnce_0, hs, d1, d2, hrr.sadq hg, hrr.fadq hg, hrr.ldq hg, k1, k2, e1, ha, m1, m2, sad_tk hm.2, hgm, d4, hv]
              rfl
        · have hleft := rf_Left0 hfr he (hG _)
          refine ⟨(i + 1, t, wf, wl), ⟨by simp only; omega, ho⟩, by simp only; omega, ?_⟩
          simp only [tkV]
          rcases q01 with rfl | rfl <;>
          · simp only [go_sem, b_steadfastlaw04_FramesOnce_0, hs, d1, d2, hrr.sadq hg, hrr.fadq hg, hrr.ldq hg, k1, k2, e1, ha, hleft, d4, hv]
            rfl
      · have q0 : ¬ q = 0 := fun h => q01 (.inl h)
        have q1 : ¬ q = 1 := fun h => q01 (.inr h)
        have hst : ∀ w' wl', stOf 4 20 w' wl' (n : Int) = if bit w' n then 0 else if bit wl' n then 2 else 1 := fun w' wl' => by
          unfold stOf
          rw [if_neg (by omega), Int.toNat_natCast]
        have htn := ho.tk n hn4 hn20
        by_cases q2 : q = 2
        · subst q2
          by_cases hs1 : stOf 4 20 wf wl (n : Int) = 1
          · have r1 := rf_Free_ok hfr n hs1
            rw [Int.toNat_natCast] at r1
            simp only [app_set0, List.set_cons_zero] at r1
            have hbn : bit wf n = false := by
              rw [hst] at hs1
              cases hb : bit wf n
              · rfl
              · rw [hb] at hs1; simp at hs1
            rw [hbn] at htn
            rw [htn] at hgn
            refine ⟨(i + 1, t.set n false, flip wf n, wl), ⟨by simp only; omega, ⟨by simp [ho.len], ho.okf.flip (by omega), ho.okl, fun j hj hb => ?_, ho.inl, fun j g1 g2 => ?_⟩⟩, by simp only; omega, ?_⟩
            · rw [bit_flip ho.okf (by omega)] at hb
              by_cases hmj : n = j
              · subst hmj; exact ⟨hn4, hn20⟩
              · simp only [hmj, decide_false, Bool.xor_false] at hb
                exact ho.inf j hj hb
            · rw [getD_setB (by rw [ho.len]; exact hn20), bit_flip ho.okf (by omega), ho.tk j g1 g2]
              by_cases hmj : n = j
              · subst hmj; simp [hbn]
              · simp [hmj]
            · simp only [tkV, List.map_set]
              simp only [go_sem, b_steadfastlaw04_FramesOnce_0, hs, d1, d2, hrr.sadq hg, hrr.fadq hg, hrr.ldq hg, k1, k2, e1, r1, sad_tk hn20, hgn, d4, hv]
              rfl
          · have r1 := rf_Free_no hfr n hs1
            have hne := inE_no hs1
            refine ⟨(i + 1, t, wf, wl), ⟨by simp only; omega, ho⟩, by simp only; omega, ?_⟩
            simp only [tkV]
            simp only [go_sem, b_steadfastlaw04_FramesOnce_0, hs, d1, d2, hrr.sadq hg, hrr.fadq hg, hrr.ldq hg, k1, k2, e1, r1, hne, d4, hv]
            rfl
        · by_cases q3 : q = 3
          · subst q3
            by_cases hs1 : stOf 4 20 wf wl (n : Int) = 1
            · have r1 := rf_Later_ok hfr n hs1
              rw [Int.toNat_natCast] at r1
              simp only [app_set0, List.set_cons_zero] at r1
              refine ⟨(i + 1, t, wf, flip wl n), ⟨by simp only; omega, ⟨ho.len, ho.okf, ho.okl.flip (by omega), ho.inf, fun j hj hb => ?_, ho.tk⟩⟩, by simp only; omega, ?_⟩
              · rw [bit_flip ho.okl (by omega)] at hb
                by_cases hmj : n = j
                · subst hmj; exact ⟨hn4, hn20⟩
                · simp only [hmj, decide_false, Bool.xor_false] at hb
                  exact ho.inl j hj hb
              · simp only [tkV]
                simp only [go_sem, b_steadfastlaw04_FramesOnce_0, hs, d1, d2, hrr.sadq hg, hrr.fadq hg, hrr.ldq hg, k1, k2, e1, r1, d4, hv]
                rfl
            · have r1 := rf_Later_no hfr n hs1
              refine ⟨(i + 1, t, wf, wl), ⟨by simp only; omega, ho⟩, by simp only; omega, ?_⟩
              simp only [tkV]
              simp only [go_sem, b_steadfastlaw04_FramesOnce_0, hs, d1, d2, hrr.sadq hg, hrr.fadq hg, hrr.ldq hg, k1, k2, e1, r1, d4, hv]
              rfl
          · have q4 : q = 4 := by omega
            subst q4
            obtain ⟨w, hokw, hbw, r1⟩ := rf_Settle hfr
            simp only [app_set0, List.set_cons_zero] at r1
            obtain ⟨_, hsub, t', rfl, htl, htk⟩ := once_sub H v hv i t ho.len w hokw
            simp only [tkV] at hsub
            refine ⟨(i + 1, t', w, w16 []), ⟨by simp only; omega, ⟨htl, hokw, ok_nil, fun j hj hb => ?_, fun j hj hb => ?_, fun j g1 g2 => ?_⟩⟩, by simp only; omega, ?_⟩
            · rw [hbw j hj, Bool.or_eq_true] at hb
              rcases hb with hb | hb
              · exact ho.inf j hj hb
              · exact ho.inl j hj hb
            · rw [bit_nil] at hb; cases hb
            · simp only
              rw [htk j g1 g2, ho.tk j g1 g2, hbw j (by omega)]
              cases bit wf j <;> cases bit wl j <;> rfl
            · simp only [tkV]
              simp only [go_sem, b_steadfastlaw04_FramesOnce_0, hs, d1, d2, hrr.sadq hg, hrr.fadq hg, hrr.ldq hg, k1, k2, e1, r1, hsub, d4, hv]
              rfl
    · right
      have d1 : (i : Int) < lo.length := by omega
      have d2 : ¬ (i : Int) < 150 := by omega
      refine ⟨_, ?_, i, t, wf, wl, rfl⟩
      simp only [tkV]
      simp only [go_sem, b_steadfastlaw04_FramesOnce_0, hs, d1, d2]
  · right
    have d1 : ¬ (i : Int) < lo.length := by omega
    refine ⟨_, ?_, i, t, wf, wl, rfl⟩
    simp only [tkV]
    simp only [go_sem, b_steadfastlaw04_FramesOnce_0, hs, d1]
theorem op_of {hp : List Blk} {v : V} (h : (Sh.st 34 [.int .i64, .int .i64]).Fits hp v) : ∃ o : Int × Int, v = opV o ∧ (-9223372036854775808 ≤ o.1 ∧ o.1 ≤ 9223372036854775807) ∧ -9223372036854775808 ≤ o.2 ∧ o.2 ≤ 9223372036854775807 := by
  obtain ⟨vs, rfl, h⟩ := h
  obtain ⟨x, y, rfl, ⟨k, rfl, hk⟩, ⟨w, rfl, hw⟩⟩ := fits2 h
  exact ⟨(k, w), rfl, hk, hw⟩
theorem map_of {α : Type} {f : α → V} {P : α → Prop} {l : List V} (h : ∀ x ∈ l, ∃ a, x = f a ∧ P a) : ∃ la : List α, l = la.map f ∧ ∀ a ∈ la, P a := by
  induction l with
  | nil => exact ⟨[], rfl, by simp⟩
  | cons x l ih =>
    obtain ⟨a, rfl, ha⟩ := h x (List.mem_cons_self ..)
    obtain ⟨la, rfl, hl⟩ := ih fun y hy => h y (List.mem_cons_of_mem _ hy)
    refine ⟨a :: la, rfl, fun y hy => ?_⟩
    rcases List.mem_cons.1 hy with rfl | hy
    · exact ha
    · exact hl y hy
theorem bit_1048560 (j : Nat) : bit (w16 [1048560]) j = (decide (4 ≤ j) && decide (j < 20)) := by
  rw [bit_one]
  by_cases h : j < 64
  · have e : (List.range 64).all (fun j => (1048560 : Nat).testBit j == (decide (4 ≤ j) && decide (j < 20))) = true := by decide +kernel
    have := List.all_eq_true.1 e j (List.mem_range.2 h)
    simp only [h, decide_true, Bool.true_and]
    simpa using this
  · have : ¬ j < 20 := by omega
    simp [h, this]
theorem law_FramesOnce : ∀ hp vs, G <+: hp → Sh.FitsL hp [(.sl 36 (.st 34 [(.int .i64), (.int .i64)]))] vs → ∃ s', rf D f_steadfastlaw04_FramesOnce vs ⟨[], hp⟩ = some (.bool true, s') := by
  intro hp vs hpre hf
  obtain ⟨v, rfl, hv⟩ := fits1 hf
  obtain ⟨l, hrs, hlt, hlen, hfit⟩ := rs_of_fits hv
  obtain ⟨lo, rfl, hlo⟩ := map_of (f := opV) (fun x hx => op_of (hfit x hx))
  have hG : hp[0]? = some (.ro globV_0) := by
    obtain ⟨t, rfl⟩ := hpre
    rfl
  obtain ⟨more, hsh⟩ := rf_shown (s := ⟨[], hp⟩) hG
  have hG1 : (hp ++ more)[0]? = some (.ro globV_0) := by
    rw [List.getElem?_append_left (List.getElem?_eq_some_iff.1 hG).1]; exact hG
  have hnew := rf_New_of rfl ev_New20 frV_flat (s := ⟨[], hp ++ more⟩) hG1
  have hrr : ∀ L x, RS ⟨L, (hp ++ more) ++ [x]⟩ 34 v (lo.map opV) := fun L x => hrs.more ⟨by simp, by rw [List.append_assoc]; exact List.prefix_append _ _⟩
  simp only at hsh hnew
  generalize hp ++ more = H at *
  have hG2 : ∀ x, (H ++ [x])[0]? = some (.ro globV_0) := fun x => by
    rw [List.getElem?_append_left (List.getElem?_eq_some_iff.1 hG1).1]; exact hG1
  have h0 : Once (List.replicate 20 false) (w16 [1048560]) (w16 []) := by
    refine ⟨by simp, ok_w16 (by decide) (by decide), ok_nil, fun j hj hb => ?_, fun j hj hb => ?_, fun j g1 g2 => ?_⟩
    · rw [bit_1048560] at hb
      simpa using hb
    · rw [bit_nil] at hb; cases hb
    · rw [bit_1048560, List.getD_eq_getElem?_getD, List.getElem?_replicate]
      simp [g1, g2]
  obtain ⟨_, hl, i, t, wf, wl, rfl⟩ := once_loop H hG2 v lo hlo (locLt_mono (Nat.zero_le _) hlt) hrr _ _ h0
  simp only [tkV, List.map_replicate] at hl
  refine ⟨⟨[], H ++ [.rw (frV 4 20 wf wl)]⟩, ?_⟩
  rw [rf_o D_steadfastlaw04_FramesOnce rfl]
  have hm : (20 : Int) ≤ (most : Nat) := by decide
  simp only [go_sem, hsh, hnew, hm, hl]
end Go.Proofs.YtfdaihhnlohckaaDoor
