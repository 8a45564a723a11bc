/-
  FramesI: the law FramesLeft.
-/
import Derived.Test.YtfdaihhnlohckaaDoorF8
set_option maxRecDepth 100000
namespace Go.Proofs.YtfdaihhnlohckaaDoor
open Go.Ab

def kindI (c n : Int) : Int := (if c < 0 then -(c + 1) else c).tmod n
theorem rf_kind (c n : Int) (h0 : -9223372036854775808 ≤ c) (h1 : c ≤ 9223372036854775807) (hn : 0 < n) (s : St) : rf D f_steadfastlaw04_kind [.int .i64 c, .int .i64 n] s = some (.int .i64 (kindI c n), s) := by
  have hz : ¬ n = 0 := by omega
  unfold kindI
  rw [rf_o D_steadfastlaw04_kind rfl]
  by_cases hc : c < 0
  · have e1 : IntKind.i64.wrap (c + 1) = c + 1 := i64_id (by omega) (by omega)
    have e2 : IntKind.i64.wrap (0 - (c + 1)) = -(c + 1) := by rw [Int.zero_sub]; exact i64_id (by omega) (by omega)
    simp only [go_sem, hc, e1, e2, hz]
  · simp only [go_sem, hc, hz]
theorem kind_lt (c n : Int) (hn : 0 < n) : 0 ≤ kindI c n ∧ kindI c n < n := by
  unfold kindI
  refine ⟨Int.tmod_nonneg _ (by split <;> omega), Int.tmod_lt_of_pos _ hn⟩
theorem tops : ∀ a, a < 17 → (∀ k, k < 64 → (65536 - 2 ^ a : Nat).testBit k = (decide (a ≤ k) && decide (k < 16))) ∧ pc 64 (65536 - 2 ^ a) = 16 - a := by
  have h : (List.range 17).all (fun a => (List.range 64).all (fun k => (65536 - 2 ^ a : Nat).testBit k == (decide (a ≤ k) && decide (k < 16))) && (pc 64 (65536 - 2 ^ a) == 16 - a)) = true := by decide +kernel
  intro a ha
  have := List.all_eq_true.1 h a (List.mem_range.2 ha)
  simp only [Bool.and_eq_true] at this
  exact ⟨fun k hk => by simpa using List.all_eq_true.1 this.1 k (List.mem_range.2 hk), by simpa using this.2⟩
theorem tops1 : ∀ a x, a < 17 → x < a → (∀ k, k < 64 → (65536 - 2 ^ a + 2 ^ x : Nat).testBit k = ((decide (a ≤ k) && decide (k < 16)) || decide (k = x))) ∧ pc 64 (65536 - 2 ^ a + 2 ^ x) = 17 - a := by
  have h : (List.range 17).all (fun a => (List.range a).all fun x => (List.range 64).all (fun k => (65536 - 2 ^ a + 2 ^ x : Nat).testBit k == ((decide (a ≤ k) && decide (k < 16)) || decide (k = x))) && (pc 64 (65536 - 2 ^ a + 2 ^ x) == 17 - a)) = true := by decide +kernel
  intro a x ha hx
  have := List.all_eq_true.1 (List.all_eq_true.1 h a (List.mem_range.2 ha)) x (List.mem_range.2 hx)
  simp only [Bool.and_eq_true] at this
  exact ⟨fun k hk => by simpa using List.all_eq_true.1 this.1 k (List.mem_range.2 hk), by simpa using this.2⟩
theorem bit_full16 (j : Nat) : bit (w16 [65535]) j = decide (j < 16) := by
  rw [bit_one]
  have e : (65535 : Nat).testBit j = decide (j < 16) := Nat.testBit_two_pow_sub_one 16 j
  rw [e]
  by_cases h : j < 16
  · have : j < 64 := by omega
    simp [h, this]
  · simp [h]
theorem left_top {s : St} {a : Nat} {f l : Int} {wf wl : List Nat} (h : Fr s a f l wf wl) {k : Nat} (hk : k < 17) (hbit : ∀ j, j < 1024 → bit wf j = (decide (k ≤ j) && decide (j < 16))) :
    rf D f_frames_Frames_Left [.ptr (.hp a) [] 80] s = some (.int .i64 (16 - k : Nat), s) := by
  have hw0 : wf.getD 0 0 = 65536 - 2 ^ k := word_of h.okf (by omega) (Nat.lt_of_le_of_lt (Nat.sub_le 65536 _) (by decide)) fun j hj => by
    rw [Nat.mul_zero, Nat.zero_add, hbit j (by omega), (tops k hk).1 j hj]
  have e := rf_Left1 h fun q h1 h2 => word_of h.okf h2 (by decide) fun j hj => by
    have : ¬ 64 * q + j < 16 := by omega
    rw [hbit _ (by omega), Nat.zero_testBit]; simp [this]
  rw [hw0, (tops k hk).2] at e
  exact e
section
variable (H : List Blk) (hG : ∀ x, (H ++ [x])[0]? = some (.ro globV_0))
include hG in
theorem left_loop (which : Int) (k : Nat) (hk : k < 17) :
    ∃ r, rc D 0 (.loop [1, 6, 8, 9] b_steadfastlaw04_FramesLeft_0) [(1, .int .i64 which), (6, .ptr (.hp H.length) [] 80), (8, .int .i64 k), (9, .int .i64 0)] (fs H 0 16 (w16 [65535]) (w16 [])) = some r ∧
      ∃ wf : List Nat, r = (.exit 0, [(1, .int .i64 which), (6, .ptr (.hp H.length) [] 80), (8, .int .i64 k), (9, .int .i64 k), (31, .bool false)], fs H 0 16 wf (w16 [])) ∧ OkS wf ∧ ∀ j, j < 1024 → bit wf j = (decide (k ≤ j) && decide (j < 16)) := by
  refine loop_ex (fun x : Nat × List Nat => [(1, .int .i64 which), (6, .ptr (.hp H.length) [] 80), (8, .int .i64 k), (9, .int .i64 x.1)]) (fun x => fs H 0 16 x.2 (w16 [])) _ (fun x => k - x.1)
    (fun x => x.1 ≤ k ∧ OkS x.2 ∧ ∀ j, j < 1024 → bit x.2 j = (decide (x.1 ≤ j) && decide (j < 16))) (0, w16 [65535]) ?_ ?_ rfl rfl
  · rintro ⟨i, wf⟩ ⟨hi, hok, hbit⟩
    simp only at hi hok hbit
    by_cases c1 : i < k
    · left
      have d1 : (i : Int) < k := by omega
      have d4 : IntKind.i64.wrap ((i : Int) + 1) = (i : Int) + 1 := i64_id (by omega) (by omega)
      have hfr := fr_at (H := H) (L := []) (f := 0) (l := 16) (wf := wf) (wl := w16 []) (by decide) (by decide) hok ok_nil
      have hi16 : i < 16 := by omega
      have hbi : bit wf i = true := by rw [hbit i (by omega)]; simp [hi16]
      have hbl : ∀ j, j < i → bit wf j = false := fun j hj => by
        have : ¬ i ≤ j := by omega
        rw [hbit j (by omega)]; simp [this]
      rcases rf_Alloc hfr (hG _) with ⟨n, h1, ha⟩ | ⟨he, _⟩
      · have hn := first_unique h1 (by omega) hbi hbl
        subst hn
        simp only [app_set0, List.set_cons_zero] at ha
        have hbit2 : ∀ j, j < 1024 → bit (flip wf n) j = (decide (n + 1 ≤ j) && decide (j < 16)) := fun j hj => by
          rw [bit_flip hok h1.lt, hbit j hj]
          by_cases hij : n = j
          · subst hij; simp [hi16]
          · have : decide (n + 1 ≤ j) = decide (n ≤ j) := decide_eq_decide.2 (by omega)
            simp [hij, this]
        have hfr2 := fr_at (H := H) (L := []) (f := 0) (l := 16) (wf := flip wf n) (wl := w16 []) (by decide) (by decide) (hok.flip h1.lt) ok_nil
        have hleft := left_top hfr2 (k := n + 1) (by omega) hbit2
        have d5 : IntKind.i64.wrap (15 - (n : Int)) = ((16 - (n + 1) : Nat) : Int) := by rw [i64_id (by omega) (by omega)]; omega
        generalize 16 - (n + 1) = t at *
        refine ⟨(n + 1, flip wf n), ⟨by simp only; omega, hok.flip h1.lt, hbit2⟩, by simp only; omega, ?_⟩
        simp only [fs]
        simp only [go_sem, b_steadfastlaw04_FramesLeft_0, d1, ha, d4, hleft, d5]
        rfl
      · rw [he i (by omega)] at hbi; cases hbi
    · right
      have : i = k := by omega
      subst this
      refine ⟨_, ?_, wf, rfl, hok, hbit⟩
      simp only [fs]
      have d1 : ¬ (i : Int) < i := by omega
      simp only [go_sem, b_steadfastlaw04_FramesLeft_0, d1]
  · refine ⟨by simp only; omega, ok_w16 (by decide) (by decide), fun j hj => ?_⟩
    simp only
    rw [bit_full16]; simp
end
theorem law_FramesLeft : ∀ hp vs, G <+: hp → Sh.FitsL hp [(.int .i64), (.int .i64)] vs → ∃ s', rf D f_steadfastlaw04_FramesLeft vs ⟨[], hp⟩ = some (.bool true, s') := by
  intro hp vs hpre hf
  obtain ⟨_, _, rfl, ⟨c, rfl, hc0, hc1⟩, ⟨which, rfl, hw0, hw1⟩⟩ := fits2 hf
  have hG : hp[0]? = some (.ro globV_0) := by
    obtain ⟨t, rfl⟩ := hpre
    rfl
  obtain ⟨more, hsh⟩ := rf_shown (s := ⟨[], hp⟩) hG
  have hG1 : (hp ++ more)[0]? = some (.ro globV_0) := by
    rw [List.getElem?_append_left (List.getElem?_eq_some_iff.1 hG).1]; exact hG
  have hnew := rf_New_of rfl ev_New16 frV_flat (s := ⟨[], hp ++ more⟩) hG1
  simp only at hsh hnew
  generalize hp ++ more = H at *
  have hG2 : ∀ x, (H ++ [x])[0]? = some (.ro globV_0) := fun x => by
    rw [List.getElem?_append_left (List.getElem?_eq_some_iff.1 hG1).1]; exact hG1
  have hkl := kind_lt c 17 (by decide)
  have hk1 := rf_kind c 17 hc0 hc1 (by decide)
  obtain ⟨k, hk⟩ : ∃ k : Nat, kindI c 17 = k := ⟨(kindI c 17).toNat, by omega⟩
  rw [hk] at hk1 hkl
  have hk17 : k < 17 := by omega
  obtain ⟨_, hl, wf, rfl, hokf, hbit⟩ := left_loop H hG2 which k hk17
  have hfr := fr_at (H := H) (L := []) (f := 0) (l := 16) (wf := wf) (wl := w16 []) (by decide) (by decide) hokf ok_nil
  simp only [fs] at hl
  by_cases k0 : k = 0
  · subst k0
    have hs : stOf 0 16 wf (w16 []) 0 = 0 := by
      unfold stOf
      rw [if_neg (by omega), show (0 : Int).toNat = 0 by rfl, hbit 0 (by omega)]
      simp
    have r1 := rf_Free_no hfr 0 (by rw [hs]; decide)
    rw [hs] at r1
    have e3 : inE 0 1 = 3 := rfl
    rw [e3] at r1
    refine ⟨⟨[], H ++ [.rw (frV 0 16 wf (w16 []))]⟩, ?_⟩
    rw [rf_o D_steadfastlaw04_FramesLeft rfl]
    have hl' := hl
    simp only [Int.natCast_zero] at hl' hk1
    simp only [go_sem, hsh, hnew, hk1, hl', r1]
  · have d0 : ¬ (k : Int) = 0 := by omega
    have hxl := kind_lt which k (by omega)
    have hk2 := rf_kind which k hw0 hw1 (by omega)
    obtain ⟨x, hx⟩ : ∃ x : Nat, kindI which k = x := ⟨(kindI which k).toNat, by omega⟩
    rw [hx] at hk2 hxl
    have hxk : x < k := by omega
    have hnk : ¬ k ≤ x := by omega
    have hbx : bit wf x = false := by rw [hbit x (by omega)]; simp [hnk]
    have hs1 : stOf 0 16 wf (w16 []) (x : Int) = 1 := by
      unfold stOf
      rw [if_neg (by omega), Int.toNat_natCast, hbx, bit_nil]; rfl
    have r1 := rf_Later_ok hfr x hs1
    rw [Int.toNat_natCast] at r1
    simp only [app_set0, List.set_cons_zero] at r1
    have hok2 := ok_nil.flip (i := x) (by omega)
    have hfr2 := fr_at (H := H) (L := []) (f := 0) (l := 16) (wf := wf) (wl := flip (w16 []) x) (by decide) (by decide) hokf hok2
    have r2 := left_top hfr2 hk17 hbit
    have hs2 : stOf 0 16 wf (flip (w16 []) x) (x : Int) = 2 := by
      unfold stOf
      rw [if_neg (by omega), Int.toNat_natCast, hbx, bit_flip ok_nil (by omega), bit_nil]; simp
    have r3 := rf_Free_no hfr2 x (by rw [hs2]; decide)
    rw [hs2] at r3
    have e3 : inE 2 1 = 3 := rfl
    rw [e3] at r3
    obtain ⟨w, hokw, hbw, r4⟩ := rf_Settle hfr2
    simp only [app_set0, List.set_cons_zero] at r4
    have hbit3 : ∀ j, j < 1024 → bit w j = ((decide (k ≤ j) && decide (j < 16)) || decide (j = x)) := fun j hj => by
      rw [hbw j hj, hbit j hj, bit_flip ok_nil (by omega), bit_nil]
      have : decide (x = j) = decide (j = x) := decide_eq_decide.2 (by omega)
      rw [this]; simp
    have hfr3 := fr_at (H := H) (L := []) (f := 0) (l := 16) (wf := w) (wl := w16 []) (by decide) (by decide) hokw ok_nil
    have hp2 : 2 ^ x ≤ 65536 := Nat.pow_le_pow_right (show 0 < 2 by decide) (show x ≤ 16 by omega)
    have hw0' : w.getD 0 0 = 65536 - 2 ^ k + 2 ^ x := word_of hokw (by omega) (Nat.lt_of_le_of_lt (Nat.add_le_add (Nat.sub_le 65536 _) hp2) (by decide)) fun j hj => by
      rw [Nat.mul_zero, Nat.zero_add, hbit3 j (by omega), (tops1 k x hk17 hxk).1 j hj]
    have r5 := rf_Left1 hfr3 fun q h1 h2 => word_of hokw h2 (by decide) fun j hj => by
      have h3 : ¬ 64 * q + j < 16 := by omega
      have h4 : ¬ 64 * q + j = x := by omega
      rw [hbit3 _ (by omega), Nat.zero_testBit]; simp [h3, h4]
    rw [hw0', (tops1 k x hk17 hxk).2] at r5
    have hbx3 : bit w x = true := by rw [hbit3 x (by omega)]; simp
    have hs4 : stOf 0 16 w (w16 []) (x : Int) = 0 := by
      unfold stOf
      rw [if_neg (by omega), Int.toNat_natCast, hbx3]; rfl
    have r6 := rf_State hfr3 x
    rw [hs4] at r6
    have r7 := rf_Take_ok hfr3 x hs4
    rw [Int.toNat_natCast] at r7
    simp only [app_set0, List.set_cons_zero] at r7
    have hfr4 := fr_at (H := H) (L := []) (f := 0) (l := 16) (wf := flip w x) (wl := w16 []) (by decide) (by decide) (hokw.flip (by omega)) ok_nil
    have hs5 : stOf 0 16 (flip w x) (w16 []) (x : Int) = 1 := by
      unfold stOf
      rw [if_neg (by omega), Int.toNat_natCast, bit_flip hokw (by omega), hbx3, bit_nil]; simp
    have r8 := rf_Take_no hfr4 x (by rw [hs5]; decide)
    rw [hs5] at r8
    have e4 : inE 1 0 = 3 := rfl
    rw [e4] at r8
    have d5 : IntKind.i64.wrap (16 - (k : Int)) = ((16 - k : Nat) : Int) := by rw [i64_id (by omega) (by omega)]; omega
    have d6 : IntKind.i64.wrap (17 - (k : Int)) = ((17 - k : Nat) : Int) := by rw [i64_id (by omega) (by omega)]; omega
    clear hw0' hp2
    generalize 16 - k = t1 at *
    generalize 17 - k = t2 at *
    refine ⟨⟨[], H ++ [.rw (frV 0 16 (flip w x) (w16 []))]⟩, ?_⟩
    rw [rf_o D_steadfastlaw04_FramesLeft rfl]
    simp only [go_sem, hsh, hnew, hk1, hl, d0, hk2, r1, r2, r3, r4, r5, r6, r7, r8, d5, d6]
end Go.Proofs.YtfdaihhnlohckaaDoor
