/-
  FramesH: the law FramesSettled.
-/
import Derived.Test.YtfdaihhnlohckaaDoorF7
set_option maxRecDepth 100000
namespace Go.Proofs.YtfdaihhnlohckaaDoor
open Go.Ab

theorem bit_full (j : Nat) : bit (w16 [4294967295]) j = decide (j < 32) := by
  rw [bit_one]
  have := Nat.testBit_two_pow_sub_one 32 j
  have e : (4294967295 : Nat).testBit j = decide (j < 32) := this
  rw [e]
  by_cases h : j < 32
  · have : j < 64 := by omega
    simp [h, this]
  · simp [h]
theorem ok_full : OkS (w16 [4294967295]) := ok_w16 (by decide) (by decide)
theorem ok_nil : OkS (w16 []) := ok_w16 (by decide) (by simp)
theorem first_unique {w : List Nat} {n m : Nat} (h : First w n) (_hm : m < 1024) (hs : bit w m = true) (hl : ∀ j, j < m → bit w j = false) : n = m := by
  rcases Nat.lt_trichotomy n m with h1 | h1 | h1
  · have := hl n h1; rw [h.set] at this; cases this
  · exact h1
  · have := h.less m h1; rw [hs] at this; cases this
section
variable (H : List Blk) (hG : ∀ x, (H ++ [x])[0]? = some (.ro globV_0))
include hG in
theorem settled0 (b : Nat) :
    ∃ r, rc D 0 (.loop [0, 4, 6] b_steadfastlaw04_FramesSettled_0) [(0, .int .u64 b), (4, .ptr (.hp H.length) [] 80), (6, .int .i64 0)] (fs H 0 32 (w16 [4294967295]) (w16 [])) = some r ∧
      ∃ wf : List Nat, r = (.exit 0, [(0, .int .u64 b), (4, .ptr (.hp H.length) [] 80), (6, .int .i64 32), (24, .bool false)], fs H 0 32 wf (w16 [])) ∧ OkS wf ∧ Empty wf := by
  refine loop_ex (fun x : Nat × List Nat => [(0, .int .u64 b), (4, .ptr (.hp H.length) [] 80), (6, .int .i64 x.1)]) (fun x => fs H 0 32 x.2 (w16 [])) _ (fun x => 32 - x.1)
    (fun x => x.1 ≤ 32 ∧ OkS x.2 ∧ ∀ j, j < 1024 → bit x.2 j = (decide (j < 32) && decide (x.1 ≤ j))) (0, w16 [4294967295]) ?_ ?_ rfl rfl
  · rintro ⟨i, wf⟩ ⟨hi, hok, hbit⟩
    simp only at hi hok hbit
    by_cases c1 : i < 32
    · left
      have d1 : (i : Int) < 32 := by omega
      have d4 : IntKind.i64.wrap ((i : Int) + 1) = (i : Int) + 1 := i64_id (by omega) (by omega)
      have hfr := fr_at (H := H) (L := []) (f := 0) (l := 32) (wf := wf) (wl := w16 []) (by decide) (by decide) hok ok_nil
      have hbi : bit wf i = true := by rw [hbit i (by omega)]; simp [c1]
      have hbl : ∀ j, j < i → bit wf j = false := fun j hj => by
        have : ¬ i ≤ j := by omega
        rw [hbit j (by omega)]; simp [this]
      rcases rf_Alloc hfr (hG _) with ⟨n, h1, ha⟩ | ⟨he, _⟩
      · have hn := first_unique h1 (by omega) hbi hbl
        subst hn
        simp only [app_set0, List.set_cons_zero] at ha
        refine ⟨(n + 1, flip wf n), ⟨by simp only; omega, hok.flip h1.lt, fun j hj => ?_⟩, by simp only; omega, ?_⟩
        · simp only
          rw [bit_flip hok h1.lt, hbit j hj]
          by_cases hij : n = j
          · subst hij; simp [c1]
          · have : decide (n + 1 ≤ j) = decide (n ≤ j) := decide_eq_decide.2 (by omega)
            simp [hij, this]
        · simp only [fs]
          simp only [go_sem, b_steadfastlaw04_FramesSettled_0, d1, ha, d4]
          rfl
      · rw [he i (by omega)] at hbi; cases hbi
    · right
      have : i = 32 := by omega
      subst this
      refine ⟨_, ?_, wf, rfl, hok, fun j hj => ?_⟩
      · simp only [fs]
        simp only [go_sem, b_steadfastlaw04_FramesSettled_0]
      · rw [hbit j hj]
        by_cases h : j < 32
        · have : ¬ 32 ≤ j := by omega
          simp [this]
        · simp [h]
  · refine ⟨by simp only; omega, ok_full, fun j hj => ?_⟩
    simp only
    rw [bit_full]; simp
theorem settled1 (b : Nat) (hb : b < 18446744073709551616) (wf : List Nat) (hokf : OkS wf) (he : Empty wf) :
    ∃ r, rc D 0 (.loop [0, 4, 7, 8] b_steadfastlaw04_FramesSettled_1) [(0, .int .u64 b), (4, .ptr (.hp H.length) [] 80), (7, .int .i64 0), (8, .int .i64 0)] (fs H 0 32 wf (w16 [])) = some r ∧
      ∃ wl : List Nat, r = (.exit 2, [(0, .int .u64 b), (4, .ptr (.hp H.length) [] 80), (7, .int .i64 (pc 32 b : Nat)), (8, .int .i64 32), (30, .bool false)], fs H 0 32 wf wl) ∧ OkS wl ∧ ∀ j, j < 1024 → bit wl j = (decide (j < 32) && b.testBit j) := by
  refine loop_ex (fun x : Nat × List Nat => [(0, .int .u64 b), (4, .ptr (.hp H.length) [] 80), (7, .int .i64 (pc x.1 b : Nat)), (8, .int .i64 x.1)]) (fun x => fs H 0 32 wf x.2) _ (fun x => 32 - x.1)
    (fun x => x.1 ≤ 32 ∧ OkS x.2 ∧ ∀ j, j < 1024 → bit x.2 j = (decide (j < x.1) && b.testBit j)) (0, w16 []) ?_ ⟨by simp only; omega, ok_nil, fun j hj => by simp only; rw [bit_nil]; simp⟩ rfl rfl
  rintro ⟨i, wl⟩ ⟨hi, hok, hbit⟩
  simp only at hi hok hbit
  by_cases c1 : i < 32
  · left
    have d1 : (i : Int) < 32 := by omega
    have d3 : ¬ (i : Int) < 0 := by omega
    have d4 : IntKind.i64.wrap ((i : Int) + 1) = (i : Int) + 1 := i64_id (by omega) (by omega)
    have e1 := shr_nat (w := b) (r := i) (by omega)
    have e2 := and_one (x := b / 2 ^ i) (Nat.lt_of_le_of_lt (Nat.div_le_self _ _) hb)
    have ht := Nat.testBit_eq_decide_div_mod_eq (x := b) (i := i)
    have hpc : pc (i + 1) b = pc i b + b / 2 ^ i % 2 := by rw [pc_add i 1]; simp [pc]
    have hple := pc_le i b
    generalize b / 2 ^ i = y at *
    generalize hz : y % 2 = z at *
    have hfr := fr_at (H := H) (L := []) (f := 0) (l := 32) (wf := wf) (wl := wl) (by decide) (by decide) hokf hok
    have hfi := he i (by omega)
    have hbi := hbit i (by omega)
    by_cases hzb : z = 1
    · have htb : b.testBit i = true := by rw [ht, hzb]; rfl
      have hs1 : stOf 0 32 wf wl (i : Int) = 1 := by
        unfold stOf
        rw [if_neg (by omega), Int.toNat_natCast, hfi, hbi]
        simp
      have hok2 := hok.flip (i := i) (by omega)
      have hs2 : stOf 0 32 wf (flip wl i) (i : Int) = 2 := by
        unfold stOf
        rw [if_neg (by omega), Int.toNat_natCast, hfi, bit_flip hok (by omega), hbi]
        simp
      have hfr2 := fr_at (H := H) (L := []) (f := 0) (l := 32) (wf := wf) (wl := flip wl i) (by decide) (by decide) hokf hok2
      have r1 := rf_Later_ok hfr i hs1
      have r2 := rf_Later_no hfr2 i (by rw [hs2]; decide)
      have r3 := rf_State hfr2 i
      rw [hs2] at r2 r3
      rw [Int.toNat_natCast] at r1
      simp only [app_set0, List.set_cons_zero] at r1
      have e3 : inE 2 1 = 3 := rfl
      rw [e3] at r2
      refine ⟨(i + 1, flip wl i), ⟨by simp only; omega, hok2, fun j hj => ?_⟩, by simp only; omega, ?_⟩
      · simp only
        rw [bit_flip hok (by omega), hbit j hj]
        by_cases hij : i = j
        · subst hij; simp [htb]
        · have : decide (j < i + 1) = decide (j < i) := decide_eq_decide.2 (by omega)
          simp [hij, this]
      · simp only [fs, hpc]
        generalize pc i b = n at *
        have e5 : ((z : Nat) : Int) = 1 := by omega
        have e6 : IntKind.i64.wrap ((n : Int) + 1) = ((n + z : Nat) : Int) := by rw [i64_id (by omega) (by omega)]; omega
        simp only [go_sem, b_steadfastlaw04_FramesSettled_1, d1, d3, e1, e2, e5, r1, r2, r3, d4, e6]
        rfl
    · have htb : b.testBit i = false := by rw [ht]; simp [hzb]
      have e5 : ¬ ((z : Nat) : Int) = 1 := by omega
      have hz0 : z = 0 := by omega
      refine ⟨(i + 1, wl), ⟨by simp only; omega, hok, fun j hj => ?_⟩, by simp only; omega, ?_⟩
      · simp only
        rw [hbit j hj]
        by_cases hij : i = j
        · subst hij; simp [htb]
        · have : decide (j < i + 1) = decide (j < i) := decide_eq_decide.2 (by omega)
          simp [this]
      · simp only [fs, hpc, hz0, Nat.add_zero]
        simp only [go_sem, b_steadfastlaw04_FramesSettled_1, d1, d3, e1, e2, e5, d4]
        rfl
  · right
    have : i = 32 := by omega
    subst this
    refine ⟨_, ?_, wl, rfl, hok, hbit⟩
    simp only [fs]
    simp only [go_sem, b_steadfastlaw04_FramesSettled_1]
theorem settled2 (b : Nat) (hb : b < 18446744073709551616) (w : List Nat) (hok : OkS w) (hbit : ∀ j, j < 1024 → bit w j = (decide (j < 32) && b.testBit j)) :
    rc D 0 (.loop [0, 4, 11] b_steadfastlaw04_FramesSettled_2) [(0, .int .u64 b), (4, .ptr (.hp H.length) [] 80), (11, .int .i64 0)] (fs H 0 32 w (w16 [])) =
      some (.exit 4, [(0, .int .u64 b), (4, .ptr (.hp H.length) [] 80), (11, .int .i64 32), (72, .bool false)], fs H 0 32 w (w16 [])) := by
  refine loop_runs (fun x : Nat => [(0, .int .u64 b), (4, .ptr (.hp H.length) [] 80), (11, .int .i64 x)]) (fun _ => fs H 0 32 w (w16 [])) (fun _ => _) (fun x => 32 - x) (fun x => x ≤ 32) 0 ?_ (by omega) rfl rfl
  intro i hi
  by_cases c1 : i < 32
  · left
    have d1 : (i : Int) < 32 := by omega
    have d3 : ¬ (i : Int) < 0 := by omega
    have d4 : IntKind.i64.wrap ((i : Int) + 1) = (i : Int) + 1 := i64_id (by omega) (by omega)
    have e1 := shr_nat (w := b) (r := i) (by omega)
    have e2 := and_one (x := b / 2 ^ i) (Nat.lt_of_le_of_lt (Nat.div_le_self _ _) hb)
    have ht := Nat.testBit_eq_decide_div_mod_eq (x := b) (i := i)
    generalize b / 2 ^ i = y at *
    generalize hz : y % 2 = z at *
    have hfr := fr_at (H := H) (L := []) (f := 0) (l := 32) (wf := w) (wl := w16 []) (by decide) (by decide) hok ok_nil
    have r3 := rf_State hfr i
    have hs : stOf 0 32 w (w16 []) (i : Int) = if z = 1 then 0 else 1 := by
      unfold stOf
      rw [if_neg (by omega), Int.toNat_natCast, hbit i (by omega), bit_nil, ht]
      by_cases h : z = 1 <;> simp [h, c1]
    rw [hs] at r3
    refine ⟨i + 1, by omega, by omega, rfl, ?_⟩
    simp only [fs]
    by_cases hzb : z = 1
    · have e5 : ((z : Nat) : Int) = 1 := by omega
      rw [if_pos hzb] at r3
      simp only [go_sem, b_steadfastlaw04_FramesSettled_2, d1, d3, e1, e2, e5, r3, d4]
      rfl
    · have e5 : ¬ ((z : Nat) : Int) = 1 := by omega
      rw [if_neg hzb] at r3
      simp only [go_sem, b_steadfastlaw04_FramesSettled_2, d1, d3, e1, e2, e5, r3, d4]
      rfl
  · right
    have : i = 32 := by omega
    subst this
    simp only [fs]
    simp only [go_sem, b_steadfastlaw04_FramesSettled_2]
end
theorem pc_64 (x : Nat) : pc 64 x = pc 32 x + pc 32 (x / 2 ^ 32) := by
  have e := pc_add 32 32 x
  rw [show (32 + 32 : Nat) = 64 from rfl] at e
  exact e
theorem pc_zero : ∀ n, pc n 0 = 0
  | 0 => rfl
  | n + 1 => by simp only [pc, Nat.zero_mod, Nat.zero_div, pc_zero n]
theorem pc_low (b : Nat) : pc 64 (b % 2 ^ 32) = pc 32 b := by
  rw [pc_64, pc_mod, Nat.div_eq_of_lt (Nat.mod_lt _ (Nat.two_pow_pos 32)), pc_zero, Nat.add_zero]
theorem law_FramesSettled : ∀ hp vs, G <+: hp → Sh.FitsL hp [(.int .u64)] vs → ∃ s', rf D f_steadfastlaw04_FramesSettled vs ⟨[], hp⟩ = some (.bool true, s') := by
  intro hp vs hpre hf
  obtain ⟨v, rfl, ⟨b, rfl, hb0, hb1⟩⟩ := fits1 hf
  have hb0' : (0 : Int) ≤ b := hb0
  have hb1' : b ≤ 18446744073709551615 := hb1
  obtain ⟨b, rfl⟩ : ∃ n : Nat, b = n := ⟨b.toNat, by omega⟩
  have hb : b < 18446744073709551616 := by omega
  have hG : hp[0]? = some (.ro globV_0) := by
    obtain ⟨t, rfl⟩ := hpre
    rfl
  obtain ⟨more, hsh⟩ := rf_shown (s := ⟨[], hp⟩) hG
  have hG1 : (hp ++ more)[0]? = some (.ro globV_0) := by
    rw [List.getElem?_append_left (List.getElem?_eq_some_iff.1 hG).1]; exact hG
  have hnew := rf_New_of rfl ev_New32 frV_flat (s := ⟨[], hp ++ more⟩) hG1
  simp only at hsh hnew
  generalize hp ++ more = H at *
  have hG2 : ∀ x, (H ++ [x])[0]? = some (.ro globV_0) := fun x => by
    rw [List.getElem?_append_left (List.getElem?_eq_some_iff.1 hG1).1]; exact hG1
  obtain ⟨_, hl0, wf, rfl, hokf, he⟩ := settled0 H hG2 b
  obtain ⟨_, hl1, wl, rfl, hokl, hbl⟩ := settled1 H b hb wf hokf he
  have hfr := fr_at (H := H) (L := []) (f := 0) (l := 32) (wf := wf) (wl := wl) (by decide) (by decide) hokf hokl
  obtain ⟨w, hokw, hbw, hset⟩ := rf_Settle hfr
  simp only [app_set0, List.set_cons_zero] at hset
  have hbit : ∀ j, j < 1024 → bit w j = (decide (j < 32) && b.testBit j) := fun j hj => by
    rw [hbw j hj, he j hj, hbl j hj]; simp
  have hl2 := settled2 H b hb w hokw hbit
  have hfr2 := fr_at (H := H) (L := []) (f := 0) (l := 32) (wf := w) (wl := w16 []) (by decide) (by decide) hokw ok_nil
  have hw0 : w.getD 0 0 = b % 2 ^ 32 := by
    refine word_of hokw (by omega) (Nat.lt_of_lt_of_le (Nat.mod_lt _ (by decide)) (by decide)) fun k hk => ?_
    rw [Nat.mul_zero, Nat.zero_add, hbit k (by omega), Nat.testBit_mod_two_pow]
  have hleft := rf_Left1 hfr2 fun q h1 h2 => word_of hokw h2 (by decide) fun k hk => by
    have : ¬ 64 * q + k < 32 := by omega
    rw [hbit _ (by omega), Nat.zero_testBit]; simp [this]
  have hpc := pc_low b
  rw [hw0, hpc] at hleft
  rcases rf_Alloc hfr (hG2 _) with ⟨n, h1, _⟩ | ⟨_, ha⟩
  · have := he n h1.lt
    rw [h1.set] at this
    cases this
  · simp only [fs] at hl0 hl1 hl2
    generalize pc 32 b = m at hl1 hleft
    clear hw0 hpc
    refine ⟨⟨[], H ++ [.rw (frV 0 32 w (w16 []))]⟩, ?_⟩
    rw [rf_o D_steadfastlaw04_FramesSettled rfl]
    simp only [go_sem, hsh, hnew, hl0, hl1, ha, hset, hleft, hl2]
end Go.Proofs.YtfdaihhnlohckaaDoor
