/-
  FramesE: the law FramesFirst.
-/
import Derived.Test.YtfdaihhnlohckaaDoorF4
set_option maxRecDepth 100000
namespace Go.Proofs.YtfdaihhnlohckaaDoor
open Go.Ab

theorem ok_w16 {l : List Nat} (hl : l.length ≤ 16) (h : ∀ x ∈ l, x < 18446744073709551616) : OkS (w16 l) := by
  refine ⟨by simp [w16]; omega, fun x hx => ?_⟩
  rcases List.mem_append.1 hx with hx | hx
  · exact h x hx
  · rw [List.eq_of_mem_replicate hx]; decide
theorem bit_nil (i : Nat) : bit (w16 []) i = false := by
  unfold bit w16
  simp only [List.nil_append, List.length_nil, Nat.sub_zero, List.getD_eq_getElem?_getD, List.getElem?_replicate]
  split <;> exact Nat.zero_testBit _
theorem bit_one {x : Nat} {i : Nat} : bit (w16 [x]) i = (decide (i < 64) && x.testBit i) := by
  unfold bit w16
  by_cases h : i < 64
  · rw [show i / 64 = 0 by omega, show i % 64 = i by omega]
    simp [h]
  · have : 1 ≤ i / 64 := by omega
    obtain ⟨q, hq⟩ := Nat.exists_eq_add_of_le this
    rw [hq]
    have e : (([x] ++ List.replicate (16 - [x].length) 0 : List Nat).getD (1 + q) 0) = 0 := by
      rw [List.getD_eq_getElem?_getD, List.getElem?_append_right (by simp)]
      simp only [List.getElem?_replicate]
      split <;> rfl
    rw [e, Nat.zero_testBit]
    simp [h]
theorem fr_at {H : List Blk} {L : List Blk} {f l : Int} {wf wl : List Nat} (h0 : 0 ≤ f) (h1 : l ≤ 1024) (hf : OkS wf) (hl : OkS wl) : Fr ⟨L, H ++ [.rw (frV f l wf wl)]⟩ H.length f l wf wl :=
  ⟨by simp, h0, h1, hf, hl⟩
/-- The state with the frames behind. -/
def fs (H : List Blk) (f l : Int) (wf wl : List Nat) : St := ⟨[], H ++ [.rw (frV f l wf wl)]⟩
theorem first_loop (H : List Blk) (b : Nat) (hb : b < 18446744073709551616) :
    ∃ r, rc D 0 (.loop [0, 4, 6, 7] b_steadfastlaw04_FramesFirst_0) [(0, .int .u64 b), (4, .ptr (.hp H.length) [] 80), (6, .int .i64 (-1)), (7, .int .i64 0)] (fs H 0 32 (w16 [4294967295]) (w16 [])) = some r ∧
      ∃ (m : Int) (wf : List Nat), r = (.exit 0, [(0, .int .u64 b), (4, .ptr (.hp H.length) [] 80), (6, .int .i64 m), (7, .int .i64 32), (22, .bool false)], fs H 0 32 wf (w16 [])) ∧
        OkS wf ∧ (∀ j, j < 1024 → bit wf j = (decide (j < 32) && !b.testBit j)) ∧ ((m = -1 ∧ ∀ j, j < 32 → b.testBit j = true) ∨ ∃ n : Nat, m = n ∧ n < 32 ∧ b.testBit n = false ∧ ∀ j, j < n → b.testBit j = true) := by
  refine loop_ex (fun x : Nat × Int × List Nat => [(0, .int .u64 b), (4, .ptr (.hp H.length) [] 80), (6, .int .i64 x.2.1), (7, .int .i64 x.1)]) (fun x => fs H 0 32 x.2.2 (w16 [])) _ (fun x => 32 - x.1)
    (fun x => x.1 ≤ 32 ∧ OkS x.2.2 ∧ (∀ j, j < 1024 → bit x.2.2 j = (decide (j < 32) && !(decide (j < x.1) && b.testBit j))) ∧
      ((x.2.1 = -1 ∧ ∀ j, j < x.1 → b.testBit j = true) ∨ ∃ n : Nat, x.2.1 = n ∧ n < x.1 ∧ b.testBit n = false ∧ ∀ j, j < n → b.testBit j = true)) (0, -1, w16 [4294967295]) ?_ ?_ rfl rfl
  · rintro ⟨i, m, wf⟩ ⟨hi, hok, hbit, hm⟩
    simp only at hi hok hbit hm
    by_cases c1 : i < 32
    · left
      have d1 : (i : Int) < 32 := by omega
      have d2 : (0 : Int) ≤ i := by omega
      have d3 : ¬ (i : Int) < 0 := by omega
      have d4 : IntKind.i64.wrap ((i : Int) + 1) = (i : Int) + 1 := i64_id (by omega) (by omega)
      have e1 := shr_nat (w := b) (r := i) (by omega)
      have e2 := and_one (x := b / 2 ^ i) (Nat.lt_of_le_of_lt (Nat.div_le_self _ _) hb)
      have ht := Nat.testBit_eq_decide_div_mod_eq (x := b) (i := i)
      generalize b / 2 ^ i = y at *
      generalize hz : y % 2 = z at *
      have hfr := fr_at (H := H) (L := []) (f := 0) (l := 32) (wf := wf) (wl := w16 []) (by decide) (by decide) hok (ok_w16 (by decide) (by simp))
      have hbi := hbit i (by omega)
      by_cases hzb : z = 1
      · have htb : b.testBit i = true := by rw [ht, hzb]; rfl
        have hs1 : stOf 0 32 wf (w16 []) (i : Int) = 0 := by
          unfold stOf
          rw [if_neg (by omega), Int.toNat_natCast, hbi]
          simp [c1]
        have hok2 := hok.flip (i := i) (by omega)
        have hs2 : stOf 0 32 (flip wf i) (w16 []) (i : Int) = 1 := by
          unfold stOf
          rw [if_neg (by omega), Int.toNat_natCast, bit_flip hok (by omega), hbi, bit_nil]
          simp [c1]
        have hfr2 := fr_at (H := H) (L := []) (f := 0) (l := 32) (wf := flip wf i) (wl := w16 []) (by decide) (by decide) hok2 (ok_w16 (by decide) (by simp))
        have r1 := rf_Take_ok hfr i hs1
        have r2 := rf_Take_no hfr2 i (by rw [hs2]; decide)
        have r3 := rf_State hfr2 i
        rw [hs2] at r2 r3
        rw [Int.toNat_natCast] at r1
        simp only [app_set0, List.set_cons_zero] at r1
        have e3 : inE 1 0 = 3 := rfl
        rw [e3] at r2
        refine ⟨(i + 1, m, flip wf i), ⟨by simp only; omega, hok2, fun j hj => ?_, ?_⟩, by simp only; omega, ?_⟩
        · simp only
          rw [bit_flip hok (by omega), hbit j hj]
          by_cases hij : i = j
          · subst hij
            simp [c1, htb]
          · have : decide (j < i + 1) = decide (j < i) := decide_eq_decide.2 (by omega)
            simp [hij, this]
        · simp only
          rcases hm with ⟨h1, h2⟩ | ⟨n, h1, h2, h3⟩
          · refine .inl ⟨h1, fun j hj => ?_⟩
            by_cases hji : j = i
            · subst hji; exact htb
            · exact h2 j (by omega)
          · exact .inr ⟨n, h1, by omega, h3⟩
        · simp only [fs]
          have e5 : ((z : Nat) : Int) = 1 := by omega
          simp only [go_sem, b_steadfastlaw04_FramesFirst_0, d1, d3, e1, e2, e5, r1, r2, r3, d4]
          rfl
      · have htb : b.testBit i = false := by rw [ht]; simp [hzb]
        have e5 : ¬ ((z : Nat) : Int) = 1 := by omega
        have hbit2 : ∀ j, j < 1024 → bit wf j = (decide (j < 32) && !(decide (j < i + 1) && b.testBit j)) := by
          intro j hj
          rw [hbit j hj]
          by_cases hij : i = j
          · subst hij; simp [htb]
          · have : decide (j < i + 1) = decide (j < i) := decide_eq_decide.2 (by omega)
            simp [this]
        rcases hm with ⟨h1, h2⟩ | ⟨n, h1, h2, h3⟩
        · subst h1
          refine ⟨(i + 1, (i : Int), wf), ⟨by simp only; omega, hok, hbit2, .inr ⟨i, rfl, by simp only; omega, htb, h2⟩⟩, by simp only; omega, ?_⟩
          simp only [fs]
          simp only [go_sem, b_steadfastlaw04_FramesFirst_0, d1, d3, e1, e2, e5, d4]
          rfl
        · subst h1
          have d6 : ¬ (n : Int) < 0 := by omega
          refine ⟨(i + 1, (n : Int), wf), ⟨by simp only; omega, hok, hbit2, .inr ⟨n, rfl, by simp only; omega, h3⟩⟩, by simp only; omega, ?_⟩
          simp only [fs]
          simp only [go_sem, b_steadfastlaw04_FramesFirst_0, d1, d3, e1, e2, e5, d4, d6]
          rfl
    · right
      have : i = 32 := by omega
      subst this
      refine ⟨_, ?_, m, wf, rfl, hok, fun j hj => ?_, ?_⟩
      · simp only [fs]
        simp only [go_sem, b_steadfastlaw04_FramesFirst_0]
      · rw [hbit j hj]
        by_cases h : j < 32 <;> simp [h]
      · rcases hm with h | ⟨n, h1, h2, h3⟩
        · exact .inl h
        · exact .inr ⟨n, h1, h2, h3⟩
  · refine ⟨by simp only; omega, ok_w16 (by decide) (by simp), fun j hj => ?_, .inl ⟨rfl, fun j hj => by simp only at hj; omega⟩⟩
    simp only
    rw [bit_one]
    by_cases h : j < 32
    · have : (4294967295 : Nat).testBit j = true := by
        have := Nat.testBit_two_pow_sub_one 32 j
        simpa [h] using this
      simp [h, this]
      omega
    · have : (4294967295 : Nat).testBit j = false := by
        have := Nat.testBit_two_pow_sub_one 32 j
        simpa [h] using this
      simp [h, this]
theorem law_FramesFirst : ∀ hp vs, G <+: hp → Sh.FitsL hp [(.int .u64)] vs → ∃ s', rf D f_steadfastlaw04_FramesFirst vs ⟨[], hp⟩ = some (.bool true, s') := by
  intro hp vs hpre hf
  obtain ⟨v, rfl, ⟨b, rfl, hb0, hb1⟩⟩ := fits1 hf
  have hb0' : (0 : Int) ≤ b := hb0
  have hb1' : b ≤ 18446744073709551615 := hb1
  obtain ⟨b, rfl⟩ : ∃ n : Nat, b = n := ⟨b.toNat, by omega⟩
  have hG : hp[0]? = some (.ro globV_0) := by
    obtain ⟨t, rfl⟩ := hpre
    rfl
  obtain ⟨more, hsh⟩ := rf_shown (s := ⟨[], hp⟩) hG
  have hG1 : (hp ++ more)[0]? = some (.ro globV_0) := by
    rw [List.getElem?_append_left (List.getElem?_eq_some_iff.1 hG).1]; exact hG
  have hnew := rf_New_of rfl ev_New32 frV_flat (s := ⟨[], hp ++ more⟩) hG1
  simp only at hsh hnew
  generalize hp ++ more = H at *
  have hG2 : ∀ x, (H ++ [x])[0]? = some (.ro globV_0) := fun x => by
    rw [List.getElem?_append_left (List.getElem?_eq_some_iff.1 hG1).1]; exact hG1
  obtain ⟨_, hl, m, wf, rfl, hok, hbit, hm⟩ := first_loop H b (by omega)
  have hfr := fr_at (H := H) (L := []) (f := 0) (l := 32) (wf := wf) (wl := w16 []) (by decide) (by decide) hok (ok_w16 (by decide) (by simp))
  simp only [fs] at hl
  rcases hm with ⟨rfl, hall⟩ | ⟨n, rfl, hn, hnb, hless⟩
  · have he : Empty wf := fun j hj => by
      rw [hbit j hj]
      by_cases h : j < 32
      · simp [hall j h]
      · simp [h]
    rcases rf_Alloc hfr (hG2 _) with ⟨n, h1, _⟩ | ⟨_, ha⟩
    · have := he n h1.lt
      rw [h1.set] at this
      cases this
    · have hleft := rf_Left0 hfr he (hG2 _)
      refine ⟨⟨[], H ++ [.rw (frV 0 32 wf (w16 []))]⟩, ?_⟩
      rw [rf_o D_steadfastlaw04_FramesFirst rfl]
      simp only [go_sem, hsh, hnew, hl, ha, hleft]
  · rcases rf_Alloc hfr (hG2 _) with ⟨n', h1, ha⟩ | ⟨he, _⟩
    · have hnn : n' = n := by
        have e1 := h1.set
        have e2 := hbit n (by omega)
        rw [hnb] at e2
        simp only [hn, decide_true, Bool.not_false, Bool.and_self] at e2
        rcases Nat.lt_trichotomy n' n with h | h | h
        · rw [hbit n' h1.lt, hless n' h] at e1; simp at e1
        · exact h
        · rw [h1.less n h] at e2; cases e2
      subst hnn
      simp only [app_set0, List.set_cons_zero] at ha
      have hfr2 := fr_at (H := H) (L := []) (f := 0) (l := 32) (wf := flip wf n') (wl := w16 []) (by decide) (by decide) (hok.flip h1.lt) (ok_w16 (by decide) (by simp))
      have hs2 : stOf 0 32 (flip wf n') (w16 []) (n' : Int) = 1 := by
        unfold stOf
        rw [if_neg (by omega), Int.toNat_natCast, bit_flip hok h1.lt, h1.set, bit_nil]
        simp
      have r3 := rf_State hfr2 n'
      rw [hs2] at r3
      have d1 : ¬ (n' : Int) < 0 := by omega
      refine ⟨⟨[], H ++ [.rw (frV 0 32 (flip wf n') (w16 []))]⟩, ?_⟩
      rw [rf_o D_steadfastlaw04_FramesFirst rfl]
      simp only [go_sem, hsh, hnew, hl, ha, r3, d1]
    · have := he n (by omega)
      rw [hbit n (by omega), hnb] at this
      simp [hn] at this
end Go.Proofs.YtfdaihhnlohckaaDoor
