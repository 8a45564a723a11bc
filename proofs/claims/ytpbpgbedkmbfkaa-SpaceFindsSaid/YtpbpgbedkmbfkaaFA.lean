/-
  FrmA: frames: sets of lines, how a line stands, New, Take (picked out of FramesB, C, E, G, H, K).
-/
import Derived.Test.YtpbpgbedkmbfkaaCode
import Derived.Test.YtpbpgbedkmbfkaaAb32
import Derived.Test.YtpbpgbedkmbfkaaAb25
set_option maxRecDepth 100000
namespace Go.Proofs.Ytpbpgbedkmbfkaa
open Go.Ab
def w16 (l : List Nat) : List Nat := l ++ List.replicate (16 - l.length) 0
abbrev cN (n : Nat) : V := V.int .u64 (n : Int)
def frV (f l : Int) (wf wl : List Nat) : V := .agg 80 [.int .i64 f, .int .i64 l, .agg 78 (wf.map cN), .agg 78 (wl.map cN)]
def bit (w : List Nat) (i : Nat) : Bool := (w.getD (i / 64) 0).testBit (i % 64)
def flip (w : List Nat) (i : Nat) : List Nat := w.set (i / 64) ((w.getD (i / 64) 0) ^^^ 2 ^ (i % 64))
structure OkS (w : List Nat) : Prop where
  len : w.length = 16
  lt : ∀ x ∈ w, x < 18446744073709551616
theorem two_lt {r : Nat} (h : r < 64) : 2 ^ r < 18446744073709551616 := Nat.pow_lt_pow_right (show 1 < 2 by decide) h
theorem OkS.get {w : List Nat} (h : OkS w) {q : Nat} (hq : q < 16) : w.getD q 0 < 18446744073709551616 := h.lt _ (getD_mem (by rw [h.len]; exact hq) 0)
theorem OkS.flip {w : List Nat} (h : OkS w) {i : Nat} (hi : i < 1024) : OkS (flip w i) := by
  refine ⟨by simp [Ytpbpgbedkmbfkaa.flip, h.len], fun x hx => ?_⟩
  rcases List.mem_or_eq_of_mem_set hx with hx | rfl
  · exact h.lt x hx
  · exact Nat.xor_lt_two_pow (n := 64) (h.get (by omega)) (two_lt (by omega))
theorem bit_flip {w : List Nat} (h : OkS w) {i : Nat} (hi : i < 1024) (j : Nat) : bit (flip w i) j = ((bit w j) ^^ decide (i = j)) := by
  unfold bit Ytpbpgbedkmbfkaa.flip
  have hlen := h.len
  by_cases hq : i / 64 = j / 64
  · have e : (w.set (i / 64) (w.getD (i / 64) 0 ^^^ 2 ^ (i % 64))).getD (j / 64) 0 = w.getD (j / 64) 0 ^^^ 2 ^ (i % 64) := by
      rw [hq, List.getD_eq_getElem?_getD, List.getElem?_set_self (by omega)]; rfl
    rw [e, Nat.testBit_xor, Nat.testBit_two_pow]
    congr 1
    apply decide_eq_decide.2
    omega
  · have e : (w.set (i / 64) (w.getD (i / 64) 0 ^^^ 2 ^ (i % 64))).getD (j / 64) 0 = w.getD (j / 64) 0 := by
      rw [List.getD_eq_getElem?_getD, List.getElem?_set_ne hq, List.getD_eq_getElem?_getD]
    have hij : ¬ i = j := fun h => hq (by rw [h])
    rw [e]
    simp [hij]
theorem quo64 {i : Nat} (hi : i < 1024) : IntKind.i64.wrap ((i : Int).tdiv 64) = ((i / 64 : Nat) : Int) := by
  rw [show (64 : Int) = ((64 : Nat) : Int) by rfl, ← Int.ofNat_tdiv]
  exact i64_id (by omega) (by omega)
theorem rem64 {i : Nat} : (i : Int).tmod 64 = ((i % 64 : Nat) : Int) := by
  rw [show (64 : Int) = ((64 : Nat) : Int) by rfl, ← Int.ofNat_tmod]
theorem shr_nat {w r : Nat} (hr : r ≤ 64) : ishr .u64 (w : Int) (r : Int) = ((w / 2 ^ r : Nat) : Int) := by
  rw [ishr_two (w : Int) r hr, Int.natCast_ediv, Int.natCast_pow]; rfl
theorem and_one {x : Nat} (hx : x < 18446744073709551616) : iand .u64 (x : Int) 1 = ((x % 2 : Nat) : Int) := by
  have := iand_mask (x : Int) 1 (by omega) (by omega) (by decide)
  rw [show (1 : Int) = 2 ^ 1 - 1 by decide, this]; simp
theorem shl_one {r : Nat} (hr : r < 64) : ishl .u64 1 (r : Int) = ((2 ^ r : Nat) : Int) := by
  rw [ishl_two 1 r (by omega)]
  have h := two_lt hr
  rw [Int.one_mul, show (2 : Int) ^ r = ((2 ^ r : Nat) : Int) by rw [Int.natCast_pow]; rfl]
  generalize 2 ^ r = p at *
  omega
theorem rf_has2 (s : St) (a : Nat) (F L X : V) (w : List Nat) (hw : OkS w) (hb : s.hp[a]? = some (.rw (.agg 80 [F, L, .agg 78 (w.map cN), X]))) (i : Nat) (hi : i < 1024) :
    rf D f_frames_set_has [.ptr (.hp a) [2] 78, .int .i64 i] s = some (.bool (bit w i), s) := by
  have e1 := quo64 hi
  have e2 := rem64 (i := i)
  have hq : i / 64 < 16 := by omega
  have hr : i % 64 < 64 := by omega
  have hg := get_map (f := cN) (l := w) (i := i / 64) (by rw [hw.len]; exact hq) 0
  have hlt := hw.get hq
  unfold bit
  generalize i / 64 = q at *
  generalize i % 64 = r at *
  generalize w.getD q 0 = x at *
  have e3 := shr_nat (w := x) (r := r) (by omega)
  have hx2 : x / 2 ^ r < 18446744073709551616 := Nat.lt_of_le_of_lt (Nat.div_le_self _ _) hlt
  have e4 := and_one hx2
  rw [Nat.testBit_eq_decide_div_mod_eq]
  generalize x / 2 ^ r = y at *
  generalize y % 2 = z at *
  have d1 : (q : Int) < 16 := by omega
  have d2 : (0 : Int) ≤ q := by omega
  have d3 : ¬ (r : Int) < 0 := by omega
  rw [rf_o D_frames_set_has rfl]
  simp only [go_sem, e1, e2, d1, d2]
  rw [Int.toNat_natCast]
  simp only [go_sem, hb, hg, e3, e4, d3]
  have e5 : decide ((z : Int) = 1) = decide (z = 1) := decide_eq_decide.2 (by omega)
  rw [e5]
theorem rf_has3 (s : St) (a : Nat) (F L X : V) (w : List Nat) (hw : OkS w) (hb : s.hp[a]? = some (.rw (.agg 80 [F, L, X, .agg 78 (w.map cN)]))) (i : Nat) (hi : i < 1024) :
    rf D f_frames_set_has [.ptr (.hp a) [3] 78, .int .i64 i] s = some (.bool (bit w i), s) := by
  have e1 := quo64 hi
  have e2 := rem64 (i := i)
  have hq : i / 64 < 16 := by omega
  have hr : i % 64 < 64 := by omega
  have hg := get_map (f := cN) (l := w) (i := i / 64) (by rw [hw.len]; exact hq) 0
  have hlt := hw.get hq
  unfold bit
  generalize i / 64 = q at *
  generalize i % 64 = r at *
  generalize w.getD q 0 = x at *
  have e3 := shr_nat (w := x) (r := r) (by omega)
  have hx2 : x / 2 ^ r < 18446744073709551616 := Nat.lt_of_le_of_lt (Nat.div_le_self _ _) hlt
  have e4 := and_one hx2
  rw [Nat.testBit_eq_decide_div_mod_eq]
  generalize x / 2 ^ r = y at *
  generalize y % 2 = z at *
  have d1 : (q : Int) < 16 := by omega
  have d2 : (0 : Int) ≤ q := by omega
  have d3 : ¬ (r : Int) < 0 := by omega
  rw [rf_o D_frames_set_has rfl]
  simp only [go_sem, e1, e2, d1, d2]
  rw [Int.toNat_natCast]
  simp only [go_sem, hb, hg, e3, e4, d3]
  have e5 : decide ((z : Int) = 1) = decide (z = 1) := decide_eq_decide.2 (by omega)
  rw [e5]
theorem rf_turn2 (s : St) (a : Nat) (F L X : V) (w : List Nat) (hw : OkS w) (hb : s.hp[a]? = some (.rw (.agg 80 [F, L, .agg 78 (w.map cN), X]))) (i : Nat) (hi : i < 1024) :
    rf D f_frames_set_turn [.ptr (.hp a) [2] 78, .int .i64 i] s = some (.tup [], ⟨s.loc, s.hp.set a (.rw (.agg 80 [F, L, .agg 78 ((flip w i).map cN), X]))⟩) := by
  have e1 := quo64 hi
  have e2 := rem64 (i := i)
  have hq : i / 64 < 16 := by omega
  have hr : i % 64 < 64 := by omega
  have hg := get_map (f := cN) (l := w) (i := i / 64) (by rw [hw.len]; exact hq) 0
  have hlt := hw.get hq
  unfold Ytpbpgbedkmbfkaa.flip
  generalize i / 64 = q at *
  generalize i % 64 = r at *
  generalize w.getD q 0 = x at *
  have e3 := shl_one hr
  have e4 := ixor_nat hlt (two_lt hr)
  rw [List.map_set]
  generalize x ^^^ 2 ^ r = y at *
  generalize 2 ^ r = z at *
  have d1 : (q : Int) < 16 := by omega
  have d2 : (0 : Int) ≤ q := by omega
  have d3 : ¬ (r : Int) < 0 := by omega
  rw [rf_o D_frames_set_turn rfl]
  simp only [go_sem, e1, e2, d1, d2, d3]
  rw [Int.toNat_natCast]
  simp only [go_sem, hb, hg, e3, e4]
theorem ok_w16 {l : List Nat} (hl : l.length ≤ 16) (h : ∀ x ∈ l, x < 18446744073709551616) : OkS (w16 l) := by
  refine ⟨by simp [w16]; omega, fun x hx => ?_⟩
  rcases List.mem_append.1 hx with hx | hx
  · exact h x hx
  · rw [List.eq_of_mem_replicate hx]; decide
theorem bit_nil (i : Nat) : bit (w16 []) i = false := by
  unfold bit w16
  simp only [List.nil_append, List.length_nil, Nat.sub_zero, List.getD_eq_getElem?_getD, List.getElem?_replicate]
  split <;> exact Nat.zero_testBit _
theorem ok_nil : OkS (w16 []) := ok_w16 (by decide) (by simp)
theorem w16_nil : (w16 []).map cN = List.replicate 16 (V.int .u64 0) := rfl
def stOf (f l : Int) (wf wl : List Nat) (line : Int) : Int :=
  if line < f ∨ l ≤ line then -1 else if bit wf line.toNat then 0 else if bit wl line.toNat then 2 else 1
/-- A block of frames. -/
structure Fr (s : St) (a : Nat) (f l : Int) (wf wl : List Nat) : Prop where
  blk : s.hp[a]? = some (.rw (frV f l wf wl))
  f0 : 0 ≤ f
  l1 : l ≤ 1024
  okf : OkS wf
  okl : OkS wl
theorem rf_State {s : St} {a : Nat} {f l : Int} {wf wl : List Nat} (h : Fr s a f l wf wl) (line : Int) :
    rf D f_frames_Frames_State [.ptr (.hp a) [] 80, .int .i64 line] s = some (.int .i64 (stOf f l wf wl line), s) := by
  have hb := h.blk
  have h0 := h.f0
  have h1 := h.l1
  unfold stOf
  simp only [frV] at hb
  by_cases c1 : line < f
  · rw [if_pos (.inl c1), rf_o D_frames_Frames_State rfl]
    simp only [go_sem, hb, c1]
  · by_cases c2 : l ≤ line
    · rw [if_pos (.inr c2), rf_o D_frames_Frames_State rfl]
      simp only [go_sem, hb, c1, c2]
    · rw [if_neg (by omega)]
      obtain ⟨i, rfl⟩ : ∃ i : Nat, line = i := ⟨line.toNat, by omega⟩
      have e1 := rf_has2 s a _ _ _ wf h.okf hb i (by omega)
      have e2 := rf_has3 s a _ _ _ wl h.okl hb i (by omega)
      rw [Int.toNat_natCast, rf_o D_frames_Frames_State rfl]
      simp only [go_sem, hb, c1, c2, e1]
      cases bit wf i
      · simp only [go_sem, e2]
      · simp only [go_sem]
def inE (st want : Int) : Int := if st = -1 then 1 else if st = want then 0 else 3
theorem rf_in {s : St} {a : Nat} {f l : Int} {wf wl : List Nat} (h : Fr s a f l wf wl) (line want : Int) :
    rf D f_frames_Frames_in [.ptr (.hp a) [] 80, .int .i64 line, .int .i64 want] s = some (.int .i64 (inE (stOf f l wf wl line) want), s) := by
  have e := rf_State h line
  unfold inE
  generalize stOf f l wf wl line = t at *
  rw [rf_o D_frames_Frames_in rfl]
  by_cases c1 : t = -1
  · simp only [go_sem, e, c1]
  · by_cases c2 : t = want
    · subst c2
      simp only [go_sem, e, c1]
    · simp only [go_sem, e, c1, c2]
theorem line_of {f l : Int} {wf wl : List Nat} {line : Int} (h : stOf f l wf wl line ≠ -1) : f ≤ line ∧ line < l := by
  unfold stOf at h
  split at h
  · exact absurd rfl h
  · omega
theorem rf_Take_ok {s : St} {a : Nat} {f l : Int} {wf wl : List Nat} (h : Fr s a f l wf wl) (line : Int) (ht : stOf f l wf wl line = 0) :
    rf D f_frames_Frames_Take [.ptr (.hp a) [] 80, .int .i64 line] s = some (.int .i64 0, ⟨s.loc, s.hp.set a (.rw (frV f l (flip wf line.toNat) wl))⟩) := by
  have e := rf_in h line 0
  rw [ht] at e
  have hl := line_of (show stOf f l wf wl line ≠ -1 by rw [ht]; decide)
  have h0 := h.f0
  have h1 := h.l1
  obtain ⟨i, rfl⟩ : ∃ i : Nat, line = i := ⟨line.toNat, by omega⟩
  have hb := h.blk
  simp only [frV] at hb ⊢
  have e1 := rf_turn2 s a _ _ _ wf h.okf hb i (by omega)
  rw [Int.toNat_natCast, rf_o D_frames_Frames_Take rfl]
  have hi : inE 0 0 = 0 := rfl
  simp only [go_sem, e, hi, e1]
theorem rf_Take_no {s : St} {a : Nat} {f l : Int} {wf wl : List Nat} (h : Fr s a f l wf wl) (line : Int) (ht : stOf f l wf wl line ≠ 0) :
    rf D f_frames_Frames_Take [.ptr (.hp a) [] 80, .int .i64 line] s = some (.int .i64 (inE (stOf f l wf wl line) 0), s) := by
  have e := rf_in h line 0
  have hn : ¬ inE (stOf f l wf wl line) 0 = 0 := by unfold inE; split <;> simp_all
  rw [rf_o D_frames_Frames_Take rfl]
  simp only [go_sem, e, hn]
theorem rf_New_err (f l : Int) (h : f < 0 ∨ l < f ∨ 1024 < l) (s : St) : rf D f_frames_New [.int .i64 f, .int .i64 l] s = some (.tup [.nilp, .int .i64 1], s) := by
  rw [rf_o D_frames_New rfl]
  by_cases h1 : f < 0
  · simp only [go_sem, h1]
  · by_cases h2 : l < f
    · simp only [go_sem, h1, h2]
    · have h3 : 1024 < l := by omega
      simp only [go_sem, h1, h2, h3]
theorem rf_New_ok (f l : Int) (h0 : 0 ≤ f) (h1 : f ≤ l) (h2 : l ≤ 1024) (s : St) :
    ∃ w, OkS w ∧ (∀ j : Nat, j < 1024 → bit w j = (decide (f ≤ j) && decide ((j : Int) < l))) ∧
      rf D f_frames_New [.int .i64 f, .int .i64 l] s = some (.tup [.ptr (.hp s.hp.length) [] 80, .int .i64 0], ⟨s.loc, s.hp ++ [.rw (frV f l w (w16 []))]⟩) := by
  obtain ⟨a, rfl⟩ : ∃ n : Nat, f = n := ⟨f.toNat, by omega⟩
  obtain ⟨b, rfl⟩ : ∃ n : Nat, l = n := ⟨l.toNat, by omega⟩
  have loop : ∃ r, rc D s.loc.length (.loop [0, 6, 25, 26] b_frames_New_0) [(0, .int .i64 a), (6, .ptr (.hp s.hp.length) [] 80), (25, .int .i64 (b - a : Nat)), (26, .int .i64 0)] ⟨s.loc, s.hp ++ [.rw (frV a b (w16 []) (w16 []))]⟩ = some r ∧
      ∃ w : List Nat, r = (.exit 0, [(0, .int .i64 a), (6, .ptr (.hp s.hp.length) [] 80), (25, .int .i64 (b - a : Nat)), (26, .int .i64 (b - a : Nat)), (27, .bool false)], ⟨s.loc, s.hp ++ [.rw (frV a b w (w16 []))]⟩) ∧
        OkS w ∧ ∀ j : Nat, j < 1024 → bit w j = (decide (a ≤ j) && decide (j < b)) := by
    refine loop_ex (fun x : Nat × List Nat => [(0, .int .i64 a), (6, .ptr (.hp s.hp.length) [] 80), (25, .int .i64 (b - a : Nat)), (26, .int .i64 x.1)]) (fun x => ⟨s.loc, s.hp ++ [.rw (frV a b x.2 (w16 []))]⟩) _ (fun x => b - a - x.1)
      (fun x => x.1 ≤ b - a ∧ OkS x.2 ∧ ∀ j : Nat, j < 1024 → bit x.2 j = (decide (a ≤ j) && decide (j < a + x.1))) (0, w16 []) ?_ ⟨by simp, ok_nil, fun j hj => ?_⟩ rfl rfl
    · rintro ⟨i, w⟩ ⟨hi, hok, hbit⟩
      simp only at hi hok hbit
      by_cases c1 : i < b - a
      · left
        have d1 : (i : Int) < (b - a : Nat) := by omega
        have d4 : IntKind.i64.wrap ((i : Int) + 1) = (i : Int) + 1 := i64_id (by omega) (by omega)
        have e1 : IntKind.i64.wrap ((a : Int) + (i : Int)) = ((a + i : Nat) : Int) := by rw [i64_id (by omega) (by omega)]; omega
        have r1 := rf_turn2 ⟨s.loc, s.hp ++ [.rw (.agg 80 [.int .i64 a, .int .i64 b, .agg 78 (w.map cN), .agg 78 ((w16 []).map cN)])]⟩ s.hp.length (.int .i64 a) (.int .i64 b) (.agg 78 ((w16 []).map cN)) w hok (by simp) (a + i) (by omega)
        simp only [app_set0, List.set_cons_zero] at r1
        refine ⟨(i + 1, flip w (a + i)), ⟨by simp only; omega, hok.flip (by omega), fun j hj => ?_⟩, by simp only; omega, ?_⟩
        · simp only
          rw [bit_flip hok (by omega), hbit j hj]
          by_cases hij : a + i = j
          · subst hij
            simp
          · have : decide (j < a + (i + 1)) = decide (j < a + i) := decide_eq_decide.2 (by omega)
            simp [hij, this]
        · simp only [frV]
          generalize a + i = n at *
          simp only [go_sem, b_frames_New_0, d1, d4, e1, r1]
          rfl
      · right
        have : i = b - a := by omega
        subst this
        refine ⟨_, ?_, w, rfl, hok, fun j hj => ?_⟩
        · have d1 : ¬ ((b - a : Nat) : Int) < ((b - a : Nat) : Int) := by omega
          simp only [go_sem, b_frames_New_0, d1]
        · rw [hbit j hj, show a + (b - a) = b by omega]
    · simp only
      rw [bit_nil]
      by_cases h1 : a ≤ j
      · simp
      · simp [h1]
  obtain ⟨_, hl, w, rfl, hok, hbit⟩ := loop
  refine ⟨w, hok, fun j hj => ?_, ?_⟩
  · rw [hbit j hj]
    have e1 : decide ((a : Int) ≤ j) = decide (a ≤ j) := decide_eq_decide.2 (by omega)
    have e2 : decide ((j : Int) < b) = decide (j < b) := decide_eq_decide.2 (by omega)
    rw [e1, e2]
  · have c1 : ¬ (a : Int) < 0 := by omega
    have c2 : ¬ (b : Int) < a := by omega
    have c3 : ¬ 1024 < (b : Int) := by omega
    have e1 : IntKind.i64.wrap ((b : Int) - (a : Int)) = ((b - a : Nat) : Int) := by rw [i64_id (by omega) (by omega)]; omega
    simp only [frV, w16_nil] at hl ⊢
    generalize b - a = n at *
    rw [rf_o D_frames_New rfl]
    simp only [go_sem, c1, c2, c3, e1, hl]
end Go.Proofs.Ytpbpgbedkmbfkaa
