/-
  YtpbpgbedkmbfkaaT2: what functions of the program compute (FrmA, FrmB, ObjO, ObjA, ObjB, ObjC).
-/
import Derived.Test.YtpbpgbedkmbfkaaCode
import Derived.Test.YtpbpgbedkmbfkaaAbE
import Derived.Test.YtpbpgbedkmbfkaaT1
set_option maxRecDepth 100000
namespace Go.Proofs.Ytpbpgbedkmbfkaa
open Go.Ab
def w16 (l : List Nat) : List Nat := l ++ List.replicate (16 - l.length) 0
abbrev cN (n : Nat) : V := V.int .u64 (n : Int)
def frV (f l : Int) (wf wl : List Nat) : V := .agg 80 [.int .i64 f, .int .i64 l, .agg 78 (wf.map cN), .agg 78 (wl.map cN)]
def bit (w : List Nat) (i : Nat) : Bool := (w.getD (i / 64) 0).testBit (i % 64)
def flip (w : List Nat) (i : Nat) : List Nat := w.set (i / 64) ((w.getD (i / 64) 0) ^^^ 2 ^ (i % 64))
structure OkS (w : List Nat) : Prop where
  len : w.length = 16
  lt : ∀ x ∈ w, x < 18446744073709551616
theorem two_lt {r : Nat} (h : r < 64) : 2 ^ r < 18446744073709551616 := Nat.pow_lt_pow_right (show 1 < 2 by decide) h
theorem OkS.get {w : List Nat} (h : OkS w) {q : Nat} (hq : q < 16) : w.getD q 0 < 18446744073709551616 := h.lt _ (getD_mem (by rw [h.len]; exact hq) 0)
theorem OkS.flip {w : List Nat} (h : OkS w) {i : Nat} (hi : i < 1024) : OkS (flip w i) := by
  refine ⟨by simp [Ytpbpgbedkmbfkaa.flip, h.len], fun x hx => ?_⟩
  rcases List.mem_or_eq_of_mem_set hx with hx | rfl
  · exact h.lt x hx
  · exact Nat.xor_lt_two_pow (n := 64) (h.get (by omega)) (two_lt (by omega))
theorem bit_flip {w : List Nat} (h : OkS w) {i : Nat} (hi : i < 1024) (j : Nat) : bit (flip w i) j = ((bit w j) ^^ decide (i = j)) := by
  unfold bit Ytpbpgbedkmbfkaa.flip
  have hlen := h.len
  by_cases hq : i / 64 = j / 64
  · have e : (w.set (i / 64) (w.getD (i / 64) 0 ^^^ 2 ^ (i % 64))).getD (j / 64) 0 = w.getD (j / 64) 0 ^^^ 2 ^ (i % 64) := by
      rw [hq, List.getD_eq_getElem?_getD, List.getElem?_set_self (by omega)]; rfl
    rw [e, Nat.testBit_xor, Nat.testBit_two_pow]
    congr 1
    apply decide_eq_decide.2
    omega
  · have e : (w.set (i / 64) (w.getD (i / 64) 0 ^^^ 2 ^ (i % 64))).getD (j / 64) 0 = w.getD (j / 64) 0 := by
      rw [List.getD_eq_getElem?_getD, List.getElem?_set_ne hq, List.getD_eq_getElem?_getD]
    have hij : ¬ i = j := fun h => hq (by rw [h])
    rw [e]
    simp [hij]
theorem quo64 {i : Nat} (hi : i < 1024) : IntKind.i64.wrap ((i : Int).tdiv 64) = ((i / 64 : Nat) : Int) := by
  rw [show (64 : Int) = ((64 : Nat) : Int) by rfl, ← Int.ofNat_tdiv]
  exact i64_id (by omega) (by omega)
theorem rem64 {i : Nat} : (i : Int).tmod 64 = ((i % 64 : Nat) : Int) := by
  rw [show (64 : Int) = ((64 : Nat) : Int) by rfl, ← Int.ofNat_tmod]
theorem shr_nat {w r : Nat} (hr : r ≤ 64) : ishr .u64 (w : Int) (r : Int) = ((w / 2 ^ r : Nat) : Int) := by
  rw [ishr_two (w : Int) r hr, Int.natCast_ediv, Int.natCast_pow]; rfl
theorem and_one {x : Nat} (hx : x < 18446744073709551616) : iand .u64 (x : Int) 1 = ((x % 2 : Nat) : Int) := by
  have := iand_mask (x : Int) 1 (by omega) (by omega) (by decide)
  rw [show (1 : Int) = 2 ^ 1 - 1 by decide, this]; simp
theorem shl_one {r : Nat} (hr : r < 64) : ishl .u64 1 (r : Int) = ((2 ^ r : Nat) : Int) := by
  rw [ishl_two 1 r (by omega)]
  have h := two_lt hr
  rw [Int.one_mul, show (2 : Int) ^ r = ((2 ^ r : Nat) : Int) by rw [Int.natCast_pow]; rfl]
  generalize 2 ^ r = p at *
  omega
theorem rf_has2 (s : St) (a : Nat) (F L X : V) (w : List Nat) (hw : OkS w) (hb : s.hp[a]? = some (.rw (.agg 80 [F, L, .agg 78 (w.map cN), X]))) (i : Nat) (hi : i < 1024) :
    rf D f_frames_set_has [.ptr (.hp a) [2] 78, .int .i64 i] s = some (.bool (bit w i), s) := by
  have e1 := quo64 hi
  have e2 := rem64 (i := i)
  have hq : i / 64 < 16 := by omega
  have hr : i % 64 < 64 := by omega
  have hg := get_map (f := cN) (l := w) (i := i / 64) (by rw [hw.len]; exact hq) 0
  have hlt := hw.get hq
  unfold bit
  generalize i / 64 = q at *
  generalize i % 64 = r at *
  generalize w.getD q 0 = x at *
  have e3 := shr_nat (w := x) (r := r) (by omega)
  have hx2 : x / 2 ^ r < 18446744073709551616 := Nat.lt_of_le_of_lt (Nat.div_le_self _ _) hlt
  have e4 := and_one hx2
  rw [Nat.testBit_eq_decide_div_mod_eq]
  generalize x / 2 ^ r = y at *
  generalize y % 2 = z at *
  have d1 : (q : Int) < 16 := by omega
  have d2 : (0 : Int) ≤ q := by omega
  have d3 : ¬ (r : Int) < 0 := by omega
  rw [rf_o D_frames_set_has rfl]
  simp only [go_sem, e1, e2, d1, d2]
  rw [Int.toNat_natCast]
  simp only [go_sem, hb, hg, e3, e4, d3]
  have e5 : decide ((z : Int) = 1) = decide (z = 1) := decide_eq_decide.2 (by omega)
  rw [e5]
theorem rf_has3 (s : St) (a : Nat) (F L X : V) (w : List Nat) (hw : OkS w) (hb : s.hp[a]? = some (.rw (.agg 80 [F, L, X, .agg 78 (w.map cN)]))) (i : Nat) (hi : i < 1024) :
    rf D f_frames_set_has [.ptr (.hp a) [3] 78, .int .i64 i] s = some (.bool (bit w i), s) := by
  have e1 := quo64 hi
  have e2 := rem64 (i := i)
  have hq : i / 64 < 16 := by omega
  have hr : i % 64 < 64 := by omega
  have hg := get_map (f := cN) (l := w) (i := i / 64) (by rw [hw.len]; exact hq) 0
  have hlt := hw.get hq
  unfold bit
  generalize i / 64 = q at *
  generalize i % 64 = r at *
  generalize w.getD q 0 = x at *
  have e3 := shr_nat (w := x) (r := r) (by omega)
  have hx2 : x / 2 ^ r < 18446744073709551616 := Nat.lt_of_le_of_lt (Nat.div_le_self _ _) hlt
  have e4 := and_one hx2
  rw [Nat.testBit_eq_decide_div_mod_eq]
  generalize x / 2 ^ r = y at *
  generalize y % 2 = z at *
  have d1 : (q : Int) < 16 := by omega
  have d2 : (0 : Int) ≤ q := by omega
  have d3 : ¬ (r : Int) < 0 := by omega
  rw [rf_o D_frames_set_has rfl]
  simp only [go_sem, e1, e2, d1, d2]
  rw [Int.toNat_natCast]
  simp only [go_sem, hb, hg, e3, e4, d3]
  have e5 : decide ((z : Int) = 1) = decide (z = 1) := decide_eq_decide.2 (by omega)
  rw [e5]
theorem rf_turn2 (s : St) (a : Nat) (F L X : V) (w : List Nat) (hw : OkS w) (hb : s.hp[a]? = some (.rw (.agg 80 [F, L, .agg 78 (w.map cN), X]))) (i : Nat) (hi : i < 1024) :
    rf D f_frames_set_turn [.ptr (.hp a) [2] 78, .int .i64 i] s = some (.tup [], ⟨s.loc, s.hp.set a (.rw (.agg 80 [F, L, .agg 78 ((flip w i).map cN), X]))⟩) := by
  have e1 := quo64 hi
  have e2 := rem64 (i := i)
  have hq : i / 64 < 16 := by omega
  have hr : i % 64 < 64 := by omega
  have hg := get_map (f := cN) (l := w) (i := i / 64) (by rw [hw.len]; exact hq) 0
  have hlt := hw.get hq
  unfold Ytpbpgbedkmbfkaa.flip
  generalize i / 64 = q at *
  generalize i % 64 = r at *
  generalize w.getD q 0 = x at *
  have e3 := shl_one hr
  have e4 := ixor_nat hlt (two_lt hr)
  rw [List.map_set]
  generalize x ^^^ 2 ^ r = y at *
  generalize 2 ^ r = z at *
  have d1 : (q : Int) < 16 := by omega
  have d2 : (0 : Int) ≤ q := by omega
  have d3 : ¬ (r : Int) < 0 := by omega
  rw [rf_o D_frames_set_turn rfl]
  simp only [go_sem, e1, e2, d1, d2, d3]
  rw [Int.toNat_natCast]
  simp only [go_sem, hb, hg, e3, e4]
theorem ok_w16 {l : List Nat} (hl : l.length ≤ 16) (h : ∀ x ∈ l, x < 18446744073709551616) : OkS (w16 l) := by
  refine ⟨by simp [w16]; omega, fun x hx => ?_⟩
  rcases List.mem_append.1 hx with hx | hx
  · exact h x hx
  · rw [List.eq_of_mem_replicate hx]; decide
theorem bit_nil (i : Nat) : bit (w16 []) i = false := by
  unfold bit w16
  simp only [List.nil_append, List.length_nil, Nat.sub_zero, List.getD_eq_getElem?_getD, List.getElem?_replicate]
  split <;> exact Nat.zero_testBit _
theorem ok_nil : OkS (w16 []) := ok_w16 (by decide) (by simp)
theorem w16_nil : (w16 []).map cN = List.replicate 16 (V.int .u64 0) := rfl
def stOf (f l : Int) (wf wl : List Nat) (line : Int) : Int :=
  if line < f ∨ l ≤ line then -1 else if bit wf line.toNat then 0 else if bit wl line.toNat then 2 else 1
/-- A block of frames. -/
structure Fr (s : St) (a : Nat) (f l : Int) (wf wl : List Nat) : Prop where
  blk : s.hp[a]? = some (.rw (frV f l wf wl))
  f0 : 0 ≤ f
  l1 : l ≤ 1024
  okf : OkS wf
  okl : OkS wl
theorem rf_State {s : St} {a : Nat} {f l : Int} {wf wl : List Nat} (h : Fr s a f l wf wl) (line : Int) :
    rf D f_frames_Frames_State [.ptr (.hp a) [] 80, .int .i64 line] s = some (.int .i64 (stOf f l wf wl line), s) := by
  have hb := h.blk
  have h0 := h.f0
  have h1 := h.l1
  unfold stOf
  simp only [frV] at hb
  by_cases c1 : line < f
  · rw [if_pos (.inl c1), rf_o D_frames_Frames_State rfl]
    simp only [go_sem, hb, c1]
  · by_cases c2 : l ≤ line
    · rw [if_pos (.inr c2), rf_o D_frames_Frames_State rfl]
      simp only [go_sem, hb, c1, c2]
    · rw [if_neg (by omega)]
      obtain ⟨i, rfl⟩ : ∃ i : Nat, line = i := ⟨line.toNat, by omega⟩
      have e1 := rf_has2 s a _ _ _ wf h.okf hb i (by omega)
      have e2 := rf_has3 s a _ _ _ wl h.okl hb i (by omega)
      rw [Int.toNat_natCast, rf_o D_frames_Frames_State rfl]
      simp only [go_sem, hb, c1, c2, e1]
      cases bit wf i
      · simp only [go_sem, e2]
      · simp only [go_sem]
def inE (st want : Int) : Int := if st = -1 then 1 else if st = want then 0 else 3
theorem rf_in {s : St} {a : Nat} {f l : Int} {wf wl : List Nat} (h : Fr s a f l wf wl) (line want : Int) :
    rf D f_frames_Frames_in [.ptr (.hp a) [] 80, .int .i64 line, .int .i64 want] s = some (.int .i64 (inE (stOf f l wf wl line) want), s) := by
  have e := rf_State h line
  unfold inE
  generalize stOf f l wf wl line = t at *
  rw [rf_o D_frames_Frames_in rfl]
  by_cases c1 : t = -1
  · simp only [go_sem, e, c1]
  · by_cases c2 : t = want
    · subst c2
      simp only [go_sem, e, c1]
    · simp only [go_sem, e, c1, c2]
theorem line_of {f l : Int} {wf wl : List Nat} {line : Int} (h : stOf f l wf wl line ≠ -1) : f ≤ line ∧ line < l := by
  unfold stOf at h
  split at h
  · exact absurd rfl h
  · omega
theorem rf_Take_ok {s : St} {a : Nat} {f l : Int} {wf wl : List Nat} (h : Fr s a f l wf wl) (line : Int) (ht : stOf f l wf wl line = 0) :
    rf D f_frames_Frames_Take [.ptr (.hp a) [] 80, .int .i64 line] s = some (.int .i64 0, ⟨s.loc, s.hp.set a (.rw (frV f l (flip wf line.toNat) wl))⟩) := by
  have e := rf_in h line 0
  rw [ht] at e
  have hl := line_of (show stOf f l wf wl line ≠ -1 by rw [ht]; decide)
  have h0 := h.f0
  have h1 := h.l1
  obtain ⟨i, rfl⟩ : ∃ i : Nat, line = i := ⟨line.toNat, by omega⟩
  have hb := h.blk
  simp only [frV] at hb ⊢
  have e1 := rf_turn2 s a _ _ _ wf h.okf hb i (by omega)
  rw [Int.toNat_natCast, rf_o D_frames_Frames_Take rfl]
  have hi : inE 0 0 = 0 := rfl
  simp only [go_sem, e, hi, e1]
theorem rf_Take_no {s : St} {a : Nat} {f l : Int} {wf wl : List Nat} (h : Fr s a f l wf wl) (line : Int) (ht : stOf f l wf wl line ≠ 0) :
    rf D f_frames_Frames_Take [.ptr (.hp a) [] 80, .int .i64 line] s = some (.int .i64 (inE (stOf f l wf wl line) 0), s) := by
  have e := rf_in h line 0
  have hn : ¬ inE (stOf f l wf wl line) 0 = 0 := by unfold inE; split <;> simp_all
  rw [rf_o D_frames_Frames_Take rfl]
  simp only [go_sem, e, hn]
theorem rf_New_err (f l : Int) (h : f < 0 ∨ l < f ∨ 1024 < l) (s : St) : rf D f_frames_New [.int .i64 f, .int .i64 l] s = some (.tup [.nilp, .int .i64 1], s) := by
  rw [rf_o D_frames_New rfl]
  by_cases h1 : f < 0
  · simp only [go_sem, h1]
  · by_cases h2 : l < f
    · simp only [go_sem, h1, h2]
    · have h3 : 1024 < l := by omega
      simp only [go_sem, h1, h2, h3]
theorem rf_New_ok (f l : Int) (h0 : 0 ≤ f) (h1 : f ≤ l) (h2 : l ≤ 1024) (s : St) :
    ∃ w, OkS w ∧ (∀ j : Nat, j < 1024 → bit w j = (decide (f ≤ j) && decide ((j : Int) < l))) ∧
      rf D f_frames_New [.int .i64 f, .int .i64 l] s = some (.tup [.ptr (.hp s.hp.length) [] 80, .int .i64 0], ⟨s.loc, s.hp ++ [.rw (frV f l w (w16 []))]⟩) := by
  obtain ⟨a, rfl⟩ : ∃ n : Nat, f = n := ⟨f.toNat, by omega⟩
  obtain ⟨b, rfl⟩ : ∃ n : Nat, l = n := ⟨l.toNat, by omega⟩
  have loop : ∃ r, rc D s.loc.length (.loop [0, 6, 25, 26] b_frames_New_0) [(0, .int .i64 a), (6, .ptr (.hp s.hp.length) [] 80), (25, .int .i64 (b - a : Nat)), (26, .int .i64 0)] ⟨s.loc, s.hp ++ [.rw (frV a b (w16 []) (w16 []))]⟩ = some r ∧
      ∃ w : List Nat, r = (.exit 0, [(0, .int .i64 a), (6, .ptr (.hp s.hp.length) [] 80), (25, .int .i64 (b - a : Nat)), (26, .int .i64 (b - a : Nat)), (27, .bool false)], ⟨s.loc, s.hp ++ [.rw (frV a b w (w16 []))]⟩) ∧
        OkS w ∧ ∀ j : Nat, j < 1024 → bit w j = (decide (a ≤ j) && decide (j < b)) := by
    refine loop_ex (fun x : Nat × List Nat => [(0, .int .i64 a), (6, .ptr (.hp s.hp.length) [] 80), (25, .int .i64 (b - a : Nat)), (26, .int .i64 x.1)]) (fun x => ⟨s.loc, s.hp ++ [.rw (frV a b x.2 (w16 []))]⟩) _ (fun x => b - a - x.1)
      (fun x => x.1 ≤ b - a ∧ OkS x.2 ∧ ∀ j : Nat, j < 1024 → bit x.2 j = (decide (a ≤ j) && decide (j < a + x.1))) (0, w16 []) ?_ ⟨by simp, ok_nil, fun j hj => ?_⟩ rfl rfl
    · rintro ⟨i, w⟩ ⟨hi, hok, hbit⟩
      simp only at hi hok hbit
      by_cases c1 : i < b - a
      · left
        have d1 : (i : Int) < (b - a : Nat) := by omega
        have d4 : IntKind.i64.wrap ((i : Int) + 1) = (i : Int) + 1 := i64_id (by omega) (by omega)
        have e1 : IntKind.i64.wrap ((a : Int) + (i : Int)) = ((a + i : Nat) : Int) := by rw [i64_id (by omega) (by omega)]; omega
        have r1 := rf_turn2 ⟨s.loc, s.hp ++ [.rw (.agg 80 [.int .i64 a, .int .i64 b, .agg 78 (w.map cN), .agg 78 ((w16 []).map cN)])]⟩ s.hp.length (.int .i64 a) (.int .i64 b) (.agg 78 ((w16 []).map cN)) w hok (by simp) (a + i) (by omega)
        simp only [app_set0, List.set_cons_zero] at r1
        refine ⟨(i + 1, flip w (a + i)), ⟨by simp only; omega, hok.flip (by omega), fun j hj => ?_⟩, by simp only; omega, ?_⟩
        · simp only
          rw [bit_flip hok (by omega), hbit j hj]
          by_cases hij : a + i = j
          · subst hij
            simp
          · have : decide (j < a + (i + 1)) = decide (j < a + i) := decide_eq_decide.2 (by omega)
            simp [hij, this]
        · simp only [frV]
          generalize a + i = n at *
          simp only [go_sem, b_frames_New_0, d1, d4, e1, r1]
          rfl
      · right
        have : i = b - a := by omega
        subst this
        refine ⟨_, ?_, w, rfl, hok, fun j hj => ?_⟩
        · have d1 : ¬ ((b - a : Nat) : Int) < ((b - a : Nat) : Int) := by omega
          simp only [go_sem, b_frames_New_0, d1]
        · rw [hbit j hj, show a + (b - a) = b by omega]
    · simp only
      rw [bit_nil]
      by_cases h1 : a ≤ j
      · simp
      · simp [h1]
  obtain ⟨_, hl, w, rfl, hok, hbit⟩ := loop
  refine ⟨w, hok, fun j hj => ?_, ?_⟩
  · rw [hbit j hj]
    have e1 : decide ((a : Int) ≤ j) = decide (a ≤ j) := decide_eq_decide.2 (by omega)
    have e2 : decide ((j : Int) < b) = decide (j < b) := decide_eq_decide.2 (by omega)
    rw [e1, e2]
  · have c1 : ¬ (a : Int) < 0 := by omega
    have c2 : ¬ (b : Int) < a := by omega
    have c3 : ¬ 1024 < (b : Int) := by omega
    have e1 : IntKind.i64.wrap ((b : Int) - (a : Int)) = ((b - a : Nat) : Int) := by rw [i64_id (by omega) (by omega)]; omega
    simp only [frV, w16_nil] at hl ⊢
    generalize b - a = n at *
    rw [rf_o D_frames_New rfl]
    simp only [go_sem, c1, c2, c3, e1, hl]
end Go.Proofs.Ytpbpgbedkmbfkaa
namespace Go.Proofs.Ytpbpgbedkmbfkaa
open Go.Ab
def rfV (f : Int) (c n : Nat) : V := .agg 21 [.int .i64 f, .sl (.hp c) [] 0 n (some n) 10]
/-- The document's frames: block b, its row in block c. -/
structure Rf (s : St) (b c : Nat) (f : Int) (S : List Int) : Prop where
  rb : s.hp[b]? = some (.rw (rfV f c S.length))
  sb : s.hp[c]? = some (.rw (.agg 38 (S.map (.int .i64))))
  f0 : 0 ≤ f
  n : f + S.length ≤ 1024
def stS (f : Int) (S : List Int) (line : Int) : Int := if line < f ∨ (S.length : Int) ≤ line - f then -1 else S.getD (line - f).toNat 0
theorem sad_r {c n k : Nat} (h : k < n) : sadv 10 (.sl (.hp c) [] 0 n (some n) 10) (.int .i64 (k : Int)) = some (.ptr (.hp c) [k] 10) := by
  simp [sadv, h]
theorem rf_rState {s : St} {b c : Nat} {f : Int} {S : List Int} (h : Rf s b c f S) (line : Int) (hl : line ≤ 9223372036854775807) :
    rf D f_steadfastref04_Frames_State [.ptr (.hp b) [] 21, .int .i64 line] s = some (.int .i64 (stS f S line), s) := by
  have hb := h.rb
  have hc := h.sb
  have h0 := h.f0
  have hn := h.n
  unfold stS
  simp only [rfV] at hb
  by_cases c1 : line < f
  · rw [if_pos (.inl c1), rf_o D_steadfastref04_Frames_State rfl]
    simp only [go_sem, hb, c1]
  · have e1 : IntKind.i64.wrap (line - f) = line - f := i64_id (by omega) (by omega)
    by_cases c2 : (S.length : Int) ≤ line - f
    · rw [if_pos (.inr c2), rf_o D_steadfastref04_Frames_State rfl]
      simp only [go_sem, hb, c1, e1, c2]
    · obtain ⟨k, hk⟩ : ∃ k : Nat, line - f = k := ⟨(line - f).toNat, by omega⟩
      rw [if_neg (by omega)]
      rw [hk] at e1 c2 ⊢
      have hkl : k < S.length := by omega
      have hg := get_map (f := V.int .i64) (l := S) hkl 0
      rw [Int.toNat_natCast, rf_o D_steadfastref04_Frames_State rfl]
      simp only [go_sem, hb, c1, hk, e1, c2, sad_r hkl, hc, hg]
theorem rf_rturn {s : St} {b c : Nat} {f : Int} {S : List Int} (h : Rf s b c f S) (line : Int) (hl : line ≤ 9223372036854775807) (x y : Int) :
    rf D f_steadfastref04_Frames_turn [.ptr (.hp b) [] 21, .int .i64 line, .int .i64 x, .int .i64 y] s =
      if stS f S line < 0 then some (.int .i64 1, s) else if stS f S line ≠ x then some (.int .i64 3, s) else
        some (.int .i64 0, ⟨s.loc, s.hp.set c (.rw (.agg 38 ((S.set (line - f).toNat y).map (.int .i64))))⟩) := by
  have e := rf_rState h line hl
  have hb := h.rb
  have hc := h.sb
  have h0 := h.f0
  have hn := h.n
  simp only [rfV] at hb
  rw [rf_o D_steadfastref04_Frames_turn rfl]
  by_cases c1 : stS f S line < 0
  · rw [if_pos c1]
    generalize stS f S line = t at *
    simp only [go_sem, e, c1]
  · rw [if_neg c1]
    by_cases c2 : stS f S line = x
    · have hin : ¬ (line < f ∨ (S.length : Int) ≤ line - f) := fun hh => by
        unfold stS at c1
        rw [if_pos hh] at c1
        exact c1 (by decide)
      obtain ⟨k, hk⟩ : ∃ k : Nat, line - f = k := ⟨(line - f).toNat, by omega⟩
      have hkl : k < S.length := by omega
      have hg := get_map (f := V.int .i64) (l := S) hkl 0
      have e1 : IntKind.i64.wrap (line - f) = k := by rw [hk]; exact i64_id (by omega) (by omega)
      rw [if_neg (by simp [c2]), hk, Int.toNat_natCast, List.map_set]
      subst c2
      generalize stS f S line = t at *
      simp only [go_sem, e, c1, hb, e1, sad_r hkl, hc, hg]
    · rw [if_pos c2]
      generalize stS f S line = t at *
      simp only [go_sem, e, c1, c2]
theorem rf_rTake {s : St} {b c : Nat} {f : Int} {S : List Int} (h : Rf s b c f S) (line : Int) (hl : line ≤ 9223372036854775807) :
    rf D f_steadfastref04_Frames_Take [.ptr (.hp b) [] 21, .int .i64 line] s = rf D f_steadfastref04_Frames_turn [.ptr (.hp b) [] 21, .int .i64 line, .int .i64 0, .int .i64 1] s := by
  rw [rf_rturn h line hl 0 1]
  have e := rf_rturn h line hl 0 1
  rw [rf_o D_steadfastref04_Frames_Take rfl]
  by_cases c1 : stS f S line < 0
  · rw [if_pos c1] at e ⊢
    simp only [go_sem, e]
  · rw [if_neg c1] at e ⊢
    by_cases c2 : stS f S line = 0
    · rw [if_neg (by simp [c2])] at e ⊢
      simp only [go_sem, e]
    · rw [if_pos c2] at e ⊢
      simp only [go_sem, e]
theorem getD_setI {B : List Int} {i j : Nat} {v : Int} (hi : i < B.length) : (B.set i v).getD j 0 = if i = j then v else B.getD j 0 := by
  rw [List.getD_eq_getElem?_getD, List.getD_eq_getElem?_getD, List.getElem?_set]
  by_cases h : i = j
  · subst h; simp [hi]
  · simp [h]
theorem set_same {l : List Blk} {a : Nat} {x : Blk} (h : l[a]? = some x) : l.set a x = l := by
  have ha := (List.getElem?_eq_some_iff.1 h).1
  apply List.ext_getElem?
  intro j
  by_cases e : a = j
  · subst e; rw [List.getElem?_set_self ha]; exact h.symm
  · rw [List.getElem?_set_ne e]
theorem rf_rNew_err (f l : Int) (h : f < 0 ∨ l < f ∨ 1024 < l) (s : St) : rf D f_steadfastref04_New [.int .i64 f, .int .i64 l] s = some (.tup [.nilp, .int .i64 1], s) := by
  rw [rf_o D_steadfastref04_New rfl]
  by_cases h1 : f < 0
  · simp only [go_sem, h1]
  · by_cases h2 : l < f
    · simp only [go_sem, h1, h2]
    · have h3 : 1024 < l := by omega
      simp only [go_sem, h1, h2, h3]
theorem rf_rNew_ok (f l : Int) (h0 : 0 ≤ f) (h1 : f ≤ l) (h2 : l ≤ 1024) (s : St) :
    rf D f_steadfastref04_New [.int .i64 f, .int .i64 l] s = some (.tup [.ptr (.hp (s.hp.length + 1)) [] 21, .int .i64 0], ⟨s.loc, s.hp ++ [.rw (.agg 38 (List.replicate (l - f).toNat (.int .i64 0))), .rw (rfV f s.hp.length (l - f).toNat)]⟩) := by
  have c1 : ¬ f < 0 := by omega
  have c2 : ¬ l < f := by omega
  have c3 : ¬ 1024 < l := by omega
  obtain ⟨n, hn⟩ : ∃ n : Nat, l - f = n := ⟨(l - f).toNat, by omega⟩
  have e1 : IntKind.i64.wrap (l - f) = n := by rw [hn]; exact i64_id (by omega) (by omega)
  have hm : (n : Int) ≤ (most : Nat) := by unfold most; omega
  have d0 : (0 : Int) ≤ n := by omega
  rw [hn, Int.toNat_natCast, rf_o D_steadfastref04_New rfl]
  simp only [rfV]
  simp only [go_sem, c1, c2, c3, e1, hm, d0, Int.le_refl]
  rw [Int.toNat_natCast]
end Go.Proofs.Ytpbpgbedkmbfkaa
namespace Go.Proofs.Ytpbpgbedkmbfkaa
open Go.Ab
structure Obj where
  kind : Int
  ver : Int
  l : List Int
def Obj.v (o : Obj) : V := .agg 26 [.int .i64 o.kind, .int .i64 o.ver, .agg 24 (o.l.map (.int .u64))]
def noObj : Obj := ⟨0, 0, []⟩
theorem map_of {α : Type} {f : α → V} {P : α → Prop} {l : List V} (h : ∀ x ∈ l, ∃ a, x = f a ∧ P a) : ∃ la : List α, l = la.map f ∧ ∀ a ∈ la, P a := by
  induction l with
  | nil => exact ⟨[], rfl, by simp⟩
  | cons x l ih =>
    obtain ⟨a, rfl, ha⟩ := h x (List.mem_cons_self ..)
    obtain ⟨la, rfl, hl⟩ := ih fun y hy => h y (List.mem_cons_of_mem _ hy)
    refine ⟨a :: la, rfl, fun y hy => ?_⟩
    rcases List.mem_cons.1 hy with rfl | hy
    · exact ha
    · exact hl y hy
structure OkO (o : Obj) : Prop where
  l8 : o.l.length = 8
  words : ∀ x ∈ o.l, 0 ≤ x ∧ x ≤ 18446744073709551615
theorem obj_of {hp : List Blk} {v : V} (h : (Sh.st 26 [.int .i64, .int .i64, .arr 24 8 (.int .u64)]).Fits hp v) : ∃ o : Obj, v = o.v ∧ OkO o ∧ (-9223372036854775808 ≤ o.kind ∧ o.kind ≤ 9223372036854775807) ∧ (-9223372036854775808 ≤ o.ver ∧ o.ver ≤ 9223372036854775807) := by
  obtain ⟨vs, rfl, h⟩ := h
  obtain ⟨x, y, z, rfl, ⟨k, rfl, hk⟩, ⟨w, rfl, hw⟩, ⟨ws, rfl, hn, hl⟩⟩ := fits3 h
  obtain ⟨l, rfl, hl'⟩ := map_of (f := V.int .u64) (P := fun x => 0 ≤ x ∧ x ≤ 18446744073709551615) (fun x hx => by
    obtain ⟨n, rfl, h1, h2⟩ := hl x hx
    exact ⟨n, rfl, h1, h2⟩)
  refine ⟨⟨k, w, l⟩, rfl, ⟨by simpa using hn, hl'⟩, hk, hw⟩
def zeroObj : Obj := ⟨0, 0, List.replicate 8 0⟩
def absm (k m : Int) : Int := if Int.tmod k m < 0 then -(Int.tmod k m) else Int.tmod k m
theorem absm_le (k : Int) {m : Int} (hm : 0 < m) : 0 ≤ absm k m ∧ absm k m < m := by
  have h1 := Int.tmod_lt_of_pos k hm
  have h2 := Int.lt_tmod_of_pos k hm
  unfold absm
  split <;> omega
end Go.Proofs.Ytpbpgbedkmbfkaa
namespace Go.Proofs.Ytpbpgbedkmbfkaa
open Go.Ab

structure Ent where
  kind : Int
  ver : Int
  line : Int
def Ent.v (x : Ent) : V := .agg 42 [.int .i64 x.kind, .int .i64 x.ver, .int .i64 x.line]
def tabV (t : Nat → Ent) : V := .agg 48 (tab 49 fun i => (t i).v)
def dirV (d : Nat → Int) : V := .agg 50 (tab 8 fun i => .int .i64 (d i))
def shV (f : Nat → Bool) : V := .agg 82 (tab 1024 fun j => .bool (f j))
def noEnt : Ent := ⟨0, 0, 0⟩
/-- A set of lines, with those of a table's first n. -/
def addL (t : Nat → Ent) (f : Nat → Bool) : Nat → Nat → Bool
  | 0 => f
  | n + 1 => if (t n).kind = 0 then addL t f n else upd (addL t f n) (t n).line.toNat true
structure InL (t : Nat → Ent) : Prop where
  inn : ∀ i, i < 49 → (t i).kind ≠ 0 → 0 ≤ (t i).line ∧ (t i).line < 1024
theorem rf_add {s : St} {a : Nat} {x0 x1 x2 x3 x4 x5 x6 : V} {f : Nat → Bool} {t : Nat → Ent} (h : s.hp[a]? = some (.rw (.agg 43 [x0, x1, x2, x3, x4, x5, x6, shV f]))) (ht : InL t) :
    rf D f_objects_lines_add [.ptr (.hp a) [7] 82, tabV t] s = some (.tup [], ⟨s.loc, s.hp.set a (.rw (.agg 43 [x0, x1, x2, x3, x4, x5, x6, shV (addL t f 49)]))⟩) := by
  have ha := (List.getElem?_eq_some_iff.1 h).1
  have loop : rc D s.loc.length (.loop [0, 6, 7] b_objects_lines_add_0) [(0, .ptr (.hp a) [7] 82), (6, tabV t), (7, .int .i64 0)] ⟨s.loc ++ [.rw (tabV t)], s.hp⟩ =
      some (.exit 0, [(0, .ptr (.hp a) [7] 82), (6, tabV t), (7, .int .i64 49), (8, .bool false)], ⟨s.loc ++ [.rw (tabV t)], s.hp.set a (.rw (.agg 43 [x0, x1, x2, x3, x4, x5, x6, shV (addL t f 49)]))⟩) := by
    refine loop_runs (fun x : Nat => [(0, .ptr (.hp a) [7] 82), (6, tabV t), (7, .int .i64 x)]) (fun x => ⟨s.loc ++ [.rw (tabV t)], s.hp.set a (.rw (.agg 43 [x0, x1, x2, x3, x4, x5, x6, shV (addL t f x)]))⟩) (fun _ => _) (fun x => 49 - x) (fun x => x ≤ 49) 0 ?_ (by omega) rfl ?_
    · intro i hi
      by_cases c1 : i < 49
      · left
        have d1 : (i : Int) < 49 := by omega
        have d2 : (0 : Int) ≤ i := by omega
        have d4 : IntKind.i64.wrap ((i : Int) + 1) = (i : Int) + 1 := i64_id (by omega) (by omega)
        have g1 := tab_get (f := fun i => (t i).v) c1
        have hin := ht.inn i c1
        refine ⟨i + 1, by omega, by omega, rfl, ?_⟩
        simp only [tabV, Ent.v, addL] at *
        generalize tab 49 (fun i => V.agg 42 [.int .i64 (t i).kind, .int .i64 (t i).ver, .int .i64 (t i).line]) = T at *
        have hs : ∀ b, (s.hp.set a b)[a]? = some b := fun b => List.getElem?_set_self ha
        by_cases hk : (t i).kind = 0
        · simp only [hk, if_true] at g1 ⊢
          generalize addL t f i = f' at *
          simp only [go_sem, b_objects_lines_add_0, d1, d2]
          rw [Int.toNat_natCast]
          simp only [go_sem, g1, d4]
          rfl
        · simp only [hk, if_false] at g1 ⊢
          obtain ⟨h1, h2⟩ := hin hk
          obtain ⟨q, hq⟩ : ∃ q : Nat, (t i).line = q := ⟨(t i).line.toNat, by omega⟩
          simp only [hq, Int.toNat_natCast] at g1 h1 h2 ⊢
          have e := tab_set 1024 (fun j => V.bool (addL t f i j)) q (.bool true)
          have hu : tab 1024 (upd (fun j => V.bool (addL t f i j)) q (.bool true)) = tab 1024 (fun j => V.bool (upd (addL t f i) q true j)) := tab_congr fun j _ => by unfold upd; split <;> rfl
          rw [hu] at e
          have hg := tab_get (f := fun j => V.bool (addL t f i j)) (show q < 1024 by omega)
          simp only [shV]
          rw [← e]
          generalize tab 1024 (fun j => V.bool (addL t f i j)) = F at *
          generalize addL t f i q = y at *
          simp only [go_sem, b_objects_lines_add_0, d1, d2]
          rw [Int.toNat_natCast]
          simp only [go_sem, g1, hk, h1, h2, hs]
          rw [Int.toNat_natCast]
          simp only [go_sem, hg, d4, List.set_set]
          rfl
      · right
        have : i = 49 := by omega
        subst this
        simp only [tabV]
        simp only [go_sem, b_objects_lines_add_0]
    · simp only [addL]
      rw [set_same h]
  simp only [tabV] at *
  rw [rf_o D_objects_lines_add rfl]
  simp only [go_sem, loop]
/-- Which lines are shared. -/
def shOf (base mark : Nat → Ent) (marked : Bool) : Nat → Bool := if marked then addL mark (addL base (fun _ => false) 49) 49 else addL base (fun _ => false) 49
structure StF where
  m : Nat
  fr : Nat
  work : Nat → Ent
  base : Nat → Ent
  dir : Nat → Int
  mark : Nat → Ent
  marked : Bool
def StF.v (x : StF) (sh : Nat → Bool) : V := .agg 43 [.ptr (.hp x.m) [] 59, .ptr (.hp x.fr) [] 80, tabV x.work, tabV x.base, dirV x.dir, tabV x.mark, .bool x.marked, shV sh]
theorem sh_none : V.agg 82 (List.replicate 1024 (.bool false)) = shV fun _ => false := by rw [tab_rep]; rfl
theorem rf_share {s : St} {a : Nat} {x : StF} {sh : Nat → Bool} (h : s.hp[a]? = some (.rw (x.v sh))) (hb : InL x.base) (hm : x.marked = true → InL x.mark) :
    rf D f_objects_Store_share [.ptr (.hp a) [] 43] s = some (.tup [], ⟨s.loc, s.hp.set a (.rw (x.v (shOf x.base x.mark x.marked)))⟩) := by
  have ha := (List.getElem?_eq_some_iff.1 h).1
  have hs : ∀ b, (s.hp.set a b)[a]? = some b := fun b => List.getElem?_set_self ha
  obtain ⟨m, fr, work, base, dir, mark, marked⟩ := x
  simp only [StF.v] at *
  have r1 := fun L => rf_add (s := ⟨s.loc ++ L, s.hp.set a (.rw (.agg 43 [.ptr (.hp m) [] 59, .ptr (.hp fr) [] 80, tabV work, tabV base, dirV dir, tabV mark, .bool marked, shV fun _ => false]))⟩) (hs _) hb
  have r2 := fun L (h : marked = true) => rf_add (s := ⟨s.loc ++ L, s.hp.set a (.rw (.agg 43 [.ptr (.hp m) [] 59, .ptr (.hp fr) [] 80, tabV work, tabV base, dirV dir, tabV mark, .bool marked, shV (addL base (fun _ => false) 49)]))⟩) (hs _) (hm h)
  have e := sh_none
  simp only [List.set_set, shV] at r1 r2 h e ⊢
  have r1 := r1 []
  have r2 := r2 []
  simp only [List.append_nil] at r1 r2
  rw [rf_o D_objects_Store_share rfl]
  simp only [tabV, V.agg.injEq, true_and] at *
  cases marked
  · simp only [shOf, Bool.false_eq_true, if_false]
    generalize tab 1024 (fun j => V.bool (addL base (fun _ => false) 49 j)) = F1 at *
    simp only [go_sem, h, e, hs, r1]
  · have r2 := r2 rfl
    simp only [shOf, if_true]
    generalize tab 1024 (fun j => V.bool (addL base (fun _ => false) 49 j)) = F1 at *
    simp only [go_sem, h, e, hs, r1, r2]
end Go.Proofs.Ytpbpgbedkmbfkaa
namespace Go.Proofs.Ytpbpgbedkmbfkaa
open Go.Ab

/-- Lines taken one behind the other. -/
def takeL (f l : Int) : List Int → List Nat → Option (List Nat)
  | [], w => some w
  | x :: r, w => if stOf f l w (w16 []) x = 0 then takeL f l r (flip w x.toNat) else none
def linesF (t : Nat → Ent) : Nat → Nat → List Int
  | _, 0 => []
  | i, n + 1 => if (t i).kind = 0 then linesF t (i + 1) n else (t i).line :: linesF t (i + 1) n
def dirF (d : Nat → Int) : Nat → Nat → List Int
  | _, 0 => []
  | i, n + 1 => d i :: dirF d (i + 1) n
def allL (t : Nat → Ent) (d : Nat → Int) : List Int := linesF t 0 49 ++ dirF d 0 8
theorem takeL_in {f l : Int} (h0 : 0 ≤ f) (h1 : l ≤ 1024) : ∀ {ls : List Int} {w w' : List Nat}, takeL f l ls w = some w' → ∀ x ∈ ls, 0 ≤ x ∧ x < 1024
  | [], _, _, _, x, hx => by cases hx
  | y :: r, w, w', h, x, hx => by
    simp only [takeL] at h
    split at h
    · rename_i hz
      rcases List.mem_cons.1 hx with rfl | hx
      · have := line_of (show stOf f l w (w16 []) x ≠ -1 by rw [hz]; decide)
        omega
      · exact takeL_in h0 h1 h x hx
    · cases h
theorem linesF_mem (t : Nat → Ent) : ∀ (n i k : Nat), i ≤ k → k < i + n → (t k).kind ≠ 0 → (t k).line ∈ linesF t i n
  | 0, i, k, h1, h2, _ => by omega
  | n + 1, i, k, h1, h2, h3 => by
    simp only [linesF]
    by_cases e : i = k
    · subst e; rw [if_neg h3]; exact List.mem_cons_self
    · have := linesF_mem t n (i + 1) k (by omega) (by omega) h3
      split
      · exact this
      · exact List.mem_cons_of_mem _ this
theorem ok_takes {f l : Int} (h0 : 0 ≤ f) (h1 : l ≤ 1024) {w : List Nat} (hw : OkS w) {x : Int} (hx : stOf f l w (w16 []) x = 0) : OkS (flip w x.toNat) := by
  have := line_of (show stOf f l w (w16 []) x ≠ -1 by rw [hx]; decide)
  exact hw.flip (by omega)
theorem takeL_ok {f l : Int} (h0 : 0 ≤ f) (h1 : l ≤ 1024) : ∀ {ls : List Int} {w w' : List Nat}, OkS w → takeL f l ls w = some w' → OkS w'
  | [], _, _, hw, h => by cases h; exact hw
  | y :: r, w, w', hw, h => by
    simp only [takeL] at h
    split at h
    · rename_i hz
      exact takeL_ok h0 h1 (ok_takes h0 h1 hw hz) h
    · cases h
theorem inE_no {st : Int} (h : st ≠ 0) : ¬ inE st 0 = 0 := by
  unfold inE; split <;> simp_all
theorem objOf_loop0 (L0 H : List Blk) (t : Nat → Ent) (d : Nat → Int) (f : Int) (l : Nat) (X : V) (h0 : 0 ≤ f) (h1 : l ≤ 1024) (w0 : List Nat) (hw0 : OkS w0) (rest : List Int) :
    ∃ r, rc D L0.length (.loop [7, 10, 12, 34, 35] b_objects_Of_0) [(7, .ptr (.loc (L0.length + 1)) [] 50), (10, .ptr (.hp H.length) [] 80), (12, .ptr (.hp (H.length + 1)) [] 43), (34, tabV t), (35, .int .i64 0)]
        ⟨L0 ++ [.rw (tabV t), .rw (dirV d)], H ++ [.rw (frV f l w0 (w16 [])), .rw X]⟩ = some r ∧
      ((takeL f l (linesF t 0 49 ++ rest) w0 = none ∧ ∃ (L' : List Blk) (w : List Nat), r = (.ret, [(8, .nilp), (9, .int .i64 21)], ⟨L0 ++ L', H ++ [.rw (frV f l w (w16 [])), .rw X]⟩)) ∨
       (∃ w, OkS w ∧ takeL f l (linesF t 0 49 ++ rest) w0 = takeL f l rest w ∧ r = (.exit 0, [(7, .ptr (.loc (L0.length + 1)) [] 50), (10, .ptr (.hp H.length) [] 80), (12, .ptr (.hp (H.length + 1)) [] 43), (34, tabV t), (35, .int .i64 49), (36, .bool false)],
          ⟨L0 ++ [.rw (tabV t), .rw (dirV d)], H ++ [.rw (frV f l w (w16 [])), .rw X]⟩))) := by
  refine loop_ex (fun x : Nat × List Nat => [(7, .ptr (.loc (L0.length + 1)) [] 50), (10, .ptr (.hp H.length) [] 80), (12, .ptr (.hp (H.length + 1)) [] 43), (34, tabV t), (35, .int .i64 x.1)])
    (fun x => ⟨L0 ++ [.rw (tabV t), .rw (dirV d)], H ++ [.rw (frV f l x.2 (w16 [])), .rw X]⟩) _ (fun x => 49 - x.1)
    (fun x => x.1 ≤ 49 ∧ OkS x.2 ∧ takeL f l (linesF t 0 49 ++ rest) w0 = takeL f l (linesF t x.1 (49 - x.1) ++ rest) x.2) (0, w0) ?_ ⟨by simp only; omega, hw0, rfl⟩ rfl rfl
  rintro ⟨i, w⟩ ⟨hi, hok, htk⟩
  simp only at hi hok htk
  by_cases c1 : i < 49
  · have d1 : (i : Int) < 49 := by omega
    have d2 : (0 : Int) ≤ i := by omega
    have d5 : L0.length + 1 < L0.length + 2 := by omega
    have d4 : IntKind.i64.wrap ((i : Int) + 1) = (i : Int) + 1 := i64_id (by omega) (by omega)
    have g1 := tab_get (f := fun i => (t i).v) c1
    have hl : linesF t i (49 - i) = if (t i).kind = 0 then linesF t (i + 1) (49 - (i + 1)) else (t i).line :: linesF t (i + 1) (49 - (i + 1)) := by
      rw [show 49 - i = (49 - (i + 1)) + 1 by omega]; rfl
    rw [hl] at htk
    by_cases hk : (t i).kind = 0
    · left
      rw [if_pos hk] at htk
      refine ⟨(i + 1, w), ⟨by simp only; omega, hok, htk⟩, by simp only; omega, ?_⟩
      simp only [tabV, Ent.v, dirV] at *
      simp only [hk] at g1
      generalize tab 49 (fun i => V.agg 42 [.int .i64 (t i).kind, .int .i64 (t i).ver, .int .i64 (t i).line]) = T at *
      simp only [go_sem, b_objects_Of_0, d1, d2]
      rw [Int.toNat_natCast]
      simp only [go_sem, g1, d4, d5]
      rfl
    · rw [if_neg hk, List.cons_append] at htk
      simp only [takeL] at htk
      have hfr : ∀ L : List Blk, Fr ⟨L, H ++ [.rw (frV f l w (w16 [])), .rw X]⟩ H.length f l w (w16 []) := fun L => ⟨by simp, h0, by omega, hok, ok_nil⟩
      by_cases hst : stOf f l w (w16 []) (t i).line = 0
      · left
        rw [if_pos hst] at htk
        have r1 := fun L => rf_Take_ok (hfr L) (t i).line hst
        refine ⟨(i + 1, flip w (t i).line.toNat), ⟨by simp only; omega, ok_takes h0 (by omega) hok hst, htk⟩, by simp only; omega, ?_⟩
        simp only [tabV, Ent.v, dirV] at *
        generalize tab 49 (fun i => V.agg 42 [.int .i64 (t i).kind, .int .i64 (t i).ver, .int .i64 (t i).line]) = T at *
        simp only [app_set0, List.set_cons_zero] at r1
        simp only [go_sem, b_objects_Of_0, d1, d2]
        rw [Int.toNat_natCast]
        simp only [go_sem, g1, hk, r1, d4, d5]
        rfl
      · right
        rw [if_neg hst] at htk
        have r1 := fun L => rf_Take_no (hfr L) (t i).line hst
        have hne := inE_no hst
        refine ⟨_, ?_, .inl ⟨htk, [.rw (tabV t), .rw (dirV d), .rw (t i).v], w, rfl⟩⟩
        simp only [tabV, Ent.v, dirV] at *
        generalize tab 49 (fun i => V.agg 42 [.int .i64 (t i).kind, .int .i64 (t i).ver, .int .i64 (t i).line]) = T at *
        simp only [go_sem, b_objects_Of_0, d1, d2]
        rw [Int.toNat_natCast]
        simp only [go_sem, g1, hk, r1, hne]
  · right
    have : i = 49 := by omega
    subst this
    refine ⟨_, ?_, .inr ⟨w, hok, by rw [htk]; rfl, rfl⟩⟩
    simp only [tabV]
    simp only [go_sem, b_objects_Of_0]
theorem objOf_loop1 (L0 H : List Blk) (t : Nat → Ent) (d : Nat → Int) (f : Int) (l : Nat) (X : V) (h0 : 0 ≤ f) (h1 : l ≤ 1024) (w0 : List Nat) (hw0 : OkS w0) :
    ∃ r, rc D L0.length (.loop [10, 12, 49, 50] b_objects_Of_1) [(10, .ptr (.hp H.length) [] 80), (12, .ptr (.hp (H.length + 1)) [] 43), (49, dirV d), (50, .int .i64 0)]
        ⟨L0 ++ [.rw (tabV t), .rw (dirV d)], H ++ [.rw (frV f l w0 (w16 [])), .rw X]⟩ = some r ∧
      ((takeL f l (dirF d 0 8) w0 = none ∧ ∃ (L' : List Blk) (w : List Nat), r = (.ret, [(8, .nilp), (9, .int .i64 21)], ⟨L0 ++ L', H ++ [.rw (frV f l w (w16 [])), .rw X]⟩)) ∨
       (∃ w, takeL f l (dirF d 0 8) w0 = some w ∧ r = (.exit 2, [(10, .ptr (.hp H.length) [] 80), (12, .ptr (.hp (H.length + 1)) [] 43), (49, dirV d), (50, .int .i64 8), (51, .bool false)],
          ⟨L0 ++ [.rw (tabV t), .rw (dirV d)], H ++ [.rw (frV f l w (w16 [])), .rw X]⟩))) := by
  refine loop_ex (fun x : Nat × List Nat => [(10, .ptr (.hp H.length) [] 80), (12, .ptr (.hp (H.length + 1)) [] 43), (49, dirV d), (50, .int .i64 x.1)])
    (fun x => ⟨L0 ++ [.rw (tabV t), .rw (dirV d)], H ++ [.rw (frV f l x.2 (w16 [])), .rw X]⟩) _ (fun x => 8 - x.1)
    (fun x => x.1 ≤ 8 ∧ OkS x.2 ∧ takeL f l (dirF d 0 8) w0 = takeL f l (dirF d x.1 (8 - x.1)) x.2) (0, w0) ?_ ⟨by simp only; omega, hw0, rfl⟩ rfl rfl
  rintro ⟨i, w⟩ ⟨hi, hok, htk⟩
  simp only at hi hok htk
  by_cases c1 : i < 8
  · have d1 : (i : Int) < 8 := by omega
    have d2 : (0 : Int) ≤ i := by omega
    have d4 : IntKind.i64.wrap ((i : Int) + 1) = (i : Int) + 1 := i64_id (by omega) (by omega)
    have g1 := tab_get (f := fun i => V.int .i64 (d i)) c1
    have hl : dirF d i (8 - i) = d i :: dirF d (i + 1) (8 - (i + 1)) := by
      rw [show 8 - i = (8 - (i + 1)) + 1 by omega]; rfl
    rw [hl] at htk
    simp only [takeL] at htk
    have hfr : ∀ L : List Blk, Fr ⟨L, H ++ [.rw (frV f l w (w16 [])), .rw X]⟩ H.length f l w (w16 []) := fun L => ⟨by simp, h0, by omega, hok, ok_nil⟩
    by_cases hst : stOf f l w (w16 []) (d i) = 0
    · left
      rw [if_pos hst] at htk
      have r1 := fun L => rf_Take_ok (hfr L) (d i) hst
      refine ⟨(i + 1, flip w (d i).toNat), ⟨by simp only; omega, ok_takes h0 (by omega) hok hst, htk⟩, by simp only; omega, ?_⟩
      simp only [tabV, dirV] at *
      generalize tab 8 (fun i => V.int .i64 (d i)) = T at *
      simp only [app_set0, List.set_cons_zero] at r1
      simp only [go_sem, b_objects_Of_1, d1, d2]
      rw [Int.toNat_natCast]
      simp only [go_sem, g1, r1, d4]
      rfl
    · right
      rw [if_neg hst] at htk
      have r1 := fun L => rf_Take_no (hfr L) (d i) hst
      have hne := inE_no hst
      refine ⟨_, ?_, .inl ⟨htk, [.rw (tabV t), .rw (dirV d)], w, rfl⟩⟩
      simp only [tabV, dirV] at *
      generalize tab 8 (fun i => V.int .i64 (d i)) = T at *
      simp only [go_sem, b_objects_Of_1, d1, d2]
      rw [Int.toNat_natCast]
      simp only [go_sem, g1, r1, hne]
  · right
    have : i = 8 := by omega
    subst this
    refine ⟨_, ?_, .inr ⟨w, by rw [htk]; rfl, rfl⟩⟩
    simp only [dirV]
    simp only [go_sem, b_objects_Of_1]
theorem bits_ext {w w' : List Nat} (h : OkS w) (h' : OkS w') (hb : ∀ j, j < 1024 → bit w j = bit w' j) : w = w' := by
  apply List.ext_getElem?
  intro q
  by_cases hq : q < 16
  · have e : w.getD q 0 = w'.getD q 0 := by
      apply Nat.eq_of_testBit_eq
      intro k
      by_cases hk : k < 64
      · have := hb (64 * q + k) (by omega)
        unfold bit at this
        rw [show (64 * q + k) / 64 = q by omega, show (64 * q + k) % 64 = k by omega] at this
        exact this
      · have h2 : 2 ^ 64 ≤ 2 ^ k := Nat.pow_le_pow_right (by decide) (by omega)
        rw [Nat.testBit_lt_two_pow (Nat.lt_of_lt_of_le (h.get hq) h2), Nat.testBit_lt_two_pow (Nat.lt_of_lt_of_le (h'.get hq) h2)]
    have hl := h.len
    have hl' := h'.len
    rw [List.getD_eq_getElem?_getD, List.getD_eq_getElem?_getD, List.getElem?_eq_getElem (by omega), List.getElem?_eq_getElem (by omega)] at e
    rw [List.getElem?_eq_getElem (by omega), List.getElem?_eq_getElem (by omega)]
    exact congrArg some e
  · rw [List.getElem?_eq_none (by rw [h.len]; omega), List.getElem?_eq_none (by rw [h'.len]; omega)]
theorem inL_none : InL fun _ => noEnt := ⟨fun _ _ h => absurd rfl h⟩
/-- Objects made: of what is told by takeL. -/
theorem rf_objects_Of {m k n : Nat} {off burns : Bool} {left steps : Int} (s : St) (hm : s.hp[m]? = some (.rw (memV k n off burns left steps))) (f : Int) (h0 : 0 ≤ f) (h1 : f ≤ n) (h2 : n ≤ 1024) (t : Nat → Ent) (d : Nat → Int) :
    ∃ w0, OkS w0 ∧ (∀ j : Nat, j < 1024 → bit w0 j = (decide (f ≤ j) && decide ((j : Int) < n))) ∧
      ((takeL f n (allL t d) w0 = none ∧ ∃ more, rf D f_objects_Of [.ptr (.hp m) [] 59, .int .i64 f, tabV t, dirV d] s = some (.tup [.nilp, .int .i64 21], ⟨s.loc, s.hp ++ more⟩)) ∨
       (∃ w, OkS w ∧ takeL f n (allL t d) w0 = some w ∧ rf D f_objects_Of [.ptr (.hp m) [] 59, .int .i64 f, tabV t, dirV d] s = some (.tup [.ptr (.hp (s.hp.length + 1)) [] 43, .int .i64 0],
          ⟨s.loc, s.hp ++ [.rw (frV f n w (w16 [])), .rw ((⟨m, s.hp.length, t, t, d, fun _ => noEnt, false⟩ : StF).v (shOf t (fun _ => noEnt) false))]⟩))) := by
  have hln := fun L => rf_nvm_Lines ⟨s.loc ++ L, s.hp⟩ hm
  obtain ⟨w0, hok0, hbit0, _⟩ := rf_New_ok f n h0 h1 (by omega) s
  have hnew : ∀ L, rf D f_frames_New [.int .i64 f, .int .i64 n] ⟨s.loc ++ L, s.hp⟩ = some (.tup [.ptr (.hp s.hp.length) [] 80, .int .i64 0], ⟨s.loc ++ L, s.hp ++ [.rw (frV f n w0 (w16 []))]⟩) := by
    intro L
    obtain ⟨w1, hok1, hbit1, e⟩ := rf_New_ok f n h0 h1 (by omega) ⟨s.loc ++ L, s.hp⟩
    rw [bits_ext hok0 hok1 fun j hj => by rw [hbit0 j hj, hbit1 j hj]]
    exact e
  refine ⟨w0, hok0, hbit0, ?_⟩
  obtain ⟨r0, e0, q0⟩ := objOf_loop0 s.loc s.hp t d f n ((⟨m, s.hp.length, t, t, d, fun _ => noEnt, false⟩ : StF).v (fun _ => false)) h0 h2 w0 hok0 (dirF d 0 8)
  have z1 : V.agg 48 (List.replicate 49 (.agg 42 [.int .i64 0, .int .i64 0, .int .i64 0])) = tabV fun _ => noEnt := by rw [tab_rep]; rfl
  have z2 := sh_none
  simp only [allL]
  rcases q0 with ⟨hn, L', w, rfl⟩ | ⟨w, hok, hw, rfl⟩
  · left
    refine ⟨hn, [.rw (frV f n w (w16 [])), .rw ((⟨m, s.hp.length, t, t, d, fun _ => noEnt, false⟩ : StF).v (fun _ => false))], ?_⟩
    rw [rf_o D_objects_Of rfl]
    simp only [StF.v, tabV, dirV, shV] at *
    simp only [go_sem, hln, hnew, z1, z2, e0]
  · obtain ⟨r1, e1, q1⟩ := objOf_loop1 s.loc s.hp t d f n ((⟨m, s.hp.length, t, t, d, fun _ => noEnt, false⟩ : StF).v (fun _ => false)) h0 h2 w hok
    rw [hw]
    rcases q1 with ⟨hn, L', w', rfl⟩ | ⟨w', hw', rfl⟩
    · left
      refine ⟨hn, [.rw (frV f n w' (w16 [])), .rw ((⟨m, s.hp.length, t, t, d, fun _ => noEnt, false⟩ : StF).v (fun _ => false))], ?_⟩
      rw [rf_o D_objects_Of rfl]
      simp only [StF.v, tabV, dirV, shV] at *
      simp only [go_sem, hln, hnew, z1, z2, e0, e1]
    · right
      have hin : InL t := ⟨fun i hi hk => takeL_in h0 (by omega) (hw.trans hw') _ (List.mem_append_left _ (linesF_mem t 49 0 i (by omega) (by omega) hk))⟩
      have rs := fun L => rf_share (s := ⟨s.loc ++ L, s.hp ++ [.rw (frV f n w' (w16 [])), .rw ((⟨m, s.hp.length, t, t, d, fun _ => noEnt, false⟩ : StF).v (fun _ => false))]⟩) (a := s.hp.length + 1) (x := ⟨m, s.hp.length, t, t, d, fun _ => noEnt, false⟩) (sh := fun _ => false) (by simp) hin (fun h => absurd h (by simp))
      refine ⟨w', takeL_ok h0 (by omega) hok hw', hw', ?_⟩
      rw [rf_o D_objects_Of rfl]
      simp only [StF.v, tabV, dirV, shV] at *
      simp only [go_sem, hln, hnew, z1, z2, e0, e1, rs]
end Go.Proofs.Ytpbpgbedkmbfkaa
namespace Go.Proofs.Ytpbpgbedkmbfkaa
open Go.Ab

/-- A slice of numbers that was appended to, and what is behind it. -/
structure Apd (L0 : List Blk) (X : List Blk) (v : V) (l : List Int) : Prop where
  at' : (l = [] ∧ v = .nils) ∨ (∃ Y, X = Y ++ [.rw (.agg 38 (l.map (.int .i64)))] ∧ v = .sl (.hp (L0.length + Y.length)) [] 0 l.length none 10)
theorem Apd.push {L0 X : List Blk} {v : V} {l : List Int} (h : Apd L0 X v l) {loc : List Blk} (hl : l.length < 1000) (x : Int) {y : V} (hy : y = .nils ∨ ∃ a p o n c, y = .sl a p o n c 10) (hyl : St.elems ⟨loc, L0 ++ X⟩ y = some [.int .i64 x]) {base : Nat} :
    ∃ X' v', vappend base true 38 10 v y ⟨loc, L0 ++ X⟩ = some (v', ⟨loc, L0 ++ X'⟩) ∧ Apd L0 X' v' (l ++ [x]) := by
  rcases h.at' with ⟨rfl, rfl⟩ | ⟨Y, rfl, rfl⟩
  · refine ⟨X ++ [.rw (.agg 38 [.int .i64 x])], _, ?_, ⟨.inr ⟨X, rfl, rfl⟩⟩⟩
    rw [app_nils hy hyl (by simp) (by simp [most]) rfl]
    simp only [go_sem]
  · refine ⟨Y ++ [.dead] ++ [.rw (.agg 38 ((l ++ [x]).map (.int .i64)))], _, ?_, ⟨.inr ⟨Y ++ [.dead], rfl, rfl⟩⟩⟩
    have e1 : St.elems ⟨loc, L0 ++ (Y ++ [.rw (.agg 38 (l.map (.int .i64)))])⟩ (.sl (.hp (L0.length + Y.length)) [] 0 l.length none 10) = some (l.map (.int .i64)) :=
      elems_whole (t := 38) (by rw [← List.append_assoc, ← List.length_append]; simp only [go_sem]) (by simp)
    have e2 : St.at ⟨loc, L0 ++ (Y ++ [.rw (.agg 38 (l.map (.int .i64)))])⟩ (.hp (L0.length + Y.length)) = some (.rw (.agg 38 (l.map (.int .i64)))) := by
      rw [← List.append_assoc, ← List.length_append]; simp [St.at]
    rw [app_may hy e1 hyl (by simp) (by simp [most]; omega) rfl e2]
    have e3 : (St.set ⟨loc, L0 ++ (Y ++ [.rw (.agg 38 (l.map (.int .i64)))])⟩ (.hp (L0.length + Y.length)) .dead) = ⟨loc, L0 ++ (Y ++ [.dead])⟩ := by
      simp only [St.set]
      rw [← List.append_assoc, ← List.length_append, List.set_append_right _ _ (Nat.le_refl _)]
      simp
    rw [e3]
    simp only [go_sem]
    simp
theorem Apd.elems {L0 X : List Blk} {v : V} {l : List Int} (h : Apd L0 X v l) {loc : List Blk} : St.elems ⟨loc, L0 ++ X⟩ v = some (l.map (.int .i64)) := by
  rcases h.at' with ⟨rfl, rfl⟩ | ⟨Y, rfl, rfl⟩
  · rfl
  · exact elems_whole (t := 38) (by rw [← List.append_assoc, ← List.length_append]; simp only [go_sem]) (by simp)
theorem linesF_snoc (t : Nat → Ent) : ∀ (n i : Nat), linesF t i (n + 1) = linesF t i n ++ if (t (i + n)).kind = 0 then [] else [(t (i + n)).line]
  | 0, i => by simp only [linesF, Nat.add_zero]; split <;> rfl
  | n + 1, i => by
    rw [linesF, linesF_snoc t n (i + 1), linesF, show i + 1 + n = i + (n + 1) by omega]
    split <;> simp
theorem linesF_len (t : Nat → Ent) : ∀ (n i : Nat), (linesF t i n).length ≤ n
  | 0, i => Nat.le_refl _
  | n + 1, i => by
    have := linesF_len t n (i + 1)
    simp only [linesF]
    split
    · omega
    · simp only [List.length_cons]; omega
theorem rf_rlines (t : Nat → Ent) (s : St) : ∃ X v, Apd s.hp X v (linesF t 0 49) ∧ rf D f_steadfastref10_lines [tabV t] s = some (v, ⟨s.loc, s.hp ++ X⟩) := by
  have loop : ∃ r, rc D s.loc.length (.loop [1, 3, 4] b_steadfastref10_lines_0) [(1, .ptr (.loc s.loc.length) [] 48), (3, .nils), (4, .int .i64 0)] ⟨s.loc ++ [.rw (tabV t)], s.hp⟩ = some r ∧
      ∃ X v, Apd s.hp X v (linesF t 0 49) ∧ r = (.exit 0, [(1, .ptr (.loc s.loc.length) [] 48), (3, v), (4, .int .i64 49), (6, .bool false)], ⟨s.loc ++ [.rw (tabV t)], s.hp ++ X⟩) := by
    refine loop_ex (fun x : Nat × List Blk × V => [(1, .ptr (.loc s.loc.length) [] 48), (3, x.2.2), (4, .int .i64 x.1)]) (fun x => ⟨s.loc ++ [.rw (tabV t)], s.hp ++ x.2.1⟩) _ (fun x => 49 - x.1)
      (fun x => x.1 ≤ 49 ∧ Apd s.hp x.2.1 x.2.2 (linesF t 0 x.1)) (0, [], .nils) ?_ ⟨by simp only; omega, ⟨.inl ⟨rfl, rfl⟩⟩⟩ rfl (by simp)
    rintro ⟨i, X, v⟩ ⟨hi, ha⟩
    simp only at hi ha
    by_cases c1 : i < 49
    · left
      have d1 : (i : Int) < 49 := by omega
      have d2 : (0 : Int) ≤ i := by omega
      have d4 : IntKind.i64.wrap ((i : Int) + 1) = (i : Int) + 1 := i64_id (by omega) (by omega)
      have d5 : s.loc.length < s.loc.length + 1 := Nat.lt_succ_self _
      have g1 := tab_get (f := fun i => (t i).v) c1
      have hsn := linesF_snoc t i 0
      rw [Nat.zero_add] at hsn
      have hv : v.locLt (s.loc.length + 1) = true := by
        rcases ha.at' with ⟨_, rfl⟩ | ⟨Y, _, rfl⟩ <;> simp only [go_sem]
      by_cases hk : (t i).kind = 0
      · rw [if_pos hk, List.append_nil] at hsn
        refine ⟨(i + 1, X, v), ⟨by simp only; omega, by simp only; rw [hsn]; exact ha⟩, by simp only; omega, ?_⟩
        simp only [tabV, Ent.v] at *
        simp only [hk] at g1
        generalize tab 49 (fun i => V.agg 42 [.int .i64 (t i).kind, .int .i64 (t i).ver, .int .i64 (t i).line]) = T at *
        simp only [go_sem, b_steadfastref10_lines_0, d1, d2]
        rw [Int.toNat_natCast]
        simp only [go_sem, g1, d4, hv, d5]
        rfl
      · rw [if_neg hk] at hsn
        have hll := linesF_len t i 0
        obtain ⟨X', v', e1, ha'⟩ := ha.push (loc := s.loc ++ [.rw (tabV t), .rw (.agg 38 [.int .i64 (t i).line])]) (by omega) (t i).line (y := .sl (.loc (s.loc.length + 1)) [] 0 1 (some 1) 10) (.inr ⟨_, _, _, _, _, rfl⟩)
          (elems_whole (t := 38) (by simp only [go_sem]) rfl) (base := s.loc.length)
        have hv' : v'.locLt (s.loc.length + 1) = true := by
          rcases ha'.at' with ⟨_, rfl⟩ | ⟨Y, _, rfl⟩ <;> simp only [go_sem]
        refine ⟨(i + 1, X', v'), ⟨by simp only; omega, by simp only; rw [hsn]; exact ha'⟩, by simp only; omega, ?_⟩
        simp only [tabV, Ent.v] at *
        generalize tab 49 (fun i => V.agg 42 [.int .i64 (t i).kind, .int .i64 (t i).ver, .int .i64 (t i).line]) = T at *
        simp only [go_sem, b_steadfastref10_lines_0, d1, d2]
        rw [Int.toNat_natCast]
        simp only [go_sem, g1, hk, d1, d2]
        rw [Int.toNat_natCast]
        simp only [go_sem, g1, d4, List.replicate, e1, hv', d5]
        rfl
    · right
      have : i = 49 := by omega
      subst this
      refine ⟨_, ?_, X, v, ha, rfl⟩
      simp only [go_sem, b_steadfastref10_lines_0]
  obtain ⟨_, hl, X, v, ha, rfl⟩ := loop
  refine ⟨X, v, ha, ?_⟩
  have hv : v.locLt s.loc.length = true := by
    rcases ha.at' with ⟨_, rfl⟩ | ⟨Y, _, rfl⟩ <;> simp only [go_sem]
  simp only [tabV] at *
  rw [rf_o D_steadfastref10_lines rfl]
  simp only [go_sem, hl, hv]
end Go.Proofs.Ytpbpgbedkmbfkaa
