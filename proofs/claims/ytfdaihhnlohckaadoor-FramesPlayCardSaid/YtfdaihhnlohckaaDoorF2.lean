/-
  FramesB: the sets of lines, and the frames' functions.
-/
import Derived.Test.YtfdaihhnlohckaaDoorF0
import Derived.Test.YtfdaihhnlohckaaDoorF1
import Derived.Test.YtfdaihhnlohckaaDoorAb27
set_option maxRecDepth 100000
namespace Go.Proofs.YtfdaihhnlohckaaDoor
open Go.Ab

def bit (w : List Nat) (i : Nat) : Bool := (w.getD (i / 64) 0).testBit (i % 64)
def flip (w : List Nat) (i : Nat) : List Nat := w.set (i / 64) ((w.getD (i / 64) 0) ^^^ 2 ^ (i % 64))
structure OkS (w : List Nat) : Prop where
  len : w.length = 16
  lt : ∀ x ∈ w, x < 18446744073709551616
theorem two_lt {r : Nat} (h : r < 64) : 2 ^ r < 18446744073709551616 := Nat.pow_lt_pow_right (show 1 < 2 by decide) h
theorem OkS.get {w : List Nat} (h : OkS w) {q : Nat} (hq : q < 16) : w.getD q 0 < 18446744073709551616 := h.lt _ (getD_mem (by rw [h.len]; exact hq) 0)
theorem OkS.flip {w : List Nat} (h : OkS w) {i : Nat} (hi : i < 1024) : OkS (flip w i) := by
  refine ⟨by simp [YtfdaihhnlohckaaDoor.flip, h.len], fun x hx => ?_⟩
  rcases List.mem_or_eq_of_mem_set hx with hx | rfl
  · exact h.lt x hx
  · exact Nat.xor_lt_two_pow (n := 64) (h.get (by omega)) (two_lt (by omega))
theorem bit_flip {w : List Nat} (h : OkS w) {i : Nat} (hi : i < 1024) (j : Nat) : bit (flip w i) j = ((bit w j) ^^ decide (i = j)) := by
  unfold bit YtfdaihhnlohckaaDoor.flip
  have hlen := h.len
  by_cases hq : i / 64 = j / 64
  · have e : (w.set (i / 64) (w.getD (i / 64) 0 ^^^ 2 ^ (i % 64))).getD (j / 64) 0 = w.getD (j / 64) 0 ^^^ 2 ^ (i % 64) := by
      rw [hq, List.getD_eq_getElem?_getD, List.getElem?_set_self (by omega)]; rfl
    rw [e, Nat.testBit_xor, Nat.testBit_two_pow]
    congr 1
    apply decide_eq_decide.2
    omega
  · have e : (w.set (i / 64) (w.getD (i / 64) 0 ^^^ 2 ^ (i % 64))).getD (j / 64) 0 = w.getD (j / 64) 0 := by
      rw [List.getD_eq_getElem?_getD, List.getElem?_set_ne hq, List.getD_eq_getElem?_getD]
    have hij : ¬ i = j := fun h => hq (by rw [h])
    rw [e]
    simp [hij]
theorem quo64 {i : Nat} (hi : i < 1024) : IntKind.i64.wrap ((i : Int).tdiv 64) = ((i / 64 : Nat) : Int) := by
  rw [show (64 : Int) = ((64 : Nat) : Int) by rfl, ← Int.ofNat_tdiv]
  exact i64_id (by omega) (by omega)
theorem rem64 {i : Nat} : (i : Int).tmod 64 = ((i % 64 : Nat) : Int) := by
  rw [show (64 : Int) = ((64 : Nat) : Int) by rfl, ← Int.ofNat_tmod]
theorem shr_nat {w r : Nat} (hr : r ≤ 64) : ishr .u64 (w : Int) (r : Int) = ((w / 2 ^ r : Nat) : Int) := by
  rw [ishr_two (w : Int) r hr, Int.natCast_ediv, Int.natCast_pow]; rfl
theorem and_one {x : Nat} (hx : x < 18446744073709551616) : iand .u64 (x : Int) 1 = ((x % 2 : Nat) : Int) := by
  have := iand_mask (x : Int) 1 (by omega) (by omega) (by decide)
  rw [show (1 : Int) = 2 ^ 1 - 1 by decide, this]; simp
theorem shl_one {r : Nat} (hr : r < 64) : ishl .u64 1 (r : Int) = ((2 ^ r : Nat) : Int) := by
  rw [ishl_two 1 r (by omega)]
  have h := two_lt hr
  rw [Int.one_mul, show (2 : Int) ^ r = ((2 ^ r : Nat) : Int) by rw [Int.natCast_pow]; rfl]
  generalize 2 ^ r = p at *
  omega
theorem rf_has2 (s : St) (a : Nat) (F L X : V) (w : List Nat) (hw : OkS w) (hb : s.hp[a]? = some (.rw (.agg 80 [F, L, .agg 78 (w.map cN), X]))) (i : Nat) (hi : i < 1024) :
    rf D f_frames_set_has [.ptr (.hp a) [2] 78, .int .i64 i] s = some (.bool (bit w i), s) := by
  have e1 := quo64 hi
  have e2 := rem64 (i := i)
  have hq : i / 64 < 16 := by omega
  have hr : i % 64 < 64 := by omega
  have hg := get_map (f := cN) (l := w) (i := i / 64) (by rw [hw.len]; exact hq) 0
  have hlt := hw.get hq
  unfold bit
  generalize i / 64 = q at *
  generalize i % 64 = r at *
  generalize w.getD q 0 = x at *
  have e3 := shr_nat (w := x) (r := r) (by omega)
  have hx2 : x / 2 ^ r < 18446744073709551616 := Nat.lt_of_le_of_lt (Nat.div_le_self _ _) hlt
  have e4 := and_one hx2
  rw [Nat.testBit_eq_decide_div_mod_eq]
  generalize x / 2 ^ r = y at *
  generalize y % 2 = z at *
  have d1 : (q : Int) < 16 := by omega
  have d2 : (0 : Int) ≤ q := by omega
  have d3 : ¬ (r : Int) < 0 := by omega
  rw [rf_o D_frames_set_has rfl]
  simp only [go_sem, e1, e2, d1, d2]
  rw [Int.toNat_natCast]
  simp only [go_sem, hb, hg, e3, e4, d3]
  have e5 : decide ((z : Int) = 1) = decide (z = 1) := decide_eq_decide.2 (by omega)
  rw [e5]
theorem rf_has3 (s : St) (a : Nat) (F L X : V) (w : List Nat) (hw : OkS w) (hb : s.hp[a]? = some (.rw (.agg 80 [F, L, X, .agg 78 (w.map cN)]))) (i : Nat) (hi : i < 1024) :
    rf D f_frames_set_has [.ptr (.hp a) [3] 78, .int .i64 i] s = some (.bool (bit w i), s) := by
  have e1 := quo64 hi
  have e2 := rem64 (i := i)
  have hq : i / 64 < 16 := by omega
  have hr : i % 64 < 64 := by omega
  have hg := get_map (f := cN) (l := w) (i := i / 64) (by rw [hw.len]; exact hq) 0
  have hlt := hw.get hq
  unfold bit
  generalize i / 64 = q at *
  generalize i % 64 = r at *
  generalize w.getD q 0 = x at *
  have e3 := shr_nat (w := x) (r := r) (by omega)
  have hx2 : x / 2 ^ r < 18446744073709551616 := Nat.lt_of_le_of_lt (Nat.div_le_self _ _) hlt
  have e4 := and_one hx2
  rw [Nat.testBit_eq_decide_div_mod_eq]
  generalize x / 2 ^ r = y at *
  generalize y % 2 = z at *
  have d1 : (q : Int) < 16 := by omega
  have d2 : (0 : Int) ≤ q := by omega
  have d3 : ¬ (r : Int) < 0 := by omega
  rw [rf_o D_frames_set_has rfl]
  simp only [go_sem, e1, e2, d1, d2]
  rw [Int.toNat_natCast]
  simp only [go_sem, hb, hg, e3, e4, d3]
  have e5 : decide ((z : Int) = 1) = decide (z = 1) := decide_eq_decide.2 (by omega)
  rw [e5]
theorem rf_turn2 (s : St) (a : Nat) (F L X : V) (w : List Nat) (hw : OkS w) (hb : s.hp[a]? = some (.rw (.agg 80 [F, L, .agg 78 (w.map cN), X]))) (i : Nat) (hi : i < 1024) :
    rf D f_frames_set_turn [.ptr (.hp a) [2] 78, .int .i64 i] s = some (.tup [], ⟨s.loc, s.hp.set a (.rw (.agg 80 [F, L, .agg 78 ((flip w i).map cN), X]))⟩) := by
  have e1 := quo64 hi
  have e2 := rem64 (i := i)
  have hq : i / 64 < 16 := by omega
  have hr : i % 64 < 64 := by omega
  have hg := get_map (f := cN) (l := w) (i := i / 64) (by rw [hw.len]; exact hq) 0
  have hlt := hw.get hq
  unfold YtfdaihhnlohckaaDoor.flip
  generalize i / 64 = q at *
  generalize i % 64 = r at *
  generalize w.getD q 0 = x at *
  have e3 := shl_one hr
  have e4 := ixor_nat hlt (two_lt hr)
  rw [List.map_set]
  generalize x ^^^ 2 ^ r = y at *
  generalize 2 ^ r = z at *
  have d1 : (q : Int) < 16 := by omega
  have d2 : (0 : Int) ≤ q := by omega
  have d3 : ¬ (r : Int) < 0 := by omega
  rw [rf_o D_frames_set_turn rfl]
  simp only [go_sem, e1, e2, d1, d2, d3]
  rw [Int.toNat_natCast]
  simp only [go_sem, hb, hg, e3, e4]
theorem rf_turn3 (s : St) (a : Nat) (F L X : V) (w : List Nat) (hw : OkS w) (hb : s.hp[a]? = some (.rw (.agg 80 [F, L, X, .agg 78 (w.map cN)]))) (i : Nat) (hi : i < 1024) :
    rf D f_frames_set_turn [.ptr (.hp a) [3] 78, .int .i64 i] s = some (.tup [], ⟨s.loc, s.hp.set a (.rw (.agg 80 [F, L, X, .agg 78 ((flip w i).map cN)]))⟩) := by
  have e1 := quo64 hi
  have e2 := rem64 (i := i)
  have hq : i / 64 < 16 := by omega
  have hr : i % 64 < 64 := by omega
  have hg := get_map (f := cN) (l := w) (i := i / 64) (by rw [hw.len]; exact hq) 0
  have hlt := hw.get hq
  unfold YtfdaihhnlohckaaDoor.flip
  generalize i / 64 = q at *
  generalize i % 64 = r at *
  generalize w.getD q 0 = x at *
  have e3 := shl_one hr
  have e4 := ixor_nat hlt (two_lt hr)
  rw [List.map_set]
  generalize x ^^^ 2 ^ r = y at *
  generalize 2 ^ r = z at *
  have d1 : (q : Int) < 16 := by omega
  have d2 : (0 : Int) ≤ q := by omega
  have d3 : ¬ (r : Int) < 0 := by omega
  rw [rf_o D_frames_set_turn rfl]
  simp only [go_sem, e1, e2, d1, d2, d3]
  rw [Int.toNat_natCast]
  simp only [go_sem, hb, hg, e3, e4]
end Go.Proofs.YtfdaihhnlohckaaDoor
