/-
  FramesA: lines, a bit each: the lowest bit that is set.
-/
import Derived.Test.YtfdaihhnlohckaaDoorCode
import Derived.Test.YtfdaihhnlohckaaDoorAb22
import Derived.Test.YtfdaihhnlohckaaDoorAb25
import Derived.KernelRfl
import Derived.Laws.Bits64
set_option maxRecDepth 100000
namespace Go.Proofs.YtfdaihhnlohckaaDoor
open Go.Ab

theorem odd_form : ∀ w : Nat, w ≠ 0 → ∃ k m, w = 2 ^ k * (2 * m + 1) := by
  intro w
  induction w using Nat.strongRecOn with
  | _ w ih =>
    intro h
    by_cases h2 : w % 2 = 1
    · exact ⟨0, w / 2, by omega⟩
    · obtain ⟨k, m, hk⟩ := ih (w / 2) (by omega) (by omega)
      refine ⟨k + 1, m, ?_⟩
      rw [Nat.pow_succ, Nat.mul_assoc, Nat.mul_left_comm, ← hk]; omega
theorem testBit_odd {k m j : Nat} : (2 ^ k * (2 * m + 1)).testBit j = (decide (j = k) || (decide (k < j) && m.testBit (j - k - 1))) := by
  rw [Nat.testBit_two_pow_mul]
  by_cases h : k ≤ j
  · obtain ⟨d, rfl⟩ := Nat.exists_eq_add_of_le h
    simp only [Nat.le_add_right, decide_true, Bool.true_and, Nat.add_sub_cancel_left]
    cases d with
    | zero => simp
    | succ d =>
      rw [Nat.testBit_succ, show (2 * m + 1) / 2 = m by omega]
      simp
  · have h1 : ¬ j = k := by omega
    have h2 : ¬ k < j := by omega
    simp [h, h1, h2]
theorem low_bit {k m : Nat} (hw : 2 ^ k * (2 * m + 1) < 2 ^ 64) : (2 ^ k * (2 * m + 1)) &&& (2 ^ 64 - 2 ^ k * (2 * m + 1)) = 2 ^ k := by
  have hpos : 0 < 2 ^ k := Nat.two_pow_pos k
  apply Nat.eq_of_testBit_eq
  intro j
  have e : 2 ^ 64 - 2 ^ k * (2 * m + 1) = 2 ^ 64 - ((2 ^ k * (2 * m) + (2 ^ k - 1)) + 1) := by
    have : 2 ^ k * (2 * m + 1) = 2 ^ k * (2 * m) + 2 ^ k := by rw [Nat.mul_add, Nat.mul_one]
    omega
  have hlt : 2 ^ k * (2 * m) + (2 ^ k - 1) < 2 ^ 64 := by
    have : 2 ^ k * (2 * m + 1) = 2 ^ k * (2 * m) + 2 ^ k := by rw [Nat.mul_add, Nat.mul_one]
    omega
  rw [Nat.testBit_and, e, Nat.testBit_two_pow_sub_succ hlt, testBit_odd, Nat.testBit_two_pow_mul_add _ (by omega : 2 ^ k - 1 < 2 ^ k), Nat.testBit_two_pow]
  by_cases h1 : j = k
  · subst h1
    have hk : j < 64 := by
      by_cases h : j < 64
      · exact h
      · have := Nat.pow_le_pow_right (show 0 < 2 by decide) (show 64 ≤ j by omega)
        have h3 : 2 ^ j ≤ 2 ^ j * (2 * m + 1) := Nat.le_mul_of_pos_right _ (by omega)
        omega
    simp [hk]
  · by_cases h2 : k < j
    · have h3 : ¬ j < k := by omega
      have h4 : ¬ k = j := fun h => h1 h.symm
      obtain ⟨d, rfl⟩ := Nat.exists_eq_add_of_lt h2
      have e2 : k + d + 1 - k = d + 1 := by omega
      simp only [h1, h3, h4, if_false, decide_false, Bool.false_or, h2, decide_true, Bool.true_and, e2, Nat.add_sub_cancel]
      rw [Nat.testBit_succ, show 2 * m / 2 = m by omega]
      cases m.testBit d <;> simp
    · have h4 : ¬ k = j := fun h => h1 h.symm
      simp [h1, h2, h4]
def tblOk (k : Nat) : Bool := decide (tabl_0[(2 ^ k * 285870213051353865 % 18446744073709551616) / 288230376151711744]? = some (k : Int))
theorem tbl_all : (List.range 64).all tblOk = true := by kernel_rfl
theorem table_ok {k : Nat} (hk : k < 64) : tabl_0[(2 ^ k * 285870213051353865 % 18446744073709551616) / 288230376151711744]? = some (k : Int) :=
  of_decide_eq_true (List.all_eq_true.1 tbl_all k (List.mem_range.2 hk))
/-- The first line of a word. -/
structure Low (w k : Nat) : Prop where
  lt : k < 64
  set : w.testBit k = true
  less : ∀ j, j < k → w.testBit j = false
theorem low_unique {w k k' : Nat} (h : Low w k) (h' : Low w k') : k = k' := by
  rcases Nat.lt_trichotomy k k' with h1 | h1 | h1
  · have := h'.less k h1; rw [h.set] at this; cases this
  · exact h1
  · have := h.less k' h1; rw [h'.set] at this; cases this
theorem tz_e1 (w : Nat) (h0 : w ≠ 0) (hw : w < 18446744073709551616) : IntKind.u64.wrap (0 - (w : Int)) = ((18446744073709551616 - w : Nat) : Int) := by
  rw [IntKind.wrap_u64]; omega
theorem tz_e3 (p : Nat) : IntKind.u64.wrap ((p : Int) * 285870213051353865) = ((p * 285870213051353865 % 18446744073709551616 : Nat) : Int) := by
  rw [IntKind.wrap_u64]; simp
theorem tz_e4 (q : Nat) : ishr .u64 (q : Int) 58 = ((q / 288230376151711744 : Nat) : Int) := by
  have := ishr_two (q : Int) 58 (by decide)
  rw [show (58 : Int) = ((58 : Nat) : Int) by rfl, this]; simp
theorem tz_lt {k m : Nat} (hw : 2 ^ k * (2 * m + 1) < 18446744073709551616) : k < 64 := by
  by_cases h : k < 64
  · exact h
  · have h1 := Nat.pow_le_pow_right (show 0 < 2 by decide) (show 64 ≤ k by omega)
    have h3 : 2 ^ k ≤ 2 ^ k * (2 * m + 1) := Nat.le_mul_of_pos_right _ (by omega)
    have h4 : 18446744073709551616 ≤ 2 ^ k := h1
    exact absurd hw (Nat.not_lt.2 (Nat.le_trans h4 h3))
theorem tz_low {k m : Nat} (hw : 2 ^ k * (2 * m + 1) < 18446744073709551616) : Low (2 ^ k * (2 * m + 1)) k := by
  refine ⟨tz_lt hw, by rw [testBit_odd]; simp, fun j hj => ?_⟩
  rw [testBit_odd]
  have h1 : ¬ j = k := by omega
  have h2 : ¬ k < j := by omega
  simp [h1, h2]
theorem tz_e2 {k m : Nat} (hw : 2 ^ k * (2 * m + 1) < 18446744073709551616) : iand .u64 (2 ^ k * (2 * m + 1) : Nat) ((18446744073709551616 - 2 ^ k * (2 * m + 1) : Nat) : Int) = ((2 ^ k : Nat) : Int) := by
  have h : 0 < 2 ^ k * (2 * m + 1) := Nat.mul_pos (Nat.two_pow_pos k) (by omega)
  rw [iand_nat hw (by omega)]
  exact congrArg _ (low_bit hw)
theorem tz_div {q : Nat} (h : q < 18446744073709551616) : q / 288230376151711744 < 64 := by omega
theorem rf_tz (w : Nat) (h0 : w ≠ 0) (hw : w < 18446744073709551616) (s : St) (hG : s.hp[0]? = some (.ro globV_0)) :
    ∃ k, Low w k ∧ rf D f_math_bits_TrailingZeros64 [.int .u64 w] s = some (.int .i64 k, s) := by
  obtain ⟨k, m, rfl⟩ := odd_form w h0
  have hk := tz_lt hw
  refine ⟨k, tz_low hw, ?_⟩
  have e1 := tz_e1 _ h0 hw
  have e2 := tz_e2 hw
  have ht := table_ok hk
  have d3 : ¬ ((2 ^ k * (2 * m + 1) : Nat) : Int) = 0 := by rw [Int.natCast_eq_zero]; exact h0
  clear hw h0
  generalize 2 ^ k * (2 * m + 1) = w at *
  generalize 2 ^ k = p at *
  have e3 := tz_e3 p
  have hq : p * 285870213051353865 % 18446744073709551616 < 18446744073709551616 := Nat.mod_lt _ (by decide)
  generalize p * 285870213051353865 % 18446744073709551616 = q at *
  have e4 := tz_e4 q
  have hq64 := tz_div hq
  generalize q / 288230376151711744 = r at *
  have d1 : (r : Int) < 64 := by omega
  have d2 : (0 : Int) ≤ (r : Int) := by omega
  have hg : (tabl_0.map (V.int .u8))[r]? = some (.int .u8 k) := by rw [List.getElem?_map, ht]; rfl
  have d4 : IntKind.i64.wrap (k : Int) = k := i64_id (by omega) (by omega)
  have hG' : s.hp[0]? = some (.ro (.agg 108 (tabl_0.map (V.int .u8)))) := hG
  generalize 18446744073709551616 - w = nw at *
  rw [rf_o D_math_bits_TrailingZeros64 rfl]
  simp only [go_sem, d3, e1, e2, e3]
  simp only [e4]
  simp only [d1, d2, go_sem]
  rw [Int.toNat_natCast, hG']
  simp only [go_sem, hg, d4]
end Go.Proofs.YtfdaihhnlohckaaDoor
