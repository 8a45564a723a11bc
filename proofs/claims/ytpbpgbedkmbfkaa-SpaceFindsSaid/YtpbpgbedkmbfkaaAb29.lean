/-
  Ab29: bits of signed words, and fields of unsigned ones.
-/
import Derived.Test.YtpbpgbedkmbfkaaAb25
namespace Go.Ab

theorem i64_back (x : BitVec 64) : IntKind.i64.wrap (x.toNat : Int) = x.toInt := by
  rw [IntKind.wrap_i64, BitVec.toInt_eq_toNat_cond]
  have := x.isLt
  split <;> omega
theorem ofInt_back {z : Int} (h0 : -9223372036854775808 ≤ z) (h1 : z ≤ 9223372036854775807) : (BitVec.ofInt 64 z).toInt = z := by
  rw [BitVec.toInt_ofInt]
  simp only [Int.bmod]
  omega
theorem iand_i64 (a b : Int) : iand .i64 a b = (BitVec.ofInt 64 a &&& BitVec.ofInt 64 b).toInt := i64_back _
theorem iandnot_i64 (a b : Int) : iandnot .i64 a b = (BitVec.ofInt 64 a &&& ~~~ BitVec.ofInt 64 b).toInt := i64_back _
theorem bv_less (a b : BitVec 64) : a &&& ~~~ b = 0#64 ↔ b &&& a = a := by
  constructor
  · intro h
    apply BitVec.eq_of_getLsbD_eq
    intro i hi
    have := congrArg (fun x => x.getLsbD i) h
    simp only [BitVec.getLsbD_and, BitVec.getLsbD_not, hi, decide_true, Bool.true_and, BitVec.getLsbD_zero] at this ⊢
    cases ha : a.getLsbD i <;> cases hb : b.getLsbD i <;> simp_all
  · intro h
    apply BitVec.eq_of_getLsbD_eq
    intro i hi
    have := congrArg (fun x => x.getLsbD i) h
    simp only [BitVec.getLsbD_and, BitVec.getLsbD_not, hi, decide_true, Bool.true_and, BitVec.getLsbD_zero] at this ⊢
    cases ha : a.getLsbD i <;> cases hb : b.getLsbD i <;> simp_all
/-- Nothing of a beyond b. -/
theorem less_i64 {a b : Int} (h0 : -9223372036854775808 ≤ a) (h1 : a ≤ 9223372036854775807) : iandnot .i64 a b = 0 ↔ iand .i64 b a = a := by
  rw [iand_i64, iandnot_i64]
  have ha := ofInt_back h0 h1
  constructor
  · intro h
    have : BitVec.ofInt 64 a &&& ~~~ BitVec.ofInt 64 b = 0#64 := BitVec.eq_of_toInt_eq (by rw [h]; rfl)
    rw [(bv_less _ _).1 this, ha]
  · intro h
    have : BitVec.ofInt 64 b &&& BitVec.ofInt 64 a = BitVec.ofInt 64 a := BitVec.eq_of_toInt_eq (by rw [h, ha])
    rw [(bv_less _ _).2 this]; rfl
theorem iand_comm (k : IntKind) (a b : Int) : iand k a b = iand k b a := by
  unfold iand bits; simp only [BitVec.and_comm]
theorem iand_i64_nat {n m : Nat} (hn : n < 9223372036854775808) (hm : m < 9223372036854775808) : iand .i64 n m = ((n &&& m : Nat) : Int) := by
  rw [iand_i64, BitVec.ofInt_natCast, BitVec.ofInt_natCast]
  have hl : n &&& m ≤ n := Nat.and_le_left
  rw [BitVec.toInt_eq_toNat_of_lt, BitVec.toNat_and, BitVec.toNat_ofNat, BitVec.toNat_ofNat, Nat.mod_eq_of_lt (by omega), Nat.mod_eq_of_lt (by omega)]
  rw [BitVec.toNat_and, BitVec.toNat_ofNat, BitVec.toNat_ofNat, Nat.mod_eq_of_lt (by omega), Nat.mod_eq_of_lt (by omega)]
  omega
theorem iand_i64_le {n m : Int} (hn : 0 ≤ n) (hn1 : n < 9223372036854775808) (hm : 0 ≤ m) (hm1 : m < 9223372036854775808) : 0 ≤ iand .i64 n m ∧ iand .i64 n m ≤ n ∧ iand .i64 n m ≤ m := by
  obtain ⟨a, rfl⟩ : ∃ a : Nat, n = a := ⟨n.toNat, by omega⟩
  obtain ⟨b, rfl⟩ : ∃ a : Nat, m = a := ⟨m.toNat, by omega⟩
  rw [iand_i64_nat (by omega) (by omega)]
  have h1 : a &&& b ≤ a := Nat.and_le_left
  have h2 : a &&& b ≤ b := Nat.and_le_right
  omega
/-- What lies above is added. -/
theorem or_add {n m k : Nat} (h : n < 2 ^ k) : n ||| m * 2 ^ k = n + m * 2 ^ k := by
  rw [Nat.or_comm, Nat.mul_comm, Nat.add_comm]
  exact (Nat.two_pow_add_eq_or_of_lt h m).symm
theorem ior_add {n m : Nat} (k : Nat) (h : n < 2 ^ k) (hn : n < 18446744073709551616) (hm : m * 2 ^ k < 18446744073709551616) : ior .u64 (n : Int) ((m * 2 ^ k : Nat) : Int) = ((n + m * 2 ^ k : Nat) : Int) := by
  rw [ior_nat hn hm, or_add h]
theorem xor_add {n k : Nat} (h : n < 2 ^ k) : n ^^^ 2 ^ k = n + 2 ^ k := by
  have e := Nat.two_pow_add_eq_or_of_lt h 1
  rw [Nat.mul_one] at e
  rw [Nat.add_comm, e]
  apply Nat.eq_of_testBit_eq
  intro j
  rw [Nat.testBit_xor, Nat.testBit_or, Nat.testBit_two_pow]
  by_cases hj : k = j
  · subst hj
    rw [Nat.testBit_lt_two_pow h]; simp
  · simp [hj]
end Go.Ab
