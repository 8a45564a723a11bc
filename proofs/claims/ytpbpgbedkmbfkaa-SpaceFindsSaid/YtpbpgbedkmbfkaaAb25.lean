/-
  Ab25: bits of unsigned words, as arithmetic.
-/
import Derived.Test.YtpbpgbedkmbfkaaAb1
import Derived.IntWalk
namespace Go.Ab

theorem ofInt_toNat {n : Nat} (h : n < 18446744073709551616) : (BitVec.ofInt IntKind.u64.bits (n : Int)).toNat = n := by
  rw [BitVec.ofInt_natCast, BitVec.toNat_ofNat]
  exact Nat.mod_eq_of_lt (by simp only [IntKind.bits]; omega)
theorem iand_nat {n m : Nat} (hn : n < 18446744073709551616) (hm : m < 18446744073709551616) : iand .u64 n m = ((n &&& m : Nat) : Int) := by
  unfold iand bits
  show IntKind.u64.wrap (((BitVec.ofInt IntKind.u64.bits (n : Int)) &&& (BitVec.ofInt IntKind.u64.bits (m : Int))).toNat : Int) = _
  rw [BitVec.toNat_and, ofInt_toNat hn, ofInt_toNat hm]
  have : n &&& m ≤ n := Nat.and_le_left
  exact IntWalk.u64_in _ (by omega)
theorem ior_nat {n m : Nat} (hn : n < 18446744073709551616) (hm : m < 18446744073709551616) : ior .u64 n m = ((n ||| m : Nat) : Int) := by
  unfold ior bits
  show IntKind.u64.wrap (((BitVec.ofInt IntKind.u64.bits (n : Int)) ||| (BitVec.ofInt IntKind.u64.bits (m : Int))).toNat : Int) = _
  rw [BitVec.toNat_or, ofInt_toNat hn, ofInt_toNat hm]
  have : n ||| m < 2 ^ 64 := Nat.or_lt_two_pow hn hm
  exact IntWalk.u64_in _ (by omega)
theorem ixor_nat {n m : Nat} (hn : n < 18446744073709551616) (hm : m < 18446744073709551616) : ixor .u64 n m = ((n ^^^ m : Nat) : Int) := by
  unfold ixor bits
  show IntKind.u64.wrap (((BitVec.ofInt IntKind.u64.bits (n : Int)) ^^^ (BitVec.ofInt IntKind.u64.bits (m : Int))).toNat : Int) = _
  rw [BitVec.toNat_xor, ofInt_toNat hn, ofInt_toNat hm]
  have : n ^^^ m < 2 ^ 64 := Nat.xor_lt_two_pow hn hm
  exact IntWalk.u64_in _ (by omega)
theorem iand_mask (w : Int) (k : Nat) (h0 : 0 ≤ w) (h1 : w ≤ 18446744073709551615) (hk : k ≤ 64) : iand .u64 w (2 ^ k - 1 : Int) = w % 2 ^ k := by
  obtain ⟨n, rfl⟩ : ∃ n : Nat, w = n := ⟨w.toNat, by omega⟩
  have hp : 0 < 2 ^ k := Nat.pow_pos (by decide)
  have hle : 2 ^ k ≤ 2 ^ 64 := Nat.pow_le_pow_right (by decide) hk
  have e1 : ((2 : Int) ^ k - 1) = ((2 ^ k - 1 : Nat) : Int) := by
    rw [Int.natCast_sub hp]; simp
  rw [e1, iand_nat (by omega) (by omega), Nat.and_two_pow_sub_one_eq_mod]
  simp
theorem ishr_two (w : Int) (k : Nat) (hk : k ≤ 64) : ishr .u64 w k = w / 2 ^ k := by
  unfold ishr
  rw [Int.toNat_natCast]
  show w.fdiv (2 ^ min k 64) = _
  rw [Nat.min_eq_left hk, Int.fdiv_eq_ediv_of_nonneg]
  exact Int.le_of_lt (Int.pow_pos (by decide))
theorem ishl_two (w : Int) (k : Nat) (hk : k ≤ 64) : ishl .u64 w k = w * 2 ^ k % 18446744073709551616 := by
  unfold ishl
  rw [Int.toNat_natCast]
  show IntKind.u64.wrap (w * 2 ^ min k 64) = _
  rw [Nat.min_eq_left hk]
  simp [IntKind.wrap, IntKind.bits, IntKind.signed]
theorem i64_id {n : Int} (h0 : -9223372036854775808 ≤ n) (h1 : n ≤ 9223372036854775807) : IntKind.i64.wrap n = n := IntWalk.i64_in _ ⟨h0, h1⟩
theorem u64_id {n : Int} (h0 : 0 ≤ n) (h1 : n ≤ 18446744073709551615) : IntKind.u64.wrap n = n := IntWalk.u64_in _ ⟨h0, h1⟩
end Go.Ab
