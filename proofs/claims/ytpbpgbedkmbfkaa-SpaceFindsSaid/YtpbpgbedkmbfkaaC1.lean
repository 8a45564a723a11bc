/-
  CapsA: fields of a word, as the document's answer lays and reads them.
-/
import Derived.Test.YtpbpgbedkmbfkaaR1
import Derived.Test.YtpbpgbedkmbfkaaAb29
set_option maxRecDepth 100000
namespace Go.Proofs.Ytpbpgbedkmbfkaa
open Go.Ab

theorem two_lt64 {r : Nat} (h : r < 64) : 2 ^ r < 18446744073709551616 := Nat.pow_lt_pow_right (show 1 < 2 by decide) h
theorem rf_bit1 {w i : Nat} (hw : w < 18446744073709551616) (hi : i ≤ 64) (s : St) : rf D f_steadfastref01_bit [.int .u64 w, .int .i64 i] s = some (.int .u64 (w / 2 ^ i % 2 : Nat), s) := by
  have e1 : ishr .u64 (w : Int) (i : Int) = ((w / 2 ^ i : Nat) : Int) := by
    rw [ishr_two (w : Int) i hi, Int.natCast_ediv, Int.natCast_pow]; rfl
  have e2 : iand .u64 ((w / 2 ^ i : Nat) : Int) 1 = ((w / 2 ^ i % 2 : Nat) : Int) := by
    have hlt : w / 2 ^ i < 18446744073709551616 := Nat.lt_of_le_of_lt (Nat.div_le_self _ _) hw
    generalize w / 2 ^ i = y at *
    have := iand_mask (y : Int) 1 (by omega) (by omega) (by decide)
    rw [show (1 : Int) = 2 ^ 1 - 1 by decide, this]; simp
  generalize w / 2 ^ i % 2 = z at *
  generalize w / 2 ^ i = y at *
  have d : ¬ (i : Int) < 0 := by omega
  rw [rf_o D_steadfastref01_bit rfl]
  simp only [go_sem, e1, e2, d]
theorem rf_is1 {a b : Nat} (h1 : 1 ≤ b) (h2 : a + b ≤ 64) (s : St) : rf D f_steadfastref01_is [.int .i64 a, .int .i64 b] s = some (.bool true, s) := by
  have e : IntKind.i64.wrap ((a : Int) + (b : Int)) = ((a + b : Nat) : Int) := by rw [i64_id (by omega) (by omega)]; omega
  have c1 : (0 : Int) ≤ a := by omega
  have c2 : (a : Int) ≤ 63 := by omega
  have c3 : (1 : Int) ≤ b := by omega
  have c4 : (b : Int) ≤ 64 := by omega
  have c5 : ((a + b : Nat) : Int) ≤ 64 := by omega
  rw [rf_o D_steadfastref01_is rfl]
  simp only [go_sem, c1, c2, c3, c4, e, c5]
theorem part_lt {w a v i : Nat} (hw : w < 2 ^ a) : w + v % 2 ^ i * 2 ^ a < 2 ^ (a + i) := by
  have h1 : v % 2 ^ i < 2 ^ i := Nat.mod_lt _ (Nat.two_pow_pos i)
  have h2 : (v % 2 ^ i + 1) * 2 ^ a ≤ 2 ^ i * 2 ^ a := Nat.mul_le_mul_right _ h1
  rw [Nat.pow_add, Nat.mul_comm (2 ^ a)]
  rw [Nat.add_mul, Nat.one_mul] at h2
  omega
theorem part_succ {w a v i : Nat} : w + v % 2 ^ (i + 1) * 2 ^ a = w + v % 2 ^ i * 2 ^ a + v / 2 ^ i % 2 * 2 ^ (a + i) := by
  rw [Nat.mod_pow_succ, Nat.add_mul, Nat.pow_add, ← Nat.add_assoc]
  congr 1
  rw [Nat.mul_comm (2 ^ i), Nat.mul_assoc, Nat.mul_comm (2 ^ i)]
/-- A field laid above what is there. -/
theorem rf_With {w a b v : Nat} (hb : 1 ≤ b) (hab : a + b ≤ 64) (hw : w < 2 ^ a) (hv : v < 2 ^ b) (s : St) :
    rf D f_steadfastref01_With [.int .u64 w, .int .i64 a, .int .i64 b, .int .u64 v] s = some (.tup [.int .u64 (w + v * 2 ^ a : Nat), .int .i64 0], s) := by
  have hw64 : w < 18446744073709551616 := Nat.lt_trans hw (two_lt64 (by omega))
  have hv64 : v < 18446744073709551616 := Nat.lt_of_lt_of_le hv (show 2 ^ b ≤ 2 ^ 64 from Nat.pow_le_pow_right (by decide) (by omega))
  have his := fun s => rf_is1 hb hab s
  have loop1 : rc D s.loc.length (.loop [0, 1, 2, 3, 10] b_steadfastref01_With_0) [(0, .int .u64 w), (1, .int .i64 a), (2, .int .i64 b), (3, .int .u64 v), (10, .int .i64 b)] s =
      some (.exit 0, [(0, .int .u64 w), (1, .int .i64 a), (2, .int .i64 b), (3, .int .u64 v), (10, .int .i64 64), (18, .bool false)], s) := by
    refine loop_runs (fun x : Nat => [(0, .int .u64 w), (1, .int .i64 a), (2, .int .i64 b), (3, .int .u64 v), (10, .int .i64 x)]) (fun _ => s) (fun _ => _) (fun x => 64 - x) (fun x => b ≤ x ∧ x ≤ 64) b ?_ ⟨Nat.le_refl _, by omega⟩ rfl rfl
    rintro i ⟨h1, h2⟩
    by_cases c1 : i < 64
    · left
      have d1 : (i : Int) < 64 := by omega
      have d4 : IntKind.i64.wrap ((i : Int) + 1) = (i : Int) + 1 := i64_id (by omega) (by omega)
      have hbit := fun s => rf_bit1 hv64 (i := i) (by omega) s
      have hz : v / 2 ^ i % 2 = 0 := by
        rw [Nat.div_eq_of_lt (Nat.lt_of_lt_of_le hv (Nat.pow_le_pow_right (by decide) h1))]
      rw [hz] at hbit
      refine ⟨i + 1, ⟨by omega, by omega⟩, by omega, rfl, ?_⟩
      simp only [go_sem, b_steadfastref01_With_0, d1, hbit, d4]
      rfl
    · right
      have : i = 64 := by omega
      subst this
      simp only [go_sem, b_steadfastref01_With_0]
  have loop2 : rc D s.loc.length (.loop [0, 1, 2, 3, 11] b_steadfastref01_With_1) [(0, .int .u64 w), (1, .int .i64 a), (2, .int .i64 b), (3, .int .u64 v), (11, .int .i64 0)] s =
      some (.exit 2, [(0, .int .u64 (w + v * 2 ^ a : Nat)), (1, .int .i64 a), (2, .int .i64 b), (3, .int .u64 v), (11, .int .i64 b), (27, .bool false)], s) := by
    refine loop_runs (fun x : Nat => [(0, .int .u64 (w + v % 2 ^ x * 2 ^ a : Nat)), (1, .int .i64 a), (2, .int .i64 b), (3, .int .u64 v), (11, .int .i64 x)]) (fun _ => s) (fun _ => _) (fun x => b - x) (fun x => x ≤ b) 0 ?_ (Nat.zero_le _) (by simp [Nat.mod_one]) rfl
    intro i h2
    by_cases c1 : i < b
    · left
      have d1 : (i : Int) < b := by omega
      have d4 : IntKind.i64.wrap ((i : Int) + 1) = (i : Int) + 1 := i64_id (by omega) (by omega)
      have e1 : IntKind.i64.wrap ((a : Int) + (i : Int)) = ((a + i : Nat) : Int) := by rw [i64_id (by omega) (by omega)]; omega
      have hlt := part_lt (v := v) (i := i) hw
      have h64 : 2 ^ (a + i) < 18446744073709551616 := two_lt64 (by omega)
      have hx64 : w + v % 2 ^ i * 2 ^ a < 18446744073709551616 := Nat.lt_trans hlt h64
      have hb1 := fun s => rf_bit1 hv64 (i := i) (by omega) s
      have hb2 := fun s => rf_bit1 hx64 (i := a + i) (by omega) s
      rw [Nat.div_eq_of_lt hlt] at hb2
      have hs := part_succ (w := w) (a := a) (v := v) (i := i)
      have hsh : ishl .u64 1 ((a + i : Nat) : Int) = ((2 ^ (a + i) : Nat) : Int) := by
        rw [ishl_two 1 (a + i) (by omega), Int.one_mul, show (2 : Int) ^ (a + i) = ((2 ^ (a + i) : Nat) : Int) by rw [Int.natCast_pow]; rfl]
        generalize 2 ^ (a + i) = p at *
        omega
      have hx := ixor_nat hx64 h64
      rw [xor_add hlt] at hx
      refine ⟨i + 1, by omega, by omega, rfl, ?_⟩
      simp only [hs]
      have h2 : v / 2 ^ i % 2 < 2 := Nat.mod_lt _ (by decide)
      generalize w + v % 2 ^ i * 2 ^ a = x at *
      generalize v / 2 ^ i % 2 = z at *
      generalize 2 ^ (a + i) = p at *
      have d3 : ¬ ((a + i : Nat) : Int) < 0 := by omega
      generalize a + i = q at *
      by_cases hz : z = 1
      · subst hz
        simp only [go_sem, b_steadfastref01_With_1, d1, e1, hb1, hb2, d3, hsh, hx, d4]
        simp only [Nat.one_mul]
        rfl
      · have hz0 : z = 0 := by omega
        subst hz0
        simp only [go_sem, b_steadfastref01_With_1, d1, e1, hb1, hb2, d4]
        simp only [Nat.zero_mul, Nat.add_zero]
        rfl
    · right
      have : i = b := by omega
      subst this
      have d1 : ¬ (i : Int) < i := by omega
      rw [Nat.mod_eq_of_lt hv]
      simp only [go_sem, b_steadfastref01_With_1, d1]
  generalize w + v * 2 ^ a = r at *
  rw [rf_o D_steadfastref01_With rfl]
  simp only [go_sem, his, loop1, loop2]
/-- A field read. -/
theorem rf_Field1 {w a b : Nat} (hb : 1 ≤ b) (hab : a + b ≤ 64) (hw : w < 18446744073709551616) (s : St) :
    rf D f_steadfastref01_Field [.int .u64 w, .int .i64 a, .int .i64 b] s = some (.int .u64 (w / 2 ^ a % 2 ^ b : Nat), s) := by
  have his := fun s => rf_is1 hb hab s
  have loop : rc D s.loc.length (.loop [0, 1, 2, 7, 8] b_steadfastref01_Field_0) [(0, .int .u64 w), (1, .int .i64 a), (2, .int .i64 b), (7, .int .u64 0), (8, .int .i64 0)] s =
      some (.exit 0, [(0, .int .u64 w), (1, .int .i64 a), (2, .int .i64 b), (7, .int .u64 (w / 2 ^ a % 2 ^ b : Nat)), (8, .int .i64 b), (15, .bool false)], s) := by
    refine loop_runs (fun x : Nat => [(0, .int .u64 w), (1, .int .i64 a), (2, .int .i64 b), (7, .int .u64 (w / 2 ^ a % 2 ^ x : Nat)), (8, .int .i64 x)]) (fun _ => s) (fun _ => _) (fun x => b - x) (fun x => x ≤ b) 0 ?_ (Nat.zero_le _) (by simp [Nat.mod_one]) rfl
    intro i h2
    by_cases c1 : i < b
    · left
      have d1 : (i : Int) < b := by omega
      have d4 : IntKind.i64.wrap ((i : Int) + 1) = (i : Int) + 1 := i64_id (by omega) (by omega)
      have e1 : IntKind.i64.wrap ((a : Int) + (i : Int)) = ((a + i : Nat) : Int) := by rw [i64_id (by omega) (by omega)]; omega
      have hb1 := fun s => rf_bit1 hw (i := a + i) (by omega) s
      have hlt : w / 2 ^ a % 2 ^ i < 2 ^ i := Nat.mod_lt _ (Nat.two_pow_pos i)
      have h64 : 2 ^ i < 18446744073709551616 := two_lt64 (by omega)
      have hs : w / 2 ^ a % 2 ^ (i + 1) = w / 2 ^ a % 2 ^ i + w / 2 ^ (a + i) % 2 * 2 ^ i := by
        rw [Nat.mod_pow_succ, Nat.div_div_eq_div_mul, ← Nat.pow_add, Nat.mul_comm (2 ^ i)]
      refine ⟨i + 1, by omega, by omega, rfl, ?_⟩
      simp only [hs]
      have hz2 : w / 2 ^ (a + i) % 2 < 2 := Nat.mod_lt _ (by decide)
      generalize w / 2 ^ (a + i) % 2 = z at *
      have hzp : z * 2 ^ i < 18446744073709551616 := by
        have : z * 2 ^ i ≤ 1 * 2 ^ i := Nat.mul_le_mul_right _ (by omega)
        omega
      have hsh : ishl .u64 (z : Int) (i : Int) = ((z * 2 ^ i : Nat) : Int) := by
        rw [ishl_two (z : Int) i (by omega), show (2 : Int) ^ i = ((2 ^ i : Nat) : Int) by rw [Int.natCast_pow]; rfl, ← Int.natCast_mul]
        generalize z * 2 ^ i = p at *
        omega
      have hor := ior_add (n := w / 2 ^ a % 2 ^ i) (m := z) i hlt (by omega) hzp
      generalize w / 2 ^ a % 2 ^ i = x at *
      have d3 : ¬ (i : Int) < 0 := by omega
      generalize z * 2 ^ i = p at *
      generalize a + i = q at *
      simp only [go_sem, b_steadfastref01_Field_0, d1, e1, hb1, d3, hsh, hor, d4]
      rfl
    · right
      have : i = b := by omega
      subst this
      have d1 : ¬ (i : Int) < i := by omega
      simp only [go_sem, b_steadfastref01_Field_0, d1]
  generalize w / 2 ^ a % 2 ^ b = r at *
  rw [rf_o D_steadfastref01_Field rfl]
  simp only [go_sem, his, loop]
end Go.Proofs.Ytpbpgbedkmbfkaa
