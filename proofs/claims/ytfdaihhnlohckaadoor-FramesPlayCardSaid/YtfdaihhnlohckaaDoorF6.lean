/-
  FramesF: how many bits are set.
-/
import Derived.Test.YtfdaihhnlohckaaDoorF4
set_option maxRecDepth 100000
namespace Go.Proofs.YtfdaihhnlohckaaDoor
open Go.Ab

/-- How many of the first n bits are set. -/
def pc : Nat → Nat → Nat
  | 0, _ => 0
  | n + 1, w => w % 2 + pc n (w / 2)
theorem split_and {a b x m : Nat} (ha : a < 256) (hb : b < 256) : (a + 256 * x) &&& (b + 256 * m) = (a &&& b) + 256 * (x &&& m) := by
  have hab : a &&& b < 256 := Nat.lt_of_le_of_lt Nat.and_le_left ha
  apply Nat.eq_of_testBit_eq
  intro j
  have e : ∀ {c y : Nat}, c < 256 → (c + 256 * y).testBit j = if j < 8 then c.testBit j else y.testBit (j - 8) := fun {c y} hc => by
    rw [Nat.add_comm]
    exact Nat.testBit_two_pow_mul_add (i := 8) y hc j
  rw [Nat.testBit_and, e ha, e hb, e hab]
  split <;> simp [Nat.testBit_and]
def val : List Nat → Nat
  | [] => 0
  | b :: l => b + 256 * val l
def rep (c : Nat) : Nat → Nat
  | 0 => 0
  | n + 1 => c + 256 * rep c n
def s1 (b : Nat) : Nat := (b / 2 &&& 85) + (b &&& 85)
def s2 (b : Nat) : Nat := (b / 4 &&& 51) + (b &&& 51)
def s3 (b : Nat) : Nat := (b / 16 + b) &&& 15
theorem all256 {p : Nat → Bool} (h : (List.range 256).all p = true) {b : Nat} (hb : b < 256) : p b = true := List.all_eq_true.1 h b (List.mem_range.2 hb)
theorem m1 {b t : Nat} (hb : b < 256) (ht : t < 2) : (b / 2 + 128 * t) &&& 85 = b / 2 &&& 85 := by
  have h : (List.range 256).all (fun b => (List.range 2).all fun t => ((b / 2 + 128 * t) &&& 85) == (b / 2 &&& 85)) = true := by decide +kernel
  have := all256 h hb
  simpa using List.all_eq_true.1 this t (List.mem_range.2 ht)
theorem m2 {b t : Nat} (hb : b < 256) (ht : t < 4) : (b / 4 + 64 * t) &&& 51 = b / 4 &&& 51 := by
  have h : (List.range 256).all (fun b => (List.range 4).all fun t => ((b / 4 + 64 * t) &&& 51) == (b / 4 &&& 51)) = true := by decide +kernel
  have := all256 h hb
  simpa using List.all_eq_true.1 this t (List.mem_range.2 ht)
def nib (b : Nat) : Bool := decide (b % 16 ≤ 4) && decide (b / 16 ≤ 4)
theorem nib_s {b : Nat} (hb : b < 256) : nib (s2 (s1 b)) = true := by
  have h : (List.range 256).all (fun b => nib (s2 (s1 b))) = true := by decide +kernel
  exact all256 h hb
theorem s1_lt {b : Nat} (hb : b < 256) : s1 b < 256 := by
  have h : (List.range 256).all (fun b => decide (s1 b < 256)) = true := by decide +kernel
  simpa using all256 h hb
theorem s_pc {b : Nat} (hb : b < 256) : s3 (s2 (s1 b)) = pc 8 b := by
  have h : (List.range 256).all (fun b => s3 (s2 (s1 b)) == pc 8 b) = true := by decide +kernel
  simpa using all256 h hb
theorem m3 {b t : Nat} (hb : nib b = true) (ht : t ≤ 4) : (b / 16 + b + 16 * t) < 256 ∧ (b / 16 + b + 16 * t) &&& 15 = s3 b := by
  have h : (List.range 256).all (fun b => !nib b || (List.range 5).all fun t => decide ((b / 16 + b + 16 * t) < 256) && ((b / 16 + b + 16 * t) &&& 15) == s3 b) = true := by decide +kernel
  have hb' := hb
  simp only [nib, Bool.and_eq_true, decide_eq_true_eq] at hb'
  have := all256 h (b := b) (by omega)
  simp only [hb, Bool.not_true, Bool.false_or] at this
  simpa using List.all_eq_true.1 this t (List.mem_range.2 (by omega))
theorem S1 : ∀ {l : List Nat}, (∀ b ∈ l, b < 256) → ((val l / 2) &&& rep 85 l.length) + (val l &&& rep 85 l.length) = val (l.map s1)
  | [], _ => rfl
  | b :: l, h => by
    have hb := h b (List.mem_cons_self ..)
    have ih := S1 (l := l) fun x hx => h x (List.mem_cons_of_mem _ hx)
    simp only [val, rep, List.length_cons, List.map_cons]
    rw [show (b + 256 * val l) / 2 = (b / 2 + 128 * (val l % 2)) + 256 * (val l / 2) by omega, split_and (by omega) (by decide), split_and hb (by decide), m1 hb (by omega), ← ih]
    unfold s1
    omega
theorem S2 : ∀ {l : List Nat}, (∀ b ∈ l, b < 256) → ((val l / 4) &&& rep 51 l.length) + (val l &&& rep 51 l.length) = val (l.map s2)
  | [], _ => rfl
  | b :: l, h => by
    have hb := h b (List.mem_cons_self ..)
    have ih := S2 (l := l) fun x hx => h x (List.mem_cons_of_mem _ hx)
    simp only [val, rep, List.length_cons, List.map_cons]
    rw [show (b + 256 * val l) / 4 = (b / 4 + 64 * (val l % 4)) + 256 * (val l / 4) by omega, split_and (by omega) (by decide), split_and hb (by decide), m2 hb (by omega), ← ih]
    unfold s2
    omega
theorem val_low : ∀ {l : List Nat}, (∀ b ∈ l, nib b = true) → val l % 16 ≤ 4
  | [], _ => by decide
  | b :: l, h => by
    have hb := h b (List.mem_cons_self ..)
    simp only [nib, Bool.and_eq_true, decide_eq_true_eq] at hb
    simp only [val]
    omega
theorem S3 : ∀ {l : List Nat}, (∀ b ∈ l, nib b = true) → ((val l / 16) + val l) &&& rep 15 l.length = val (l.map s3)
  | [], _ => rfl
  | b :: l, h => by
    have hb := h b (List.mem_cons_self ..)
    have hl := fun x hx => h x (List.mem_cons_of_mem _ hx)
    have ih := S3 (l := l) hl
    obtain ⟨g1, g2⟩ := m3 hb (val_low hl)
    simp only [val, rep, List.length_cons, List.map_cons]
    rw [show (b + 256 * val l) / 16 + (b + 256 * val l) = (b / 16 + b + 16 * (val l % 16)) + 256 * (val l / 16 + val l) by omega, split_and g1 (by decide), g2, ih]
theorem pc_add : ∀ (n m w : Nat), pc (n + m) w = pc n w + pc m (w / 2 ^ n)
  | 0, m, w => by simp [pc]
  | n + 1, m, w => by
    rw [show n + 1 + m = (n + m) + 1 by omega]
    simp only [pc]
    rw [pc_add n m (w / 2), Nat.div_div_eq_div_mul, Nat.pow_succ, Nat.mul_comm 2, Nat.add_assoc]
theorem pc_mod : ∀ (n w : Nat), pc n (w % 2 ^ n) = pc n w
  | 0, w => rfl
  | n + 1, w => by
    simp only [pc]
    rw [show w % 2 ^ (n + 1) % 2 = w % 2 by rw [Nat.pow_succ]; exact Nat.mod_mod_of_dvd _ (Nat.dvd_mul_left 2 _)]
    rw [show w % 2 ^ (n + 1) / 2 = (w / 2) % 2 ^ n by rw [Nat.pow_succ, Nat.mul_comm, Nat.mod_mul_right_div_self], pc_mod n]
def bytes : Nat → Nat → List Nat
  | 0, _ => []
  | n + 1, w => w % 256 :: bytes n (w / 256)
theorem bytes_len : ∀ n w, (bytes n w).length = n
  | 0, _ => rfl
  | n + 1, w => by simp only [bytes, List.length_cons, bytes_len n]
theorem bytes_lt : ∀ n w, ∀ b ∈ bytes n w, b < 256
  | 0, _, b, h => by cases h
  | n + 1, w, b, h => by
    rcases List.mem_cons.1 h with rfl | h
    · omega
    · exact bytes_lt n _ b h
theorem val_bytes : ∀ n w, w < 256 ^ n → val (bytes n w) = w
  | 0, w, h => by simp only [bytes, val]; omega
  | n + 1, w, h => by
    have : w / 256 < 256 ^ n := by rw [Nat.pow_succ] at h; omega
    simp only [bytes, val, val_bytes n _ this]; omega
theorem sum_bytes : ∀ n w, ((bytes n w).map (pc 8)).sum = pc (8 * n) w
  | 0, _ => rfl
  | n + 1, w => by
    rw [show 8 * (n + 1) = 8 + 8 * n by omega, pc_add]
    simp only [bytes, List.map_cons, List.sum_cons, sum_bytes n]
    rw [show (256 : Nat) = 2 ^ 8 by decide, pc_mod]
theorem pc_le : ∀ n w, pc n w ≤ n
  | 0, _ => Nat.le_refl _
  | n + 1, w => by
    have := pc_le n (w / 2)
    simp only [pc]; omega
theorem steps {w : Nat} (hw : w < 18446744073709551616) : ∃ y : List Nat, y.length = 8 ∧ (∀ b ∈ y, b ≤ 8) ∧ y.sum = pc 64 w ∧
    val y = ((((w / 2 &&& 6148914691236517205) + (w &&& 6148914691236517205)) / 4 &&& 3689348814741910323) + (((w / 2 &&& 6148914691236517205) + (w &&& 6148914691236517205)) &&& 3689348814741910323)) / 16 +
      ((((w / 2 &&& 6148914691236517205) + (w &&& 6148914691236517205)) / 4 &&& 3689348814741910323) + (((w / 2 &&& 6148914691236517205) + (w &&& 6148914691236517205)) &&& 3689348814741910323)) &&& 1085102592571150095 := by
  have hl := bytes_lt 8 w
  have hn := bytes_len 8 w
  have hv := val_bytes 8 w hw
  have hs := sum_bytes 8 w
  generalize bytes 8 w = l at *
  refine ⟨l.map (pc 8), by simpa using hn, fun b hb => ?_, hs, ?_⟩
  · obtain ⟨x, _, rfl⟩ := List.mem_map.1 hb
    exact pc_le 8 x
  · have h1 : ∀ b ∈ l.map s1, b < 256 := fun b hb => by
      obtain ⟨x, hx, rfl⟩ := List.mem_map.1 hb
      exact s1_lt (hl x hx)
    have h2 : ∀ b ∈ (l.map s1).map s2, nib b = true := fun b hb => by
      obtain ⟨x, hx, rfl⟩ := List.mem_map.1 hb
      obtain ⟨z, hz, rfl⟩ := List.mem_map.1 hx
      exact nib_s (hl z hz)
    have a1 := S1 hl
    have a2 := S2 h1
    have a3 := S3 h2
    simp only [List.length_map, hn] at a1 a2 a3
    rw [hv, show rep 85 8 = 6148914691236517205 by decide] at a1
    rw [← a1, show rep 51 8 = 3689348814741910323 by decide] at a2
    rw [← a2, show rep 15 8 = 1085102592571150095 by decide] at a3
    rw [a3, List.map_map, List.map_map]
    refine congrArg val (List.map_congr_left fun b hb => ?_)
    exact (s_pc (hl b hb)).symm
theorem fold4 {y0 A1 : Nat} (h : y0 ≤ 8) : (y0 + 256 * A1) / 256 = A1 := by omega
theorem fold5 {y0 y1 y2 A2 A3 : Nat} (h0 : y0 ≤ 8) (h1 : y1 ≤ 8) (h2 : y2 ≤ 8) : (y0 + 256 * y1 + 65536 * A2 + (y1 + 256 * y2 + 65536 * A3)) / 65536 = A2 + A3 := by omega
theorem fold6 {y0 y1 y2 y3 y4 y5 y6 A4 A5 A6 A7 : Nat} (h0 : y0 ≤ 8) (h1 : y1 ≤ 8) (h2 : y2 ≤ 8) (h3 : y3 ≤ 8) (h4 : y4 ≤ 8) (h5 : y5 ≤ 8) (h6 : y6 ≤ 8) :
    ((y0 + 256 * y1 + 65536 * y2 + 16777216 * y3 + 4294967296 * A4) + (y1 + 256 * y2 + 65536 * y3 + 16777216 * y4 + 4294967296 * A5) + (y2 + 256 * y3 + 65536 * y4 + 16777216 * y5 + 4294967296 * A6) + (y3 + 256 * y4 + 65536 * y5 + 16777216 * y6 + 4294967296 * A7)) / 4294967296 = A4 + A5 + A6 + A7 := by
  have e : (y0 + 256 * y1 + 65536 * y2 + 16777216 * y3 + 4294967296 * A4) + (y1 + 256 * y2 + 65536 * y3 + 16777216 * y4 + 4294967296 * A5) + (y2 + 256 * y3 + 65536 * y4 + 16777216 * y5 + 4294967296 * A6) + (y3 + 256 * y4 + 65536 * y5 + 16777216 * y6 + 4294967296 * A7) =
    (y0 + y1 + y2 + y3 + 256 * (y1 + y2 + y3 + y4) + 65536 * (y2 + y3 + y4 + y5) + 16777216 * (y3 + y4 + y5 + y6)) + 4294967296 * (A4 + A5 + A6 + A7) := by omega
  rw [e, Nat.add_mul_div_left _ _ (by decide), Nat.div_eq_of_lt (by omega), Nat.zero_add]
theorem fold8 {y : List Nat} (h8 : y.length = 8) (hy : ∀ b ∈ y, b ≤ 8) : ∃ x4 x5 x6 : Nat, x4 = val y + val y / 256 ∧ x5 = x4 + x4 / 65536 ∧ x6 = x5 + x5 / 4294967296 ∧ x6 % 128 = y.sum ∧ x6 < 9223372036854775808 := by
  match y, h8, hy with
  | [y0, y1, y2, y3, y4, y5, y6, y7], _, hy =>
    have h0 := hy y0 (by simp)
    have h1 := hy y1 (by simp)
    have h2 := hy y2 (by simp)
    have h3 := hy y3 (by simp)
    have h4 := hy y4 (by simp)
    have h5 := hy y5 (by simp)
    have h6 := hy y6 (by simp)
    have h7 := hy y7 (by simp)
    obtain ⟨A6, a6⟩ : ∃ A, A = y6 + 256 * y7 := ⟨_, rfl⟩
    obtain ⟨A5, a5⟩ : ∃ A, A = y5 + 256 * A6 := ⟨_, rfl⟩
    obtain ⟨A4, a4⟩ : ∃ A, A = y4 + 256 * A5 := ⟨_, rfl⟩
    obtain ⟨A3, a3⟩ : ∃ A, A = y3 + 256 * A4 := ⟨_, rfl⟩
    obtain ⟨A2, a2⟩ : ∃ A, A = y2 + 256 * A3 := ⟨_, rfl⟩
    obtain ⟨A1, a1⟩ : ∃ A, A = y1 + 256 * A2 := ⟨_, rfl⟩
    have e0 : val [y0, y1, y2, y3, y4, y5, y6, y7] = y0 + 256 * A1 := by simp only [val, Nat.mul_zero, Nat.add_zero]; rw [a1, a2, a3, a4, a5, a6]
    have e4 := fold4 (A1 := A1) h0
    have e5 : (y0 + 256 * A1 + A1) / 65536 = A2 + A3 := by
      rw [← fold5 (A2 := A2) (A3 := A3) h0 h1 h2]; congr 1; omega
    have e6 : (y0 + 256 * A1 + A1 + (A2 + A3)) / 4294967296 = A4 + A5 + A6 + y7 := by
      rw [← fold6 (A4 := A4) (A5 := A5) (A6 := A6) (A7 := y7) h0 h1 h2 h3 h4 h5 h6]; congr 1; omega
    refine ⟨y0 + 256 * A1 + A1, y0 + 256 * A1 + A1 + (A2 + A3), y0 + 256 * A1 + A1 + (A2 + A3) + (A4 + A5 + A6 + y7), ?_, ?_, ?_, ?_, ?_⟩
    · rw [e0, e4]
    · rw [e5]
    · rw [e6]
    · simp only [List.sum_cons, List.sum_nil]; omega
    · omega
theorem iand127 {n : Nat} (hn : n < 9223372036854775808) : iand .i64 (n : Int) 127 = ((n % 128 : Nat) : Int) := by
  unfold iand Go.Ab.bits
  show IntKind.i64.wrap (((BitVec.ofInt IntKind.i64.bits (n : Int)) &&& (BitVec.ofInt IntKind.i64.bits 127)).toNat : Int) = _
  have e1 : (BitVec.ofInt IntKind.i64.bits (n : Int)).toNat = n := by
    rw [BitVec.ofInt_natCast, BitVec.toNat_ofNat]
    exact Nat.mod_eq_of_lt (by simp only [IntKind.bits]; omega)
  rw [BitVec.toNat_and, e1, show (BitVec.ofInt IntKind.i64.bits 127).toNat = 2 ^ 7 - 1 by decide, Nat.and_two_pow_sub_one_eq_mod]
  exact i64_id (by omega) (by omega)
theorem rf_ones {w : Nat} (hw : w < 18446744073709551616) (s : St) : rf D f_math_bits_OnesCount64 [.int .u64 w] s = some (.int .i64 (pc 64 w : Nat), s) := by
  obtain ⟨y, h8, hy, hsum, hval⟩ := steps hw
  obtain ⟨x4, x5, x6, e4, e5, e6, hmod, hlt⟩ := fold8 h8 hy
  have r1 : ∀ {x : Nat}, ishr .u64 (x : Int) 1 = ((x / 2 : Nat) : Int) := fun {x} => by have := shr_nat (w := x) (r := 1) (by omega); simpa using this
  have r2 : ∀ {x : Nat}, ishr .u64 (x : Int) 2 = ((x / 4 : Nat) : Int) := fun {x} => by have := shr_nat (w := x) (r := 2) (by omega); simpa using this
  have r3 : ∀ {x : Nat}, ishr .u64 (x : Int) 4 = ((x / 16 : Nat) : Int) := fun {x} => by have := shr_nat (w := x) (r := 4) (by omega); simpa using this
  have r4 : ∀ {x : Nat}, ishr .u64 (x : Int) 8 = ((x / 256 : Nat) : Int) := fun {x} => by have := shr_nat (w := x) (r := 8) (by omega); simpa using this
  have r5 : ∀ {x : Nat}, ishr .u64 (x : Int) 16 = ((x / 65536 : Nat) : Int) := fun {x} => by have := shr_nat (w := x) (r := 16) (by omega); simpa using this
  have r6 : ∀ {x : Nat}, ishr .u64 (x : Int) 32 = ((x / 4294967296 : Nat) : Int) := fun {x} => by have := shr_nat (w := x) (r := 32) (by omega); simpa using this
  have add : ∀ {a b : Nat}, a + b < 18446744073709551616 → IntKind.u64.wrap ((a : Int) + (b : Int)) = ((a + b : Nat) : Int) := fun {a b} h => by
    rw [u64_id (by omega) (by omega)]; omega
  have k1 : ∀ {x : Nat}, x < 18446744073709551616 → iand .u64 (x : Int) 6148914691236517205 = ((x &&& 6148914691236517205 : Nat) : Int) := fun {x} h => iand_nat h (by decide)
  have k2 : ∀ {x : Nat}, x < 18446744073709551616 → iand .u64 (x : Int) 3689348814741910323 = ((x &&& 3689348814741910323 : Nat) : Int) := fun {x} h => iand_nat h (by decide)
  have k3 : ∀ {x : Nat}, x < 18446744073709551616 → iand .u64 (x : Int) 1085102592571150095 = ((x &&& 1085102592571150095 : Nat) : Int) := fun {x} h => iand_nat h (by decide)
  have b1 : (w / 2 &&& 6148914691236517205) ≤ 6148914691236517205 := Nat.and_le_right
  have b2 : (w &&& 6148914691236517205) ≤ 6148914691236517205 := Nat.and_le_right
  rw [rf_o D_math_bits_OnesCount64 rfl]
  simp only [go_sem]
  rw [r1, k1 (show w / 2 < 18446744073709551616 by omega), k1 hw, add (by omega)]
  have c1 : (w / 2 &&& 6148914691236517205) + (w &&& 6148914691236517205) < 18446744073709551616 := by omega
  generalize (w / 2 &&& 6148914691236517205) + (w &&& 6148914691236517205) = x1 at *
  have b3 : (x1 / 4 &&& 3689348814741910323) ≤ 3689348814741910323 := Nat.and_le_right
  have b4 : (x1 &&& 3689348814741910323) ≤ 3689348814741910323 := Nat.and_le_right
  rw [r2, k2 (show x1 / 4 < 18446744073709551616 by omega), k2 c1, add (by omega)]
  have c2 : (x1 / 4 &&& 3689348814741910323) + (x1 &&& 3689348814741910323) ≤ 7378697629483820646 := by omega
  generalize (x1 / 4 &&& 3689348814741910323) + (x1 &&& 3689348814741910323) = x2 at *
  have b5 : (x2 / 16 + x2 &&& 1085102592571150095) ≤ 1085102592571150095 := Nat.and_le_right
  rw [r3, add (by omega), k3 (by omega), ← hval]
  rw [← hval] at b5
  generalize val y = X at *
  rw [r4, add (by omega), ← e4, r5, add (by omega), ← e5, r6, add (by omega), ← e6, i64_id (by omega) (by omega), iand127 hlt, hmod, hsum]
end Go.Proofs.YtfdaihhnlohckaaDoor
