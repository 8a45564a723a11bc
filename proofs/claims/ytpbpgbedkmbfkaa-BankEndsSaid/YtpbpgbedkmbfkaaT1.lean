/-
  YtpbpgbedkmbfkaaT1: what functions of the program compute (ReachA, CapsA, CapsB, CapsC, MayA, NvmA).
-/
import Derived.Test.YtpbpgbedkmbfkaaCode
import Derived.Test.YtpbpgbedkmbfkaaAbD
import Derived.Test.YtpbpgbedkmbfkaaAbE
import Derived.KernelRfl
set_option maxRecDepth 100000
namespace Go.Proofs.Ytpbpgbedkmbfkaa
open Go.Ab

structure Cap where
  kind : Int
  rights : Int
  id : Int
  ver : Int
  badge : Int
  deriving DecidableEq
def Cap.v (c : Cap) : V := .agg 40 [.int .i64 c.kind, .int .i64 c.rights, .int .i64 c.id, .int .i64 c.ver, .int .i64 c.badge]
def capOf (w : Int) : Cap := ⟨w % 16, w / 16 % 16, w / 256 % 65536, w / 16777216 % 16777216, w / 281474976710656⟩
def noCap : Cap := ⟨0, 0, 0, 0, 0⟩
def within (n a b : Int) : Bool := decide (a ≤ n) && decide (n ≤ b)
def Cap.may (c : Cap) : Bool :=
  within c.kind 1 6 && within c.rights 0 15 && within c.id 0 48 && within c.ver 0 16777215 && within c.badge 0 65535 && (!(decide (c.kind = 5) || decide (c.kind = 6)) || (decide (c.id = 0) && decide (c.ver = 0)))
theorem rf_caps_within (n a b : Int) (s : St) : rf D f_caps_within [.int .i64 n, .int .i64 a, .int .i64 b] s = some (.bool (within n a b), s) := by
  rw [rf_o D_caps_within rfl]
  simp only [go_sem]
  unfold within
  by_cases h : a ≤ n <;> simp [h, go_sem]
theorem rf_caps_may (c : Cap) (s : St) : rf D f_caps_may [c.v] s = some (.bool c.may, s) := by
  rw [rf_o D_caps_may rfl]
  simp only [go_sem, Cap.v, rf_caps_within]
  simp [Cap.may, Bool.and_assoc]
/-- What a word's capability is, if it is one. -/
def capsOf (w : Int) : Cap := if (capOf w).may then capOf w else noCap
theorem rf_caps_Of (w : Int) (h0 : 0 ≤ w) (h1 : w ≤ 18446744073709551615) (s : St) : rf D f_caps_Of [.int .u64 w] s = some (.tup [(capsOf w).v, .bool (capOf w).may], s) := by
  have p1 : iand .u64 w 15 = w % 16 := iand_mask w 4 h0 (by omega) (by decide)
  have p2 : iand .u64 (w / 16) 15 = w / 16 % 16 := iand_mask (w / 16) 4 (by omega) (by omega) (by decide)
  have p3 : iand .u64 (w / 256) 65535 = w / 256 % 65536 := iand_mask (w / 256) 16 (by omega) (by omega) (by decide)
  have p4 : iand .u64 (w / 16777216) 16777215 = w / 16777216 % 16777216 := iand_mask (w / 16777216) 24 (by omega) (by omega) (by decide)
  have q1 : IntKind.i64.wrap (w % 16) = w % 16 := i64_id (by omega) (by omega)
  have q2 : IntKind.i64.wrap (w / 16 % 16) = w / 16 % 16 := i64_id (by omega) (by omega)
  have q3 : IntKind.i64.wrap (w / 256 % 65536) = w / 256 % 65536 := i64_id (by omega) (by omega)
  have q4 : IntKind.i64.wrap (w / 16777216 % 16777216) = w / 16777216 % 16777216 := i64_id (by omega) (by omega)
  have q5 : IntKind.i64.wrap (w / 281474976710656) = w / 281474976710656 := i64_id (by omega) (by omega)
  have f1 : ishr .u64 w 4 = w / 16 := ishr_two w 4 (by decide)
  have f2 : ishr .u64 w 8 = w / 256 := ishr_two w 8 (by decide)
  have f3 : ishr .u64 w 24 = w / 16777216 := ishr_two w 24 (by decide)
  have f4 : ishr .u64 w 48 = w / 281474976710656 := ishr_two w 48 (by decide)
  have hm := fun s => rf_caps_may (capOf w) s
  rw [rf_o D_caps_Of rfl]
  unfold capsOf
  simp only [Cap.v, capOf] at hm ⊢
  simp only [go_sem, f1, f2, f3, f4, p1, p2, p3, p4, q1, q2, q3, q4, q5, hm]
  by_cases hb : (Cap.mk (w % 16) (w / 16 % 16) (w / 256 % 65536) (w / 16777216 % 16777216) (w / 281474976710656)).may = true <;> simp [hb, noCap]
theorem may_id {c : Cap} (h : c.may = true) : 0 ≤ c.id ∧ c.id ≤ 48 := by
  simp only [Cap.may, within, Bool.and_eq_true, decide_eq_true_eq] at h
  exact h.1.1.1.2

/-! ### Entries -/
def entryNames (kind ver id w : Int) : Int :=
  if (!(capOf w).may || decide (4 < (capsOf w).kind)) then 31 else
  if (capsOf w).id ≠ id then 30 else if (capsOf w).ver ≠ ver then 33 else if kind = 0 then 30 else if (capsOf w).kind ≠ kind then 31 else 0
theorem rf_entry_Names (kind ver line id w : Int) (h0 : 0 ≤ w) (h1 : w ≤ 18446744073709551615) (s : St) :
    rf D f_entry_Names [.agg 42 [.int .i64 kind, .int .i64 ver, .int .i64 line], .int .i64 id, .int .u64 w] s = some (.int .i64 (entryNames kind ver id w), s) := by
  have hc := fun s => rf_caps_Of w h0 h1 s
  rw [rf_o D_entry_Names rfl]
  unfold entryNames
  generalize capsOf w = y at hc ⊢
  generalize (capOf w).may = m at hc ⊢
  simp only [Cap.v] at hc
  simp only [go_sem, hc]
  cases m
  · simp [go_sem]
  · by_cases g1 : 4 < y.kind
    · simp [go_sem, g1]
    · by_cases g2 : y.id = id
      · by_cases g3 : y.ver = ver
        · by_cases g4 : kind = 0
          · simp [go_sem, g1, g2, g3, g4]
          · by_cases g5 : y.kind = kind <;> simp [go_sem, g1, g2, g3, g4, g5]
        · simp [go_sem, g1, g2, g3]
      · simp [go_sem, g1, g2]
end Go.Proofs.Ytpbpgbedkmbfkaa
namespace Go.Proofs.Ytpbpgbedkmbfkaa
open Go.Ab

theorem two_lt64 {r : Nat} (h : r < 64) : 2 ^ r < 18446744073709551616 := Nat.pow_lt_pow_right (show 1 < 2 by decide) h
theorem rf_bit1 {w i : Nat} (hw : w < 18446744073709551616) (hi : i ≤ 64) (s : St) : rf D f_steadfastref01_bit [.int .u64 w, .int .i64 i] s = some (.int .u64 (w / 2 ^ i % 2 : Nat), s) := by
  have e1 : ishr .u64 (w : Int) (i : Int) = ((w / 2 ^ i : Nat) : Int) := by
    rw [ishr_two (w : Int) i hi, Int.natCast_ediv, Int.natCast_pow]; rfl
  have e2 : iand .u64 ((w / 2 ^ i : Nat) : Int) 1 = ((w / 2 ^ i % 2 : Nat) : Int) := by
    have hlt : w / 2 ^ i < 18446744073709551616 := Nat.lt_of_le_of_lt (Nat.div_le_self _ _) hw
    generalize w / 2 ^ i = y at *
    have := iand_mask (y : Int) 1 (by omega) (by omega) (by decide)
    rw [show (1 : Int) = 2 ^ 1 - 1 by decide, this]; simp
  generalize w / 2 ^ i % 2 = z at *
  generalize w / 2 ^ i = y at *
  have d : ¬ (i : Int) < 0 := by omega
  rw [rf_o D_steadfastref01_bit rfl]
  simp only [go_sem, e1, e2, d]
theorem rf_is1 {a b : Nat} (h1 : 1 ≤ b) (h2 : a + b ≤ 64) (s : St) : rf D f_steadfastref01_is [.int .i64 a, .int .i64 b] s = some (.bool true, s) := by
  have e : IntKind.i64.wrap ((a : Int) + (b : Int)) = ((a + b : Nat) : Int) := by rw [i64_id (by omega) (by omega)]; omega
  have c1 : (0 : Int) ≤ a := by omega
  have c2 : (a : Int) ≤ 63 := by omega
  have c3 : (1 : Int) ≤ b := by omega
  have c4 : (b : Int) ≤ 64 := by omega
  have c5 : ((a + b : Nat) : Int) ≤ 64 := by omega
  rw [rf_o D_steadfastref01_is rfl]
  simp only [go_sem, c1, c2, c3, c4, e, c5]
theorem part_lt {w a v i : Nat} (hw : w < 2 ^ a) : w + v % 2 ^ i * 2 ^ a < 2 ^ (a + i) := by
  have h1 : v % 2 ^ i < 2 ^ i := Nat.mod_lt _ (Nat.two_pow_pos i)
  have h2 : (v % 2 ^ i + 1) * 2 ^ a ≤ 2 ^ i * 2 ^ a := Nat.mul_le_mul_right _ h1
  rw [Nat.pow_add, Nat.mul_comm (2 ^ a)]
  rw [Nat.add_mul, Nat.one_mul] at h2
  omega
theorem part_succ {w a v i : Nat} : w + v % 2 ^ (i + 1) * 2 ^ a = w + v % 2 ^ i * 2 ^ a + v / 2 ^ i % 2 * 2 ^ (a + i) := by
  rw [Nat.mod_pow_succ, Nat.add_mul, Nat.pow_add, ← Nat.add_assoc]
  congr 1
  rw [Nat.mul_comm (2 ^ i), Nat.mul_assoc, Nat.mul_comm (2 ^ i)]
/-- A field laid above what is there. -/
theorem rf_With {w a b v : Nat} (hb : 1 ≤ b) (hab : a + b ≤ 64) (hw : w < 2 ^ a) (hv : v < 2 ^ b) (s : St) :
    rf D f_steadfastref01_With [.int .u64 w, .int .i64 a, .int .i64 b, .int .u64 v] s = some (.tup [.int .u64 (w + v * 2 ^ a : Nat), .int .i64 0], s) := by
  have hw64 : w < 18446744073709551616 := Nat.lt_trans hw (two_lt64 (by omega))
  have hv64 : v < 18446744073709551616 := Nat.lt_of_lt_of_le hv (show 2 ^ b ≤ 2 ^ 64 from Nat.pow_le_pow_right (by decide) (by omega))
  have his := fun s => rf_is1 hb hab s
  have loop1 : rc D s.loc.length (.loop [0, 1, 2, 3, 10] b_steadfastref01_With_0) [(0, .int .u64 w), (1, .int .i64 a), (2, .int .i64 b), (3, .int .u64 v), (10, .int .i64 b)] s =
      some (.exit 0, [(0, .int .u64 w), (1, .int .i64 a), (2, .int .i64 b), (3, .int .u64 v), (10, .int .i64 64), (18, .bool false)], s) := by
    refine loop_runs (fun x : Nat => [(0, .int .u64 w), (1, .int .i64 a), (2, .int .i64 b), (3, .int .u64 v), (10, .int .i64 x)]) (fun _ => s) (fun _ => _) (fun x => 64 - x) (fun x => b ≤ x ∧ x ≤ 64) b ?_ ⟨Nat.le_refl _, by omega⟩ rfl rfl
    rintro i ⟨h1, h2⟩
    by_cases c1 : i < 64
    · left
      have d1 : (i : Int) < 64 := by omega
      have d4 : IntKind.i64.wrap ((i : Int) + 1) = (i : Int) + 1 := i64_id (by omega) (by omega)
      have hbit := fun s => rf_bit1 hv64 (i := i) (by omega) s
      have hz : v / 2 ^ i % 2 = 0 := by
        rw [Nat.div_eq_of_lt (Nat.lt_of_lt_of_le hv (Nat.pow_le_pow_right (by decide) h1))]
      rw [hz] at hbit
      refine ⟨i + 1, ⟨by omega, by omega⟩, by omega, rfl, ?_⟩
      simp only [go_sem, b_steadfastref01_With_0, d1, hbit, d4]
      rfl
    · right
      have : i = 64 := by omega
      subst this
      simp only [go_sem, b_steadfastref01_With_0]
  have loop2 : rc D s.loc.length (.loop [0, 1, 2, 3, 11] b_steadfastref01_With_1) [(0, .int .u64 w), (1, .int .i64 a), (2, .int .i64 b), (3, .int .u64 v), (11, .int .i64 0)] s =
      some (.exit 2, [(0, .int .u64 (w + v * 2 ^ a : Nat)), (1, .int .i64 a), (2, .int .i64 b), (3, .int .u64 v), (11, .int .i64 b), (27, .bool false)], s) := by
    refine loop_runs (fun x : Nat => [(0, .int .u64 (w + v % 2 ^ x * 2 ^ a : Nat)), (1, .int .i64 a), (2, .int .i64 b), (3, .int .u64 v), (11, .int .i64 x)]) (fun _ => s) (fun _ => _) (fun x => b - x) (fun x => x ≤ b) 0 ?_ (Nat.zero_le _) (by simp [Nat.mod_one]) rfl
    intro i h2
    by_cases c1 : i < b
    · left
      have d1 : (i : Int) < b := by omega
      have d4 : IntKind.i64.wrap ((i : Int) + 1) = (i : Int) + 1 := i64_id (by omega) (by omega)
      have e1 : IntKind.i64.wrap ((a : Int) + (i : Int)) = ((a + i : Nat) : Int) := by rw [i64_id (by omega) (by omega)]; omega
      have hlt := part_lt (v := v) (i := i) hw
      have h64 : 2 ^ (a + i) < 18446744073709551616 := two_lt64 (by omega)
      have hx64 : w + v % 2 ^ i * 2 ^ a < 18446744073709551616 := Nat.lt_trans hlt h64
      have hb1 := fun s => rf_bit1 hv64 (i := i) (by omega) s
      have hb2 := fun s => rf_bit1 hx64 (i := a + i) (by omega) s
      rw [Nat.div_eq_of_lt hlt] at hb2
      have hs := part_succ (w := w) (a := a) (v := v) (i := i)
      have hsh : ishl .u64 1 ((a + i : Nat) : Int) = ((2 ^ (a + i) : Nat) : Int) := by
        rw [ishl_two 1 (a + i) (by omega), Int.one_mul, show (2 : Int) ^ (a + i) = ((2 ^ (a + i) : Nat) : Int) by rw [Int.natCast_pow]; rfl]
        generalize 2 ^ (a + i) = p at *
        omega
      have hx := ixor_nat hx64 h64
      rw [xor_add hlt] at hx
      refine ⟨i + 1, by omega, by omega, rfl, ?_⟩
      simp only [hs]
      have h2 : v / 2 ^ i % 2 < 2 := Nat.mod_lt _ (by decide)
      generalize w + v % 2 ^ i * 2 ^ a = x at *
      generalize v / 2 ^ i % 2 = z at *
      generalize 2 ^ (a + i) = p at *
      have d3 : ¬ ((a + i : Nat) : Int) < 0 := by omega
      generalize a + i = q at *
      by_cases hz : z = 1
      · subst hz
        simp only [go_sem, b_steadfastref01_With_1, d1, e1, hb1, hb2, d3, hsh, hx, d4]
        simp only [Nat.one_mul]
        rfl
      · have hz0 : z = 0 := by omega
        subst hz0
        simp only [go_sem, b_steadfastref01_With_1, d1, e1, hb1, hb2, d4]
        simp only [Nat.zero_mul, Nat.add_zero]
        rfl
    · right
      have : i = b := by omega
      subst this
      have d1 : ¬ (i : Int) < i := by omega
      rw [Nat.mod_eq_of_lt hv]
      simp only [go_sem, b_steadfastref01_With_1, d1]
  generalize w + v * 2 ^ a = r at *
  rw [rf_o D_steadfastref01_With rfl]
  simp only [go_sem, his, loop1, loop2]
/-- A field read. -/
theorem rf_Field1 {w a b : Nat} (hb : 1 ≤ b) (hab : a + b ≤ 64) (hw : w < 18446744073709551616) (s : St) :
    rf D f_steadfastref01_Field [.int .u64 w, .int .i64 a, .int .i64 b] s = some (.int .u64 (w / 2 ^ a % 2 ^ b : Nat), s) := by
  have his := fun s => rf_is1 hb hab s
  have loop : rc D s.loc.length (.loop [0, 1, 2, 7, 8] b_steadfastref01_Field_0) [(0, .int .u64 w), (1, .int .i64 a), (2, .int .i64 b), (7, .int .u64 0), (8, .int .i64 0)] s =
      some (.exit 0, [(0, .int .u64 w), (1, .int .i64 a), (2, .int .i64 b), (7, .int .u64 (w / 2 ^ a % 2 ^ b : Nat)), (8, .int .i64 b), (15, .bool false)], s) := by
    refine loop_runs (fun x : Nat => [(0, .int .u64 w), (1, .int .i64 a), (2, .int .i64 b), (7, .int .u64 (w / 2 ^ a % 2 ^ x : Nat)), (8, .int .i64 x)]) (fun _ => s) (fun _ => _) (fun x => b - x) (fun x => x ≤ b) 0 ?_ (Nat.zero_le _) (by simp [Nat.mod_one]) rfl
    intro i h2
    by_cases c1 : i < b
    · left
      have d1 : (i : Int) < b := by omega
      have d4 : IntKind.i64.wrap ((i : Int) + 1) = (i : Int) + 1 := i64_id (by omega) (by omega)
      have e1 : IntKind.i64.wrap ((a : Int) + (i : Int)) = ((a + i : Nat) : Int) := by rw [i64_id (by omega) (by omega)]; omega
      have hb1 := fun s => rf_bit1 hw (i := a + i) (by omega) s
      have hlt : w / 2 ^ a % 2 ^ i < 2 ^ i := Nat.mod_lt _ (Nat.two_pow_pos i)
      have h64 : 2 ^ i < 18446744073709551616 := two_lt64 (by omega)
      have hs : w / 2 ^ a % 2 ^ (i + 1) = w / 2 ^ a % 2 ^ i + w / 2 ^ (a + i) % 2 * 2 ^ i := by
        rw [Nat.mod_pow_succ, Nat.div_div_eq_div_mul, ← Nat.pow_add, Nat.mul_comm (2 ^ i)]
      refine ⟨i + 1, by omega, by omega, rfl, ?_⟩
      simp only [hs]
      have hz2 : w / 2 ^ (a + i) % 2 < 2 := Nat.mod_lt _ (by decide)
      generalize w / 2 ^ (a + i) % 2 = z at *
      have hzp : z * 2 ^ i < 18446744073709551616 := by
        have : z * 2 ^ i ≤ 1 * 2 ^ i := Nat.mul_le_mul_right _ (by omega)
        omega
      have hsh : ishl .u64 (z : Int) (i : Int) = ((z * 2 ^ i : Nat) : Int) := by
        rw [ishl_two (z : Int) i (by omega), show (2 : Int) ^ i = ((2 ^ i : Nat) : Int) by rw [Int.natCast_pow]; rfl, ← Int.natCast_mul]
        generalize z * 2 ^ i = p at *
        omega
      have hor := ior_add (n := w / 2 ^ a % 2 ^ i) (m := z) i hlt (by omega) hzp
      generalize w / 2 ^ a % 2 ^ i = x at *
      have d3 : ¬ (i : Int) < 0 := by omega
      generalize z * 2 ^ i = p at *
      generalize a + i = q at *
      simp only [go_sem, b_steadfastref01_Field_0, d1, e1, hb1, d3, hsh, hor, d4]
      rfl
    · right
      have : i = b := by omega
      subst this
      have d1 : ¬ (i : Int) < i := by omega
      simp only [go_sem, b_steadfastref01_Field_0, d1]
  generalize w / 2 ^ a % 2 ^ b = r at *
  rw [rf_o D_steadfastref01_Field rfl]
  simp only [go_sem, his, loop]
end Go.Proofs.Ytpbpgbedkmbfkaa
namespace Go.Proofs.Ytpbpgbedkmbfkaa
open Go.Ab

/-- The word of a capability that may be. -/
def Cap.word (c : Cap) : Int := c.kind + c.rights * 16 + c.id * 256 + c.ver * 16777216 + c.badge * 281474976710656
def capWord (c : Cap) : Int := if c.may then c.word else 0
def capE (c : Cap) : Int := if c.may then 0 else 1
structure Cap.Ok (c : Cap) : Prop where
  k : 1 ≤ c.kind ∧ c.kind ≤ 6
  r : 0 ≤ c.rights ∧ c.rights ≤ 15
  i : 0 ≤ c.id ∧ c.id ≤ 48
  v : 0 ≤ c.ver ∧ c.ver ≤ 16777215
  b : 0 ≤ c.badge ∧ c.badge ≤ 65535
  free : (c.kind = 5 ∨ c.kind = 6) → c.id = 0 ∧ c.ver = 0
theorem may_iff (c : Cap) : c.may = true ↔ c.Ok := by
  simp only [Cap.may, within, Bool.and_eq_true, decide_eq_true_eq, Bool.or_eq_true, Bool.not_eq_true', Bool.or_eq_false_iff, decide_eq_false_iff_not]
  constructor
  · rintro ⟨⟨⟨⟨⟨h1, h2⟩, h3⟩, h4⟩, h5⟩, h6⟩
    exact ⟨h1, h2, h3, h4, h5, by omega⟩
  · rintro ⟨h1, h2, h3, h4, h5, h6⟩
    exact ⟨⟨⟨⟨⟨h1, h2⟩, h3⟩, h4⟩, h5⟩, by omega⟩
theorem Cap.Ok.nats {c : Cap} (h : c.Ok) : ∃ k r i v b : Nat, c = ⟨k, r, i, v, b⟩ ∧ k < 16 ∧ r < 16 ∧ i < 65536 ∧ v < 16777216 ∧ b < 65536 := by
  obtain ⟨k, r, i, v, b⟩ := c
  have h1 := h.k; have h2 := h.r; have h3 := h.i; have h4 := h.v; have h5 := h.b
  simp only at h1 h2 h3 h4 h5
  refine ⟨k.toNat, r.toNat, i.toNat, v.toNat, b.toNat, ?_, by omega, by omega, by omega, by omega, by omega⟩
  simp only [Cap.mk.injEq]
  omega
theorem rf_caps_Word (c : Cap) (s : St) : rf D f_caps_Word [c.v] s = some (.tup [.int .u64 (capWord c), .int .i64 (capE c)], s) := by
  have hm := fun s => rf_caps_may c s
  rw [rf_o D_caps_Word rfl]
  unfold capWord capE
  by_cases h : c.may = true
  · obtain ⟨k, r, i, v, b, rfl, h1, h2, h3, h4, h5⟩ := ((may_iff c).1 h).nats
    simp only [Cap.v] at hm ⊢
    simp only [h, if_true]
    rw [h] at hm
    have q1 : IntKind.u64.wrap (k : Int) = k := u64_id (by omega) (by omega)
    have q2 : IntKind.u64.wrap (r : Int) = r := u64_id (by omega) (by omega)
    have q3 : IntKind.u64.wrap (i : Int) = i := u64_id (by omega) (by omega)
    have q4 : IntKind.u64.wrap (v : Int) = v := u64_id (by omega) (by omega)
    have q5 : IntKind.u64.wrap (b : Int) = b := u64_id (by omega) (by omega)
    obtain ⟨y2, hy2⟩ : ∃ y : Nat, y = r * 16 := ⟨_, rfl⟩
    obtain ⟨y3, hy3⟩ : ∃ y : Nat, y = i * 256 := ⟨_, rfl⟩
    obtain ⟨y4, hy4⟩ : ∃ y : Nat, y = v * 16777216 := ⟨_, rfl⟩
    obtain ⟨y5, hy5⟩ : ∃ y : Nat, y = b * 281474976710656 := ⟨_, rfl⟩
    have s2 : ishl .u64 (r : Int) 4 = (y2 : Int) := by have := ishl_two (r : Int) 4 (by decide); rw [show ((4 : Nat) : Int) = 4 by rfl] at this; rw [this]; omega
    have s3 : ishl .u64 (i : Int) 8 = (y3 : Int) := by have := ishl_two (i : Int) 8 (by decide); rw [show ((8 : Nat) : Int) = 8 by rfl] at this; rw [this]; omega
    have s4 : ishl .u64 (v : Int) 24 = (y4 : Int) := by have := ishl_two (v : Int) 24 (by decide); rw [show ((24 : Nat) : Int) = 24 by rfl] at this; rw [this]; omega
    have s5 : ishl .u64 (b : Int) 48 = (y5 : Int) := by have := ishl_two (b : Int) 48 (by decide); rw [show ((48 : Nat) : Int) = 48 by rfl] at this; rw [this]; omega
    obtain ⟨x2, hx2⟩ : ∃ x : Nat, x = k + y2 := ⟨_, rfl⟩
    obtain ⟨x3, hx3⟩ : ∃ x : Nat, x = x2 + y3 := ⟨_, rfl⟩
    obtain ⟨x4, hx4⟩ : ∃ x : Nat, x = x3 + y4 := ⟨_, rfl⟩
    obtain ⟨x5, hx5⟩ : ∃ x : Nat, x = x4 + y5 := ⟨_, rfl⟩
    have o2 : ior .u64 (k : Int) (y2 : Int) = (x2 : Int) := by have := ior_add (n := k) (m := r) 4 (by omega) (by omega) (by omega); rw [show r * 2 ^ 4 = y2 by omega] at this; rw [this, hx2]
    have o3 : ior .u64 (x2 : Int) (y3 : Int) = (x3 : Int) := by have := ior_add (n := x2) (m := i) 8 (by omega) (by omega) (by omega); rw [show i * 2 ^ 8 = y3 by omega] at this; rw [this, hx3]
    have o4 : ior .u64 (x3 : Int) (y4 : Int) = (x4 : Int) := by have := ior_add (n := x3) (m := v) 24 (by omega) (by omega) (by omega); rw [show v * 2 ^ 24 = y4 by omega] at this; rw [this, hx4]
    have o5 : ior .u64 (x4 : Int) (y5 : Int) = (x5 : Int) := by have := ior_add (n := x4) (m := b) 48 (by omega) (by omega) (by omega); rw [show b * 2 ^ 48 = y5 by omega] at this; rw [this, hx5]
    have e : (x5 : Int) = Cap.word ⟨k, r, i, v, b⟩ := by simp only [Cap.word]; omega
    rw [← e]
    clear e hx5 hx4 hx3 hx2 hy2 hy3 hy4 hy5
    simp only [go_sem, hm]
    simp only [go_sem, q1, q2, q3, q4, q5]
    simp only [go_sem, s2, s3, s4, s5]
    simp only [go_sem, o2, o3, o4, o5]
  · have h' : c.may = false := by simpa using h
    simp only [Cap.v] at hm ⊢
    rw [h'] at hm
    simp only [go_sem, hm, h']
theorem rf_ref07_Word (c : Cap) (s : St) : rf D f_steadfastref07_Word [c.v] s = some (.tup [.int .u64 (capWord c), .int .i64 (capE c)], s) := by
  rw [rf_o D_steadfastref07_Word rfl]
  unfold capWord capE
  by_cases h : c.may = true
  · have hok := (may_iff c).1 h
    obtain ⟨k, r, i, v, b, rfl, h1, h2, h3, h4, h5⟩ := hok.nats
    have hk := hok.k; have hi := hok.i; have hf := hok.free
    simp only at hk hi hf
    simp only [Cap.v]
    simp only [h, if_true]
    have q1 : IntKind.u64.wrap (k : Int) = k := u64_id (by omega) (by omega)
    have q2 : IntKind.u64.wrap (r : Int) = r := u64_id (by omega) (by omega)
    have q3 : IntKind.u64.wrap (i : Int) = i := u64_id (by omega) (by omega)
    have q4 : IntKind.u64.wrap (v : Int) = v := u64_id (by omega) (by omega)
    have q5 : IntKind.u64.wrap (b : Int) = b := u64_id (by omega) (by omega)
    have w1 := fun s => rf_With (w := 0) (a := 0) (b := 4) (v := k) (by decide) (by decide) (by decide) h1 s
    have w2 := fun s => rf_With (w := 0 + k * 2 ^ 0) (a := 4) (b := 4) (v := r) (by decide) (by decide) (by omega) h2 s
    have w3 := fun s => rf_With (w := 0 + k * 2 ^ 0 + r * 2 ^ 4) (a := 8) (b := 16) (v := i) (by decide) (by decide) (by omega) h3 s
    have w4 := fun s => rf_With (w := 0 + k * 2 ^ 0 + r * 2 ^ 4 + i * 2 ^ 8) (a := 24) (b := 24) (v := v) (by decide) (by decide) (by omega) h4 s
    have w5 := fun s => rf_With (w := 0 + k * 2 ^ 0 + r * 2 ^ 4 + i * 2 ^ 8 + v * 2 ^ 24) (a := 48) (b := 16) (v := b) (by decide) (by decide) (by omega) h5 s
    have e : ((0 + k * 2 ^ 0 + r * 2 ^ 4 + i * 2 ^ 8 + v * 2 ^ 24 + b * 2 ^ 48 : Nat) : Int) = Cap.word ⟨k, r, i, v, b⟩ := by simp only [Cap.word]; omega
    rw [← e]
    have c1 : ¬ (k : Int) < 1 := by omega
    have c2 : ¬ 6 < (k : Int) := by omega
    have c3 : ¬ (r : Int) < 0 := by omega
    have c4 : ¬ 15 < (r : Int) := by omega
    have c5 : ¬ (i : Int) < 0 := by omega
    have c6 : ¬ 49 ≤ (i : Int) := by omega
    have c7 : ¬ (v : Int) < 0 := by omega
    have c8 : ¬ 16777215 < (v : Int) := by omega
    have c9 : ¬ (b : Int) < 0 := by omega
    have c10 : ¬ 65535 < (b : Int) := by omega
    generalize 0 + k * 2 ^ 0 + r * 2 ^ 4 + i * 2 ^ 8 + v * 2 ^ 24 + b * 2 ^ 48 = x5 at *
    generalize 0 + k * 2 ^ 0 + r * 2 ^ 4 + i * 2 ^ 8 + v * 2 ^ 24 = x4 at *
    generalize 0 + k * 2 ^ 0 + r * 2 ^ 4 + i * 2 ^ 8 = x3 at *
    generalize 0 + k * 2 ^ 0 + r * 2 ^ 4 = x2 at *
    generalize 0 + k * 2 ^ 0 = x1 at *
    simp only [Int.natCast_zero, show ((4 : Nat) : Int) = 4 by rfl, show ((8 : Nat) : Int) = 8 by rfl, show ((16 : Nat) : Int) = 16 by rfl, show ((24 : Nat) : Int) = 24 by rfl, show ((48 : Nat) : Int) = 48 by rfl] at w1 w2 w3 w4 w5
    by_cases g : (k : Int) = 5
    · obtain ⟨g1, g2⟩ := hf (.inl g)
      obtain rfl : k = 5 := by omega
      obtain rfl : i = 0 := by omega
      obtain rfl : v = 0 := by omega
      simp only [show ((5 : Nat) : Int) = 5 by rfl, Int.natCast_zero] at w1 w2 w3 w4 w5 q1 q3 q4 ⊢
      simp only [go_sem, c3, c4, c9, c10, q1, q2, q3, q5, w1, w2, w3, w4, w5]
    · by_cases g' : (k : Int) = 6
      · obtain ⟨g1, g2⟩ := hf (.inr g')
        obtain rfl : k = 6 := by omega
        obtain rfl : i = 0 := by omega
        obtain rfl : v = 0 := by omega
        simp only [show ((6 : Nat) : Int) = 6 by rfl, Int.natCast_zero] at w1 w2 w3 w4 w5 q1 q3 q4 ⊢
        simp only [go_sem, c3, c4, c9, c10, q1, q2, q3, q5, w1, w2, w3, w4, w5]
      · simp only [go_sem, c1, c2, c3, c4, c5, c6, c7, c8, c9, c10, g, g', q1, q2, q3, q4, q5, w1, w2, w3, w4, w5]
  · have h' : c.may = false := by simpa using h
    have hn : ¬ c.Ok := fun ho => h ((may_iff c).2 ho)
    obtain ⟨k, r, i, v, b⟩ := c
    simp only [Cap.v, h']
    by_cases c1 : k < 1
    · simp [go_sem, c1]
    by_cases c2 : 6 < k
    · simp [go_sem, c1, c2]
    by_cases c3 : r < 0
    · simp [go_sem, c1, c2, c3]
    by_cases c4 : 15 < r
    · simp [go_sem, c1, c2, c3, c4]
    by_cases c5 : i < 0
    · simp [go_sem, c1, c2, c3, c4, c5]
    by_cases c6 : 49 ≤ i
    · simp [go_sem, c1, c2, c3, c4, c5, c6]
    by_cases c7 : v < 0
    · simp [go_sem, c1, c2, c3, c4, c5, c6, c7]
    by_cases c8 : 16777215 < v
    · simp [go_sem, c1, c2, c3, c4, c5, c6, c7, c8]
    by_cases c9 : b < 0
    · simp [go_sem, c1, c2, c3, c4, c5, c6, c7, c8, c9]
    by_cases c10 : 65535 < b
    · simp [go_sem, c1, c2, c3, c4, c5, c6, c7, c8, c9, c10]
    have g : k = 5 ∨ k = 6 := by
      by_cases g : k = 5 ∨ k = 6
      · exact g
      · exact absurd ⟨by simp only; omega, by simp only; omega, by simp only; omega, by simp only; omega, by simp only; omega, fun hg => absurd hg g⟩ hn
    have g2 : ¬ i = 0 ∨ ¬ v = 0 := by
      by_cases g2 : i = 0 ∧ v = 0
      · exact absurd ⟨by simp only; omega, by simp only; omega, by simp only; omega, by simp only; omega, by simp only; omega, fun _ => g2⟩ hn
      · omega
    by_cases g3 : k = 5
    · by_cases g4 : i = 0
      · have g5 : ¬ v = 0 := by omega
        simp [go_sem, c3, c4, c7, c8, c9, c10, g3, g4, g5]
      · simp [go_sem, c3, c4, c5, c6, c7, c8, c9, c10, g3, g4]
    · have g3' : k = 6 := by omega
      by_cases g4 : i = 0
      · have g5 : ¬ v = 0 := by omega
        simp [go_sem, c3, c4, c7, c8, c9, c10, g3', g4, g5]
      · simp [go_sem, c3, c4, c5, c6, c7, c8, c9, c10, g3', g4]
theorem word_capOf {w : Int} : (capOf w).word = w := by
  simp only [Cap.word, capOf]
  omega
theorem rf_ref07_Of (w : Int) (h0 : 0 ≤ w) (h1 : w ≤ 18446744073709551615) (s : St) : rf D f_steadfastref07_Of [.int .u64 w] s = some (.tup [(capsOf w).v, .bool (capOf w).may], s) := by
  obtain ⟨n, rfl⟩ : ∃ n : Nat, w = n := ⟨w.toNat, by omega⟩
  have hw := fun s => rf_ref07_Word (capOf n) s
  have hwc := word_capOf (w := (n : Int))
  have f1 := fun s => rf_Field1 (w := n) (a := 0) (b := 4) (by decide) (by decide) (by omega) s
  have f2 := fun s => rf_Field1 (w := n) (a := 4) (b := 4) (by decide) (by decide) (by omega) s
  have f3 := fun s => rf_Field1 (w := n) (a := 8) (b := 16) (by decide) (by decide) (by omega) s
  have f4 := fun s => rf_Field1 (w := n) (a := 24) (b := 24) (by decide) (by decide) (by omega) s
  have f5 := fun s => rf_Field1 (w := n) (a := 48) (b := 16) (by decide) (by decide) (by omega) s
  have q1 : IntKind.i64.wrap ((n / 2 ^ 0 % 2 ^ 4 : Nat) : Int) = (n : Int) % 16 := by rw [i64_id (by omega) (by omega)]; omega
  have q2 : IntKind.i64.wrap ((n / 2 ^ 4 % 2 ^ 4 : Nat) : Int) = (n : Int) / 16 % 16 := by rw [i64_id (by omega) (by omega)]; omega
  have q3 : IntKind.i64.wrap ((n / 2 ^ 8 % 2 ^ 16 : Nat) : Int) = (n : Int) / 256 % 65536 := by rw [i64_id (by omega) (by omega)]; omega
  have q4 : IntKind.i64.wrap ((n / 2 ^ 24 % 2 ^ 24 : Nat) : Int) = (n : Int) / 16777216 % 16777216 := by rw [i64_id (by omega) (by omega)]; omega
  have q5 : IntKind.i64.wrap ((n / 2 ^ 48 % 2 ^ 16 : Nat) : Int) = (n : Int) / 281474976710656 := by rw [i64_id (by omega) (by omega)]; omega
  simp only [Int.natCast_zero, show ((4 : Nat) : Int) = 4 by rfl, show ((8 : Nat) : Int) = 8 by rfl, show ((16 : Nat) : Int) = 16 by rfl, show ((24 : Nat) : Int) = 24 by rfl, show ((48 : Nat) : Int) = 48 by rfl] at f1 f2 f3 f4 f5
  generalize n / 2 ^ 0 % 2 ^ 4 = y1 at *
  generalize n / 2 ^ 4 % 2 ^ 4 = y2 at *
  generalize n / 2 ^ 8 % 2 ^ 16 = y3 at *
  generalize n / 2 ^ 24 % 2 ^ 24 = y4 at *
  generalize n / 2 ^ 48 % 2 ^ 16 = y5 at *
  unfold capsOf
  simp only [capWord, capE] at hw
  by_cases hb : (capOf n).may = true
  · simp only [hb, if_true, hwc] at hw ⊢
    simp only [capOf, Cap.v] at hw ⊢
    generalize (n : Int) % 16 = z1 at *
    generalize (n : Int) / 16 % 16 = z2 at *
    generalize (n : Int) / 256 % 65536 = z3 at *
    generalize (n : Int) / 16777216 % 16777216 = z4 at *
    generalize (n : Int) / 281474976710656 = z5 at *
    rw [rf_o D_steadfastref07_Of rfl]
    simp only [go_sem, f1, f2, f3, f4, f5, q1, q2, q3, q4, q5, hw]
  · have hb' : (capOf n).may = false := by simpa using hb
    simp only [hb'] at hw ⊢
    simp only [capOf, Cap.v, noCap] at hw ⊢
    generalize (n : Int) % 16 = z1 at *
    generalize (n : Int) / 16 % 16 = z2 at *
    generalize (n : Int) / 256 % 65536 = z3 at *
    generalize (n : Int) / 16777216 % 16777216 = z4 at *
    generalize (n : Int) / 281474976710656 = z5 at *
    simp only [Bool.false_eq_true, if_false] at hw ⊢
    rw [rf_o D_steadfastref07_Of rfl]
    simp only [go_sem, f1, f2, f3, f4, f5, q1, q2, q3, q4, q5, hw]
end Go.Proofs.Ytpbpgbedkmbfkaa
namespace Go.Proofs.Ytpbpgbedkmbfkaa
open Go.Ab

def dimC (w r b : Int) : Cap := ⟨(capsOf w).kind, iand .i64 (capsOf w).rights r, (capsOf w).id, (capsOf w).ver, if (capsOf w).badge = 0 then b else (capsOf w).badge⟩
def dimE (w r b : Int) : Int := if (capOf w).may = false then 31 else if within r 0 15 = false ∨ within b 0 65535 = false then 1 else capE (dimC w r b)
def dimW (w r b : Int) : Int := if (capOf w).may = false then 0 else if within r 0 15 = false ∨ within b 0 65535 = false then 0 else capWord (dimC w r b)
theorem rf_caps_Diminish (w r b : Int) (h0 : 0 ≤ w) (h1 : w ≤ 18446744073709551615) (s : St) :
    rf D f_caps_Diminish [.int .u64 w, .int .i64 r, .int .i64 b] s = some (.tup [.int .u64 (dimW w r b), .int .i64 (dimE w r b)], s) := by
  have hc := fun s => rf_caps_Of w h0 h1 s
  have hw := fun s => rf_caps_Word (dimC w r b) s
  have hwi := fun s => rf_caps_within r 0 15 s
  have hwb := fun s => rf_caps_within b 0 65535 s
  unfold dimE dimW
  generalize (capOf w).may = m at *
  unfold dimC at hw ⊢
  generalize capsOf w = c at *
  generalize within r 0 15 = g1 at *
  generalize within b 0 65535 = g2 at *
  simp only [Cap.v] at hc hw
  rw [rf_o D_caps_Diminish rfl]
  cases m
  · simp only [go_sem, hc]
  · cases g1
    · simp only [go_sem, hc, hwi]
    · cases g2
      · simp only [go_sem, hc, hwi, hwb]
      · by_cases hb : c.badge = 0
        · simp only [hb, if_true] at hw ⊢
          simp only [go_sem, hc, hwi, hwb, hb, hw]
        · simp only [hb, if_false] at hw ⊢
          simp only [go_sem, hc, hwi, hwb, hb, hw]
end Go.Proofs.Ytpbpgbedkmbfkaa
namespace Go.Proofs.Ytpbpgbedkmbfkaa
open Go.Ab

def mayE (c k r : Int) : Int := if (capOf c).may = false then 31 else if (capsOf c).kind ≠ k then 31 else if iandnot .i64 r (capsOf c).rights = 0 then 0 else 32
theorem rf_caps_May (c k r : Int) (h0 : 0 ≤ c) (h1 : c ≤ 18446744073709551615) (s : St) :
    rf D f_caps_May [.int .u64 c, .int .i64 k, .int .i64 r] s = some (.int .i64 (mayE c k r), s) := by
  have hc := fun s => rf_caps_Of c h0 h1 s
  unfold mayE
  generalize (capOf c).may = m at *
  generalize capsOf c = x at *
  simp only [Cap.v] at hc
  rw [rf_o D_caps_May rfl]
  cases m
  · simp only [go_sem, hc]
  · by_cases g1 : x.kind = k
    · by_cases g2 : iandnot .i64 r x.rights = 0
      · simp only [go_sem, hc, g1, g2, ne_eq, not_true_eq_false, if_false, if_true]
      · simp only [go_sem, hc, g1, g2, ne_eq, not_true_eq_false, if_false, if_true]
    · simp only [go_sem, hc, g1, ne_eq, not_false_eq_true, if_true]
theorem rf_ref07_May (c k r : Int) (h0 : 0 ≤ c) (h1 : c ≤ 18446744073709551615) (hr0 : -9223372036854775808 ≤ r) (hr1 : r ≤ 9223372036854775807) (s : St) :
    rf D f_steadfastref07_May [.int .u64 c, .int .i64 k, .int .i64 r] s = some (.int .i64 (mayE c k r), s) := by
  have hc := fun s => rf_ref07_Of c h0 h1 s
  unfold mayE
  simp only [less_i64 hr0 hr1]
  generalize (capOf c).may = m at *
  generalize capsOf c = x at *
  simp only [Cap.v] at hc
  rw [rf_o D_steadfastref07_May rfl]
  cases m
  · simp only [go_sem, hc]
  · by_cases g1 : x.kind = k
    · by_cases g2 : iand .i64 x.rights r = r
      · simp only [go_sem, hc, g1, g2, ne_eq, not_true_eq_false, if_false, if_true]
      · simp only [go_sem, hc, g1, g2, ne_eq, not_true_eq_false, if_false, if_true]
    · simp only [go_sem, hc, g1, ne_eq, not_false_eq_true, if_true]
end Go.Proofs.Ytpbpgbedkmbfkaa
namespace Go.Proofs.Ytpbpgbedkmbfkaa
open Go.Ab

def lnV (l : List Int) : V := .agg 24 (l.map (.int .u64))
def zl : List Int := List.replicate 8 0
def zfl : V := .agg 50 (List.replicate 8 (.int .i64 0))
def nlV (now sure since fl : V) : V := .agg 55 [now, sure, since, fl]
def zln : V := .agg 24 (List.replicate 8 (.int .u64 0))
theorem zl_v : lnV zl = zln := rfl
def memV (k n : Nat) (off burns : Bool) (left steps : Int) : V := .agg 59 [.sl (.hp k) [] 0 n (some n) 55, .bool off, .bool burns, .int .i64 left, .int .i64 steps]
theorem rf_nvm_New {n : Nat} (h0 : 64 ≤ n) (h1 : n ≤ 1024) (s : St) : rf D f_nvm_New [.int .i64 n] s =
    some (.tup [.ptr (.hp (s.hp.length + 1)) [] 59, .int .i64 0], ⟨s.loc, s.hp ++ [.rw (.agg 57 (tab n fun _ => nlV zln zln .nils zfl)), .rw (memV s.hp.length n false false 0 0)]⟩) := by
  have c1 : ¬ (n : Int) < 64 := by omega
  have c2 : ¬ 1024 < (n : Int) := by omega
  have c3 : (0 : Int) ≤ n := by omega
  have c4 : ¬ (n : Int) < 0 := by omega
  have c5 : (n : Int) ≤ 4611686018427387904 := by omega
  have hm : (n : Int) ≤ (most : Nat) := by unfold most; omega
  rw [rf_o D_nvm_New rfl, ← tab_rep]
  simp only [nlV, zln, zfl, memV]
  simp only [go_sem, c1, c2, c3, hm, Int.le_refl, Int.toNat_natCast]
theorem rf_nvm_Of {n a : Nat} {ls : Nat → List Int} (h0 : 64 ≤ n) (h1 : n ≤ 1024) (s : St) (hs : s.loc[a]? = some (.rw (.agg 58 (tab n fun i => lnV (ls i))))) : rf D f_nvm_Of [.sl (.loc a) [] 0 n (some n) 24] s =
    some (.tup [.ptr (.hp (s.hp.length + 1)) [] 59, .int .i64 0], ⟨s.loc, s.hp ++ [.rw (.agg 57 (tab n fun i => nlV (lnV (ls i)) (lnV (ls i)) .nils zfl)), .rw (memV s.hp.length n false false 0 0)]⟩) := by
  have hal := (List.getElem?_eq_some_iff.1 hs).1
  have hnew := rf_nvm_New h0 h1
  have loop : rc D s.loc.length (.loop [4, 17, 18, 19] b_nvm_Of_0) [(4, .ptr (.hp (s.hp.length + 1)) [] 59), (17, .sl (.loc a) [] 0 n (some n) 24), (18, .int .i64 n), (19, .int .i64 0)]
      ⟨s.loc, s.hp ++ [.rw (.agg 57 (tab n fun _ => nlV zln zln .nils zfl)), .rw (memV s.hp.length n false false 0 0)]⟩ =
      some (.exit 0, [(4, .ptr (.hp (s.hp.length + 1)) [] 59), (17, .sl (.loc a) [] 0 n (some n) 24), (18, .int .i64 n), (19, .int .i64 n), (20, .bool false)],
        ⟨s.loc, s.hp ++ [.rw (.agg 57 (tab n fun i => nlV (lnV (ls i)) (lnV (ls i)) .nils zfl)), .rw (memV s.hp.length n false false 0 0)]⟩) := by
    refine loop_runs (fun x : Nat => [(4, .ptr (.hp (s.hp.length + 1)) [] 59), (17, .sl (.loc a) [] 0 n (some n) 24), (18, .int .i64 n), (19, .int .i64 x)])
      (fun x => ⟨s.loc, s.hp ++ [.rw (.agg 57 (tab n fun i => if i < x then nlV (lnV (ls i)) (lnV (ls i)) .nils zfl else nlV zln zln .nils zfl)), .rw (memV s.hp.length n false false 0 0)]⟩) (fun _ => _) (fun x => n - x) (fun x => x ≤ n) 0 ?_ (by omega) rfl (by simp)
    intro i hi
    by_cases c1 : i < n
    · left
      have d1 : (i : Int) < n := by omega
      have d2 : (0 : Int) ≤ i := by omega
      have d4 : IntKind.i64.wrap ((i : Int) + 1) = (i : Int) + 1 := i64_id (by omega) (by omega)
      have g1 := tab_get (f := fun i => lnV (ls i)) c1
      have g2 := tab_get (f := fun j => if j < i then nlV (lnV (ls j)) (lnV (ls j)) .nils zfl else nlV zln zln .nils zfl) c1
      simp only [Nat.lt_irrefl, if_false] at g2
      have hset : tab n (upd (fun j => if j < i then nlV (lnV (ls j)) (lnV (ls j)) .nils zfl else nlV zln zln .nils zfl) i (nlV (lnV (ls i)) (lnV (ls i)) .nils zfl)) = tab n fun j => if j < i + 1 then nlV (lnV (ls j)) (lnV (ls j)) .nils zfl else nlV zln zln .nils zfl := by
        apply tab_congr
        intro j _
        by_cases e : j = i
        · subst e; simp [upd]
        · rw [upd_ne e]
          by_cases h2 : j < i
          · rw [if_pos h2, if_pos (by omega)]
          · rw [if_neg h2, if_neg (by omega)]
      refine ⟨i + 1, by omega, by omega, rfl, ?_⟩
      rw [← hset, ← tab_set]
      have hT : ∀ v, ((tab n fun j => if j < i then nlV (lnV (ls j)) (lnV (ls j)) .nils zfl else nlV zln zln .nils zfl).set i v)[i]? = some v := fun v => List.getElem?_set_self (by rw [tab_len]; exact c1)
      generalize tab n (fun j => if j < i then nlV (lnV (ls j)) (lnV (ls j)) .nils zfl else nlV zln zln .nils zfl) = T at *
      generalize tab n (fun i => lnV (ls i)) = T2 at *
      simp only [lnV, nlV, zln, zfl, memV] at *
      have q1 := sad_all (a := .loc a) (e := 24) c1
      have q2 := sad_all (a := .hp s.hp.length) (e := 55) c1
      simp only [go_sem, b_nvm_Of_0, d1, d4, q1, q2, hs, g1, g2, hT, hal, List.set_set]
      rfl
    · right
      have : i = n := by omega
      subst this
      have d1 : ¬ (i : Int) < i := by omega
      rw [show (tab i fun j => if j < i then nlV (lnV (ls j)) (lnV (ls j)) .nils zfl else nlV zln zln .nils zfl) = tab i fun j => nlV (lnV (ls j)) (lnV (ls j)) .nils zfl from tab_congr fun j hj => if_pos hj]
      simp only [go_sem, b_nvm_Of_0, d1]
  rw [rf_o D_nvm_Of rfl]
  simp only [go_sem, hnew, loop]
theorem rf_nvm_Lines {n k m : Nat} {off burns : Bool} {left steps : Int} (s : St) (hs : s.hp[m]? = some (.rw (memV k n off burns left steps))) : rf D f_nvm_Memory_Lines [.ptr (.hp m) [] 59] s = some (.int .i64 n, s) := by
  rw [rf_o D_nvm_Memory_Lines rfl]
  simp only [memV] at hs
  simp only [go_sem, hs]
theorem rf_nvm_at {n k m : Nat} {off burns : Bool} {left steps : Int} (s : St) (hs : s.hp[m]? = some (.rw (memV k n off burns left steps))) (i : Int) : rf D f_nvm_Memory_at [.ptr (.hp m) [] 59, .int .i64 i] s =
    some (if 0 ≤ i ∧ i < n then .ptr (.hp k) [i.toNat] 55 else .nilp, s) := by
  simp only [memV] at hs
  rw [rf_o D_nvm_Memory_at rfl]
  by_cases h1 : i < 0
  · rw [if_neg (by omega)]
    simp only [go_sem, h1]
  · by_cases h2 : (n : Int) ≤ i
    · rw [if_neg (by omega)]
      simp only [go_sem, h1, h2, hs]
    · obtain ⟨j, rfl⟩ : ∃ j : Nat, i = j := ⟨i.toNat, by omega⟩
      rw [if_pos (by omega)]
      have q := sad_all (a := .hp k) (e := 55) (show j < n by omega)
      simp only [go_sem, h1, h2, hs, q, Int.toNat_natCast]
/-- What a line has is loaded. -/
theorem rf_nvm_Load {n k m i : Nat} {burns : Bool} {left steps : Int} {T : List V} {x : List Int} {sure since fl : V} (s : St) (hs : s.hp[m]? = some (.rw (memV k n false burns left steps))) (hk : s.hp[k]? = some (.rw (.agg 57 T)))
    (hT : T[i]? = some (nlV (lnV x) sure since fl)) (hi : i < n) : rf D f_nvm_Memory_Load [.ptr (.hp m) [] 59, .int .i64 i] s = some (.tup [lnV x, .int .i64 0], s) := by
  have ha := fun L => rf_nvm_at ⟨s.loc ++ L, s.hp⟩ hs i
  simp only [show ((0 : Int) ≤ (i : Int) ∧ (i : Int) < (n : Int)) from ⟨by omega, by omega⟩, and_self, if_true, Int.toNat_natCast] at ha
  simp only [memV, nlV, lnV] at *
  rw [rf_o D_nvm_Memory_Load rfl]
  simp only [go_sem, ha, hs, hk, hT]
/-! ### The document's memory -/
def rmV (k n k2 : Nat) (off : Bool) (left count : Int) : V := .agg 33 [.sl (.hp k) [] 0 n none 24, .sl (.hp k2) [] 0 n (some n) 1, .bool off, .int .i64 left, .int .i64 count]
theorem rf_ref03_Of {n a : Nat} {ls : Nat → List Int} (h0 : 64 ≤ n) (h1 : n ≤ 1024) (s : St) (hs : s.loc[a]? = some (.rw (.agg 58 (tab n fun i => lnV (ls i))))) : rf D f_steadfastref03_Of [.sl (.loc a) [] 0 n (some n) 24] s =
    some (.tup [.ptr (.hp (s.hp.length + 3)) [] 33, .int .i64 0], ⟨s.loc, s.hp ++ [.rw (.agg 58 []), .rw (.agg 58 (tab n fun i => lnV (ls i))), .rw (.agg 53 (tab n fun _ => .nils)),
      .rw (.agg 33 [.sl (.hp (s.hp.length + 1)) [] 0 n none 24, .sl (.hp (s.hp.length + 2)) [] 0 n (some n) 1, .bool false, .int .i64 (-1), .int .i64 0])]⟩) := by
  have c1 : ¬ (n : Int) < 64 := by omega
  have c2 : ¬ 1024 < (n : Int) := by omega
  have c3 : (0 : Int) ≤ n := by omega
  have hm : (n : Int) ≤ (most : Nat) := by unfold most; omega
  have hl := tab_len n fun i => lnV (ls i)
  rw [rf_o D_steadfastref03_Of rfl, ← tab_rep]
  have happ := app_full (base := s.loc.length) (r := 58) (e := 24) (h := true) (s := ⟨s.loc, s.hp ++ [.rw (.agg 58 [])]⟩) (a := .hp s.hp.length) (p := []) (o := 0) (n := 0) (c := 0) (y := .sl (.loc a) [] 0 n (some n) 24) (old := []) (new := tab n fun i => lnV (ls i))
    (.inr ⟨_, _, _, _, _, rfl⟩) (by simp [St.elems]) (elems_whole (t := 58) (by simp only [go_sem, hs]) hl.symm) (by intro h; rw [h] at hl; simp at hl; omega) (by simp only [List.length_nil, hl]; omega) (by simp only [List.length_nil, hl]; unfold most; omega) rfl
  generalize tab n (fun i => lnV (ls i)) = T at *
  simp only [List.nil_append, List.length_nil, Nat.zero_add, hl] at happ
  simp only [go_sem] at happ
  simp only [go_sem, c1, c2, c3, hm, happ, List.replicate_zero, Int.le_refl, Int.toNat_natCast]
theorem rf_ref03_is {n k k2 m : Nat} {off : Bool} {left count : Int} (s : St) (hs : s.hp[m]? = some (.rw (rmV k n k2 off left count))) {i : Nat} (hi : i < n) : rf D f_steadfastref03_Memory_is [.ptr (.hp m) [] 33, .int .i64 i] s = some (.bool true, s) := by
  simp only [rmV] at hs
  have c1 : (0 : Int) ≤ i := by omega
  have c2 : (i : Int) < n := by omega
  rw [rf_o D_steadfastref03_Memory_is rfl]
  simp only [go_sem, c1, c2, hs]
theorem rf_ref03_has0 {n k k2 m i : Nat} {off : Bool} {left count : Int} {T : List V} {x : List Int} (s : St) (hs : s.hp[m]? = some (.rw (rmV k n k2 off left count))) (hk : s.hp[k]? = some (.rw (.agg 58 T))) (hT : T[i]? = some (lnV x)) (hi : i < n) :
    rf D f_steadfastref03_Memory_has [.ptr (.hp m) [] 33, .int .i64 i, .int .i64 0] s = some (lnV x, s) := by
  have q := sad_all (a := .hp k) (e := 24) hi
  have q : sadv 24 (.sl (.hp k) [] 0 n none 24) (.int .i64 (i : Int)) = some (.ptr (.hp k) [i] 24) := by simp [sadv, hi]
  have loop : ∀ s' : St, rc D s.loc.length (.loop [0, 1, 2, 6, 7, 8] b_steadfastref03_Memory_has_0) [(0, .ptr (.hp m) [] 33), (1, .int .i64 i), (2, .int .i64 0), (6, .ptr (.loc s.loc.length) [] 24), (7, .ptr (.loc (s.loc.length + 1)) [] 24), (8, .int .i64 0)] s' =
      some (.exit 0, [(0, .ptr (.hp m) [] 33), (1, .int .i64 i), (2, .int .i64 0), (6, .ptr (.loc s.loc.length) [] 24), (7, .ptr (.loc (s.loc.length + 1)) [] 24), (8, .int .i64 0), (18, .bool false)], s') := by
    intro s'
    rw [rc_loop_o]
    simp only [go_sem, b_steadfastref03_Memory_has_0]
  simp only [rmV, lnV] at *
  rw [rf_o D_steadfastref03_Memory_has rfl]
  simp only [go_sem, hs, hk, q, hT, loop]
theorem rf_ref03_Load0 {n k k2 m i : Nat} {left count : Int} {T T2 : List V} {x : List Int} (s : St) (hs : s.hp[m]? = some (.rw (rmV k n k2 false left count))) (hk : s.hp[k]? = some (.rw (.agg 58 T))) (hT : T[i]? = some (lnV x))
    (hk2 : s.hp[k2]? = some (.rw (.agg 53 T2))) (hT2 : T2[i]? = some .nils) (hi : i < n) :
    rf D f_steadfastref03_Memory_Load [.ptr (.hp m) [] 33, .int .i64 i] s = some (.tup [lnV x, .int .i64 0], s) := by
  have q := sad_all (a := .hp k2) (e := 1) hi
  have h1 := fun L => rf_ref03_is ⟨s.loc ++ L, s.hp⟩ hs hi
  have h2 := fun L => rf_ref03_has0 ⟨s.loc ++ L, s.hp⟩ hs hk hT hi
  simp only [rmV, lnV] at *
  rw [rf_o D_steadfastref03_Memory_Load rfl]
  simp only [go_sem, hs, hk2, hT2, q, h1, h2]
end Go.Proofs.Ytpbpgbedkmbfkaa
