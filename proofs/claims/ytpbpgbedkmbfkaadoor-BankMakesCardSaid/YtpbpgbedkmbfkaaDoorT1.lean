/-
  YtpbpgbedkmbfkaaDoorT1: what functions of the program compute (ReachA, CapsA, CapsB, CapsC, MayA, NvmA, FrmA, FrmB, ObjO, ObjA, ObjG, NxtA, DooA, ObjB, ObjC, ObjD, ObjE, ObjF, MadeA, Made18).
-/
import Derived.Test.YtpbpgbedkmbfkaaDoorCode
import Derived.Test.YtpbpgbedkmbfkaaDoorAbD
import Derived.Test.YtpbpgbedkmbfkaaDoorAbE
import Derived.KernelRfl
import Derived.Laws.Bits64
set_option maxRecDepth 100000
namespace Go.Proofs.YtpbpgbedkmbfkaaDoor
open Go.Ab

structure Cap where
  kind : Int
  rights : Int
  id : Int
  ver : Int
  badge : Int
  deriving DecidableEq
def Cap.v (c : Cap) : V := .agg 40 [.int .i64 c.kind, .int .i64 c.rights, .int .i64 c.id, .int .i64 c.ver, .int .i64 c.badge]
def capOf (w : Int) : Cap := ⟨w % 16, w / 16 % 16, w / 256 % 65536, w / 16777216 % 16777216, w / 281474976710656⟩
def noCap : Cap := ⟨0, 0, 0, 0, 0⟩
def within (n a b : Int) : Bool := decide (a ≤ n) && decide (n ≤ b)
def Cap.may (c : Cap) : Bool :=
  within c.kind 1 6 && within c.rights 0 15 && within c.id 0 48 && within c.ver 0 16777215 && within c.badge 0 65535 && (!(decide (c.kind = 5) || decide (c.kind = 6)) || (decide (c.id = 0) && decide (c.ver = 0)))
theorem rf_caps_within (n a b : Int) (s : St) : rf D f_caps_within [.int .i64 n, .int .i64 a, .int .i64 b] s = some (.bool (within n a b), s) := by
  rw [rf_o D_caps_within rfl]
  simp only [go_sem]
  unfold within
  by_cases h : a ≤ n <;> simp [h, go_sem]
theorem rf_caps_may (c : Cap) (s : St) : rf D f_caps_may [c.v] s = some (.bool c.may, s) := by
  rw [rf_o D_caps_may rfl]
  simp only [go_sem, Cap.v, rf_caps_within]
  simp [Cap.may, Bool.and_assoc]
/-- What a word's capability is, if it is one. -/
def capsOf (w : Int) : Cap := if (capOf w).may then capOf w else noCap
theorem rf_caps_Of (w : Int) (h0 : 0 ≤ w) (h1 : w ≤ 18446744073709551615) (s : St) : rf D f_caps_Of [.int .u64 w] s = some (.tup [(capsOf w).v, .bool (capOf w).may], s) := by
  have p1 : iand .u64 w 15 = w % 16 := iand_mask w 4 h0 (by omega) (by decide)
  have p2 : iand .u64 (w / 16) 15 = w / 16 % 16 := iand_mask (w / 16) 4 (by omega) (by omega) (by decide)
  have p3 : iand .u64 (w / 256) 65535 = w / 256 % 65536 := iand_mask (w / 256) 16 (by omega) (by omega) (by decide)
  have p4 : iand .u64 (w / 16777216) 16777215 = w / 16777216 % 16777216 := iand_mask (w / 16777216) 24 (by omega) (by omega) (by decide)
  have q1 : IntKind.i64.wrap (w % 16) = w % 16 := i64_id (by omega) (by omega)
  have q2 : IntKind.i64.wrap (w / 16 % 16) = w / 16 % 16 := i64_id (by omega) (by omega)
  have q3 : IntKind.i64.wrap (w / 256 % 65536) = w / 256 % 65536 := i64_id (by omega) (by omega)
  have q4 : IntKind.i64.wrap (w / 16777216 % 16777216) = w / 16777216 % 16777216 := i64_id (by omega) (by omega)
  have q5 : IntKind.i64.wrap (w / 281474976710656) = w / 281474976710656 := i64_id (by omega) (by omega)
  have f1 : ishr .u64 w 4 = w / 16 := ishr_two w 4 (by decide)
  have f2 : ishr .u64 w 8 = w / 256 := ishr_two w 8 (by decide)
  have f3 : ishr .u64 w 24 = w / 16777216 := ishr_two w 24 (by decide)
  have f4 : ishr .u64 w 48 = w / 281474976710656 := ishr_two w 48 (by decide)
  have hm := fun s => rf_caps_may (capOf w) s
  rw [rf_o D_caps_Of rfl]
  unfold capsOf
  simp only [Cap.v, capOf] at hm ⊢
  simp only [go_sem, f1, f2, f3, f4, p1, p2, p3, p4, q1, q2, q3, q4, q5, hm]
  by_cases hb : (Cap.mk (w % 16) (w / 16 % 16) (w / 256 % 65536) (w / 16777216 % 16777216) (w / 281474976710656)).may = true <;> simp [hb, noCap]
theorem may_id {c : Cap} (h : c.may = true) : 0 ≤ c.id ∧ c.id ≤ 48 := by
  simp only [Cap.may, within, Bool.and_eq_true, decide_eq_true_eq] at h
  exact h.1.1.1.2

/-! ### Entries -/
def entryNames (kind ver id w : Int) : Int :=
  if (!(capOf w).may || decide (4 < (capsOf w).kind)) then 31 else
  if (capsOf w).id ≠ id then 30 else if (capsOf w).ver ≠ ver then 33 else if kind = 0 then 30 else if (capsOf w).kind ≠ kind then 31 else 0
theorem rf_entry_Names (kind ver line id w : Int) (h0 : 0 ≤ w) (h1 : w ≤ 18446744073709551615) (s : St) :
    rf D f_entry_Names [.agg 42 [.int .i64 kind, .int .i64 ver, .int .i64 line], .int .i64 id, .int .u64 w] s = some (.int .i64 (entryNames kind ver id w), s) := by
  have hc := fun s => rf_caps_Of w h0 h1 s
  rw [rf_o D_entry_Names rfl]
  unfold entryNames
  generalize capsOf w = y at hc ⊢
  generalize (capOf w).may = m at hc ⊢
  simp only [Cap.v] at hc
  simp only [go_sem, hc]
  cases m
  · simp [go_sem]
  · by_cases g1 : 4 < y.kind
    · simp [go_sem, g1]
    · by_cases g2 : y.id = id
      · by_cases g3 : y.ver = ver
        · by_cases g4 : kind = 0
          · simp [go_sem, g1, g2, g3, g4]
          · by_cases g5 : y.kind = kind <;> simp [go_sem, g1, g2, g3, g4, g5]
        · simp [go_sem, g1, g2, g3]
      · simp [go_sem, g1, g2]
end Go.Proofs.YtpbpgbedkmbfkaaDoor
namespace Go.Proofs.YtpbpgbedkmbfkaaDoor
open Go.Ab

theorem two_lt64 {r : Nat} (h : r < 64) : 2 ^ r < 18446744073709551616 := Nat.pow_lt_pow_right (show 1 < 2 by decide) h
theorem rf_bit1 {w i : Nat} (hw : w < 18446744073709551616) (hi : i ≤ 64) (s : St) : rf D f_steadfastref01_bit [.int .u64 w, .int .i64 i] s = some (.int .u64 (w / 2 ^ i % 2 : Nat), s) := by
  have e1 : ishr .u64 (w : Int) (i : Int) = ((w / 2 ^ i : Nat) : Int) := by
    rw [ishr_two (w : Int) i hi, Int.natCast_ediv, Int.natCast_pow]; rfl
  have e2 : iand .u64 ((w / 2 ^ i : Nat) : Int) 1 = ((w / 2 ^ i % 2 : Nat) : Int) := by
    have hlt : w / 2 ^ i < 18446744073709551616 := Nat.lt_of_le_of_lt (Nat.div_le_self _ _) hw
    generalize w / 2 ^ i = y at *
    have := iand_mask (y : Int) 1 (by omega) (by omega) (by decide)
    rw [show (1 : Int) = 2 ^ 1 - 1 by decide, this]; simp
  generalize w / 2 ^ i % 2 = z at *
  generalize w / 2 ^ i = y at *
  have d : ¬ (i : Int) < 0 := by omega
  rw [rf_o D_steadfastref01_bit rfl]
  simp only [go_sem, e1, e2, d]
theorem rf_is1 {a b : Nat} (h1 : 1 ≤ b) (h2 : a + b ≤ 64) (s : St) : rf D f_steadfastref01_is [.int .i64 a, .int .i64 b] s = some (.bool true, s) := by
  have e : IntKind.i64.wrap ((a : Int) + (b : Int)) = ((a + b : Nat) : Int) := by rw [i64_id (by omega) (by omega)]; omega
  have c1 : (0 : Int) ≤ a := by omega
  have c2 : (a : Int) ≤ 63 := by omega
  have c3 : (1 : Int) ≤ b := by omega
  have c4 : (b : Int) ≤ 64 := by omega
  have c5 : ((a + b : Nat) : Int) ≤ 64 := by omega
  rw [rf_o D_steadfastref01_is rfl]
  simp only [go_sem, c1, c2, c3, c4, e, c5]
theorem part_lt {w a v i : Nat} (hw : w < 2 ^ a) : w + v % 2 ^ i * 2 ^ a < 2 ^ (a + i) := by
  have h1 : v % 2 ^ i < 2 ^ i := Nat.mod_lt _ (Nat.two_pow_pos i)
  have h2 : (v % 2 ^ i + 1) * 2 ^ a ≤ 2 ^ i * 2 ^ a := Nat.mul_le_mul_right _ h1
  rw [Nat.pow_add, Nat.mul_comm (2 ^ a)]
  rw [Nat.add_mul, Nat.one_mul] at h2
  omega
theorem part_succ {w a v i : Nat} : w + v % 2 ^ (i + 1) * 2 ^ a = w + v % 2 ^ i * 2 ^ a + v / 2 ^ i % 2 * 2 ^ (a + i) := by
  rw [Nat.mod_pow_succ, Nat.add_mul, Nat.pow_add, ← Nat.add_assoc]
  congr 1
  rw [Nat.mul_comm (2 ^ i), Nat.mul_assoc, Nat.mul_comm (2 ^ i)]
/-- A field laid above what is there. -/
theorem rf_With {w a b v : Nat} (hb : 1 ≤ b) (hab : a + b ≤ 64) (hw : w < 2 ^ a) (hv : v < 2 ^ b) (s : St) :
    rf D f_steadfastref01_With [.int .u64 w, .int .i64 a, .int .i64 b, .int .u64 v] s = some (.tup [.int .u64 (w + v * 2 ^ a : Nat), .int .i64 0], s) := by
  have hw64 : w < 18446744073709551616 := Nat.lt_trans hw (two_lt64 (by omega))
  have hv64 : v < 18446744073709551616 := Nat.lt_of_lt_of_le hv (show 2 ^ b ≤ 2 ^ 64 from Nat.pow_le_pow_right (by decide) (by omega))
  have his := fun s => rf_is1 hb hab s
  have loop1 : rc D s.loc.length (.loop [0, 1, 2, 3, 10] b_steadfastref01_With_0) [(0, .int .u64 w), (1, .int .i64 a), (2, .int .i64 b), (3, .int .u64 v), (10, .int .i64 b)] s =
      some (.exit 0, [(0, .int .u64 w), (1, .int .i64 a), (2, .int .i64 b), (3, .int .u64 v), (10, .int .i64 64), (18, .bool false)], s) := by
    refine loop_runs (fun x : Nat => [(0, .int .u64 w), (1, .int .i64 a), (2, .int .i64 b), (3, .int .u64 v), (10, .int .i64 x)]) (fun _ => s) (fun _ => _) (fun x => 64 - x) (fun x => b ≤ x ∧ x ≤ 64) b ?_ ⟨Nat.le_refl _, by omega⟩ rfl rfl
    rintro i ⟨h1, h2⟩
    by_cases c1 : i < 64
    · left
      have d1 : (i : Int) < 64 := by omega
      have d4 : IntKind.i64.wrap ((i : Int) + 1) = (i : Int) + 1 := i64_id (by omega) (by omega)
      have hbit := fun s => rf_bit1 hv64 (i := i) (by omega) s
      have hz : v / 2 ^ i % 2 = 0 := by
        rw [Nat.div_eq_of_lt (Nat.lt_of_lt_of_le hv (Nat.pow_le_pow_right (by decide) h1))]
      rw [hz] at hbit
      refine ⟨i + 1, ⟨by omega, by omega⟩, by omega, rfl, ?_⟩
      simp only [go_sem, b_steadfastref01_With_0, d1, hbit, d4]
      rfl
    · right
      have : i = 64 := by omega
      subst this
      simp only [go_sem, b_steadfastref01_With_0]
  have loop2 : rc D s.loc.length (.loop [0, 1, 2, 3, 11] b_steadfastref01_With_1) [(0, .int .u64 w), (1, .int .i64 a), (2, .int .i64 b), (3, .int .u64 v), (11, .int .i64 0)] s =
      some (.exit 2, [(0, .int .u64 (w + v * 2 ^ a : Nat)), (1, .int .i64 a), (2, .int .i64 b), (3, .int .u64 v), (11, .int .i64 b), (27, .bool false)], s) := by
    refine loop_runs (fun x : Nat => [(0, .int .u64 (w + v % 2 ^ x * 2 ^ a : Nat)), (1, .int .i64 a), (2, .int .i64 b), (3, .int .u64 v), (11, .int .i64 x)]) (fun _ => s) (fun _ => _) (fun x => b - x) (fun x => x ≤ b) 0 ?_ (Nat.zero_le _) (by simp [Nat.mod_one]) rfl
    intro i h2
    by_cases c1 : i < b
    · left
      have d1 : (i : Int) < b := by omega
      have d4 : IntKind.i64.wrap ((i : Int) + 1) = (i : Int) + 1 := i64_id (by omega) (by omega)
      have e1 : IntKind.i64.wrap ((a : Int) + (i : Int)) = ((a + i : Nat) : Int) := by rw [i64_id (by omega) (by omega)]; omega
      have hlt := part_lt (v := v) (i := i) hw
      have h64 : 2 ^ (a + i) < 18446744073709551616 := two_lt64 (by omega)
      have hx64 : w + v % 2 ^ i * 2 ^ a < 18446744073709551616 := Nat.lt_trans hlt h64
      have hb1 := fun s => rf_bit1 hv64 (i := i) (by omega) s
      have hb2 := fun s => rf_bit1 hx64 (i := a + i) (by omega) s
      rw [Nat.div_eq_of_lt hlt] at hb2
      have hs := part_succ (w := w) (a := a) (v := v) (i := i)
      have hsh : ishl .u64 1 ((a + i : Nat) : Int) = ((2 ^ (a + i) : Nat) : Int) := by
        rw [ishl_two 1 (a + i) (by omega), Int.one_mul, show (2 : Int) ^ (a + i) = ((2 ^ (a + i) : Nat) : Int) by rw [Int.natCast_pow]; rfl]
        generalize 2 ^ (a + i) = p at *
        omega
      have hx := ixor_nat hx64 h64
      rw [xor_add hlt] at hx
      refine ⟨i + 1, by omega, by omega, rfl, ?_⟩
      simp only [hs]
      have h2 : v / 2 ^ i % 2 < 2 := Nat.mod_lt _ (by decide)
      generalize w + v % 2 ^ i * 2 ^ a = x at *
      generalize v / 2 ^ i % 2 = z at *
      generalize 2 ^ (a + i) = p at *
      have d3 : ¬ ((a + i : Nat) : Int) < 0 := by omega
      generalize a + i = q at *
      by_cases hz : z = 1
      · subst hz
        simp only [go_sem, b_steadfastref01_With_1, d1, e1, hb1, hb2, d3, hsh, hx, d4]
        simp only [Nat.one_mul]
        rfl
      · have hz0 : z = 0 := by omega
        subst hz0
        simp only [go_sem, b_steadfastref01_With_1, d1, e1, hb1, hb2, d4]
        simp only [Nat.zero_mul, Nat.add_zero]
        rfl
    · right
      have : i = b := by omega
      subst this
      have d1 : ¬ (i : Int) < i := by omega
      rw [Nat.mod_eq_of_lt hv]
      simp only [go_sem, b_steadfastref01_With_1, d1]
  generalize w + v * 2 ^ a = r at *
  rw [rf_o D_steadfastref01_With rfl]
  simp only [go_sem, his, loop1, loop2]
/-- A field read. -/
theorem rf_Field1 {w a b : Nat} (hb : 1 ≤ b) (hab : a + b ≤ 64) (hw : w < 18446744073709551616) (s : St) :
    rf D f_steadfastref01_Field [.int .u64 w, .int .i64 a, .int .i64 b] s = some (.int .u64 (w / 2 ^ a % 2 ^ b : Nat), s) := by
  have his := fun s => rf_is1 hb hab s
  have loop : rc D s.loc.length (.loop [0, 1, 2, 7, 8] b_steadfastref01_Field_0) [(0, .int .u64 w), (1, .int .i64 a), (2, .int .i64 b), (7, .int .u64 0), (8, .int .i64 0)] s =
      some (.exit 0, [(0, .int .u64 w), (1, .int .i64 a), (2, .int .i64 b), (7, .int .u64 (w / 2 ^ a % 2 ^ b : Nat)), (8, .int .i64 b), (15, .bool false)], s) := by
    refine loop_runs (fun x : Nat => [(0, .int .u64 w), (1, .int .i64 a), (2, .int .i64 b), (7, .int .u64 (w / 2 ^ a % 2 ^ x : Nat)), (8, .int .i64 x)]) (fun _ => s) (fun _ => _) (fun x => b - x) (fun x => x ≤ b) 0 ?_ (Nat.zero_le _) (by simp [Nat.mod_one]) rfl
    intro i h2
    by_cases c1 : i < b
    · left
      have d1 : (i : Int) < b := by omega
      have d4 : IntKind.i64.wrap ((i : Int) + 1) = (i : Int) + 1 := i64_id (by omega) (by omega)
      have e1 : IntKind.i64.wrap ((a : Int) + (i : Int)) = ((a + i : Nat) : Int) := by rw [i64_id (by omega) (by omega)]; omega
      have hb1 := fun s => rf_bit1 hw (i := a + i) (by omega) s
      have hlt : w / 2 ^ a % 2 ^ i < 2 ^ i := Nat.mod_lt _ (Nat.two_pow_pos i)
      have h64 : 2 ^ i < 18446744073709551616 := two_lt64 (by omega)
      have hs : w / 2 ^ a % 2 ^ (i + 1) = w / 2 ^ a % 2 ^ i + w / 2 ^ (a + i) % 2 * 2 ^ i := by
        rw [Nat.mod_pow_succ, Nat.div_div_eq_div_mul, ← Nat.pow_add, Nat.mul_comm (2 ^ i)]
      refine ⟨i + 1, by omega, by omega, rfl, ?_⟩
      simp only [hs]
      have hz2 : w / 2 ^ (a + i) % 2 < 2 := Nat.mod_lt _ (by decide)
      generalize w / 2 ^ (a + i) % 2 = z at *
      have hzp : z * 2 ^ i < 18446744073709551616 := by
        have : z * 2 ^ i ≤ 1 * 2 ^ i := Nat.mul_le_mul_right _ (by omega)
        omega
      have hsh : ishl .u64 (z : Int) (i : Int) = ((z * 2 ^ i : Nat) : Int) := by
        rw [ishl_two (z : Int) i (by omega), show (2 : Int) ^ i = ((2 ^ i : Nat) : Int) by rw [Int.natCast_pow]; rfl, ← Int.natCast_mul]
        generalize z * 2 ^ i = p at *
        omega
      have hor := ior_add (n := w / 2 ^ a % 2 ^ i) (m := z) i hlt (by omega) hzp
      generalize w / 2 ^ a % 2 ^ i = x at *
      have d3 : ¬ (i : Int) < 0 := by omega
      generalize z * 2 ^ i = p at *
      generalize a + i = q at *
      simp only [go_sem, b_steadfastref01_Field_0, d1, e1, hb1, d3, hsh, hor, d4]
      rfl
    · right
      have : i = b := by omega
      subst this
      have d1 : ¬ (i : Int) < i := by omega
      simp only [go_sem, b_steadfastref01_Field_0, d1]
  generalize w / 2 ^ a % 2 ^ b = r at *
  rw [rf_o D_steadfastref01_Field rfl]
  simp only [go_sem, his, loop]
end Go.Proofs.YtpbpgbedkmbfkaaDoor
namespace Go.Proofs.YtpbpgbedkmbfkaaDoor
open Go.Ab

/-- The word of a capability that may be. -/
def Cap.word (c : Cap) : Int := c.kind + c.rights * 16 + c.id * 256 + c.ver * 16777216 + c.badge * 281474976710656
def capWord (c : Cap) : Int := if c.may then c.word else 0
def capE (c : Cap) : Int := if c.may then 0 else 1
structure Cap.Ok (c : Cap) : Prop where
  k : 1 ≤ c.kind ∧ c.kind ≤ 6
  r : 0 ≤ c.rights ∧ c.rights ≤ 15
  i : 0 ≤ c.id ∧ c.id ≤ 48
  v : 0 ≤ c.ver ∧ c.ver ≤ 16777215
  b : 0 ≤ c.badge ∧ c.badge ≤ 65535
  free : (c.kind = 5 ∨ c.kind = 6) → c.id = 0 ∧ c.ver = 0
theorem may_iff (c : Cap) : c.may = true ↔ c.Ok := by
  simp only [Cap.may, within, Bool.and_eq_true, decide_eq_true_eq, Bool.or_eq_true, Bool.not_eq_true', Bool.or_eq_false_iff, decide_eq_false_iff_not]
  constructor
  · rintro ⟨⟨⟨⟨⟨h1, h2⟩, h3⟩, h4⟩, h5⟩, h6⟩
    exact ⟨h1, h2, h3, h4, h5, by omega⟩
  · rintro ⟨h1, h2, h3, h4, h5, h6⟩
    exact ⟨⟨⟨⟨⟨h1, h2⟩, h3⟩, h4⟩, h5⟩, by omega⟩
theorem Cap.Ok.nats {c : Cap} (h : c.Ok) : ∃ k r i v b : Nat, c = ⟨k, r, i, v, b⟩ ∧ k < 16 ∧ r < 16 ∧ i < 65536 ∧ v < 16777216 ∧ b < 65536 := by
  obtain ⟨k, r, i, v, b⟩ := c
  have h1 := h.k; have h2 := h.r; have h3 := h.i; have h4 := h.v; have h5 := h.b
  simp only at h1 h2 h3 h4 h5
  refine ⟨k.toNat, r.toNat, i.toNat, v.toNat, b.toNat, ?_, by omega, by omega, by omega, by omega, by omega⟩
  simp only [Cap.mk.injEq]
  omega
theorem rf_caps_Word (c : Cap) (s : St) : rf D f_caps_Word [c.v] s = some (.tup [.int .u64 (capWord c), .int .i64 (capE c)], s) := by
  have hm := fun s => rf_caps_may c s
  rw [rf_o D_caps_Word rfl]
  unfold capWord capE
  by_cases h : c.may = true
  · obtain ⟨k, r, i, v, b, rfl, h1, h2, h3, h4, h5⟩ := ((may_iff c).1 h).nats
    simp only [Cap.v] at hm ⊢
    simp only [h, if_true]
    rw [h] at hm
    have q1 : IntKind.u64.wrap (k : Int) = k := u64_id (by omega) (by omega)
    have q2 : IntKind.u64.wrap (r : Int) = r := u64_id (by omega) (by omega)
    have q3 : IntKind.u64.wrap (i : Int) = i := u64_id (by omega) (by omega)
    have q4 : IntKind.u64.wrap (v : Int) = v := u64_id (by omega) (by omega)
    have q5 : IntKind.u64.wrap (b : Int) = b := u64_id (by omega) (by omega)
    obtain ⟨y2, hy2⟩ : ∃ y : Nat, y = r * 16 := ⟨_, rfl⟩
    obtain ⟨y3, hy3⟩ : ∃ y : Nat, y = i * 256 := ⟨_, rfl⟩
    obtain ⟨y4, hy4⟩ : ∃ y : Nat, y = v * 16777216 := ⟨_, rfl⟩
    obtain ⟨y5, hy5⟩ : ∃ y : Nat, y = b * 281474976710656 := ⟨_, rfl⟩
    have s2 : ishl .u64 (r : Int) 4 = (y2 : Int) := by have := ishl_two (r : Int) 4 (by decide); rw [show ((4 : Nat) : Int) = 4 by rfl] at this; rw [this]; omega
    have s3 : ishl .u64 (i : Int) 8 = (y3 : Int) := by have := ishl_two (i : Int) 8 (by decide); rw [show ((8 : Nat) : Int) = 8 by rfl] at this; rw [this]; omega
    have s4 : ishl .u64 (v : Int) 24 = (y4 : Int) := by have := ishl_two (v : Int) 24 (by decide); rw [show ((24 : Nat) : Int) = 24 by rfl] at this; rw [this]; omega
    have s5 : ishl .u64 (b : Int) 48 = (y5 : Int) := by have := ishl_two (b : Int) 48 (by decide); rw [show ((48 : Nat) : Int) = 48 by rfl] at this; rw [this]; omega
    obtain ⟨x2, hx2⟩ : ∃ x : Nat, x = k + y2 := ⟨_, rfl⟩
    obtain ⟨x3, hx3⟩ : ∃ x : Nat, x = x2 + y3 := ⟨_, rfl⟩
    obtain ⟨x4, hx4⟩ : ∃ x : Nat, x = x3 + y4 := ⟨_, rfl⟩
    obtain ⟨x5, hx5⟩ : ∃ x : Nat, x = x4 + y5 := ⟨_, rfl⟩
    have o2 : ior .u64 (k : Int) (y2 : Int) = (x2 : Int) := by have := ior_add (n := k) (m := r) 4 (by omega) (by omega) (by omega); rw [show r * 2 ^ 4 = y2 by omega] at this; rw [this, hx2]
    have o3 : ior .u64 (x2 : Int) (y3 : Int) = (x3 : Int) := by have := ior_add (n := x2) (m := i) 8 (by omega) (by omega) (by omega); rw [show i * 2 ^ 8 = y3 by omega] at this; rw [this, hx3]
    have o4 : ior .u64 (x3 : Int) (y4 : Int) = (x4 : Int) := by have := ior_add (n := x3) (m := v) 24 (by omega) (by omega) (by omega); rw [show v * 2 ^ 24 = y4 by omega] at this; rw [this, hx4]
    have o5 : ior .u64 (x4 : Int) (y5 : Int) = (x5 : Int) := by have := ior_add (n := x4) (m := b) 48 (by omega) (by omega) (by omega); rw [show b * 2 ^ 48 = y5 by omega] at this; rw [this, hx5]
    have e : (x5 : Int) = Cap.word ⟨k, r, i, v, b⟩ := by simp only [Cap.word]; omega
    rw [← e]
    clear e hx5 hx4 hx3 hx2 hy2 hy3 hy4 hy5
    simp only [go_sem, hm]
    simp only [go_sem, q1, q2, q3, q4, q5]
    simp only [go_sem, s2, s3, s4, s5]
    simp only [go_sem, o2, o3, o4, o5]
  · have h' : c.may = false := by simpa using h
    simp only [Cap.v] at hm ⊢
    rw [h'] at hm
    simp only [go_sem, hm, h']
theorem rf_ref07_Word (c : Cap) (s : St) : rf D f_steadfastref07_Word [c.v] s = some (.tup [.int .u64 (capWord c), .int .i64 (capE c)], s) := by
  rw [rf_o D_steadfastref07_Word rfl]
  unfold capWord capE
  by_cases h : c.may = true
  · have hok := (may_iff c).1 h
    obtain ⟨k, r, i, v, b, rfl, h1, h2, h3, h4, h5⟩ := hok.nats
    have hk := hok.k; have hi := hok.i; have hf := hok.free
    simp only at hk hi hf
    simp only [Cap.v]
    simp only [h, if_true]
    have q1 : IntKind.u64.wrap (k : Int) = k := u64_id (by omega) (by omega)
    have q2 : IntKind.u64.wrap (r : Int) = r := u64_id (by omega) (by omega)
    have q3 : IntKind.u64.wrap (i : Int) = i := u64_id (by omega) (by omega)
    have q4 : IntKind.u64.wrap (v : Int) = v := u64_id (by omega) (by omega)
    have q5 : IntKind.u64.wrap (b : Int) = b := u64_id (by omega) (by omega)
    have w1 := fun s => rf_With (w := 0) (a := 0) (b := 4) (v := k) (by decide) (by decide) (by decide) h1 s
    have w2 := fun s => rf_With (w := 0 + k * 2 ^ 0) (a := 4) (b := 4) (v := r) (by decide) (by decide) (by omega) h2 s
    have w3 := fun s => rf_With (w := 0 + k * 2 ^ 0 + r * 2 ^ 4) (a := 8) (b := 16) (v := i) (by decide) (by decide) (by omega) h3 s
    have w4 := fun s => rf_With (w := 0 + k * 2 ^ 0 + r * 2 ^ 4 + i * 2 ^ 8) (a := 24) (b := 24) (v := v) (by decide) (by decide) (by omega) h4 s
    have w5 := fun s => rf_With (w := 0 + k * 2 ^ 0 + r * 2 ^ 4 + i * 2 ^ 8 + v * 2 ^ 24) (a := 48) (b := 16) (v := b) (by decide) (by decide) (by omega) h5 s
    have e : ((0 + k * 2 ^ 0 + r * 2 ^ 4 + i * 2 ^ 8 + v * 2 ^ 24 + b * 2 ^ 48 : Nat) : Int) = Cap.word ⟨k, r, i, v, b⟩ := by simp only [Cap.word]; omega
    rw [← e]
    have c1 : ¬ (k : Int) < 1 := by omega
    have c2 : ¬ 6 < (k : Int) := by omega
    have c3 : ¬ (r : Int) < 0 := by omega
    have c4 : ¬ 15 < (r : Int) := by omega
    have c5 : ¬ (i : Int) < 0 := by omega
    have c6 : ¬ 49 ≤ (i : Int) := by omega
    have c7 : ¬ (v : Int) < 0 := by omega
    have c8 : ¬ 16777215 < (v : Int) := by omega
    have c9 : ¬ (b : Int) < 0 := by omega
    have c10 : ¬ 65535 < (b : Int) := by omega
    generalize 0 + k * 2 ^ 0 + r * 2 ^ 4 + i * 2 ^ 8 + v * 2 ^ 24 + b * 2 ^ 48 = x5 at *
    generalize 0 + k * 2 ^ 0 + r * 2 ^ 4 + i * 2 ^ 8 + v * 2 ^ 24 = x4 at *
    generalize 0 + k * 2 ^ 0 + r * 2 ^ 4 + i * 2 ^ 8 = x3 at *
    generalize 0 + k * 2 ^ 0 + r * 2 ^ 4 = x2 at *
    generalize 0 + k * 2 ^ 0 = x1 at *
    simp only [Int.natCast_zero, show ((4 : Nat) : Int) = 4 by rfl, show ((8 : Nat) : Int) = 8 by rfl, show ((16 : Nat) : Int) = 16 by rfl, show ((24 : Nat) : Int) = 24 by rfl, show ((48 : Nat) : Int) = 48 by rfl] at w1 w2 w3 w4 w5
    by_cases g : (k : Int) = 5
    · obtain ⟨g1, g2⟩ := hf (.inl g)
      obtain rfl : k = 5 := by omega
      obtain rfl : i = 0 := by omega
      obtain rfl : v = 0 := by omega
      simp only [show ((5 : Nat) : Int) = 5 by rfl, Int.natCast_zero] at w1 w2 w3 w4 w5 q1 q3 q4 ⊢
      simp only [go_sem, c3, c4, c9, c10, q1, q2, q3, q5, w1, w2, w3, w4, w5]
    · by_cases g' : (k : Int) = 6
      · obtain ⟨g1, g2⟩ := hf (.inr g')
        obtain rfl : k = 6 := by omega
        obtain rfl : i = 0 := by omega
        obtain rfl : v = 0 := by omega
        simp only [show ((6 : Nat) : Int) = 6 by rfl, Int.natCast_zero] at w1 w2 w3 w4 w5 q1 q3 q4 ⊢
        simp only [go_sem, c3, c4, c9, c10, q1, q2, q3, q5, w1, w2, w3, w4, w5]
      · simp only [go_sem, c1, c2, c3, c4, c5, c6, c7, c8, c9, c10, g, g', q1, q2, q3, q4, q5, w1, w2, w3, w4, w5]
  · have h' : c.may = false := by simpa using h
    have hn : ¬ c.Ok := fun ho => h ((may_iff c).2 ho)
    obtain ⟨k, r, i, v, b⟩ := c
    simp only [Cap.v, h']
    by_cases c1 : k < 1
    · simp [go_sem, c1]
    by_cases c2 : 6 < k
    · simp [go_sem, c1, c2]
    by_cases c3 : r < 0
    · simp [go_sem, c1, c2, c3]
    by_cases c4 : 15 < r
    · simp [go_sem, c1, c2, c3, c4]
    by_cases c5 : i < 0
    · simp [go_sem, c1, c2, c3, c4, c5]
    by_cases c6 : 49 ≤ i
    · simp [go_sem, c1, c2, c3, c4, c5, c6]
    by_cases c7 : v < 0
    · simp [go_sem, c1, c2, c3, c4, c5, c6, c7]
    by_cases c8 : 16777215 < v
    · simp [go_sem, c1, c2, c3, c4, c5, c6, c7, c8]
    by_cases c9 : b < 0
    · simp [go_sem, c1, c2, c3, c4, c5, c6, c7, c8, c9]
    by_cases c10 : 65535 < b
    · simp [go_sem, c1, c2, c3, c4, c5, c6, c7, c8, c9, c10]
    have g : k = 5 ∨ k = 6 := by
      by_cases g : k = 5 ∨ k = 6
      · exact g
      · exact absurd ⟨by simp only; omega, by simp only; omega, by simp only; omega, by simp only; omega, by simp only; omega, fun hg => absurd hg g⟩ hn
    have g2 : ¬ i = 0 ∨ ¬ v = 0 := by
      by_cases g2 : i = 0 ∧ v = 0
      · exact absurd ⟨by simp only; omega, by simp only; omega, by simp only; omega, by simp only; omega, by simp only; omega, fun _ => g2⟩ hn
      · omega
    by_cases g3 : k = 5
    · by_cases g4 : i = 0
      · have g5 : ¬ v = 0 := by omega
        simp [go_sem, c3, c4, c7, c8, c9, c10, g3, g4, g5]
      · simp [go_sem, c3, c4, c5, c6, c7, c8, c9, c10, g3, g4]
    · have g3' : k = 6 := by omega
      by_cases g4 : i = 0
      · have g5 : ¬ v = 0 := by omega
        simp [go_sem, c3, c4, c7, c8, c9, c10, g3', g4, g5]
      · simp [go_sem, c3, c4, c5, c6, c7, c8, c9, c10, g3', g4]
theorem word_capOf {w : Int} : (capOf w).word = w := by
  simp only [Cap.word, capOf]
  omega
theorem rf_ref07_Of (w : Int) (h0 : 0 ≤ w) (h1 : w ≤ 18446744073709551615) (s : St) : rf D f_steadfastref07_Of [.int .u64 w] s = some (.tup [(capsOf w).v, .bool (capOf w).may], s) := by
  obtain ⟨n, rfl⟩ : ∃ n : Nat, w = n := ⟨w.toNat, by omega⟩
  have hw := fun s => rf_ref07_Word (capOf n) s
  have hwc := word_capOf (w := (n : Int))
  have f1 := fun s => rf_Field1 (w := n) (a := 0) (b := 4) (by decide) (by decide) (by omega) s
  have f2 := fun s => rf_Field1 (w := n) (a := 4) (b := 4) (by decide) (by decide) (by omega) s
  have f3 := fun s => rf_Field1 (w := n) (a := 8) (b := 16) (by decide) (by decide) (by omega) s
  have f4 := fun s => rf_Field1 (w := n) (a := 24) (b := 24) (by decide) (by decide) (by omega) s
  have f5 := fun s => rf_Field1 (w := n) (a := 48) (b := 16) (by decide) (by decide) (by omega) s
  have q1 : IntKind.i64.wrap ((n / 2 ^ 0 % 2 ^ 4 : Nat) : Int) = (n : Int) % 16 := by rw [i64_id (by omega) (by omega)]; omega
  have q2 : IntKind.i64.wrap ((n / 2 ^ 4 % 2 ^ 4 : Nat) : Int) = (n : Int) / 16 % 16 := by rw [i64_id (by omega) (by omega)]; omega
  have q3 : IntKind.i64.wrap ((n / 2 ^ 8 % 2 ^ 16 : Nat) : Int) = (n : Int) / 256 % 65536 := by rw [i64_id (by omega) (by omega)]; omega
  have q4 : IntKind.i64.wrap ((n / 2 ^ 24 % 2 ^ 24 : Nat) : Int) = (n : Int) / 16777216 % 16777216 := by rw [i64_id (by omega) (by omega)]; omega
  have q5 : IntKind.i64.wrap ((n / 2 ^ 48 % 2 ^ 16 : Nat) : Int) = (n : Int) / 281474976710656 := by rw [i64_id (by omega) (by omega)]; omega
  simp only [Int.natCast_zero, show ((4 : Nat) : Int) = 4 by rfl, show ((8 : Nat) : Int) = 8 by rfl, show ((16 : Nat) : Int) = 16 by rfl, show ((24 : Nat) : Int) = 24 by rfl, show ((48 : Nat) : Int) = 48 by rfl] at f1 f2 f3 f4 f5
  generalize n / 2 ^ 0 % 2 ^ 4 = y1 at *
  generalize n / 2 ^ 4 % 2 ^ 4 = y2 at *
  generalize n / 2 ^ 8 % 2 ^ 16 = y3 at *
  generalize n / 2 ^ 24 % 2 ^ 24 = y4 at *
  generalize n / 2 ^ 48 % 2 ^ 16 = y5 at *
  unfold capsOf
  simp only [capWord, capE] at hw
  by_cases hb : (capOf n).may = true
  · simp only [hb, if_true, hwc] at hw ⊢
    simp only [capOf, Cap.v] at hw ⊢
    generalize (n : Int) % 16 = z1 at *
    generalize (n : Int) / 16 % 16 = z2 at *
    generalize (n : Int) / 256 % 65536 = z3 at *
    generalize (n : Int) / 16777216 % 16777216 = z4 at *
    generalize (n : Int) / 281474976710656 = z5 at *
    rw [rf_o D_steadfastref07_Of rfl]
    simp only [go_sem, f1, f2, f3, f4, f5, q1, q2, q3, q4, q5, hw]
  · have hb' : (capOf n).may = false := by simpa using hb
    simp only [hb'] at hw ⊢
    simp only [capOf, Cap.v, noCap] at hw ⊢
    generalize (n : Int) % 16 = z1 at *
    generalize (n : Int) / 16 % 16 = z2 at *
    generalize (n : Int) / 256 % 65536 = z3 at *
    generalize (n : Int) / 16777216 % 16777216 = z4 at *
    generalize (n : Int) / 281474976710656 = z5 at *
    simp only [Bool.false_eq_true, if_false] at hw ⊢
    rw [rf_o D_steadfastref07_Of rfl]
    simp only [go_sem, f1, f2, f3, f4, f5, q1, q2, q3, q4, q5, hw]
end Go.Proofs.YtpbpgbedkmbfkaaDoor
namespace Go.Proofs.YtpbpgbedkmbfkaaDoor
open Go.Ab

def dimC (w r b : Int) : Cap := ⟨(capsOf w).kind, iand .i64 (capsOf w).rights r, (capsOf w).id, (capsOf w).ver, if (capsOf w).badge = 0 then b else (capsOf w).badge⟩
def dimE (w r b : Int) : Int := if (capOf w).may = false then 31 else if within r 0 15 = false ∨ within b 0 65535 = false then 1 else capE (dimC w r b)
def dimW (w r b : Int) : Int := if (capOf w).may = false then 0 else if within r 0 15 = false ∨ within b 0 65535 = false then 0 else capWord (dimC w r b)
end Go.Proofs.YtpbpgbedkmbfkaaDoor
namespace Go.Proofs.YtpbpgbedkmbfkaaDoor
open Go.Ab

def mayE (c k r : Int) : Int := if (capOf c).may = false then 31 else if (capsOf c).kind ≠ k then 31 else if iandnot .i64 r (capsOf c).rights = 0 then 0 else 32
theorem rf_caps_May (c k r : Int) (h0 : 0 ≤ c) (h1 : c ≤ 18446744073709551615) (s : St) :
    rf D f_caps_May [.int .u64 c, .int .i64 k, .int .i64 r] s = some (.int .i64 (mayE c k r), s) := by
  have hc := fun s => rf_caps_Of c h0 h1 s
  unfold mayE
  generalize (capOf c).may = m at *
  generalize capsOf c = x at *
  simp only [Cap.v] at hc
  rw [rf_o D_caps_May rfl]
  cases m
  · simp only [go_sem, hc]
  · by_cases g1 : x.kind = k
    · by_cases g2 : iandnot .i64 r x.rights = 0
      · simp only [go_sem, hc, g1, g2, ne_eq, not_true_eq_false, if_false, if_true]
      · simp only [go_sem, hc, g1, g2, ne_eq, not_true_eq_false, if_false, if_true]
    · simp only [go_sem, hc, g1, ne_eq, not_false_eq_true, if_true]
theorem rf_ref07_May (c k r : Int) (h0 : 0 ≤ c) (h1 : c ≤ 18446744073709551615) (hr0 : -9223372036854775808 ≤ r) (hr1 : r ≤ 9223372036854775807) (s : St) :
    rf D f_steadfastref07_May [.int .u64 c, .int .i64 k, .int .i64 r] s = some (.int .i64 (mayE c k r), s) := by
  have hc := fun s => rf_ref07_Of c h0 h1 s
  unfold mayE
  simp only [less_i64 hr0 hr1]
  generalize (capOf c).may = m at *
  generalize capsOf c = x at *
  simp only [Cap.v] at hc
  rw [rf_o D_steadfastref07_May rfl]
  cases m
  · simp only [go_sem, hc]
  · by_cases g1 : x.kind = k
    · by_cases g2 : iand .i64 x.rights r = r
      · simp only [go_sem, hc, g1, g2, ne_eq, not_true_eq_false, if_false, if_true]
      · simp only [go_sem, hc, g1, g2, ne_eq, not_true_eq_false, if_false, if_true]
    · simp only [go_sem, hc, g1, ne_eq, not_false_eq_true, if_true]
end Go.Proofs.YtpbpgbedkmbfkaaDoor
namespace Go.Proofs.YtpbpgbedkmbfkaaDoor
open Go.Ab

def lnV (l : List Int) : V := .agg 24 (l.map (.int .u64))
def zl : List Int := List.replicate 8 0
def zfl : V := .agg 50 (List.replicate 8 (.int .i64 0))
def nlV (now sure since fl : V) : V := .agg 55 [now, sure, since, fl]
def zln : V := .agg 24 (List.replicate 8 (.int .u64 0))
theorem zl_v : lnV zl = zln := rfl
def memV (k n : Nat) (off burns : Bool) (left steps : Int) : V := .agg 59 [.sl (.hp k) [] 0 n (some n) 55, .bool off, .bool burns, .int .i64 left, .int .i64 steps]
theorem rf_nvm_New {n : Nat} (h0 : 64 ≤ n) (h1 : n ≤ 1024) (s : St) : rf D f_nvm_New [.int .i64 n] s =
    some (.tup [.ptr (.hp (s.hp.length + 1)) [] 59, .int .i64 0], ⟨s.loc, s.hp ++ [.rw (.agg 57 (tab n fun _ => nlV zln zln .nils zfl)), .rw (memV s.hp.length n false false 0 0)]⟩) := by
  have c1 : ¬ (n : Int) < 64 := by omega
  have c2 : ¬ 1024 < (n : Int) := by omega
  have c3 : (0 : Int) ≤ n := by omega
  have c4 : ¬ (n : Int) < 0 := by omega
  have c5 : (n : Int) ≤ 4611686018427387904 := by omega
  have hm : (n : Int) ≤ (most : Nat) := by unfold most; omega
  rw [rf_o D_nvm_New rfl, ← tab_rep]
  simp only [nlV, zln, zfl, memV]
  simp only [go_sem, c1, c2, c3, hm, Int.le_refl, Int.toNat_natCast]
theorem rf_nvm_Of {n a : Nat} {ls : Nat → List Int} (h0 : 64 ≤ n) (h1 : n ≤ 1024) (s : St) (hs : s.loc[a]? = some (.rw (.agg 58 (tab n fun i => lnV (ls i))))) : rf D f_nvm_Of [.sl (.loc a) [] 0 n (some n) 24] s =
    some (.tup [.ptr (.hp (s.hp.length + 1)) [] 59, .int .i64 0], ⟨s.loc, s.hp ++ [.rw (.agg 57 (tab n fun i => nlV (lnV (ls i)) (lnV (ls i)) .nils zfl)), .rw (memV s.hp.length n false false 0 0)]⟩) := by
  have hal := (List.getElem?_eq_some_iff.1 hs).1
  have hnew := rf_nvm_New h0 h1
  have loop : rc D s.loc.length (.loop [4, 17, 18, 19] b_nvm_Of_0) [(4, .ptr (.hp (s.hp.length + 1)) [] 59), (17, .sl (.loc a) [] 0 n (some n) 24), (18, .int .i64 n), (19, .int .i64 0)]
      ⟨s.loc, s.hp ++ [.rw (.agg 57 (tab n fun _ => nlV zln zln .nils zfl)), .rw (memV s.hp.length n false false 0 0)]⟩ =
      some (.exit 0, [(4, .ptr (.hp (s.hp.length + 1)) [] 59), (17, .sl (.loc a) [] 0 n (some n) 24), (18, .int .i64 n), (19, .int .i64 n), (20, .bool false)],
        ⟨s.loc, s.hp ++ [.rw (.agg 57 (tab n fun i => nlV (lnV (ls i)) (lnV (ls i)) .nils zfl)), .rw (memV s.hp.length n false false 0 0)]⟩) := by
    refine loop_runs (fun x : Nat => [(4, .ptr (.hp (s.hp.length + 1)) [] 59), (17, .sl (.loc a) [] 0 n (some n) 24), (18, .int .i64 n), (19, .int .i64 x)])
      (fun x => ⟨s.loc, s.hp ++ [.rw (.agg 57 (tab n fun i => if i < x then nlV (lnV (ls i)) (lnV (ls i)) .nils zfl else nlV zln zln .nils zfl)), .rw (memV s.hp.length n false false 0 0)]⟩) (fun _ => _) (fun x => n - x) (fun x => x ≤ n) 0 ?_ (by omega) rfl (by simp)
    intro i hi
    by_cases c1 : i < n
    · left
      have d1 : (i : Int) < n := by omega
      have d2 : (0 : Int) ≤ i := by omega
      have d4 : IntKind.i64.wrap ((i : Int) + 1) = (i : Int) + 1 := i64_id (by omega) (by omega)
      have g1 := tab_get (f := fun i => lnV (ls i)) c1
      have g2 := tab_get (f := fun j => if j < i then nlV (lnV (ls j)) (lnV (ls j)) .nils zfl else nlV zln zln .nils zfl) c1
      simp only [Nat.lt_irrefl, if_false] at g2
      have hset : tab n (upd (fun j => if j < i then nlV (lnV (ls j)) (lnV (ls j)) .nils zfl else nlV zln zln .nils zfl) i (nlV (lnV (ls i)) (lnV (ls i)) .nils zfl)) = tab n fun j => if j < i + 1 then nlV (lnV (ls j)) (lnV (ls j)) .nils zfl else nlV zln zln .nils zfl := by
        apply tab_congr
        intro j _
        by_cases e : j = i
        · subst e; simp [upd]
        · rw [upd_ne e]
          by_cases h2 : j < i
          · rw [if_pos h2, if_pos (by omega)]
          · rw [if_neg h2, if_neg (by omega)]
      refine ⟨i + 1, by omega, by omega, rfl, ?_⟩
      rw [← hset, ← tab_set]
      have hT : ∀ v, ((tab n fun j => if j < i then nlV (lnV (ls j)) (lnV (ls j)) .nils zfl else nlV zln zln .nils zfl).set i v)[i]? = some v := fun v => List.getElem?_set_self (by rw [tab_len]; exact c1)
      generalize tab n (fun j => if j < i then nlV (lnV (ls j)) (lnV (ls j)) .nils zfl else nlV zln zln .nils zfl) = T at *
      generalize tab n (fun i => lnV (ls i)) = T2 at *
      simp only [lnV, nlV, zln, zfl, memV] at *
      have q1 := sad_all (a := .loc a) (e := 24) c1
      have q2 := sad_all (a := .hp s.hp.length) (e := 55) c1
      simp only [go_sem, b_nvm_Of_0, d1, d4, q1, q2, hs, g1, g2, hT, hal, List.set_set]
      rfl
    · right
      have : i = n := by omega
      subst this
      have d1 : ¬ (i : Int) < i := by omega
      rw [show (tab i fun j => if j < i then nlV (lnV (ls j)) (lnV (ls j)) .nils zfl else nlV zln zln .nils zfl) = tab i fun j => nlV (lnV (ls j)) (lnV (ls j)) .nils zfl from tab_congr fun j hj => if_pos hj]
      simp only [go_sem, b_nvm_Of_0, d1]
  rw [rf_o D_nvm_Of rfl]
  simp only [go_sem, hnew, loop]
theorem rf_nvm_Lines {n k m : Nat} {off burns : Bool} {left steps : Int} (s : St) (hs : s.hp[m]? = some (.rw (memV k n off burns left steps))) : rf D f_nvm_Memory_Lines [.ptr (.hp m) [] 59] s = some (.int .i64 n, s) := by
  rw [rf_o D_nvm_Memory_Lines rfl]
  simp only [memV] at hs
  simp only [go_sem, hs]
theorem rf_nvm_at {n k m : Nat} {off burns : Bool} {left steps : Int} (s : St) (hs : s.hp[m]? = some (.rw (memV k n off burns left steps))) (i : Int) : rf D f_nvm_Memory_at [.ptr (.hp m) [] 59, .int .i64 i] s =
    some (if 0 ≤ i ∧ i < n then .ptr (.hp k) [i.toNat] 55 else .nilp, s) := by
  simp only [memV] at hs
  rw [rf_o D_nvm_Memory_at rfl]
  by_cases h1 : i < 0
  · rw [if_neg (by omega)]
    simp only [go_sem, h1]
  · by_cases h2 : (n : Int) ≤ i
    · rw [if_neg (by omega)]
      simp only [go_sem, h1, h2, hs]
    · obtain ⟨j, rfl⟩ : ∃ j : Nat, i = j := ⟨i.toNat, by omega⟩
      rw [if_pos (by omega)]
      have q := sad_all (a := .hp k) (e := 55) (show j < n by omega)
      simp only [go_sem, h1, h2, hs, q, Int.toNat_natCast]
def rmV (k n k2 : Nat) (off : Bool) (left count : Int) : V := .agg 33 [.sl (.hp k) [] 0 n none 24, .sl (.hp k2) [] 0 n (some n) 1, .bool off, .int .i64 left, .int .i64 count]
theorem rf_ref03_Of {n a : Nat} {ls : Nat → List Int} (h0 : 64 ≤ n) (h1 : n ≤ 1024) (s : St) (hs : s.loc[a]? = some (.rw (.agg 58 (tab n fun i => lnV (ls i))))) : rf D f_steadfastref03_Of [.sl (.loc a) [] 0 n (some n) 24] s =
    some (.tup [.ptr (.hp (s.hp.length + 3)) [] 33, .int .i64 0], ⟨s.loc, s.hp ++ [.rw (.agg 58 []), .rw (.agg 58 (tab n fun i => lnV (ls i))), .rw (.agg 53 (tab n fun _ => .nils)),
      .rw (.agg 33 [.sl (.hp (s.hp.length + 1)) [] 0 n none 24, .sl (.hp (s.hp.length + 2)) [] 0 n (some n) 1, .bool false, .int .i64 (-1), .int .i64 0])]⟩) := by
  have c1 : ¬ (n : Int) < 64 := by omega
  have c2 : ¬ 1024 < (n : Int) := by omega
  have c3 : (0 : Int) ≤ n := by omega
  have hm : (n : Int) ≤ (most : Nat) := by unfold most; omega
  have hl := tab_len n fun i => lnV (ls i)
  rw [rf_o D_steadfastref03_Of rfl, ← tab_rep]
  have happ := app_full (base := s.loc.length) (r := 58) (e := 24) (h := true) (s := ⟨s.loc, s.hp ++ [.rw (.agg 58 [])]⟩) (a := .hp s.hp.length) (p := []) (o := 0) (n := 0) (c := 0) (y := .sl (.loc a) [] 0 n (some n) 24) (old := []) (new := tab n fun i => lnV (ls i))
    (.inr ⟨_, _, _, _, _, rfl⟩) (by simp [St.elems]) (elems_whole (t := 58) (by simp only [go_sem, hs]) hl.symm) (by intro h; rw [h] at hl; simp at hl; omega) (by simp only [List.length_nil, hl]; omega) (by simp only [List.length_nil, hl]; unfold most; omega) rfl
  generalize tab n (fun i => lnV (ls i)) = T at *
  simp only [List.nil_append, List.length_nil, Nat.zero_add, hl] at happ
  simp only [go_sem] at happ
  simp only [go_sem, c1, c2, c3, hm, happ, List.replicate_zero, Int.le_refl, Int.toNat_natCast]
end Go.Proofs.YtpbpgbedkmbfkaaDoor
namespace Go.Proofs.YtpbpgbedkmbfkaaDoor
open Go.Ab
def w16 (l : List Nat) : List Nat := l ++ List.replicate (16 - l.length) 0
abbrev cN (n : Nat) : V := V.int .u64 (n : Int)
def frV (f l : Int) (wf wl : List Nat) : V := .agg 80 [.int .i64 f, .int .i64 l, .agg 78 (wf.map cN), .agg 78 (wl.map cN)]
def bit (w : List Nat) (i : Nat) : Bool := (w.getD (i / 64) 0).testBit (i % 64)
def flip (w : List Nat) (i : Nat) : List Nat := w.set (i / 64) ((w.getD (i / 64) 0) ^^^ 2 ^ (i % 64))
structure OkS (w : List Nat) : Prop where
  len : w.length = 16
  lt : ∀ x ∈ w, x < 18446744073709551616
theorem two_lt {r : Nat} (h : r < 64) : 2 ^ r < 18446744073709551616 := Nat.pow_lt_pow_right (show 1 < 2 by decide) h
theorem OkS.get {w : List Nat} (h : OkS w) {q : Nat} (hq : q < 16) : w.getD q 0 < 18446744073709551616 := h.lt _ (getD_mem (by rw [h.len]; exact hq) 0)
theorem OkS.flip {w : List Nat} (h : OkS w) {i : Nat} (hi : i < 1024) : OkS (flip w i) := by
  refine ⟨by simp [YtpbpgbedkmbfkaaDoor.flip, h.len], fun x hx => ?_⟩
  rcases List.mem_or_eq_of_mem_set hx with hx | rfl
  · exact h.lt x hx
  · exact Nat.xor_lt_two_pow (n := 64) (h.get (by omega)) (two_lt (by omega))
theorem bit_flip {w : List Nat} (h : OkS w) {i : Nat} (hi : i < 1024) (j : Nat) : bit (flip w i) j = ((bit w j) ^^ decide (i = j)) := by
  unfold bit YtpbpgbedkmbfkaaDoor.flip
  have hlen := h.len
  by_cases hq : i / 64 = j / 64
  · have e : (w.set (i / 64) (w.getD (i / 64) 0 ^^^ 2 ^ (i % 64))).getD (j / 64) 0 = w.getD (j / 64) 0 ^^^ 2 ^ (i % 64) := by
      rw [hq, List.getD_eq_getElem?_getD, List.getElem?_set_self (by omega)]; rfl
    rw [e, Nat.testBit_xor, Nat.testBit_two_pow]
    congr 1
    apply decide_eq_decide.2
    omega
  · have e : (w.set (i / 64) (w.getD (i / 64) 0 ^^^ 2 ^ (i % 64))).getD (j / 64) 0 = w.getD (j / 64) 0 := by
      rw [List.getD_eq_getElem?_getD, List.getElem?_set_ne hq, List.getD_eq_getElem?_getD]
    have hij : ¬ i = j := fun h => hq (by rw [h])
    rw [e]
    simp [hij]
theorem quo64 {i : Nat} (hi : i < 1024) : IntKind.i64.wrap ((i : Int).tdiv 64) = ((i / 64 : Nat) : Int) := by
  rw [show (64 : Int) = ((64 : Nat) : Int) by rfl, ← Int.ofNat_tdiv]
  exact i64_id (by omega) (by omega)
theorem rem64 {i : Nat} : (i : Int).tmod 64 = ((i % 64 : Nat) : Int) := by
  rw [show (64 : Int) = ((64 : Nat) : Int) by rfl, ← Int.ofNat_tmod]
theorem shr_nat {w r : Nat} (hr : r ≤ 64) : ishr .u64 (w : Int) (r : Int) = ((w / 2 ^ r : Nat) : Int) := by
  rw [ishr_two (w : Int) r hr, Int.natCast_ediv, Int.natCast_pow]; rfl
theorem and_one {x : Nat} (hx : x < 18446744073709551616) : iand .u64 (x : Int) 1 = ((x % 2 : Nat) : Int) := by
  have := iand_mask (x : Int) 1 (by omega) (by omega) (by decide)
  rw [show (1 : Int) = 2 ^ 1 - 1 by decide, this]; simp
theorem shl_one {r : Nat} (hr : r < 64) : ishl .u64 1 (r : Int) = ((2 ^ r : Nat) : Int) := by
  rw [ishl_two 1 r (by omega)]
  have h := two_lt hr
  rw [Int.one_mul, show (2 : Int) ^ r = ((2 ^ r : Nat) : Int) by rw [Int.natCast_pow]; rfl]
  generalize 2 ^ r = p at *
  omega
theorem rf_has2 (s : St) (a : Nat) (F L X : V) (w : List Nat) (hw : OkS w) (hb : s.hp[a]? = some (.rw (.agg 80 [F, L, .agg 78 (w.map cN), X]))) (i : Nat) (hi : i < 1024) :
    rf D f_frames_set_has [.ptr (.hp a) [2] 78, .int .i64 i] s = some (.bool (bit w i), s) := by
  have e1 := quo64 hi
  have e2 := rem64 (i := i)
  have hq : i / 64 < 16 := by omega
  have hr : i % 64 < 64 := by omega
  have hg := get_map (f := cN) (l := w) (i := i / 64) (by rw [hw.len]; exact hq) 0
  have hlt := hw.get hq
  unfold bit
  generalize i / 64 = q at *
  generalize i % 64 = r at *
  generalize w.getD q 0 = x at *
  have e3 := shr_nat (w := x) (r := r) (by omega)
  have hx2 : x / 2 ^ r < 18446744073709551616 := Nat.lt_of_le_of_lt (Nat.div_le_self _ _) hlt
  have e4 := and_one hx2
  rw [Nat.testBit_eq_decide_div_mod_eq]
  generalize x / 2 ^ r = y at *
  generalize y % 2 = z at *
  have d1 : (q : Int) < 16 := by omega
  have d2 : (0 : Int) ≤ q := by omega
  have d3 : ¬ (r : Int) < 0 := by omega
  rw [rf_o D_frames_set_has rfl]
  simp only [go_sem, e1, e2, d1, d2]
  rw [Int.toNat_natCast]
  simp only [go_sem, hb, hg, e3, e4, d3]
  have e5 : decide ((z : Int) = 1) = decide (z = 1) := decide_eq_decide.2 (by omega)
  rw [e5]
theorem rf_has3 (s : St) (a : Nat) (F L X : V) (w : List Nat) (hw : OkS w) (hb : s.hp[a]? = some (.rw (.agg 80 [F, L, X, .agg 78 (w.map cN)]))) (i : Nat) (hi : i < 1024) :
    rf D f_frames_set_has [.ptr (.hp a) [3] 78, .int .i64 i] s = some (.bool (bit w i), s) := by
  have e1 := quo64 hi
  have e2 := rem64 (i := i)
  have hq : i / 64 < 16 := by omega
  have hr : i % 64 < 64 := by omega
  have hg := get_map (f := cN) (l := w) (i := i / 64) (by rw [hw.len]; exact hq) 0
  have hlt := hw.get hq
  unfold bit
  generalize i / 64 = q at *
  generalize i % 64 = r at *
  generalize w.getD q 0 = x at *
  have e3 := shr_nat (w := x) (r := r) (by omega)
  have hx2 : x / 2 ^ r < 18446744073709551616 := Nat.lt_of_le_of_lt (Nat.div_le_self _ _) hlt
  have e4 := and_one hx2
  rw [Nat.testBit_eq_decide_div_mod_eq]
  generalize x / 2 ^ r = y at *
  generalize y % 2 = z at *
  have d1 : (q : Int) < 16 := by omega
  have d2 : (0 : Int) ≤ q := by omega
  have d3 : ¬ (r : Int) < 0 := by omega
  rw [rf_o D_frames_set_has rfl]
  simp only [go_sem, e1, e2, d1, d2]
  rw [Int.toNat_natCast]
  simp only [go_sem, hb, hg, e3, e4, d3]
  have e5 : decide ((z : Int) = 1) = decide (z = 1) := decide_eq_decide.2 (by omega)
  rw [e5]
theorem rf_turn2 (s : St) (a : Nat) (F L X : V) (w : List Nat) (hw : OkS w) (hb : s.hp[a]? = some (.rw (.agg 80 [F, L, .agg 78 (w.map cN), X]))) (i : Nat) (hi : i < 1024) :
    rf D f_frames_set_turn [.ptr (.hp a) [2] 78, .int .i64 i] s = some (.tup [], ⟨s.loc, s.hp.set a (.rw (.agg 80 [F, L, .agg 78 ((flip w i).map cN), X]))⟩) := by
  have e1 := quo64 hi
  have e2 := rem64 (i := i)
  have hq : i / 64 < 16 := by omega
  have hr : i % 64 < 64 := by omega
  have hg := get_map (f := cN) (l := w) (i := i / 64) (by rw [hw.len]; exact hq) 0
  have hlt := hw.get hq
  unfold YtpbpgbedkmbfkaaDoor.flip
  generalize i / 64 = q at *
  generalize i % 64 = r at *
  generalize w.getD q 0 = x at *
  have e3 := shl_one hr
  have e4 := ixor_nat hlt (two_lt hr)
  rw [List.map_set]
  generalize x ^^^ 2 ^ r = y at *
  generalize 2 ^ r = z at *
  have d1 : (q : Int) < 16 := by omega
  have d2 : (0 : Int) ≤ q := by omega
  have d3 : ¬ (r : Int) < 0 := by omega
  rw [rf_o D_frames_set_turn rfl]
  simp only [go_sem, e1, e2, d1, d2, d3]
  rw [Int.toNat_natCast]
  simp only [go_sem, hb, hg, e3, e4]
theorem ok_w16 {l : List Nat} (hl : l.length ≤ 16) (h : ∀ x ∈ l, x < 18446744073709551616) : OkS (w16 l) := by
  refine ⟨by simp [w16]; omega, fun x hx => ?_⟩
  rcases List.mem_append.1 hx with hx | hx
  · exact h x hx
  · rw [List.eq_of_mem_replicate hx]; decide
theorem bit_nil (i : Nat) : bit (w16 []) i = false := by
  unfold bit w16
  simp only [List.nil_append, List.length_nil, Nat.sub_zero, List.getD_eq_getElem?_getD, List.getElem?_replicate]
  split <;> exact Nat.zero_testBit _
theorem ok_nil : OkS (w16 []) := ok_w16 (by decide) (by simp)
theorem w16_nil : (w16 []).map cN = List.replicate 16 (V.int .u64 0) := rfl
def stOf (f l : Int) (wf wl : List Nat) (line : Int) : Int :=
  if line < f ∨ l ≤ line then -1 else if bit wf line.toNat then 0 else if bit wl line.toNat then 2 else 1
/-- A block of frames. -/
structure Fr (s : St) (a : Nat) (f l : Int) (wf wl : List Nat) : Prop where
  blk : s.hp[a]? = some (.rw (frV f l wf wl))
  f0 : 0 ≤ f
  l1 : l ≤ 1024
  okf : OkS wf
  okl : OkS wl
theorem rf_State {s : St} {a : Nat} {f l : Int} {wf wl : List Nat} (h : Fr s a f l wf wl) (line : Int) :
    rf D f_frames_Frames_State [.ptr (.hp a) [] 80, .int .i64 line] s = some (.int .i64 (stOf f l wf wl line), s) := by
  have hb := h.blk
  have h0 := h.f0
  have h1 := h.l1
  unfold stOf
  simp only [frV] at hb
  by_cases c1 : line < f
  · rw [if_pos (.inl c1), rf_o D_frames_Frames_State rfl]
    simp only [go_sem, hb, c1]
  · by_cases c2 : l ≤ line
    · rw [if_pos (.inr c2), rf_o D_frames_Frames_State rfl]
      simp only [go_sem, hb, c1, c2]
    · rw [if_neg (by omega)]
      obtain ⟨i, rfl⟩ : ∃ i : Nat, line = i := ⟨line.toNat, by omega⟩
      have e1 := rf_has2 s a _ _ _ wf h.okf hb i (by omega)
      have e2 := rf_has3 s a _ _ _ wl h.okl hb i (by omega)
      rw [Int.toNat_natCast, rf_o D_frames_Frames_State rfl]
      simp only [go_sem, hb, c1, c2, e1]
      cases bit wf i
      · simp only [go_sem, e2]
      · simp only [go_sem]
def inE (st want : Int) : Int := if st = -1 then 1 else if st = want then 0 else 3
theorem rf_in {s : St} {a : Nat} {f l : Int} {wf wl : List Nat} (h : Fr s a f l wf wl) (line want : Int) :
    rf D f_frames_Frames_in [.ptr (.hp a) [] 80, .int .i64 line, .int .i64 want] s = some (.int .i64 (inE (stOf f l wf wl line) want), s) := by
  have e := rf_State h line
  unfold inE
  generalize stOf f l wf wl line = t at *
  rw [rf_o D_frames_Frames_in rfl]
  by_cases c1 : t = -1
  · simp only [go_sem, e, c1]
  · by_cases c2 : t = want
    · subst c2
      simp only [go_sem, e, c1]
    · simp only [go_sem, e, c1, c2]
theorem line_of {f l : Int} {wf wl : List Nat} {line : Int} (h : stOf f l wf wl line ≠ -1) : f ≤ line ∧ line < l := by
  unfold stOf at h
  split at h
  · exact absurd rfl h
  · omega
theorem rf_Take_ok {s : St} {a : Nat} {f l : Int} {wf wl : List Nat} (h : Fr s a f l wf wl) (line : Int) (ht : stOf f l wf wl line = 0) :
    rf D f_frames_Frames_Take [.ptr (.hp a) [] 80, .int .i64 line] s = some (.int .i64 0, ⟨s.loc, s.hp.set a (.rw (frV f l (flip wf line.toNat) wl))⟩) := by
  have e := rf_in h line 0
  rw [ht] at e
  have hl := line_of (show stOf f l wf wl line ≠ -1 by rw [ht]; decide)
  have h0 := h.f0
  have h1 := h.l1
  obtain ⟨i, rfl⟩ : ∃ i : Nat, line = i := ⟨line.toNat, by omega⟩
  have hb := h.blk
  simp only [frV] at hb ⊢
  have e1 := rf_turn2 s a _ _ _ wf h.okf hb i (by omega)
  rw [Int.toNat_natCast, rf_o D_frames_Frames_Take rfl]
  have hi : inE 0 0 = 0 := rfl
  simp only [go_sem, e, hi, e1]
theorem rf_Take_no {s : St} {a : Nat} {f l : Int} {wf wl : List Nat} (h : Fr s a f l wf wl) (line : Int) (ht : stOf f l wf wl line ≠ 0) :
    rf D f_frames_Frames_Take [.ptr (.hp a) [] 80, .int .i64 line] s = some (.int .i64 (inE (stOf f l wf wl line) 0), s) := by
  have e := rf_in h line 0
  have hn : ¬ inE (stOf f l wf wl line) 0 = 0 := by unfold inE; split <;> simp_all
  rw [rf_o D_frames_Frames_Take rfl]
  simp only [go_sem, e, hn]
theorem rf_New_err (f l : Int) (h : f < 0 ∨ l < f ∨ 1024 < l) (s : St) : rf D f_frames_New [.int .i64 f, .int .i64 l] s = some (.tup [.nilp, .int .i64 1], s) := by
  rw [rf_o D_frames_New rfl]
  by_cases h1 : f < 0
  · simp only [go_sem, h1]
  · by_cases h2 : l < f
    · simp only [go_sem, h1, h2]
    · have h3 : 1024 < l := by omega
      simp only [go_sem, h1, h2, h3]
theorem rf_New_ok (f l : Int) (h0 : 0 ≤ f) (h1 : f ≤ l) (h2 : l ≤ 1024) (s : St) :
    ∃ w, OkS w ∧ (∀ j : Nat, j < 1024 → bit w j = (decide (f ≤ j) && decide ((j : Int) < l))) ∧
      rf D f_frames_New [.int .i64 f, .int .i64 l] s = some (.tup [.ptr (.hp s.hp.length) [] 80, .int .i64 0], ⟨s.loc, s.hp ++ [.rw (frV f l w (w16 []))]⟩) := by
  obtain ⟨a, rfl⟩ : ∃ n : Nat, f = n := ⟨f.toNat, by omega⟩
  obtain ⟨b, rfl⟩ : ∃ n : Nat, l = n := ⟨l.toNat, by omega⟩
  have loop : ∃ r, rc D s.loc.length (.loop [0, 6, 25, 26] b_frames_New_0) [(0, .int .i64 a), (6, .ptr (.hp s.hp.length) [] 80), (25, .int .i64 (b - a : Nat)), (26, .int .i64 0)] ⟨s.loc, s.hp ++ [.rw (frV a b (w16 []) (w16 []))]⟩ = some r ∧
      ∃ w : List Nat, r = (.exit 0, [(0, .int .i64 a), (6, .ptr (.hp s.hp.length) [] 80), (25, .int .i64 (b - a : Nat)), (26, .int .i64 (b - a : Nat)), (27, .bool false)], ⟨s.loc, s.hp ++ [.rw (frV a b w (w16 []))]⟩) ∧
        OkS w ∧ ∀ j : Nat, j < 1024 → bit w j = (decide (a ≤ j) && decide (j < b)) := by
    refine loop_ex (fun x : Nat × List Nat => [(0, .int .i64 a), (6, .ptr (.hp s.hp.length) [] 80), (25, .int .i64 (b - a : Nat)), (26, .int .i64 x.1)]) (fun x => ⟨s.loc, s.hp ++ [.rw (frV a b x.2 (w16 []))]⟩) _ (fun x => b - a - x.1)
      (fun x => x.1 ≤ b - a ∧ OkS x.2 ∧ ∀ j : Nat, j < 1024 → bit x.2 j = (decide (a ≤ j) && decide (j < a + x.1))) (0, w16 []) ?_ ⟨by simp, ok_nil, fun j hj => ?_⟩ rfl rfl
    · rintro ⟨i, w⟩ ⟨hi, hok, hbit⟩
      simp only at hi hok hbit
      by_cases c1 : i < b - a
      · left
        have d1 : (i : Int) < (b - a : Nat) := by omega
        have d4 : IntKind.i64.wrap ((i : Int) + 1) = (i : Int) + 1 := i64_id (by omega) (by omega)
        have e1 : IntKind.i64.wrap ((a : Int) + (i : Int)) = ((a + i : Nat) : Int) := by rw [i64_id (by omega) (by omega)]; omega
        have r1 := rf_turn2 ⟨s.loc, s.hp ++ [.rw (.agg 80 [.int .i64 a, .int .i64 b, .agg 78 (w.map cN), .agg 78 ((w16 []).map cN)])]⟩ s.hp.length (.int .i64 a) (.int .i64 b) (.agg 78 ((w16 []).map cN)) w hok (by simp) (a + i) (by omega)
        simp only [app_set0, List.set_cons_zero] at r1
        refine ⟨(i + 1, flip w (a + i)), ⟨by simp only; omega, hok.flip (by omega), fun j hj => ?_⟩, by simp only; omega, ?_⟩
        · simp only
          rw [bit_flip hok (by omega), hbit j hj]
          by_cases hij : a + i = j
          · subst hij
            simp
          · have : decide (j < a + (i + 1)) = decide (j < a + i) := decide_eq_decide.2 (by omega)
            simp [hij, this]
        · simp only [frV]
          generalize a + i = n at *
          simp only [go_sem, b_frames_New_0, d1, d4, e1, r1]
          rfl
      · right
        have : i = b - a := by omega
        subst this
        refine ⟨_, ?_, w, rfl, hok, fun j hj => ?_⟩
        · have d1 : ¬ ((b - a : Nat) : Int) < ((b - a : Nat) : Int) := by omega
          simp only [go_sem, b_frames_New_0, d1]
        · rw [hbit j hj, show a + (b - a) = b by omega]
    · simp only
      rw [bit_nil]
      by_cases h1 : a ≤ j
      · simp
      · simp [h1]
  obtain ⟨_, hl, w, rfl, hok, hbit⟩ := loop
  refine ⟨w, hok, fun j hj => ?_, ?_⟩
  · rw [hbit j hj]
    have e1 : decide ((a : Int) ≤ j) = decide (a ≤ j) := decide_eq_decide.2 (by omega)
    have e2 : decide ((j : Int) < b) = decide (j < b) := decide_eq_decide.2 (by omega)
    rw [e1, e2]
  · have c1 : ¬ (a : Int) < 0 := by omega
    have c2 : ¬ (b : Int) < a := by omega
    have c3 : ¬ 1024 < (b : Int) := by omega
    have e1 : IntKind.i64.wrap ((b : Int) - (a : Int)) = ((b - a : Nat) : Int) := by rw [i64_id (by omega) (by omega)]; omega
    simp only [frV, w16_nil] at hl ⊢
    generalize b - a = n at *
    rw [rf_o D_frames_New rfl]
    simp only [go_sem, c1, c2, c3, e1, hl]
end Go.Proofs.YtpbpgbedkmbfkaaDoor
namespace Go.Proofs.YtpbpgbedkmbfkaaDoor
open Go.Ab
def rfV (f : Int) (c n : Nat) : V := .agg 21 [.int .i64 f, .sl (.hp c) [] 0 n (some n) 10]
/-- The document's frames: block b, its row in block c. -/
structure Rf (s : St) (b c : Nat) (f : Int) (S : List Int) : Prop where
  rb : s.hp[b]? = some (.rw (rfV f c S.length))
  sb : s.hp[c]? = some (.rw (.agg 38 (S.map (.int .i64))))
  f0 : 0 ≤ f
  n : f + S.length ≤ 1024
def stS (f : Int) (S : List Int) (line : Int) : Int := if line < f ∨ (S.length : Int) ≤ line - f then -1 else S.getD (line - f).toNat 0
theorem sad_r {c n k : Nat} (h : k < n) : sadv 10 (.sl (.hp c) [] 0 n (some n) 10) (.int .i64 (k : Int)) = some (.ptr (.hp c) [k] 10) := by
  simp [sadv, h]
theorem rf_rState {s : St} {b c : Nat} {f : Int} {S : List Int} (h : Rf s b c f S) (line : Int) (hl : line ≤ 9223372036854775807) :
    rf D f_steadfastref04_Frames_State [.ptr (.hp b) [] 21, .int .i64 line] s = some (.int .i64 (stS f S line), s) := by
  have hb := h.rb
  have hc := h.sb
  have h0 := h.f0
  have hn := h.n
  unfold stS
  simp only [rfV] at hb
  by_cases c1 : line < f
  · rw [if_pos (.inl c1), rf_o D_steadfastref04_Frames_State rfl]
    simp only [go_sem, hb, c1]
  · have e1 : IntKind.i64.wrap (line - f) = line - f := i64_id (by omega) (by omega)
    by_cases c2 : (S.length : Int) ≤ line - f
    · rw [if_pos (.inr c2), rf_o D_steadfastref04_Frames_State rfl]
      simp only [go_sem, hb, c1, e1, c2]
    · obtain ⟨k, hk⟩ : ∃ k : Nat, line - f = k := ⟨(line - f).toNat, by omega⟩
      rw [if_neg (by omega)]
      rw [hk] at e1 c2 ⊢
      have hkl : k < S.length := by omega
      have hg := get_map (f := V.int .i64) (l := S) hkl 0
      rw [Int.toNat_natCast, rf_o D_steadfastref04_Frames_State rfl]
      simp only [go_sem, hb, c1, hk, e1, c2, sad_r hkl, hc, hg]
theorem rf_rturn {s : St} {b c : Nat} {f : Int} {S : List Int} (h : Rf s b c f S) (line : Int) (hl : line ≤ 9223372036854775807) (x y : Int) :
    rf D f_steadfastref04_Frames_turn [.ptr (.hp b) [] 21, .int .i64 line, .int .i64 x, .int .i64 y] s =
      if stS f S line < 0 then some (.int .i64 1, s) else if stS f S line ≠ x then some (.int .i64 3, s) else
        some (.int .i64 0, ⟨s.loc, s.hp.set c (.rw (.agg 38 ((S.set (line - f).toNat y).map (.int .i64))))⟩) := by
  have e := rf_rState h line hl
  have hb := h.rb
  have hc := h.sb
  have h0 := h.f0
  have hn := h.n
  simp only [rfV] at hb
  rw [rf_o D_steadfastref04_Frames_turn rfl]
  by_cases c1 : stS f S line < 0
  · rw [if_pos c1]
    generalize stS f S line = t at *
    simp only [go_sem, e, c1]
  · rw [if_neg c1]
    by_cases c2 : stS f S line = x
    · have hin : ¬ (line < f ∨ (S.length : Int) ≤ line - f) := fun hh => by
        unfold stS at c1
        rw [if_pos hh] at c1
        exact c1 (by decide)
      obtain ⟨k, hk⟩ : ∃ k : Nat, line - f = k := ⟨(line - f).toNat, by omega⟩
      have hkl : k < S.length := by omega
      have hg := get_map (f := V.int .i64) (l := S) hkl 0
      have e1 : IntKind.i64.wrap (line - f) = k := by rw [hk]; exact i64_id (by omega) (by omega)
      rw [if_neg (by simp [c2]), hk, Int.toNat_natCast, List.map_set]
      subst c2
      generalize stS f S line = t at *
      simp only [go_sem, e, c1, hb, e1, sad_r hkl, hc, hg]
    · rw [if_pos c2]
      generalize stS f S line = t at *
      simp only [go_sem, e, c1, c2]
theorem rf_rTake {s : St} {b c : Nat} {f : Int} {S : List Int} (h : Rf s b c f S) (line : Int) (hl : line ≤ 9223372036854775807) :
    rf D f_steadfastref04_Frames_Take [.ptr (.hp b) [] 21, .int .i64 line] s = rf D f_steadfastref04_Frames_turn [.ptr (.hp b) [] 21, .int .i64 line, .int .i64 0, .int .i64 1] s := by
  rw [rf_rturn h line hl 0 1]
  have e := rf_rturn h line hl 0 1
  rw [rf_o D_steadfastref04_Frames_Take rfl]
  by_cases c1 : stS f S line < 0
  · rw [if_pos c1] at e ⊢
    simp only [go_sem, e]
  · rw [if_neg c1] at e ⊢
    by_cases c2 : stS f S line = 0
    · rw [if_neg (by simp [c2])] at e ⊢
      simp only [go_sem, e]
    · rw [if_pos c2] at e ⊢
      simp only [go_sem, e]
theorem getD_setI {B : List Int} {i j : Nat} {v : Int} (hi : i < B.length) : (B.set i v).getD j 0 = if i = j then v else B.getD j 0 := by
  rw [List.getD_eq_getElem?_getD, List.getD_eq_getElem?_getD, List.getElem?_set]
  by_cases h : i = j
  · subst h; simp [hi]
  · simp [h]
theorem set_same {l : List Blk} {a : Nat} {x : Blk} (h : l[a]? = some x) : l.set a x = l := by
  have ha := (List.getElem?_eq_some_iff.1 h).1
  apply List.ext_getElem?
  intro j
  by_cases e : a = j
  · subst e; rw [List.getElem?_set_self ha]; exact h.symm
  · rw [List.getElem?_set_ne e]
theorem rf_rNew_err (f l : Int) (h : f < 0 ∨ l < f ∨ 1024 < l) (s : St) : rf D f_steadfastref04_New [.int .i64 f, .int .i64 l] s = some (.tup [.nilp, .int .i64 1], s) := by
  rw [rf_o D_steadfastref04_New rfl]
  by_cases h1 : f < 0
  · simp only [go_sem, h1]
  · by_cases h2 : l < f
    · simp only [go_sem, h1, h2]
    · have h3 : 1024 < l := by omega
      simp only [go_sem, h1, h2, h3]
theorem rf_rNew_ok (f l : Int) (h0 : 0 ≤ f) (h1 : f ≤ l) (h2 : l ≤ 1024) (s : St) :
    rf D f_steadfastref04_New [.int .i64 f, .int .i64 l] s = some (.tup [.ptr (.hp (s.hp.length + 1)) [] 21, .int .i64 0], ⟨s.loc, s.hp ++ [.rw (.agg 38 (List.replicate (l - f).toNat (.int .i64 0))), .rw (rfV f s.hp.length (l - f).toNat)]⟩) := by
  have c1 : ¬ f < 0 := by omega
  have c2 : ¬ l < f := by omega
  have c3 : ¬ 1024 < l := by omega
  obtain ⟨n, hn⟩ : ∃ n : Nat, l - f = n := ⟨(l - f).toNat, by omega⟩
  have e1 : IntKind.i64.wrap (l - f) = n := by rw [hn]; exact i64_id (by omega) (by omega)
  have hm : (n : Int) ≤ (most : Nat) := by unfold most; omega
  have d0 : (0 : Int) ≤ n := by omega
  rw [hn, Int.toNat_natCast, rf_o D_steadfastref04_New rfl]
  simp only [rfV]
  simp only [go_sem, c1, c2, c3, e1, hm, d0, Int.le_refl]
  rw [Int.toNat_natCast]
end Go.Proofs.YtpbpgbedkmbfkaaDoor
namespace Go.Proofs.YtpbpgbedkmbfkaaDoor
open Go.Ab
structure Obj where
  kind : Int
  ver : Int
  l : List Int
def Obj.v (o : Obj) : V := .agg 26 [.int .i64 o.kind, .int .i64 o.ver, .agg 24 (o.l.map (.int .u64))]
def noObj : Obj := ⟨0, 0, []⟩
theorem map_of {α : Type} {f : α → V} {P : α → Prop} {l : List V} (h : ∀ x ∈ l, ∃ a, x = f a ∧ P a) : ∃ la : List α, l = la.map f ∧ ∀ a ∈ la, P a := by
  induction l with
  | nil => exact ⟨[], rfl, by simp⟩
  | cons x l ih =>
    obtain ⟨a, rfl, ha⟩ := h x (List.mem_cons_self ..)
    obtain ⟨la, rfl, hl⟩ := ih fun y hy => h y (List.mem_cons_of_mem _ hy)
    refine ⟨a :: la, rfl, fun y hy => ?_⟩
    rcases List.mem_cons.1 hy with rfl | hy
    · exact ha
    · exact hl y hy
structure OkO (o : Obj) : Prop where
  l8 : o.l.length = 8
  words : ∀ x ∈ o.l, 0 ≤ x ∧ x ≤ 18446744073709551615
theorem obj_of {hp : List Blk} {v : V} (h : (Sh.st 26 [.int .i64, .int .i64, .arr 24 8 (.int .u64)]).Fits hp v) : ∃ o : Obj, v = o.v ∧ OkO o ∧ (-9223372036854775808 ≤ o.kind ∧ o.kind ≤ 9223372036854775807) ∧ (-9223372036854775808 ≤ o.ver ∧ o.ver ≤ 9223372036854775807) := by
  obtain ⟨vs, rfl, h⟩ := h
  obtain ⟨x, y, z, rfl, ⟨k, rfl, hk⟩, ⟨w, rfl, hw⟩, ⟨ws, rfl, hn, hl⟩⟩ := fits3 h
  obtain ⟨l, rfl, hl'⟩ := map_of (f := V.int .u64) (P := fun x => 0 ≤ x ∧ x ≤ 18446744073709551615) (fun x hx => by
    obtain ⟨n, rfl, h1, h2⟩ := hl x hx
    exact ⟨n, rfl, h1, h2⟩)
  refine ⟨⟨k, w, l⟩, rfl, ⟨by simpa using hn, hl'⟩, hk, hw⟩
def zeroObj : Obj := ⟨0, 0, List.replicate 8 0⟩
def absm (k m : Int) : Int := if Int.tmod k m < 0 then -(Int.tmod k m) else Int.tmod k m
theorem absm_le (k : Int) {m : Int} (hm : 0 < m) : 0 ≤ absm k m ∧ absm k m < m := by
  have h1 := Int.tmod_lt_of_pos k hm
  have h2 := Int.lt_tmod_of_pos k hm
  unfold absm
  split <;> omega
end Go.Proofs.YtpbpgbedkmbfkaaDoor
namespace Go.Proofs.YtpbpgbedkmbfkaaDoor
open Go.Ab

structure Ent where
  kind : Int
  ver : Int
  line : Int
def Ent.v (x : Ent) : V := .agg 42 [.int .i64 x.kind, .int .i64 x.ver, .int .i64 x.line]
def tabV (t : Nat → Ent) : V := .agg 48 (tab 49 fun i => (t i).v)
def dirV (d : Nat → Int) : V := .agg 50 (tab 8 fun i => .int .i64 (d i))
def shV (f : Nat → Bool) : V := .agg 82 (tab 1024 fun j => .bool (f j))
def noEnt : Ent := ⟨0, 0, 0⟩
/-- A set of lines, with those of a table's first n. -/
def addL (t : Nat → Ent) (f : Nat → Bool) : Nat → Nat → Bool
  | 0 => f
  | n + 1 => if (t n).kind = 0 then addL t f n else upd (addL t f n) (t n).line.toNat true
structure InL (t : Nat → Ent) : Prop where
  inn : ∀ i, i < 49 → (t i).kind ≠ 0 → 0 ≤ (t i).line ∧ (t i).line < 1024
theorem rf_add {s : St} {a : Nat} {x0 x1 x2 x3 x4 x5 x6 : V} {f : Nat → Bool} {t : Nat → Ent} (h : s.hp[a]? = some (.rw (.agg 43 [x0, x1, x2, x3, x4, x5, x6, shV f]))) (ht : InL t) :
    rf D f_objects_lines_add [.ptr (.hp a) [7] 82, tabV t] s = some (.tup [], ⟨s.loc, s.hp.set a (.rw (.agg 43 [x0, x1, x2, x3, x4, x5, x6, shV (addL t f 49)]))⟩) := by
  have ha := (List.getElem?_eq_some_iff.1 h).1
  have loop : rc D s.loc.length (.loop [0, 6, 7] b_objects_lines_add_0) [(0, .ptr (.hp a) [7] 82), (6, tabV t), (7, .int .i64 0)] ⟨s.loc ++ [.rw (tabV t)], s.hp⟩ =
      some (.exit 0, [(0, .ptr (.hp a) [7] 82), (6, tabV t), (7, .int .i64 49), (8, .bool false)], ⟨s.loc ++ [.rw (tabV t)], s.hp.set a (.rw (.agg 43 [x0, x1, x2, x3, x4, x5, x6, shV (addL t f 49)]))⟩) := by
    refine loop_runs (fun x : Nat => [(0, .ptr (.hp a) [7] 82), (6, tabV t), (7, .int .i64 x)]) (fun x => ⟨s.loc ++ [.rw (tabV t)], s.hp.set a (.rw (.agg 43 [x0, x1, x2, x3, x4, x5, x6, shV (addL t f x)]))⟩) (fun _ => _) (fun x => 49 - x) (fun x => x ≤ 49) 0 ?_ (by omega) rfl ?_
    · intro i hi
      by_cases c1 : i < 49
      · left
        have d1 : (i : Int) < 49 := by omega
        have d2 : (0 : Int) ≤ i := by omega
        have d4 : IntKind.i64.wrap ((i : Int) + 1) = (i : Int) + 1 := i64_id (by omega) (by omega)
        have g1 := tab_get (f := fun i => (t i).v) c1
        have hin := ht.inn i c1
        refine ⟨i + 1, by omega, by omega, rfl, ?_⟩
        simp only [tabV, Ent.v, addL] at *
        generalize tab 49 (fun i => V.agg 42 [.int .i64 (t i).kind, .int .i64 (t i).ver, .int .i64 (t i).line]) = T at *
        have hs : ∀ b, (s.hp.set a b)[a]? = some b := fun b => List.getElem?_set_self ha
        by_cases hk : (t i).kind = 0
        · simp only [hk, if_true] at g1 ⊢
          generalize addL t f i = f' at *
          simp only [go_sem, b_objects_lines_add_0, d1, d2]
          rw [Int.toNat_natCast]
          simp only [go_sem, g1, d4]
          rfl
        · simp only [hk, if_false] at g1 ⊢
          obtain ⟨h1, h2⟩ := hin hk
          obtain ⟨q, hq⟩ : ∃ q : Nat, (t i).line = q := ⟨(t i).line.toNat, by omega⟩
          simp only [hq, Int.toNat_natCast] at g1 h1 h2 ⊢
          have e := tab_set 1024 (fun j => V.bool (addL t f i j)) q (.bool true)
          have hu : tab 1024 (upd (fun j => V.bool (addL t f i j)) q (.bool true)) = tab 1024 (fun j => V.bool (upd (addL t f i) q true j)) := tab_congr fun j _ => by unfold upd; split <;> rfl
          rw [hu] at e
          have hg := tab_get (f := fun j => V.bool (addL t f i j)) (show q < 1024 by omega)
          simp only [shV]
          rw [← e]
          generalize tab 1024 (fun j => V.bool (addL t f i j)) = F at *
          generalize addL t f i q = y at *
          simp only [go_sem, b_objects_lines_add_0, d1, d2]
          rw [Int.toNat_natCast]
          simp only [go_sem, g1, hk, h1, h2, hs]
          rw [Int.toNat_natCast]
          simp only [go_sem, hg, d4, List.set_set]
          rfl
      · right
        have : i = 49 := by omega
        subst this
        simp only [tabV]
        simp only [go_sem, b_objects_lines_add_0]
    · simp only [addL]
      rw [set_same h]
  simp only [tabV] at *
  rw [rf_o D_objects_lines_add rfl]
  simp only [go_sem, loop]
/-- Which lines are shared. -/
def shOf (base mark : Nat → Ent) (marked : Bool) : Nat → Bool := if marked then addL mark (addL base (fun _ => false) 49) 49 else addL base (fun _ => false) 49
structure StF where
  m : Nat
  fr : Nat
  work : Nat → Ent
  base : Nat → Ent
  dir : Nat → Int
  mark : Nat → Ent
  marked : Bool
def StF.v (x : StF) (sh : Nat → Bool) : V := .agg 43 [.ptr (.hp x.m) [] 59, .ptr (.hp x.fr) [] 80, tabV x.work, tabV x.base, dirV x.dir, tabV x.mark, .bool x.marked, shV sh]
theorem sh_none : V.agg 82 (List.replicate 1024 (.bool false)) = shV fun _ => false := by rw [tab_rep]; rfl
theorem rf_share {s : St} {a : Nat} {x : StF} {sh : Nat → Bool} (h : s.hp[a]? = some (.rw (x.v sh))) (hb : InL x.base) (hm : x.marked = true → InL x.mark) :
    rf D f_objects_Store_share [.ptr (.hp a) [] 43] s = some (.tup [], ⟨s.loc, s.hp.set a (.rw (x.v (shOf x.base x.mark x.marked)))⟩) := by
  have ha := (List.getElem?_eq_some_iff.1 h).1
  have hs : ∀ b, (s.hp.set a b)[a]? = some b := fun b => List.getElem?_set_self ha
  obtain ⟨m, fr, work, base, dir, mark, marked⟩ := x
  simp only [StF.v] at *
  have r1 := fun L => rf_add (s := ⟨s.loc ++ L, s.hp.set a (.rw (.agg 43 [.ptr (.hp m) [] 59, .ptr (.hp fr) [] 80, tabV work, tabV base, dirV dir, tabV mark, .bool marked, shV fun _ => false]))⟩) (hs _) hb
  have r2 := fun L (h : marked = true) => rf_add (s := ⟨s.loc ++ L, s.hp.set a (.rw (.agg 43 [.ptr (.hp m) [] 59, .ptr (.hp fr) [] 80, tabV work, tabV base, dirV dir, tabV mark, .bool marked, shV (addL base (fun _ => false) 49)]))⟩) (hs _) (hm h)
  have e := sh_none
  simp only [List.set_set, shV] at r1 r2 h e ⊢
  have r1 := r1 []
  have r2 := r2 []
  simp only [List.append_nil] at r1 r2
  rw [rf_o D_objects_Store_share rfl]
  simp only [tabV, V.agg.injEq, true_and] at *
  cases marked
  · simp only [shOf, Bool.false_eq_true, if_false]
    generalize tab 1024 (fun j => V.bool (addL base (fun _ => false) 49 j)) = F1 at *
    simp only [go_sem, h, e, hs, r1]
  · have r2 := r2 rfl
    simp only [shOf, if_true]
    generalize tab 1024 (fun j => V.bool (addL base (fun _ => false) 49 j)) = F1 at *
    simp only [go_sem, h, e, hs, r1, r2]
end Go.Proofs.YtpbpgbedkmbfkaaDoor
namespace Go.Proofs.YtpbpgbedkmbfkaaDoor
open Go.Ab

/-- Whose capability a word is: the error, and the number. -/
def nmE (t : Nat → Ent) (c : Int) : Int := entryNames (t (capsOf c).id.toNat).kind (t (capsOf c).id.toNat).ver (capsOf c).id c
def nmId (t : Nat → Ent) (c : Int) : Int := if nmE t c = 0 then (capsOf c).id else 0
theorem capsOf_id (c : Int) : 0 ≤ (capsOf c).id ∧ (capsOf c).id ≤ 48 := by
  unfold capsOf
  split
  · rename_i h; exact may_id h
  · exact ⟨Int.le_refl _, by decide⟩
theorem nmE_no {t : Nat → Ent} {c : Int} (h : (capOf c).may = false) : nmE t c = 31 := by
  unfold nmE entryNames; rw [h]; rfl
theorem rf_Names {s : St} {a : Nat} {x : StF} {sh : Nat → Bool} (h : s.hp[a]? = some (.rw (x.v sh))) (c : Int) (h0 : 0 ≤ c) (h1 : c ≤ 18446744073709551615) :
    rf D f_objects_Store_Names [.ptr (.hp a) [] 43, .int .u64 c] s = some (.tup [.int .i64 (nmId x.work c), .int .i64 (nmE x.work c)], s) := by
  have hc := fun s => rf_caps_Of c h0 h1 s
  have hid := capsOf_id c
  have hno := nmE_no (t := x.work) (c := c)
  unfold nmId
  have hn : nmE x.work c = entryNames (x.work (capsOf c).id.toNat).kind (x.work (capsOf c).id.toNat).ver (capsOf c).id c := rfl
  obtain ⟨i, hi⟩ : ∃ i : Nat, (capsOf c).id = i := ⟨(capsOf c).id.toNat, by omega⟩
  rw [hi, Int.toNat_natCast] at hn
  have g1 := tab_get (f := fun i => (x.work i).v) (show i < 49 by omega)
  have hen := fun s => rf_entry_Names (x.work i).kind (x.work i).ver (x.work i).line i c h0 h1 s
  rw [← hn] at hen
  have c1 : (i : Int) < 49 := by omega
  have c2 : (0 : Int) ≤ i := by omega
  simp only [hi] at hc ⊢
  obtain ⟨m, fr, work, base, dir, mark, marked⟩ := x
  simp only [StF.v, tabV, Cap.v, Ent.v] at *
  simp only [hi] at hc
  generalize nmE work c = e at *
  generalize tab 49 (fun i => V.agg 42 [.int .i64 (work i).kind, .int .i64 (work i).ver, .int .i64 (work i).line]) = T at *
  rw [rf_o D_objects_Store_Names rfl]
  by_cases hm : (capOf c).may = true
  · simp only [hm] at hc
    simp only [go_sem, hc, h, c1, c2]
    rw [Int.toNat_natCast]
    by_cases he : e = 0
    · subst he
      simp only [go_sem, g1, hen]
    · simp only [go_sem, g1, hen, he]
  · have hm' : (capOf c).may = false := by simpa using hm
    have he := hno hm'
    subst he
    simp only [hm'] at hc
    simp only [go_sem, hc]
/-- The program's objects, to be read: the store's block, its memory's lines. -/
structure Prg (hp : List Blk) (a : Nat) (x : StF) (sh : Nat → Bool) (k n : Nat) (T : List V) (ls : Nat → List Int) : Prop where
  st : hp[a]? = some (.rw (x.v sh))
  mb : ∃ burns left steps, hp[x.m]? = some (.rw (memV k n false burns left steps))
  kb : hp[k]? = some (.rw (.agg 57 T))
  ln : ∀ i, i < 49 → (x.work i).kind ≠ 0 → 0 ≤ (x.work i).line ∧ (x.work i).line < n ∧ ∃ su si fl, T[(x.work i).line.toNat]? = some (nlV (lnV (ls (x.work i).line.toNat)) su si fl)
def gE (t : Nat → Ent) (id : Int) : Int := if id < 0 ∨ 49 ≤ id then 1 else if (t id.toNat).kind = 0 then 30 else 0
def gO (t : Nat → Ent) (ls : Nat → List Int) (id : Int) : Obj := if gE t id = 0 then ⟨(t id.toNat).kind, (t id.toNat).ver, ls (t id.toNat).line.toNat⟩ else ⟨0, 0, zl⟩
end Go.Proofs.YtpbpgbedkmbfkaaDoor
namespace Go.Proofs.YtpbpgbedkmbfkaaDoor
open Go.Ab

def openB (e : Ent) : Bool := decide (e.kind = 0) && decide (e.ver < 16777215)
theorem rf_entry_Open (k v l : Int) (s : St) : rf D f_entry_Open [.agg 42 [.int .i64 k, .int .i64 v, .int .i64 l]] s = some (.bool (openB ⟨k, v, l⟩), s) := by
  unfold openB
  rw [rf_o D_entry_Open rfl]
  by_cases h1 : k = 0
  · simp [go_sem, h1]
  · simp [go_sem, h1]
/-- The first of a table that is open. -/
def nxt (t : Nat → Ent) : Option Nat := (List.range 49).find? fun i => openB (t i)
theorem nxt_some {t : Nat → Ent} {n : Nat} (h : nxt t = some n) : n < 49 ∧ openB (t n) = true ∧ ∀ j, j < n → openB (t j) = false := by
  unfold nxt at h
  rw [List.find?_range_eq_some] at h
  simp only [Bool.not_eq_true'] at h
  exact ⟨by simpa using h.2.1, h.1, h.2.2⟩
theorem nxt_none {t : Nat → Ent} (h : nxt t = none) : ∀ j, j < 49 → openB (t j) = false := by
  unfold nxt at h
  rw [List.find?_eq_none] at h
  intro j hj
  simpa using h j (by simpa using hj)
theorem next_none {s : St} {t : Nat → Ent} (h : nxt t = none) :
    rc D s.loc.length (.loop [17, 18] b_objects_Store_Next_0) [(17, tabV t), (18, .int .i64 0)] s = some (.exit 1, [(17, tabV t), (18, .int .i64 49), (19, .bool false)], s) := by
  have hn := nxt_none h
  refine loop_runs (fun x : Nat => [(17, tabV t), (18, .int .i64 x)]) (fun _ => s) (fun _ => _) (fun x => 49 - x) (fun x => x ≤ 49) 0 ?_ (Nat.zero_le _) rfl rfl
  intro i hi
  by_cases c1 : i < 49
  · left
    have d1 : (i : Int) < 49 := by omega
    have d2 : (0 : Int) ≤ i := by omega
    have d4 : IntKind.i64.wrap ((i : Int) + 1) = (i : Int) + 1 := i64_id (by omega) (by omega)
    have ho := fun s => rf_entry_Open (t i).kind (t i).ver (t i).line s
    have ht := tab_get (f := fun i => (t i).v) c1
    rw [show (⟨(t i).kind, (t i).ver, (t i).line⟩ : Ent) = t i from rfl, hn i c1] at ho
    refine ⟨i + 1, by omega, by omega, rfl, ?_⟩
    simp only [tabV, Ent.v] at *
    generalize tab 49 (fun i => V.agg 42 [.int .i64 (t i).kind, .int .i64 (t i).ver, .int .i64 (t i).line]) = T at *
    simp only [go_sem, b_objects_Store_Next_0, d1, d2]
    rw [Int.toNat_natCast]
    simp only [go_sem, ht, ho, d4]
    rfl
  · right
    have : i = 49 := by omega
    subst this
    simp only [go_sem, b_objects_Store_Next_0]
theorem next_some {s : St} {t : Nat → Ent} {n : Nat} (h : nxt t = some n) :
    rc D s.loc.length (.loop [17, 18] b_objects_Store_Next_0) [(17, tabV t), (18, .int .i64 0)] s = some (.ret, [(4, .int .i64 n), (5, .int .i64 (t n).ver), (6, .int .i64 0)], ⟨s.loc ++ [.rw (t n).v], s.hp⟩) := by
  obtain ⟨hn, h1, h2⟩ := nxt_some h
  refine loop_runs (fun x : Nat => [(17, tabV t), (18, .int .i64 x)]) (fun _ => s) (fun _ => _) (fun x => n - x) (fun x => x ≤ n) 0 ?_ (Nat.zero_le _) rfl rfl
  intro i hi
  have c1 : i < 49 := by omega
  have d1 : (i : Int) < 49 := by omega
  have d2 : (0 : Int) ≤ i := by omega
  have d4 : IntKind.i64.wrap ((i : Int) + 1) = (i : Int) + 1 := i64_id (by omega) (by omega)
  have ho := fun s => rf_entry_Open (t i).kind (t i).ver (t i).line s
  have ht := tab_get (f := fun i => (t i).v) c1
  rw [show (⟨(t i).kind, (t i).ver, (t i).line⟩ : Ent) = t i from rfl] at ho
  by_cases c2 : i < n
  · left
    rw [h2 i c2] at ho
    refine ⟨i + 1, by omega, by omega, rfl, ?_⟩
    simp only [tabV, Ent.v] at *
    generalize tab 49 (fun i => V.agg 42 [.int .i64 (t i).kind, .int .i64 (t i).ver, .int .i64 (t i).line]) = T at *
    simp only [go_sem, b_objects_Store_Next_0, d1, d2]
    rw [Int.toNat_natCast]
    simp only [go_sem, ht, ho, d4]
    rfl
  · right
    have : i = n := by omega
    subst this
    rw [h1] at ho
    simp only [tabV, Ent.v] at *
    generalize tab 49 (fun i => V.agg 42 [.int .i64 (t i).kind, .int .i64 (t i).ver, .int .i64 (t i).line]) = T at *
    simp only [go_sem, b_objects_Store_Next_0, d1, d2]
    rw [Int.toNat_natCast]
    simp only [go_sem, ht, ho]
def kindOk (k : Int) : Prop := k = 1 ∨ k = 2 ∨ k = 4
instance (k : Int) : Decidable (kindOk k) := inferInstanceAs (Decidable (k = 1 ∨ k = 2 ∨ k = 4))
/-- Which would be made: its number, its version, the error. -/
def nxI (t : Nat → Ent) (k : Int) : Int := if kindOk k then match nxt t with | some n => n | none => 0 else 0
def nxV (t : Nat → Ent) (k : Int) : Int := if kindOk k then match nxt t with | some n => (t n).ver | none => 0 else 0
def nxE (t : Nat → Ent) (k : Int) : Int := if kindOk k then match nxt t with | some _ => 0 | none => 34 else 1
theorem rf_Next {s : St} {a : Nat} {x : StF} {sh : Nat → Bool} (h : s.hp[a]? = some (.rw (x.v sh))) (k : Int) :
    rf D f_objects_Store_Next [.ptr (.hp a) [] 43, .int .i64 k] s = some (.tup [.int .i64 (nxI x.work k), .int .i64 (nxV x.work k), .int .i64 (nxE x.work k)], s) := by
  obtain ⟨m, fr, work, base, dir, mark, marked⟩ := x
  simp only [StF.v] at *
  unfold nxI nxV nxE
  by_cases hk : kindOk k
  · simp only [hk, if_true]
    cases hn : nxt work with
    | none =>
      have hl := next_none (s := s) hn
      simp only
      generalize tabV work = T at *
      rw [rf_o D_objects_Store_Next rfl]
      by_cases k1 : k = 1
      · simp only [go_sem, k1, h, hl]
      · by_cases k2 : k = 2
        · simp only [go_sem, k1, k2, h, hl]
        · have k4 : k = 4 := by unfold kindOk at hk; omega
          simp only [go_sem, k1, k2, k4, h, hl]
    | some n =>
      have hl := next_some (s := s) hn
      simp only
      generalize tabV work = T at *
      simp only [Ent.v] at hl
      rw [rf_o D_objects_Store_Next rfl]
      by_cases k1 : k = 1
      · simp only [go_sem, k1, h, hl]
      · by_cases k2 : k = 2
        · simp only [go_sem, k1, k2, h, hl]
        · have k4 : k = 4 := by unfold kindOk at hk; omega
          simp only [go_sem, k1, k2, k4, h, hl]
  · simp only [hk, if_false]
    have k1 : ¬ k = 1 := fun e => hk (.inl e)
    have k2 : ¬ k = 2 := fun e => hk (.inr (.inl e))
    have k4 : ¬ k = 4 := fun e => hk (.inr (.inr e))
    rw [rf_o D_objects_Store_Next rfl]
    simp only [go_sem, k1, k2, k4]
def endV (v : Int) : Int := if 1 ≤ 16777215 - v then v + 1 else 16777215
theorem addL_in {t : Nat → Ent} {f : Nat → Bool} : ∀ {n i : Nat}, i < n → (t i).kind ≠ 0 → addL t f n (t i).line.toNat = true
  | 0, _, h, _ => by omega
  | n + 1, i, h, hk => by
    simp only [addL]
    by_cases hi : i = n
    · subst hi
      rw [if_neg hk, upd_self]
    · have ih := addL_in (t := t) (f := f) (n := n) (i := i) (by omega) hk
      split
      · exact ih
      · by_cases he : (t i).line.toNat = (t n).line.toNat
        · rw [he, upd_self]
        · rw [upd_ne he]; exact ih
def updE (t : Nat → Ent) (i : Nat) (e : Ent) : Nat → Ent := fun j => if j = i then e else t j
theorem tab_updE {t : Nat → Ent} {i : Nat} {e : Ent} : tab 49 (upd (fun j => (t j).v) i e.v) = tab 49 fun j => (updE t i e j).v := by
  apply tab_congr
  intro j _
  unfold upd updE
  split <;> rfl
end Go.Proofs.YtpbpgbedkmbfkaaDoor
namespace Go.Proofs.YtpbpgbedkmbfkaaDoor
open Go.Ab

theorem odd_form : ∀ w : Nat, w ≠ 0 → ∃ k m, w = 2 ^ k * (2 * m + 1) := by
  intro w
  induction w using Nat.strongRecOn with
  | _ w ih =>
    intro h
    by_cases h2 : w % 2 = 1
    · exact ⟨0, w / 2, by omega⟩
    · obtain ⟨k, m, hk⟩ := ih (w / 2) (by omega) (by omega)
      refine ⟨k + 1, m, ?_⟩
      rw [Nat.pow_succ, Nat.mul_assoc, Nat.mul_left_comm, ← hk]; omega
theorem testBit_odd {k m j : Nat} : (2 ^ k * (2 * m + 1)).testBit j = (decide (j = k) || (decide (k < j) && m.testBit (j - k - 1))) := by
  rw [Nat.testBit_two_pow_mul]
  by_cases h : k ≤ j
  · obtain ⟨d, rfl⟩ := Nat.exists_eq_add_of_le h
    simp only [Nat.le_add_right, decide_true, Bool.true_and, Nat.add_sub_cancel_left]
    cases d with
    | zero => simp
    | succ d =>
      rw [Nat.testBit_succ, show (2 * m + 1) / 2 = m by omega]
      simp
  · have h1 : ¬ j = k := by omega
    have h2 : ¬ k < j := by omega
    simp [h, h1, h2]
theorem low_bit {k m : Nat} (hw : 2 ^ k * (2 * m + 1) < 2 ^ 64) : (2 ^ k * (2 * m + 1)) &&& (2 ^ 64 - 2 ^ k * (2 * m + 1)) = 2 ^ k := by
  have hpos : 0 < 2 ^ k := Nat.two_pow_pos k
  apply Nat.eq_of_testBit_eq
  intro j
  have e : 2 ^ 64 - 2 ^ k * (2 * m + 1) = 2 ^ 64 - ((2 ^ k * (2 * m) + (2 ^ k - 1)) + 1) := by
    have : 2 ^ k * (2 * m + 1) = 2 ^ k * (2 * m) + 2 ^ k := by rw [Nat.mul_add, Nat.mul_one]
    omega
  have hlt : 2 ^ k * (2 * m) + (2 ^ k - 1) < 2 ^ 64 := by
    have : 2 ^ k * (2 * m + 1) = 2 ^ k * (2 * m) + 2 ^ k := by rw [Nat.mul_add, Nat.mul_one]
    omega
  rw [Nat.testBit_and, e, Nat.testBit_two_pow_sub_succ hlt, testBit_odd, Nat.testBit_two_pow_mul_add _ (by omega : 2 ^ k - 1 < 2 ^ k), Nat.testBit_two_pow]
  by_cases h1 : j = k
  · subst h1
    have hk : j < 64 := by
      by_cases h : j < 64
      · exact h
      · have := Nat.pow_le_pow_right (show 0 < 2 by decide) (show 64 ≤ j by omega)
        have h3 : 2 ^ j ≤ 2 ^ j * (2 * m + 1) := Nat.le_mul_of_pos_right _ (by omega)
        omega
    simp [hk]
  · by_cases h2 : k < j
    · have h3 : ¬ j < k := by omega
      have h4 : ¬ k = j := fun h => h1 h.symm
      obtain ⟨d, rfl⟩ := Nat.exists_eq_add_of_lt h2
      have e2 : k + d + 1 - k = d + 1 := by omega
      simp only [h1, h3, h4, if_false, decide_false, Bool.false_or, h2, decide_true, Bool.true_and, e2, Nat.add_sub_cancel]
      rw [Nat.testBit_succ, show 2 * m / 2 = m by omega]
      cases m.testBit d <;> simp
    · have h4 : ¬ k = j := fun h => h1 h.symm
      simp [h1, h2, h4]
def tblOk (k : Nat) : Bool := decide (tabl_0[(2 ^ k * 285870213051353865 % 18446744073709551616) / 288230376151711744]? = some (k : Int))
theorem tbl_all : (List.range 64).all tblOk = true := by kernel_rfl
theorem table_ok {k : Nat} (hk : k < 64) : tabl_0[(2 ^ k * 285870213051353865 % 18446744073709551616) / 288230376151711744]? = some (k : Int) :=
  of_decide_eq_true (List.all_eq_true.1 tbl_all k (List.mem_range.2 hk))
/-- The first line of a word. -/
structure Low (w k : Nat) : Prop where
  lt : k < 64
  set : w.testBit k = true
  less : ∀ j, j < k → w.testBit j = false
theorem low_unique {w k k' : Nat} (h : Low w k) (h' : Low w k') : k = k' := by
  rcases Nat.lt_trichotomy k k' with h1 | h1 | h1
  · have := h'.less k h1; rw [h.set] at this; cases this
  · exact h1
  · have := h.less k' h1; rw [h'.set] at this; cases this
theorem tz_e1 (w : Nat) (h0 : w ≠ 0) (hw : w < 18446744073709551616) : IntKind.u64.wrap (0 - (w : Int)) = ((18446744073709551616 - w : Nat) : Int) := by
  rw [IntKind.wrap_u64]; omega
theorem tz_e3 (p : Nat) : IntKind.u64.wrap ((p : Int) * 285870213051353865) = ((p * 285870213051353865 % 18446744073709551616 : Nat) : Int) := by
  rw [IntKind.wrap_u64]; simp
theorem tz_e4 (q : Nat) : ishr .u64 (q : Int) 58 = ((q / 288230376151711744 : Nat) : Int) := by
  have := ishr_two (q : Int) 58 (by decide)
  rw [show (58 : Int) = ((58 : Nat) : Int) by rfl, this]; simp
theorem tz_lt {k m : Nat} (hw : 2 ^ k * (2 * m + 1) < 18446744073709551616) : k < 64 := by
  by_cases h : k < 64
  · exact h
  · have h1 := Nat.pow_le_pow_right (show 0 < 2 by decide) (show 64 ≤ k by omega)
    have h3 : 2 ^ k ≤ 2 ^ k * (2 * m + 1) := Nat.le_mul_of_pos_right _ (by omega)
    have h4 : 18446744073709551616 ≤ 2 ^ k := h1
    exact absurd hw (Nat.not_lt.2 (Nat.le_trans h4 h3))
theorem tz_low {k m : Nat} (hw : 2 ^ k * (2 * m + 1) < 18446744073709551616) : Low (2 ^ k * (2 * m + 1)) k := by
  refine ⟨tz_lt hw, by rw [testBit_odd]; simp, fun j hj => ?_⟩
  rw [testBit_odd]
  have h1 : ¬ j = k := by omega
  have h2 : ¬ k < j := by omega
  simp [h1, h2]
theorem tz_e2 {k m : Nat} (hw : 2 ^ k * (2 * m + 1) < 18446744073709551616) : iand .u64 (2 ^ k * (2 * m + 1) : Nat) ((18446744073709551616 - 2 ^ k * (2 * m + 1) : Nat) : Int) = ((2 ^ k : Nat) : Int) := by
  have h : 0 < 2 ^ k * (2 * m + 1) := Nat.mul_pos (Nat.two_pow_pos k) (by omega)
  rw [iand_nat hw (by omega)]
  exact congrArg _ (low_bit hw)
theorem tz_div {q : Nat} (h : q < 18446744073709551616) : q / 288230376151711744 < 64 := by omega
theorem rf_tz (w : Nat) (h0 : w ≠ 0) (hw : w < 18446744073709551616) (s : St) (hG : s.hp[0]? = some (.ro globV_0)) :
    ∃ k, Low w k ∧ rf D f_math_bits_TrailingZeros64 [.int .u64 w] s = some (.int .i64 k, s) := by
  obtain ⟨k, m, rfl⟩ := odd_form w h0
  have hk := tz_lt hw
  refine ⟨k, tz_low hw, ?_⟩
  have e1 := tz_e1 _ h0 hw
  have e2 := tz_e2 hw
  have ht := table_ok hk
  have d3 : ¬ ((2 ^ k * (2 * m + 1) : Nat) : Int) = 0 := by rw [Int.natCast_eq_zero]; exact h0
  clear hw h0
  generalize 2 ^ k * (2 * m + 1) = w at *
  generalize 2 ^ k = p at *
  have e3 := tz_e3 p
  have hq : p * 285870213051353865 % 18446744073709551616 < 18446744073709551616 := Nat.mod_lt _ (by decide)
  generalize p * 285870213051353865 % 18446744073709551616 = q at *
  have e4 := tz_e4 q
  have hq64 := tz_div hq
  generalize q / 288230376151711744 = r at *
  have d1 : (r : Int) < 64 := by omega
  have d2 : (0 : Int) ≤ (r : Int) := by omega
  have hg : (tabl_0.map (V.int .u8))[r]? = some (.int .u8 k) := by rw [List.getElem?_map, ht]; rfl
  have d4 : IntKind.i64.wrap (k : Int) = k := i64_id (by omega) (by omega)
  have hG' : s.hp[0]? = some (.ro (.agg 108 (tabl_0.map (V.int .u8)))) := hG
  generalize 18446744073709551616 - w = nw at *
  rw [rf_o D_math_bits_TrailingZeros64 rfl]
  simp only [go_sem, d3, e1, e2, e3]
  simp only [e4]
  simp only [d1, d2, go_sem]
  rw [Int.toNat_natCast, hG']
  simp only [go_sem, hg, d4]
/-- The first line of a set. -/
structure First (w : List Nat) (n : Nat) : Prop where
  lt : n < 1024
  set : bit w n = true
  less : ∀ j, j < n → bit w j = false
def Empty (w : List Nat) : Prop := ∀ j, j < 1024 → bit w j = false
theorem zero_bits {x : Nat} (h : x = 0) (i : Nat) : x.testBit i = false := by subst h; exact Nat.zero_testBit i
theorem rf_Alloc {s : St} {a : Nat} {f l : Int} {wf wl : List Nat} (h : Fr s a f l wf wl) (hG : s.hp[0]? = some (.ro globV_0)) :
    (∃ n, First wf n ∧ rf D f_frames_Frames_Alloc [.ptr (.hp a) [] 80] s = some (.tup [.int .i64 n, .int .i64 0], ⟨s.loc, s.hp.set a (.rw (frV f l (flip wf n) wl))⟩)) ∨
      (Empty wf ∧ rf D f_frames_Frames_Alloc [.ptr (.hp a) [] 80] s = some (.tup [.int .i64 0, .int .i64 10], s)) := by
  have hb := h.blk
  have hlen := h.okf.len
  simp only [frV] at hb ⊢
  have loop : ∃ r, rc D s.loc.length (.loop [0, 10, 11] b_frames_Frames_Alloc_0) [(0, .ptr (.hp a) [] 80), (10, .agg 78 (wf.map cN)), (11, .int .i64 0)] s = some r ∧
      ((∃ n : Nat, First wf n ∧ r = (.ret, [(2, .int .i64 n), (3, .int .i64 0)], ⟨s.loc, s.hp.set a (.rw (.agg 80 [.int .i64 f, .int .i64 l, .agg 78 ((flip wf n).map cN), .agg 78 (wl.map cN)]))⟩)) ∨
        (Empty wf ∧ r = (.exit 0, [(0, .ptr (.hp a) [] 80), (10, .agg 78 (wf.map cN)), (11, .int .i64 16), (12, .bool false)], s))) := by
    refine loop_ex (fun x : Nat => [(0, .ptr (.hp a) [] 80), (10, .agg 78 (wf.map cN)), (11, .int .i64 x)]) (fun _ => s) _ (fun x => 16 - x)
      (fun x => x ≤ 16 ∧ ∀ j, j < 64 * x → bit wf j = false) 0 ?_ ⟨by omega, fun j hj => by omega⟩ rfl rfl
    rintro i ⟨hi, hz⟩
    by_cases c1 : i < 16
    · have d1 : (i : Int) < 16 := by omega
      have d2 : (0 : Int) ≤ i := by omega
      have d4 : IntKind.i64.wrap ((i : Int) + 1) = (i : Int) + 1 := i64_id (by omega) (by omega)
      have hg := get_map (f := cN) (l := wf) (i := i) (by omega) 0
      have hlt := h.okf.get c1
      by_cases hw : wf.getD i 0 = 0
      · left
        refine ⟨i + 1, ⟨by omega, fun j hj => ?_⟩, by omega, ?_⟩
        · by_cases hj2 : j < 64 * i
          · exact hz j hj2
          · have e : j / 64 = i := by omega
            unfold bit
            rw [e]
            exact zero_bits hw _
        · rw [hw] at hg
          simp only [go_sem, b_frames_Frames_Alloc_0, d1, d2]
          rw [Int.toNat_natCast]
          simp only [go_sem, hg, d4]
          rfl
      · right
        obtain ⟨k, hk, htz⟩ := rf_tz _ hw hlt s hG
        have hk64 := hk.lt
        have hfirst : First wf (64 * i + k) := by
          refine ⟨by omega, ?_, fun j hj => ?_⟩
          · unfold bit
            rw [show (64 * i + k) / 64 = i by omega, show (64 * i + k) % 64 = k by omega]
            exact hk.set
          · by_cases hj2 : j < 64 * i
            · exact hz j hj2
            · unfold bit
              rw [show j / 64 = i by omega]
              exact hk.less _ (by omega)
        have e1 := rf_turn2 s a _ _ _ wf h.okf hb (64 * i + k) hfirst.lt
        refine ⟨_, ?_, .inl ⟨64 * i + k, hfirst, rfl⟩⟩
        have e2 : IntKind.i64.wrap (64 * (i : Int)) = 64 * (i : Int) := i64_id (by omega) (by omega)
        have e3 : IntKind.i64.wrap (64 * (i : Int) + (k : Int)) = ((64 * i + k : Nat) : Int) := by rw [i64_id (by omega) (by omega)]; omega
        have hw' : ¬ ((wf.getD i 0 : Nat) : Int) = 0 := by omega
        generalize 64 * i + k = n at *
        generalize wf.getD i 0 = x at *
        simp only [go_sem, b_frames_Frames_Alloc_0, d1, d2]
        rw [Int.toNat_natCast]
        simp only [go_sem, hg, hw', htz, e2, e3, e1]
    · right
      have : i = 16 := by omega
      subst this
      refine ⟨_, ?_, .inr ⟨fun j hj => hz j (by omega), rfl⟩⟩
      simp only [go_sem, b_frames_Frames_Alloc_0]
  obtain ⟨r, hl, hr⟩ := loop
  rcases hr with ⟨n, hn, rfl⟩ | ⟨hn, rfl⟩
  · left
    refine ⟨n, hn, ?_⟩
    rw [rf_o D_frames_Frames_Alloc rfl]
    simp only [go_sem, hb, hl]
  · right
    refine ⟨hn, ?_⟩
    rw [rf_o D_frames_Frames_Alloc rfl]
    simp only [go_sem, hb, hl]
end Go.Proofs.YtpbpgbedkmbfkaaDoor
namespace Go.Proofs.YtpbpgbedkmbfkaaDoor
open Go.Ab

/-- Lines taken one behind the other. -/
def takeL (f l : Int) : List Int → List Nat → Option (List Nat)
  | [], w => some w
  | x :: r, w => if stOf f l w (w16 []) x = 0 then takeL f l r (flip w x.toNat) else none
def linesF (t : Nat → Ent) : Nat → Nat → List Int
  | _, 0 => []
  | i, n + 1 => if (t i).kind = 0 then linesF t (i + 1) n else (t i).line :: linesF t (i + 1) n
def dirF (d : Nat → Int) : Nat → Nat → List Int
  | _, 0 => []
  | i, n + 1 => d i :: dirF d (i + 1) n
def allL (t : Nat → Ent) (d : Nat → Int) : List Int := linesF t 0 49 ++ dirF d 0 8
theorem takeL_in {f l : Int} (h0 : 0 ≤ f) (h1 : l ≤ 1024) : ∀ {ls : List Int} {w w' : List Nat}, takeL f l ls w = some w' → ∀ x ∈ ls, 0 ≤ x ∧ x < 1024
  | [], _, _, _, x, hx => by cases hx
  | y :: r, w, w', h, x, hx => by
    simp only [takeL] at h
    split at h
    · rename_i hz
      rcases List.mem_cons.1 hx with rfl | hx
      · have := line_of (show stOf f l w (w16 []) x ≠ -1 by rw [hz]; decide)
        omega
      · exact takeL_in h0 h1 h x hx
    · cases h
theorem linesF_mem (t : Nat → Ent) : ∀ (n i k : Nat), i ≤ k → k < i + n → (t k).kind ≠ 0 → (t k).line ∈ linesF t i n
  | 0, i, k, h1, h2, _ => by omega
  | n + 1, i, k, h1, h2, h3 => by
    simp only [linesF]
    by_cases e : i = k
    · subst e; rw [if_neg h3]; exact List.mem_cons_self
    · have := linesF_mem t n (i + 1) k (by omega) (by omega) h3
      split
      · exact this
      · exact List.mem_cons_of_mem _ this
theorem ok_takes {f l : Int} (h0 : 0 ≤ f) (h1 : l ≤ 1024) {w : List Nat} (hw : OkS w) {x : Int} (hx : stOf f l w (w16 []) x = 0) : OkS (flip w x.toNat) := by
  have := line_of (show stOf f l w (w16 []) x ≠ -1 by rw [hx]; decide)
  exact hw.flip (by omega)
theorem takeL_ok {f l : Int} (h0 : 0 ≤ f) (h1 : l ≤ 1024) : ∀ {ls : List Int} {w w' : List Nat}, OkS w → takeL f l ls w = some w' → OkS w'
  | [], _, _, hw, h => by cases h; exact hw
  | y :: r, w, w', hw, h => by
    simp only [takeL] at h
    split at h
    · rename_i hz
      exact takeL_ok h0 h1 (ok_takes h0 h1 hw hz) h
    · cases h
theorem inE_no {st : Int} (h : st ≠ 0) : ¬ inE st 0 = 0 := by
  unfold inE; split <;> simp_all
theorem objOf_loop0 (L0 H : List Blk) (t : Nat → Ent) (d : Nat → Int) (f : Int) (l : Nat) (X : V) (h0 : 0 ≤ f) (h1 : l ≤ 1024) (w0 : List Nat) (hw0 : OkS w0) (rest : List Int) :
    ∃ r, rc D L0.length (.loop [7, 10, 12, 34, 35] b_objects_Of_0) [(7, .ptr (.loc (L0.length + 1)) [] 50), (10, .ptr (.hp H.length) [] 80), (12, .ptr (.hp (H.length + 1)) [] 43), (34, tabV t), (35, .int .i64 0)]
        ⟨L0 ++ [.rw (tabV t), .rw (dirV d)], H ++ [.rw (frV f l w0 (w16 [])), .rw X]⟩ = some r ∧
      ((takeL f l (linesF t 0 49 ++ rest) w0 = none ∧ ∃ (L' : List Blk) (w : List Nat), r = (.ret, [(8, .nilp), (9, .int .i64 21)], ⟨L0 ++ L', H ++ [.rw (frV f l w (w16 [])), .rw X]⟩)) ∨
       (∃ w, OkS w ∧ takeL f l (linesF t 0 49 ++ rest) w0 = takeL f l rest w ∧ r = (.exit 0, [(7, .ptr (.loc (L0.length + 1)) [] 50), (10, .ptr (.hp H.length) [] 80), (12, .ptr (.hp (H.length + 1)) [] 43), (34, tabV t), (35, .int .i64 49), (36, .bool false)],
          ⟨L0 ++ [.rw (tabV t), .rw (dirV d)], H ++ [.rw (frV f l w (w16 [])), .rw X]⟩))) := by
  refine loop_ex (fun x : Nat × List Nat => [(7, .ptr (.loc (L0.length + 1)) [] 50), (10, .ptr (.hp H.length) [] 80), (12, .ptr (.hp (H.length + 1)) [] 43), (34, tabV t), (35, .int .i64 x.1)])
    (fun x => ⟨L0 ++ [.rw (tabV t), .rw (dirV d)], H ++ [.rw (frV f l x.2 (w16 [])), .rw X]⟩) _ (fun x => 49 - x.1)
    (fun x => x.1 ≤ 49 ∧ OkS x.2 ∧ takeL f l (linesF t 0 49 ++ rest) w0 = takeL f l (linesF t x.1 (49 - x.1) ++ rest) x.2) (0, w0) ?_ ⟨by simp only; omega, hw0, rfl⟩ rfl rfl
  rintro ⟨i, w⟩ ⟨hi, hok, htk⟩
  simp only at hi hok htk
  by_cases c1 : i < 49
  · have d1 : (i : Int) < 49 := by omega
    have d2 : (0 : Int) ≤ i := by omega
    have d5 : L0.length + 1 < L0.length + 2 := by omega
    have d4 : IntKind.i64.wrap ((i : Int) + 1) = (i : Int) + 1 := i64_id (by omega) (by omega)
    have g1 := tab_get (f := fun i => (t i).v) c1
    have hl : linesF t i (49 - i) = if (t i).kind = 0 then linesF t (i + 1) (49 - (i + 1)) else (t i).line :: linesF t (i + 1) (49 - (i + 1)) := by
      rw [show 49 - i = (49 - (i + 1)) + 1 by omega]; rfl
    rw [hl] at htk
    by_cases hk : (t i).kind = 0
    · left
      rw [if_pos hk] at htk
      refine ⟨(i + 1, w), ⟨by simp only; omega, hok, htk⟩, by simp only; omega, ?_⟩
      simp only [tabV, Ent.v, dirV] at *
      simp only [hk] at g1
      generalize tab 49 (fun i => V.agg 42 [.int .i64 (t i).kind, .int .i64 (t i).ver, .int .i64 (t i).line]) = T at *
      simp only [go_sem, b_objects_Of_0, d1, d2]
      rw [Int.toNat_natCast]
      simp only [go_sem, g1, d4, d5]
      rfl
    · rw [if_neg hk, List.cons_append] at htk
      simp only [takeL] at htk
      have hfr : ∀ L : List Blk, Fr ⟨L, H ++ [.rw (frV f l w (w16 [])), .rw X]⟩ H.length f l w (w16 []) := fun L => ⟨by simp, h0, by omega, hok, ok_nil⟩
      by_cases hst : stOf f l w (w16 []) (t i).line = 0
      · left
        rw [if_pos hst] at htk
        have r1 := fun L => rf_Take_ok (hfr L) (t i).line hst
        refine ⟨(i + 1, flip w (t i).line.toNat), ⟨by simp only; omega, ok_takes h0 (by omega) hok hst, htk⟩, by simp only; omega, ?_⟩
        simp only [tabV, Ent.v, dirV] at *
        generalize tab 49 (fun i => V.agg 42 [.int .i64 (t i).kind, .int .i64 (t i).ver, .int .i64 (t i).line]) = T at *
        simp only [app_set0, List.set_cons_zero] at r1
        simp only [go_sem, b_objects_Of_0, d1, d2]
        rw [Int.toNat_natCast]
        simp only [go_sem, g1, hk, r1, d4, d5]
        rfl
      · right
        rw [if_neg hst] at htk
        have r1 := fun L => rf_Take_no (hfr L) (t i).line hst
        have hne := inE_no hst
        refine ⟨_, ?_, .inl ⟨htk, [.rw (tabV t), .rw (dirV d), .rw (t i).v], w, rfl⟩⟩
        simp only [tabV, Ent.v, dirV] at *
        generalize tab 49 (fun i => V.agg 42 [.int .i64 (t i).kind, .int .i64 (t i).ver, .int .i64 (t i).line]) = T at *
        simp only [go_sem, b_objects_Of_0, d1, d2]
        rw [Int.toNat_natCast]
        simp only [go_sem, g1, hk, r1, hne]
  · right
    have : i = 49 := by omega
    subst this
    refine ⟨_, ?_, .inr ⟨w, hok, by rw [htk]; rfl, rfl⟩⟩
    simp only [tabV]
    simp only [go_sem, b_objects_Of_0]
theorem objOf_loop1 (L0 H : List Blk) (t : Nat → Ent) (d : Nat → Int) (f : Int) (l : Nat) (X : V) (h0 : 0 ≤ f) (h1 : l ≤ 1024) (w0 : List Nat) (hw0 : OkS w0) :
    ∃ r, rc D L0.length (.loop [10, 12, 49, 50] b_objects_Of_1) [(10, .ptr (.hp H.length) [] 80), (12, .ptr (.hp (H.length + 1)) [] 43), (49, dirV d), (50, .int .i64 0)]
        ⟨L0 ++ [.rw (tabV t), .rw (dirV d)], H ++ [.rw (frV f l w0 (w16 [])), .rw X]⟩ = some r ∧
      ((takeL f l (dirF d 0 8) w0 = none ∧ ∃ (L' : List Blk) (w : List Nat), r = (.ret, [(8, .nilp), (9, .int .i64 21)], ⟨L0 ++ L', H ++ [.rw (frV f l w (w16 [])), .rw X]⟩)) ∨
       (∃ w, takeL f l (dirF d 0 8) w0 = some w ∧ r = (.exit 2, [(10, .ptr (.hp H.length) [] 80), (12, .ptr (.hp (H.length + 1)) [] 43), (49, dirV d), (50, .int .i64 8), (51, .bool false)],
          ⟨L0 ++ [.rw (tabV t), .rw (dirV d)], H ++ [.rw (frV f l w (w16 [])), .rw X]⟩))) := by
  refine loop_ex (fun x : Nat × List Nat => [(10, .ptr (.hp H.length) [] 80), (12, .ptr (.hp (H.length + 1)) [] 43), (49, dirV d), (50, .int .i64 x.1)])
    (fun x => ⟨L0 ++ [.rw (tabV t), .rw (dirV d)], H ++ [.rw (frV f l x.2 (w16 [])), .rw X]⟩) _ (fun x => 8 - x.1)
    (fun x => x.1 ≤ 8 ∧ OkS x.2 ∧ takeL f l (dirF d 0 8) w0 = takeL f l (dirF d x.1 (8 - x.1)) x.2) (0, w0) ?_ ⟨by simp only; omega, hw0, rfl⟩ rfl rfl
  rintro ⟨i, w⟩ ⟨hi, hok, htk⟩
  simp only at hi hok htk
  by_cases c1 : i < 8
  · have d1 : (i : Int) < 8 := by omega
    have d2 : (0 : Int) ≤ i := by omega
    have d4 : IntKind.i64.wrap ((i : Int) + 1) = (i : Int) + 1 := i64_id (by omega) (by omega)
    have g1 := tab_get (f := fun i => V.int .i64 (d i)) c1
    have hl : dirF d i (8 - i) = d i :: dirF d (i + 1) (8 - (i + 1)) := by
      rw [show 8 - i = (8 - (i + 1)) + 1 by omega]; rfl
    rw [hl] at htk
    simp only [takeL] at htk
    have hfr : ∀ L : List Blk, Fr ⟨L, H ++ [.rw (frV f l w (w16 [])), .rw X]⟩ H.length f l w (w16 []) := fun L => ⟨by simp, h0, by omega, hok, ok_nil⟩
    by_cases hst : stOf f l w (w16 []) (d i) = 0
    · left
      rw [if_pos hst] at htk
      have r1 := fun L => rf_Take_ok (hfr L) (d i) hst
      refine ⟨(i + 1, flip w (d i).toNat), ⟨by simp only; omega, ok_takes h0 (by omega) hok hst, htk⟩, by simp only; omega, ?_⟩
      simp only [tabV, dirV] at *
      generalize tab 8 (fun i => V.int .i64 (d i)) = T at *
      simp only [app_set0, List.set_cons_zero] at r1
      simp only [go_sem, b_objects_Of_1, d1, d2]
      rw [Int.toNat_natCast]
      simp only [go_sem, g1, r1, d4]
      rfl
    · right
      rw [if_neg hst] at htk
      have r1 := fun L => rf_Take_no (hfr L) (d i) hst
      have hne := inE_no hst
      refine ⟨_, ?_, .inl ⟨htk, [.rw (tabV t), .rw (dirV d)], w, rfl⟩⟩
      simp only [tabV, dirV] at *
      generalize tab 8 (fun i => V.int .i64 (d i)) = T at *
      simp only [go_sem, b_objects_Of_1, d1, d2]
      rw [Int.toNat_natCast]
      simp only [go_sem, g1, r1, hne]
  · right
    have : i = 8 := by omega
    subst this
    refine ⟨_, ?_, .inr ⟨w, by rw [htk]; rfl, rfl⟩⟩
    simp only [dirV]
    simp only [go_sem, b_objects_Of_1]
theorem bits_ext {w w' : List Nat} (h : OkS w) (h' : OkS w') (hb : ∀ j, j < 1024 → bit w j = bit w' j) : w = w' := by
  apply List.ext_getElem?
  intro q
  by_cases hq : q < 16
  · have e : w.getD q 0 = w'.getD q 0 := by
      apply Nat.eq_of_testBit_eq
      intro k
      by_cases hk : k < 64
      · have := hb (64 * q + k) (by omega)
        unfold bit at this
        rw [show (64 * q + k) / 64 = q by omega, show (64 * q + k) % 64 = k by omega] at this
        exact this
      · have h2 : 2 ^ 64 ≤ 2 ^ k := Nat.pow_le_pow_right (by decide) (by omega)
        rw [Nat.testBit_lt_two_pow (Nat.lt_of_lt_of_le (h.get hq) h2), Nat.testBit_lt_two_pow (Nat.lt_of_lt_of_le (h'.get hq) h2)]
    have hl := h.len
    have hl' := h'.len
    rw [List.getD_eq_getElem?_getD, List.getD_eq_getElem?_getD, List.getElem?_eq_getElem (by omega), List.getElem?_eq_getElem (by omega)] at e
    rw [List.getElem?_eq_getElem (by omega), List.getElem?_eq_getElem (by omega)]
    exact congrArg some e
  · rw [List.getElem?_eq_none (by rw [h.len]; omega), List.getElem?_eq_none (by rw [h'.len]; omega)]
theorem inL_none : InL fun _ => noEnt := ⟨fun _ _ h => absurd rfl h⟩
/-- Objects made: of what is told by takeL. -/
theorem rf_objects_Of' {m n : Nat} (s : St) (hln : ∀ L, rf D f_nvm_Memory_Lines [.ptr (.hp m) [] 59] ⟨s.loc ++ L, s.hp⟩ = some (.int .i64 n, ⟨s.loc ++ L, s.hp⟩)) (f : Int) (h0 : 0 ≤ f) (h1 : f ≤ n) (h2 : n ≤ 1024) (t : Nat → Ent) (d : Nat → Int) :
    ∃ w0, OkS w0 ∧ (∀ j : Nat, j < 1024 → bit w0 j = (decide (f ≤ j) && decide ((j : Int) < n))) ∧
      ((takeL f n (allL t d) w0 = none ∧ ∃ more, rf D f_objects_Of [.ptr (.hp m) [] 59, .int .i64 f, tabV t, dirV d] s = some (.tup [.nilp, .int .i64 21], ⟨s.loc, s.hp ++ more⟩)) ∨
       (∃ w, OkS w ∧ takeL f n (allL t d) w0 = some w ∧ rf D f_objects_Of [.ptr (.hp m) [] 59, .int .i64 f, tabV t, dirV d] s = some (.tup [.ptr (.hp (s.hp.length + 1)) [] 43, .int .i64 0],
          ⟨s.loc, s.hp ++ [.rw (frV f n w (w16 [])), .rw ((⟨m, s.hp.length, t, t, d, fun _ => noEnt, false⟩ : StF).v (shOf t (fun _ => noEnt) false))]⟩))) := by
  obtain ⟨w0, hok0, hbit0, _⟩ := rf_New_ok f n h0 h1 (by omega) s
  have hnew : ∀ L, rf D f_frames_New [.int .i64 f, .int .i64 n] ⟨s.loc ++ L, s.hp⟩ = some (.tup [.ptr (.hp s.hp.length) [] 80, .int .i64 0], ⟨s.loc ++ L, s.hp ++ [.rw (frV f n w0 (w16 []))]⟩) := by
    intro L
    obtain ⟨w1, hok1, hbit1, e⟩ := rf_New_ok f n h0 h1 (by omega) ⟨s.loc ++ L, s.hp⟩
    rw [bits_ext hok0 hok1 fun j hj => by rw [hbit0 j hj, hbit1 j hj]]
    exact e
  refine ⟨w0, hok0, hbit0, ?_⟩
  obtain ⟨r0, e0, q0⟩ := objOf_loop0 s.loc s.hp t d f n ((⟨m, s.hp.length, t, t, d, fun _ => noEnt, false⟩ : StF).v (fun _ => false)) h0 h2 w0 hok0 (dirF d 0 8)
  have z1 : V.agg 48 (List.replicate 49 (.agg 42 [.int .i64 0, .int .i64 0, .int .i64 0])) = tabV fun _ => noEnt := by rw [tab_rep]; rfl
  have z2 := sh_none
  simp only [allL]
  rcases q0 with ⟨hn, L', w, rfl⟩ | ⟨w, hok, hw, rfl⟩
  · left
    refine ⟨hn, [.rw (frV f n w (w16 [])), .rw ((⟨m, s.hp.length, t, t, d, fun _ => noEnt, false⟩ : StF).v (fun _ => false))], ?_⟩
    rw [rf_o D_objects_Of rfl]
    simp only [StF.v, tabV, dirV, shV] at *
    simp only [go_sem, hln, hnew, z1, z2, e0]
  · obtain ⟨r1, e1, q1⟩ := objOf_loop1 s.loc s.hp t d f n ((⟨m, s.hp.length, t, t, d, fun _ => noEnt, false⟩ : StF).v (fun _ => false)) h0 h2 w hok
    rw [hw]
    rcases q1 with ⟨hn, L', w', rfl⟩ | ⟨w', hw', rfl⟩
    · left
      refine ⟨hn, [.rw (frV f n w' (w16 [])), .rw ((⟨m, s.hp.length, t, t, d, fun _ => noEnt, false⟩ : StF).v (fun _ => false))], ?_⟩
      rw [rf_o D_objects_Of rfl]
      simp only [StF.v, tabV, dirV, shV] at *
      simp only [go_sem, hln, hnew, z1, z2, e0, e1]
    · right
      have hin : InL t := ⟨fun i hi hk => takeL_in h0 (by omega) (hw.trans hw') _ (List.mem_append_left _ (linesF_mem t 49 0 i (by omega) (by omega) hk))⟩
      have rs := fun L => rf_share (s := ⟨s.loc ++ L, s.hp ++ [.rw (frV f n w' (w16 [])), .rw ((⟨m, s.hp.length, t, t, d, fun _ => noEnt, false⟩ : StF).v (fun _ => false))]⟩) (a := s.hp.length + 1) (x := ⟨m, s.hp.length, t, t, d, fun _ => noEnt, false⟩) (sh := fun _ => false) (by simp) hin (fun h => absurd h (by simp))
      refine ⟨w', takeL_ok h0 (by omega) hok hw', hw', ?_⟩
      rw [rf_o D_objects_Of rfl]
      simp only [StF.v, tabV, dirV, shV] at *
      simp only [go_sem, hln, hnew, z1, z2, e0, e1, rs]
theorem rf_objects_Of {m k n : Nat} {off burns : Bool} {left steps : Int} (s : St) (hm : s.hp[m]? = some (.rw (memV k n off burns left steps))) (f : Int) (h0 : 0 ≤ f) (h1 : f ≤ n) (h2 : n ≤ 1024) (t : Nat → Ent) (d : Nat → Int) :
    ∃ w0, OkS w0 ∧ (∀ j : Nat, j < 1024 → bit w0 j = (decide (f ≤ j) && decide ((j : Int) < n))) ∧
      ((takeL f n (allL t d) w0 = none ∧ ∃ more, rf D f_objects_Of [.ptr (.hp m) [] 59, .int .i64 f, tabV t, dirV d] s = some (.tup [.nilp, .int .i64 21], ⟨s.loc, s.hp ++ more⟩)) ∨
       (∃ w, OkS w ∧ takeL f n (allL t d) w0 = some w ∧ rf D f_objects_Of [.ptr (.hp m) [] 59, .int .i64 f, tabV t, dirV d] s = some (.tup [.ptr (.hp (s.hp.length + 1)) [] 43, .int .i64 0],
          ⟨s.loc, s.hp ++ [.rw (frV f n w (w16 [])), .rw ((⟨m, s.hp.length, t, t, d, fun _ => noEnt, false⟩ : StF).v (shOf t (fun _ => noEnt) false))]⟩))) :=
  rf_objects_Of' s (fun L => rf_nvm_Lines ⟨s.loc ++ L, s.hp⟩ hm) f h0 h1 h2 t d
theorem rf_objects_Of_err {m n : Nat} (s : St) (hln : ∀ L, rf D f_nvm_Memory_Lines [.ptr (.hp m) [] 59] ⟨s.loc ++ L, s.hp⟩ = some (.int .i64 n, ⟨s.loc ++ L, s.hp⟩)) (f : Int) (h : f < 0 ∨ (n : Int) < f ∨ 1024 < n) (t : Nat → Ent) (d : Nat → Int) :
    rf D f_objects_Of [.ptr (.hp m) [] 59, .int .i64 f, tabV t, dirV d] s = some (.tup [.nilp, .int .i64 1], s) := by
  have hnew := fun L => rf_New_err f n (by omega) ⟨s.loc ++ L, s.hp⟩
  rw [rf_o D_objects_Of rfl]
  simp only [tabV, dirV] at *
  simp only [go_sem, hln, hnew]
end Go.Proofs.YtpbpgbedkmbfkaaDoor
namespace Go.Proofs.YtpbpgbedkmbfkaaDoor
open Go.Ab

/-- A slice of numbers that was appended to, and what is behind it. -/
structure Apd (L0 : List Blk) (X : List Blk) (v : V) (l : List Int) : Prop where
  at' : (l = [] ∧ v = .nils) ∨ (∃ Y, X = Y ++ [.rw (.agg 38 (l.map (.int .i64)))] ∧ v = .sl (.hp (L0.length + Y.length)) [] 0 l.length none 10)
theorem Apd.push {L0 X : List Blk} {v : V} {l : List Int} (h : Apd L0 X v l) {loc : List Blk} (hl : l.length < 1000) (x : Int) {y : V} (hy : y = .nils ∨ ∃ a p o n c, y = .sl a p o n c 10) (hyl : St.elems ⟨loc, L0 ++ X⟩ y = some [.int .i64 x]) {base : Nat} :
    ∃ X' v', vappend base true 38 10 v y ⟨loc, L0 ++ X⟩ = some (v', ⟨loc, L0 ++ X'⟩) ∧ Apd L0 X' v' (l ++ [x]) := by
  rcases h.at' with ⟨rfl, rfl⟩ | ⟨Y, rfl, rfl⟩
  · refine ⟨X ++ [.rw (.agg 38 [.int .i64 x])], _, ?_, ⟨.inr ⟨X, rfl, rfl⟩⟩⟩
    rw [app_nils hy hyl (by simp) (by simp [most]) rfl]
    simp only [go_sem]
  · refine ⟨Y ++ [.dead] ++ [.rw (.agg 38 ((l ++ [x]).map (.int .i64)))], _, ?_, ⟨.inr ⟨Y ++ [.dead], rfl, rfl⟩⟩⟩
    have e1 : St.elems ⟨loc, L0 ++ (Y ++ [.rw (.agg 38 (l.map (.int .i64)))])⟩ (.sl (.hp (L0.length + Y.length)) [] 0 l.length none 10) = some (l.map (.int .i64)) :=
      elems_whole (t := 38) (by rw [← List.append_assoc, ← List.length_append]; simp only [go_sem]) (by simp)
    have e2 : St.at ⟨loc, L0 ++ (Y ++ [.rw (.agg 38 (l.map (.int .i64)))])⟩ (.hp (L0.length + Y.length)) = some (.rw (.agg 38 (l.map (.int .i64)))) := by
      rw [← List.append_assoc, ← List.length_append]; simp [St.at]
    rw [app_may hy e1 hyl (by simp) (by simp [most]; omega) rfl e2]
    have e3 : (St.set ⟨loc, L0 ++ (Y ++ [.rw (.agg 38 (l.map (.int .i64)))])⟩ (.hp (L0.length + Y.length)) .dead) = ⟨loc, L0 ++ (Y ++ [.dead])⟩ := by
      simp only [St.set]
      rw [← List.append_assoc, ← List.length_append, List.set_append_right _ _ (Nat.le_refl _)]
      simp
    rw [e3]
    simp only [go_sem]
    simp
theorem Apd.elems {L0 X : List Blk} {v : V} {l : List Int} (h : Apd L0 X v l) {loc : List Blk} : St.elems ⟨loc, L0 ++ X⟩ v = some (l.map (.int .i64)) := by
  rcases h.at' with ⟨rfl, rfl⟩ | ⟨Y, rfl, rfl⟩
  · rfl
  · exact elems_whole (t := 38) (by rw [← List.append_assoc, ← List.length_append]; simp only [go_sem]) (by simp)
theorem linesF_snoc (t : Nat → Ent) : ∀ (n i : Nat), linesF t i (n + 1) = linesF t i n ++ if (t (i + n)).kind = 0 then [] else [(t (i + n)).line]
  | 0, i => by simp only [linesF, Nat.add_zero]; split <;> rfl
  | n + 1, i => by
    rw [linesF, linesF_snoc t n (i + 1), linesF, show i + 1 + n = i + (n + 1) by omega]
    split <;> simp
theorem linesF_len (t : Nat → Ent) : ∀ (n i : Nat), (linesF t i n).length ≤ n
  | 0, i => Nat.le_refl _
  | n + 1, i => by
    have := linesF_len t n (i + 1)
    simp only [linesF]
    split
    · omega
    · simp only [List.length_cons]; omega
theorem rf_rlines (t : Nat → Ent) (s : St) : ∃ X v, Apd s.hp X v (linesF t 0 49) ∧ rf D f_steadfastref10_lines [tabV t] s = some (v, ⟨s.loc, s.hp ++ X⟩) := by
  have loop : ∃ r, rc D s.loc.length (.loop [1, 3, 4] b_steadfastref10_lines_0) [(1, .ptr (.loc s.loc.length) [] 48), (3, .nils), (4, .int .i64 0)] ⟨s.loc ++ [.rw (tabV t)], s.hp⟩ = some r ∧
      ∃ X v, Apd s.hp X v (linesF t 0 49) ∧ r = (.exit 0, [(1, .ptr (.loc s.loc.length) [] 48), (3, v), (4, .int .i64 49), (6, .bool false)], ⟨s.loc ++ [.rw (tabV t)], s.hp ++ X⟩) := by
    refine loop_ex (fun x : Nat × List Blk × V => [(1, .ptr (.loc s.loc.length) [] 48), (3, x.2.2), (4, .int .i64 x.1)]) (fun x => ⟨s.loc ++ [.rw (tabV t)], s.hp ++ x.2.1⟩) _ (fun x => 49 - x.1)
      (fun x => x.1 ≤ 49 ∧ Apd s.hp x.2.1 x.2.2 (linesF t 0 x.1)) (0, [], .nils) ?_ ⟨by simp only; omega, ⟨.inl ⟨rfl, rfl⟩⟩⟩ rfl (by simp)
    rintro ⟨i, X, v⟩ ⟨hi, ha⟩
    simp only at hi ha
    by_cases c1 : i < 49
    · left
      have d1 : (i : Int) < 49 := by omega
      have d2 : (0 : Int) ≤ i := by omega
      have d4 : IntKind.i64.wrap ((i : Int) + 1) = (i : Int) + 1 := i64_id (by omega) (by omega)
      have d5 : s.loc.length < s.loc.length + 1 := Nat.lt_succ_self _
      have g1 := tab_get (f := fun i => (t i).v) c1
      have hsn := linesF_snoc t i 0
      rw [Nat.zero_add] at hsn
      have hv : v.locLt (s.loc.length + 1) = true := by
        rcases ha.at' with ⟨_, rfl⟩ | ⟨Y, _, rfl⟩ <;> simp only [go_sem]
      by_cases hk : (t i).kind = 0
      · rw [if_pos hk, List.append_nil] at hsn
        refine ⟨(i + 1, X, v), ⟨by simp only; omega, by simp only; rw [hsn]; exact ha⟩, by simp only; omega, ?_⟩
        simp only [tabV, Ent.v] at *
        simp only [hk] at g1
        generalize tab 49 (fun i => V.agg 42 [.int .i64 (t i).kind, .int .i64 (t i).ver, .int .i64 (t i).line]) = T at *
        simp only [go_sem, b_steadfastref10_lines_0, d1, d2]
        rw [Int.toNat_natCast]
        simp only [go_sem, g1, d4, hv, d5]
        rfl
      · rw [if_neg hk] at hsn
        have hll := linesF_len t i 0
        obtain ⟨X', v', e1, ha'⟩ := ha.push (loc := s.loc ++ [.rw (tabV t), .rw (.agg 38 [.int .i64 (t i).line])]) (by omega) (t i).line (y := .sl (.loc (s.loc.length + 1)) [] 0 1 (some 1) 10) (.inr ⟨_, _, _, _, _, rfl⟩)
          (elems_whole (t := 38) (by simp only [go_sem]) rfl) (base := s.loc.length)
        have hv' : v'.locLt (s.loc.length + 1) = true := by
          rcases ha'.at' with ⟨_, rfl⟩ | ⟨Y, _, rfl⟩ <;> simp only [go_sem]
        refine ⟨(i + 1, X', v'), ⟨by simp only; omega, by simp only; rw [hsn]; exact ha'⟩, by simp only; omega, ?_⟩
        simp only [tabV, Ent.v] at *
        generalize tab 49 (fun i => V.agg 42 [.int .i64 (t i).kind, .int .i64 (t i).ver, .int .i64 (t i).line]) = T at *
        simp only [go_sem, b_steadfastref10_lines_0, d1, d2]
        rw [Int.toNat_natCast]
        simp only [go_sem, g1, hk, d1, d2]
        rw [Int.toNat_natCast]
        simp only [go_sem, g1, d4, List.replicate, e1, hv', d5]
        rfl
    · right
      have : i = 49 := by omega
      subst this
      refine ⟨_, ?_, X, v, ha, rfl⟩
      simp only [go_sem, b_steadfastref10_lines_0]
  obtain ⟨_, hl, X, v, ha, rfl⟩ := loop
  refine ⟨X, v, ha, ?_⟩
  have hv : v.locLt s.loc.length = true := by
    rcases ha.at' with ⟨_, rfl⟩ | ⟨Y, _, rfl⟩ <;> simp only [go_sem]
  simp only [tabV] at *
  rw [rf_o D_steadfastref10_lines rfl]
  simp only [go_sem, hl, hv]
end Go.Proofs.YtpbpgbedkmbfkaaDoor
namespace Go.Proofs.YtpbpgbedkmbfkaaDoor
open Go.Ab

/-- A set of lines and a row of states that tell the same. -/
structure Alike (f : Int) (n : Nat) (w : List Nat) (S : List Int) : Prop where
  len : (S.length : Int) = n - f
  ok : OkS w
  eq : ∀ k : Nat, k < S.length → S.getD k 0 = if bit w (f.toNat + k) then 0 else 1
theorem Alike.st {f : Int} {n : Nat} {w : List Nat} {S : List Int} (h : Alike f n w S) (h0 : 0 ≤ f) (x : Int) : stS f S x = stOf f n w (w16 []) x := by
  have hl := h.len
  unfold stS stOf
  by_cases c1 : x < f
  · rw [if_pos (.inl c1), if_pos (.inl c1)]
  · by_cases c2 : (n : Int) ≤ x
    · rw [if_pos (.inr (by omega)), if_pos (.inr c2)]
    · rw [if_neg (by omega), if_neg (by omega), h.eq _ (by omega), bit_nil]
      have : f.toNat + (x - f).toNat = x.toNat := by omega
      rw [this]; simp
theorem Alike.take {f : Int} {n : Nat} {w : List Nat} {S : List Int} (h : Alike f n w S) (h0 : 0 ≤ f) (h1 : n ≤ 1024) {x : Int} (hx : stOf f n w (w16 []) x = 0) : Alike f n (flip w x.toNat) (S.set (x - f).toNat 1) := by
  have hl := h.len
  have hr := line_of (show stOf f n w (w16 []) x ≠ -1 by rw [hx]; decide)
  have hb : bit w x.toNat = true := by
    unfold stOf at hx
    rw [if_neg (by omega), bit_nil] at hx
    split at hx
    · assumption
    · simp at hx
  refine ⟨by rw [List.length_set]; exact hl, h.ok.flip (by omega), fun k hk => ?_⟩
  rw [List.length_set] at hk
  rw [getD_setI (by omega), bit_flip h.ok (by omega)]
  by_cases e : (x - f).toNat = k
  · have : x.toNat = f.toNat + k := by omega
    rw [if_pos e, ← this, hb]; simp
  · have : ¬ x.toNat = f.toNat + k := by omega
    rw [if_neg e, h.eq k hk]; simp [this]
structure InI (ls : List Int) : Prop where
  lt : ∀ x ∈ ls, x ≤ 9223372036854775807
theorem tab8 (d : Nat → Int) : tab 8 (fun i => V.int .i64 (d i)) = (dirF d 0 8).map (.int .i64) := rfl
theorem refOf_loop (L H : List Blk) (P6 P7 P0 v12 : V) (b c : Nat) (f : Int) (n : Nat) (ls : List Int) (h0 : 0 ≤ f) (h1 : n ≤ 1024) (w0 : List Nat) (S0 : List Int) (hA : Alike f n w0 S0) (base : Nat)
    (hH : Rf ⟨L, H⟩ b c f S0) (hv : ∀ k, k < ls.length → sadv 10 v12 (.int .i64 (k : Int)) = some (elp v12 k) ∧ (∀ H', ldv ⟨L, H'⟩ 10 (elp v12 k) = some (.int .i64 (ls.getD k 0)))) (hsl : V.slen false v12 = some ls.length) (hls : InI ls)
    (hll : ls.length < 1000) (hs6 : scrubOk base L.length [(0, P0), (6, P6), (7, P7), (10, .ptr (.hp b) [] 21), (12, v12), (13, .int .i64 0)] ⟨L, []⟩ = true) :
    ∃ r, rc D base (.loop [0, 6, 7, 10, 12, 13] b_steadfastref10_Of_0) [(0, P0), (6, P6), (7, P7), (10, .ptr (.hp b) [] 21), (12, v12), (13, .int .i64 0)] ⟨L, H⟩ = some r ∧
      ((takeL f n ls w0 = none ∧ ∃ S' : List Int, r = (.ret, [(8, .nilp), (9, .int .i64 21)], ⟨L, H.set c (.rw (.agg 38 (S'.map (.int .i64))))⟩)) ∨
       (∃ (w : List Nat) (S' : List Int), takeL f n ls w0 = some w ∧ Alike f n w S' ∧ r = (.exit 0, [(0, P0), (6, P6), (7, P7), (10, .ptr (.hp b) [] 21), (12, v12), (13, .int .i64 ls.length), (33, .bool false)], ⟨L, H.set c (.rw (.agg 38 (S'.map (.int .i64))))⟩))) := by
  have hc := (List.getElem?_eq_some_iff.1 hH.sb).1
  have hlen0 := hA.len
  refine loop_ex (fun x : Nat × List Nat × List Int => [(0, P0), (6, P6), (7, P7), (10, .ptr (.hp b) [] 21), (12, v12), (13, .int .i64 x.1)]) (fun x => ⟨L, H.set c (.rw (.agg 38 (x.2.2.map (.int .i64))))⟩) _ (fun x => ls.length - x.1)
    (fun x => x.1 ≤ ls.length ∧ Alike f n x.2.1 x.2.2 ∧ takeL f n ls w0 = takeL f n (ls.drop x.1) x.2.1) (0, w0, S0) ?_ ⟨by simp only; omega, hA, rfl⟩ rfl (by simp only; rw [set_same hH.sb])
  rintro ⟨i, w, S⟩ ⟨hi, hal, htk⟩
  simp only at hi hal htk
  have hbc : b ≠ c := by
    intro e
    subst e
    have := hH.rb.symm.trans hH.sb
    simp [rfV] at this
  have hlen := hal.len
  have hR : Rf ⟨L, H.set c (.rw (.agg 38 (S.map (.int .i64))))⟩ b c f S := ⟨by rw [List.getElem?_set_ne (Ne.symm hbc)]; have := hH.rb; rw [show S.length = S0.length by omega]; exact this, List.getElem?_set_self hc, h0, by omega⟩
  simp only [scrubOk, List.all_cons, List.all_nil, Bool.and_true, Bool.and_eq_true, decide_eq_true_eq] at hs6
  obtain ⟨⟨_, g1, g2, g3, _, g5, _⟩, g7⟩ := hs6
  rw [List.take_length] at g7
  by_cases c1 : i < ls.length
  · obtain ⟨q1, q2⟩ := hv i c1
    have d1 : (i : Int) < ls.length := by omega
    have d4 : IntKind.i64.wrap ((i : Int) + 1) = (i : Int) + 1 := i64_id (by omega) (by omega)
    have hx : ls.drop i = ls.getD i 0 :: ls.drop (i + 1) := by
      rw [List.getD_eq_getElem?_getD, List.getElem?_eq_getElem c1, Option.getD_some]
      exact List.drop_eq_getElem_cons c1
    rw [hx] at htk
    simp only [takeL] at htk
    have hxi := hls.lt _ (getD_mem c1 0)
    generalize ls.getD i 0 = x at *
    have hst := hal.st h0 x
    have r1 := rf_rTake hR x hxi
    rw [rf_rturn hR x hxi 0 1, hst] at r1
    by_cases hz : stOf f n w (w16 []) x = 0
    · left
      rw [if_pos hz] at htk
      rw [hz] at r1
      simp only [show ¬ ((0 : Int) < 0) by decide, if_false, ne_eq, not_true_eq_false, List.set_set] at r1
      refine ⟨(i + 1, flip w x.toNat, S.set (x - f).toNat 1), ⟨by simp only; omega, hal.take h0 h1 hz, htk⟩, by simp only; omega, ?_⟩
      simp only
      generalize S.set (x - f).toNat 1 = S2 at *
      simp only [go_sem, b_steadfastref10_Of_0, hsl, d1, q1, q2, r1, d4, g1, g2, g3, g5, g7]
      rfl
    · right
      rw [if_neg hz] at htk
      have hr : rf D f_steadfastref04_Frames_Take [.ptr (.hp b) [] 21, .int .i64 x] ⟨L, H.set c (.rw (.agg 38 (S.map (.int .i64))))⟩ = some (.int .i64 1, ⟨L, H.set c (.rw (.agg 38 (S.map (.int .i64))))⟩) ∨
          rf D f_steadfastref04_Frames_Take [.ptr (.hp b) [] 21, .int .i64 x] ⟨L, H.set c (.rw (.agg 38 (S.map (.int .i64))))⟩ = some (.int .i64 3, ⟨L, H.set c (.rw (.agg 38 (S.map (.int .i64))))⟩) := by
        rw [r1]
        by_cases hn : stOf f n w (w16 []) x < 0
        · left; rw [if_pos hn]
        · right; rw [if_neg hn, if_pos hz]
      refine ⟨_, ?_, .inl ⟨htk, S, rfl⟩⟩
      rcases hr with hr | hr <;> simp only [go_sem, b_steadfastref10_Of_0, hsl, d1, q1, q2, hr]
  · right
    have : i = ls.length := by omega
    subst this
    have d1 : ¬ ((ls.length : Nat) : Int) < ls.length := by omega
    refine ⟨_, ?_, .inr ⟨w, S, by rw [htk, List.drop_length]; rfl, hal, rfl⟩⟩
    simp only [go_sem, b_steadfastref10_Of_0, hsl, d1]
structure RstF where
  m : Nat
  fr : Nat
  work : Nat → Ent
  base : Nat → Ent
  dir : Nat → Int
  mark : Nat → Ent
  marked : Bool
def RstF.v (x : RstF) : V := .agg 31 [.ptr (.hp x.m) [] 33, .ptr (.hp x.fr) [] 21, tabV x.work, tabV x.base, dirV x.dir, tabV x.mark, .bool x.marked]
theorem dirF_len (d : Nat → Int) : (dirF d 0 8).length = 8 := rfl
theorem getElem_map_at {ls : List Int} {k : Nat} (h : k < ls.length) : (ls.map (V.int .i64))[k]? = some (.int .i64 (ls.getD k 0)) := get_map h 0
/-- What was appended, as the loop reads it. -/
theorem app_dir (L0 H : List Blk) (t d : V) (dd : Nat → Int) (hd : d = dirV dd) {X : List Blk} {v : V} {l1 : List Int} (h : Apd H X v l1) (hl1 : l1.length ≤ 49) {base : Nat} :
    ∃ X', X'.length = X.length ∧ vappend base false 38 10 v (.sl (.loc (L0.length + 1)) [] 0 8 (some 8) 10) ⟨L0 ++ [.rw t, .rw d], H ++ X⟩ =
      some (.sl (.loc (L0.length + 2)) [] 0 (l1 ++ dirF dd 0 8).length none 10, ⟨L0 ++ [.rw t, .rw d, .rw (.agg 38 ((l1 ++ dirF dd 0 8).map (.int .i64)))], H ++ X'⟩) := by
  subst hd
  have hy : St.elems ⟨L0 ++ [.rw t, .rw (dirV dd)], H ++ X⟩ (.sl (.loc (L0.length + 1)) [] 0 8 (some 8) 10) = some ((dirF dd 0 8).map (.int .i64)) :=
    elems_whole (t := 50) (by simp only [go_sem, dirV, tab8]) rfl
  have hne : (dirF dd 0 8).map (V.int .i64) ≠ [] := by intro h; cases h
  have hx := h.elems (loc := L0 ++ [.rw t, .rw (dirV dd)])
  rcases h.at' with ⟨rfl, rfl⟩ | ⟨Y, rfl, rfl⟩
  · refine ⟨X, rfl, ?_⟩
    rw [app_nils (.inr ⟨_, _, _, _, _, rfl⟩) hy hne (by simp [dirF_len, most]) rfl]
    simp only [go_sem]
    simp
  · refine ⟨Y ++ [.dead], by simp, ?_⟩
    have e2 : St.at ⟨L0 ++ [.rw t, .rw (dirV dd)], H ++ (Y ++ [.rw (.agg 38 (l1.map (.int .i64)))])⟩ (.hp (H.length + Y.length)) = some (.rw (.agg 38 (l1.map (.int .i64)))) := by
      rw [← List.append_assoc, ← List.length_append]; simp [St.at]
    rw [app_may (.inr ⟨_, _, _, _, _, rfl⟩) hx hy hne (by simp [dirF_len, most]; omega) rfl e2]
    have e3 : (St.set ⟨L0 ++ [.rw t, .rw (dirV dd)], H ++ (Y ++ [.rw (.agg 38 (l1.map (.int .i64)))])⟩ (.hp (H.length + Y.length)) .dead) = ⟨L0 ++ [.rw t, .rw (dirV dd)], H ++ (Y ++ [.dead])⟩ := by
      simp only [St.set]
      rw [← List.append_assoc, ← List.length_append, List.set_append_right _ _ (Nat.le_refl _)]
      simp
    rw [e3]
    simp only [go_sem]
    simp
theorem alike0 {f : Int} {n : Nat} {w0 : List Nat} (h0 : 0 ≤ f) (h1 : f ≤ n) (h2 : n ≤ 1024) (hok : OkS w0) (hbit : ∀ j : Nat, j < 1024 → bit w0 j = (decide (f ≤ j) && decide ((j : Int) < n))) : Alike f n w0 (List.replicate (n - f).toNat 0) := by
  refine ⟨by rw [List.length_replicate]; omega, hok, fun k hk => ?_⟩
  rw [List.length_replicate] at hk
  rw [hbit _ (by omega)]
  have e1 : decide (f ≤ ((f.toNat + k : Nat) : Int)) = true := decide_eq_true (by omega)
  have e2 : decide (((f.toNat + k : Nat) : Int) < n) = true := decide_eq_true (by omega)
  rw [e1, e2]
  simp [List.getD_eq_getElem?_getD, hk]
theorem rf_ref10_Of {m k k2 n : Nat} {off : Bool} {left count : Int} (s : St) (hm : s.hp[m]? = some (.rw (rmV k n k2 off left count))) (f : Int) (h0 : 0 ≤ f) (h1 : f ≤ n) (h2 : n ≤ 1024) (t : Nat → Ent) (d : Nat → Int) (hI : InI (allL t d))
    (w0 : List Nat) (hok0 : OkS w0) (hbit0 : ∀ j : Nat, j < 1024 → bit w0 j = (decide (f ≤ j) && decide ((j : Int) < n))) :
    (takeL f n (allL t d) w0 = none ∧ ∃ more, rf D f_steadfastref10_Of [.ptr (.hp m) [] 33, .int .i64 f, tabV t, dirV d] s = some (.tup [.nilp, .int .i64 21], ⟨s.loc, s.hp ++ more⟩)) ∨
    (∃ (w : List Nat) (S : List Int) (X : List Blk), takeL f n (allL t d) w0 = some w ∧ Alike f n w S ∧ rf D f_steadfastref10_Of [.ptr (.hp m) [] 33, .int .i64 f, tabV t, dirV d] s = some (.tup [.ptr (.hp (s.hp.length + 2 + X.length)) [] 31, .int .i64 0],
      ⟨s.loc, s.hp ++ ([.rw (.agg 38 (S.map (.int .i64))), .rw (rfV f s.hp.length S.length)] ++ X ++ [.rw (RstF.v ⟨m, s.hp.length + 1, t, t, d, fun _ => noEnt, false⟩)])⟩)) := by
  have hA := alike0 h0 h1 h2 hok0 hbit0
  have hnew := fun L => rf_rNew_ok f n h0 h1 (by omega) ⟨s.loc ++ L, s.hp⟩
  have hrl : (List.replicate ((n : Int) - f).toNat (V.int .i64 0)) = (List.replicate ((n : Int) - f).toNat (0 : Int)).map (.int .i64) := by rw [List.map_replicate]
  rw [hrl] at hnew
  have hlr : (List.replicate ((n : Int) - f).toNat (0 : Int)).length = ((n : Int) - f).toNat := List.length_replicate
  generalize List.replicate ((n : Int) - f).toNat (0 : Int) = S0 at *
  rw [← hlr] at hnew
  obtain ⟨X, v, hap, hlines⟩ := rf_rlines t ⟨s.loc ++ [.rw (tabV t), .rw (dirV d)], s.hp ++ [.rw (.agg 38 (S0.map (.int .i64))), .rw (rfV f s.hp.length S0.length)]⟩
  simp only at hap hlines
  have hll := linesF_len t 49 0
  obtain ⟨X', hX', happ⟩ := app_dir (base := s.loc.length) s.loc _ (tabV t) (dirV d) d rfl hap hll
  have hal : (linesF t 0 49 ++ dirF d 0 8).length ≤ 57 := by rw [List.length_append, dirF_len]; omega
  simp only [allL] at hI ⊢
  generalize hls : linesF t 0 49 ++ dirF d 0 8 = ls at *
  obtain ⟨r, e, q⟩ := refOf_loop (s.loc ++ [.rw (tabV t), .rw (dirV d), .rw (.agg 38 (ls.map (.int .i64)))]) (s.hp ++ [.rw (.agg 38 (S0.map (.int .i64))), .rw (rfV f s.hp.length S0.length)] ++ X')
    (.ptr (.loc s.loc.length) [] 48) (.ptr (.loc (s.loc.length + 1)) [] 50) (.ptr (.hp m) [] 33) (.sl (.loc (s.loc.length + 2)) [] 0 ls.length none 10) (s.hp.length + 1) s.hp.length f n ls h0 h2 w0 S0 hA s.loc.length
    ⟨by simp, by simp, h0, by have := hA.len; omega⟩
    (fun k hk => ⟨by simp [sadv, elp, hk], fun H' => by simp only [elp, go_sem, Nat.zero_add, getElem_map_at hk]⟩) rfl hI (by omega) (by simp only [tabV, dirV]; simp only [go_sem]; simp)
  have z1 : V.agg 48 (List.replicate 49 (.agg 42 [.int .i64 0, .int .i64 0, .int .i64 0])) = tabV fun _ => noEnt := by rw [tab_rep]; rfl
  have hset : ∀ b : Blk, (s.hp ++ [Blk.rw (.agg 38 (S0.map (.int .i64))), Blk.rw (rfV f s.hp.length S0.length)] ++ X').set s.hp.length b = s.hp ++ ([b, Blk.rw (rfV f s.hp.length S0.length)] ++ X') := by
    intro b
    rw [List.append_assoc, List.set_append_right _ _ (Nat.le_refl _)]
    simp
  rcases q with ⟨hn, S', rfl⟩ | ⟨w, S', hw, hal', rfl⟩
  · left
    refine ⟨hn, [.rw (.agg 38 (S'.map (.int .i64))), .rw (rfV f s.hp.length S0.length)] ++ X', ?_⟩
    rw [hset] at e
    rw [rf_o D_steadfastref10_Of rfl]
    simp only [rmV, tabV, dirV, rfV] at *
    simp only [go_sem] at *
    simp only [go_sem, hm, hnew, hlines, happ, e]
  · right
    have hSS : S'.length = S0.length := by have := hal'.len; have := hA.len; omega
    refine ⟨w, S', X', hw, hal', ?_⟩
    rw [hset] at e
    rw [rf_o D_steadfastref10_Of rfl, hSS]
    simp only [rmV, tabV, dirV, rfV, RstF.v] at *
    simp only [go_sem] at *
    simp only [go_sem, hm, hnew, hlines, happ, z1, e]
    rw [show s.hp.length + (X'.length + 1 + 1) = s.hp.length + 2 + X'.length by omega]
end Go.Proofs.YtpbpgbedkmbfkaaDoor
namespace Go.Proofs.YtpbpgbedkmbfkaaDoor
open Go.Ab

/-- The document's. -/
structure Doc (hp : List Blk) (a : Nat) (x : RstF) (k k2 n : Nat) (T T2 : List V) (ls : Nat → List Int) : Prop where
  st : hp[a]? = some (.rw x.v)
  mb : ∃ left count, hp[x.m]? = some (.rw (rmV k n k2 false left count))
  kb : hp[k]? = some (.rw (.agg 58 T))
  kb2 : hp[k2]? = some (.rw (.agg 53 T2))
  ln : ∀ i, i < 49 → (x.work i).kind ≠ 0 → 0 ≤ (x.work i).line ∧ (x.work i).line < n ∧ T[(x.work i).line.toNat]? = some (lnV (ls (x.work i).line.toNat)) ∧ T2[(x.work i).line.toNat]? = some .nils
end Go.Proofs.YtpbpgbedkmbfkaaDoor
namespace Go.Proofs.YtpbpgbedkmbfkaaDoor
open Go.Ab

theorem neg_tmod (k : Int) {m : Int} (h0 : 0 < m) (h1 : m < 1000000000) : IntKind.i64.wrap (0 - k.tmod m) = -k.tmod m := by
  have := Int.tmod_lt_of_pos k h0
  have := Int.lt_tmod_of_pos k h0
  rw [Int.zero_sub]
  exact i64_id (by omega) (by omega)
/-- The entry of the object i. -/
def entM (M : Int) (lo : List Obj) (i : Nat) : Ent :=
  if i < lo.length then ⟨absm (lo.getD i zeroObj).kind 5, absm (lo.getD i zeroObj).ver M, if absm (lo.getD i zeroObj).kind 5 = 0 then 0 else 20 + i⟩ else noEnt
/-- What stands in the line j. -/
def lnM (lo : List Obj) (j : Nat) : List Int :=
  if 20 ≤ j ∧ j < 69 ∧ j < 20 + lo.length ∧ absm (lo.getD (j - 20) zeroObj).kind 5 ≠ 0 then (lo.getD (j - 20) zeroObj).l else zl
theorem entM_line {M : Int} {lo : List Obj} {i : Nat} (h : (entM M lo i).kind ≠ 0) : (entM M lo i).line = 20 + i := by
  unfold entM at h ⊢
  split
  · rename_i hi
    rw [if_pos hi] at h
    simp only at h ⊢
    rw [if_neg h]
  · rename_i hi
    rw [if_neg hi] at h
    exact absurd rfl h
theorem entM_range {M : Int} (hM : 0 < M) (lo : List Obj) (i : Nat) : 0 ≤ (entM M lo i).kind ∧ (entM M lo i).kind ≤ 4 ∧ 0 ≤ (entM M lo i).ver ∧ (entM M lo i).ver < M := by
  unfold entM
  split
  · have h1 := absm_le (lo.getD i zeroObj).kind (m := 5) (by omega)
    have h2 := absm_le (lo.getD i zeroObj).ver hM
    simp only; omega
  · simp only [noEnt]; omega
def dir10 (i : Nat) : Int := if i < 8 then 10 + i else 0
/-- The lines from 20 on can be taken. -/
theorem take20 {t : Nat → Ent} (ht : ∀ i, i < 49 → (t i).kind ≠ 0 → (t i).line = 20 + i) (rest : List Int) : ∀ (n i : Nat) (w : List Nat), i + n = 49 → OkS w → (∀ j, 20 + i ≤ j → j < 69 → bit w j = true) →
    ∃ w', takeL 10 100 (linesF t i n ++ rest) w = takeL 10 100 rest w' ∧ OkS w' ∧ (∀ j, j < 1024 → (bit w' j = true → bit w j = true) ∧ (j < 20 ∨ 69 ≤ j → bit w' j = bit w j))
  | 0, i, w, _, hok, _ => ⟨w, rfl, hok, fun j _ => ⟨id, fun _ => rfl⟩⟩
  | n + 1, i, w, hin, hok, hb => by
    simp only [linesF]
    by_cases hk : (t i).kind = 0
    · rw [if_pos hk]
      exact take20 ht rest n (i + 1) w (by omega) hok fun j h1 h2 => hb j (by omega) h2
    · rw [if_neg hk, ht i (by omega) hk, List.cons_append]
      have hbi := hb (20 + i) (Nat.le_refl _) (by omega)
      have hst : stOf 10 100 w (w16 []) (20 + i) = 0 := by
        unfold stOf
        rw [if_neg (by omega), show ((20 : Int) + i).toNat = 20 + i by omega, hbi]; rfl
      simp only [takeL]
      rw [if_pos hst, show ((20 : Int) + i).toNat = 20 + i by omega]
      obtain ⟨w', e, hok', hb'⟩ := take20 ht rest n (i + 1) (flip w (20 + i)) (by omega) (hok.flip (by omega)) (fun j h1 h2 => by
        rw [bit_flip hok (by omega), hb j (by omega) h2]
        have : ¬ 20 + i = j := by omega
        simp [this])
      refine ⟨w', e, hok', fun j hj => ⟨fun h => ?_, fun h => ?_⟩⟩
      · have h2 := (hb' j hj).1 h
        rw [bit_flip hok (by omega)] at h2
        by_cases e2 : 20 + i = j
        · subst e2; exact hbi
        · simpa [e2] using h2
      · rw [(hb' j hj).2 h, bit_flip hok (by omega)]
        have : ¬ 20 + i = j := by omega
        simp [this]
/-- The lines from 10 on can be taken. -/
theorem take10 : ∀ (n i : Nat) (w : List Nat), i + n = 8 → OkS w → (∀ j, 10 + i ≤ j → j < 18 → bit w j = true) →
    ∃ w', takeL 10 100 (dirF dir10 i n) w = some w' ∧ OkS w' ∧ (∀ j, j < 1024 → (bit w' j = true → bit w j = true) ∧ (18 ≤ j → bit w' j = bit w j))
  | 0, i, w, _, hok, _ => ⟨w, rfl, hok, fun j _ => ⟨id, fun _ => rfl⟩⟩
  | n + 1, i, w, hin, hok, hb => by
    have hd : dir10 i = 10 + i := if_pos (by omega)
    simp only [dirF, takeL]
    have hbi := hb (10 + i) (Nat.le_refl _) (by omega)
    have hst : stOf 10 100 w (w16 []) (10 + i) = 0 := by
      unfold stOf
      rw [if_neg (by omega), show ((10 : Int) + i).toNat = 10 + i by omega, hbi]; rfl
    rw [hd, if_pos hst, show ((10 : Int) + i).toNat = 10 + i by omega]
    obtain ⟨w', e, hok', hb'⟩ := take10 n (i + 1) (flip w (10 + i)) (by omega) (hok.flip (by omega)) (fun j h1 h2 => by
      rw [bit_flip hok (by omega), hb j (by omega) h2]
      have : ¬ 10 + i = j := by omega
      simp [this])
    refine ⟨w', e, hok', fun j hj => ⟨fun h => ?_, fun h => ?_⟩⟩
    · have h2 := (hb' j hj).1 h
      rw [bit_flip hok (by omega)] at h2
      by_cases e2 : 10 + i = j
      · subst e2; exact hbi
      · simpa [e2] using h2
    · rw [(hb' j hj).2 h, bit_flip hok (by omega)]
      have : ¬ 10 + i = j := by omega
      simp [this]
theorem take_all {t : Nat → Ent} (ht : ∀ i, i < 49 → (t i).kind ≠ 0 → (t i).line = 20 + i) {w0 : List Nat} (hok : OkS w0) (hb : ∀ j : Nat, j < 1024 → bit w0 j = (decide ((10 : Int) ≤ j) && decide ((j : Int) < (100 : Nat)))) :
    ∃ w, takeL 10 100 (allL t dir10) w0 = some w ∧ OkS w ∧ (∀ j, j < 1024 → bit w j = true → 10 ≤ j ∧ j < 100) ∧ bit w 18 = true := by
  obtain ⟨w1, e1, ok1, b1⟩ := take20 ht (dirF dir10 0 8) 49 0 w0 rfl hok (fun j h1 h2 => by rw [hb j (by omega)]; simp; omega)
  obtain ⟨w2, e2, ok2, b2⟩ := take10 8 0 w1 rfl ok1 (fun j h1 h2 => by rw [(b1 j (by omega)).2 (.inl (by omega)), hb j (by omega)]; simp; omega)
  refine ⟨w2, by rw [allL, e1, e2], ok2, fun j hj h => ?_, ?_⟩
  · have := (b1 j hj).1 ((b2 j hj).1 h)
    rw [hb j hj] at this
    simp at this
    omega
  · rw [(b2 18 (by omega)).2 (by omega), (b1 18 (by omega)).2 (.inl (by omega)), hb 18 (by omega)]; rfl
theorem allL_in {t : Nat → Ent} (ht : ∀ i, i < 49 → (t i).kind ≠ 0 → (t i).line = 20 + i) : InI (allL t dir10) := by
  have key : ∀ (n i : Nat), i + n = 49 → ∀ x ∈ linesF t i n, x ≤ 9223372036854775807 := by
    intro n
    induction n with
    | zero => intro i _ x hx; cases hx
    | succ n ih =>
      intro i hin x hx
      simp only [linesF] at hx
      split at hx
      · exact ih (i + 1) (by omega) x hx
      · rename_i hk
        rcases List.mem_cons.1 hx with rfl | hx
        · rw [ht i (by omega) hk]; omega
        · exact ih (i + 1) (by omega) x hx
  refine ⟨fun x hx => ?_⟩
  rcases List.mem_append.1 hx with hx | hx
  · exact key 49 0 rfl x hx
  · have : x = 10 ∨ x = 11 ∨ x = 12 ∨ x = 13 ∨ x = 14 ∨ x = 15 ∨ x = 16 ∨ x = 17 := by simpa [dirF, dir10] using hx
    omega
end Go.Proofs.YtpbpgbedkmbfkaaDoor
namespace Go.Proofs.YtpbpgbedkmbfkaaDoor
open Go.Ab

def madeH (h : Nat) (t : Nat → Ent) (ls : Nat → List Int) (w : List Nat) (S : List Int) (X : List Blk) : List Blk :=
  [.rw (.agg 57 (tab 100 fun i => nlV (lnV (ls i)) (lnV (ls i)) .nils zfl)), .rw (memV h 100 false false 0 0),
   .rw (.agg 58 []), .rw (.agg 58 (tab 100 fun i => lnV (ls i))), .rw (.agg 53 (tab 100 fun _ => .nils)), .rw (rmV (h + 3) 100 (h + 4) false (-1) 0),
   .rw (frV 10 100 w (w16 [])), .rw (StF.v ⟨h + 1, h + 6, t, t, dir10, fun _ => noEnt, false⟩ (shOf t (fun _ => noEnt) false)),
   .rw (.agg 38 (S.map (.int .i64))), .rw (rfV 10 (h + 8) S.length)] ++ X ++ [.rw (RstF.v ⟨h + 5, h + 9, t, t, dir10, fun _ => noEnt, false⟩)]
theorem madeH_at {H : List Blk} {t : Nat → Ent} {ls : Nat → List Int} {w : List Nat} {S : List Int} {X : List Blk} (i : Nat) (hi : i < 10) : (H ++ madeH H.length t ls w S X)[H.length + i]? = (madeH H.length t ls w S X)[i]? := by
  rw [List.getElem?_append_right (by omega), Nat.add_sub_cancel_left]
theorem prgM {H : List Blk} {t : Nat → Ent} {ls : Nat → List Int} {w : List Nat} {S : List Int} {X : List Blk} (ht : ∀ i, i < 49 → (t i).kind ≠ 0 → (t i).line = 20 + i) :
    Prg (H ++ madeH H.length t ls w S X) (H.length + 7) ⟨H.length + 1, H.length + 6, t, t, dir10, fun _ => noEnt, false⟩ (shOf t (fun _ => noEnt) false) H.length 100 (tab 100 fun i => nlV (lnV (ls i)) (lnV (ls i)) .nils zfl) ls := by
  refine ⟨by rw [madeH_at 7 (by omega)]; rfl, ⟨false, 0, 0, by simp only; rw [madeH_at 1 (by omega)]; rfl⟩, by have := madeH_at (H := H) (t := t) (ls := ls) (w := w) (S := S) (X := X) 0 (by omega); rw [Nat.add_zero] at this; rw [this]; rfl, fun i hi hk => ?_⟩
  simp only at hk ⊢
  rw [ht i hi hk]
  refine ⟨by omega, by omega, lnV (ls (20 + i)), .nils, zfl, ?_⟩
  rw [show ((20 : Int) + i).toNat = 20 + i by omega, tab_get (by omega)]
theorem docM {H : List Blk} {t : Nat → Ent} {ls : Nat → List Int} {w : List Nat} {S : List Int} {X : List Blk} (ht : ∀ i, i < 49 → (t i).kind ≠ 0 → (t i).line = 20 + i) :
    Doc (H ++ madeH H.length t ls w S X) (H.length + 10 + X.length) ⟨H.length + 5, H.length + 9, t, t, dir10, fun _ => noEnt, false⟩ (H.length + 3) (H.length + 4) 100 (tab 100 fun i => lnV (ls i)) (tab 100 fun _ => .nils) ls := by
  refine ⟨?_, ⟨-1, 0, by simp only; rw [madeH_at 5 (by omega)]; rfl⟩, by rw [madeH_at 3 (by omega)]; rfl, by rw [madeH_at 4 (by omega)]; rfl, fun i hi hk => ?_⟩
  · rw [List.getElem?_append_right (by omega), show H.length + 10 + X.length - H.length = 10 + X.length by omega]
    unfold madeH
    rw [List.getElem?_append_right (by simp; omega), List.length_append]
    simp only [List.length_cons, List.length_nil, Nat.zero_add, Nat.reduceAdd]
    rw [Nat.sub_self]
    rfl
  · simp only at hk ⊢
    rw [ht i hi hk]
    refine ⟨by omega, by omega, ?_, ?_⟩
    · rw [show ((20 : Int) + i).toNat = 20 + i by omega, tab_get (by omega)]
    · rw [show ((20 : Int) + i).toNat = 20 + i by omega, tab_get (by omega)]
def entI (M : Int) (lo : List Obj) (i : Nat) (j : Nat) : Ent := if j < i then entM M lo j else noEnt
def lnI (lo : List Obj) (i : Nat) (j : Nat) : List Int := if j < 20 + i then lnM lo j else zl
theorem entI_step {M : Int} {lo : List Obj} {i : Nat} {e : V} (he : (entM M lo i).v = e) : tab 49 (upd (fun j => (entI M lo i j).v) i e) = tab 49 fun j => (entI M lo (i + 1) j).v := by
  apply tab_congr
  intro j _
  by_cases e2 : j = i
  · subst e2
    rw [upd_self, ← he]
    simp [entI]
  · rw [upd_ne e2]
    unfold entI
    by_cases h2 : j < i
    · rw [if_pos h2, if_pos (by omega)]
    · rw [if_neg h2, if_neg (by omega)]
theorem lnI_step {lo : List Obj} {i : Nat} : tab 100 (upd (fun j => lnV (lnI lo i j)) (20 + i) (lnV (lnM lo (20 + i)))) = tab 100 fun j => lnV (lnI lo (i + 1) j) := by
  apply tab_congr
  intro j _
  by_cases e2 : j = 20 + i
  · subst e2
    rw [upd_self]
    unfold lnI
    rw [if_pos (by omega)]
  · rw [upd_ne e2]
    unfold lnI
    by_cases h2 : j < 20 + i
    · rw [if_pos h2, if_pos (by omega)]
    · rw [if_neg h2, if_neg (by omega)]
theorem lnI_same {lo : List Obj} {i : Nat} (h : lnM lo (20 + i) = zl) : (tab 100 fun j => lnV (lnI lo i j)) = tab 100 fun j => lnV (lnI lo (i + 1) j) := by
  apply tab_congr
  intro j _
  unfold lnI
  by_cases h2 : j < 20 + i
  · rw [if_pos h2, if_pos (by omega)]
  · rw [if_neg h2]
    by_cases h3 : j < 20 + (i + 1)
    · rw [if_pos h3, show j = 20 + i by omega, h]
    · rw [if_neg h3]
theorem lnI_zero {lo : List Obj} : (tab 100 fun j => lnV (lnI lo 0 j)) = tab 100 fun _ => lnV zl := by
  apply tab_congr
  intro j _
  unfold lnI
  by_cases h2 : j < 20 + 0
  · rw [if_pos h2]; unfold lnM; rw [if_neg (by omega)]
  · rw [if_neg h2]
theorem lnI_end {lo : List Obj} {i : Nat} (hi : i = min lo.length 49) : (tab 100 fun j => lnV (lnI lo i j)) = tab 100 fun j => lnV (lnM lo j) := by
  apply tab_congr
  intro j _
  unfold lnI
  by_cases h2 : j < 20 + i
  · rw [if_pos h2]
  · rw [if_neg h2]; unfold lnM; rw [if_neg (by omega)]
theorem entI_end {M : Int} {lo : List Obj} {i : Nat} (hi : i = min lo.length 49) : (tab 49 fun j => (entI M lo i j).v) = tab 49 fun j => (entM M lo j).v := by
  apply tab_congr
  intro j hj
  unfold entI
  by_cases h2 : j < i
  · rw [if_pos h2]
  · rw [if_neg h2]; unfold entM; rw [if_neg (by omega)]
end Go.Proofs.YtpbpgbedkmbfkaaDoor
namespace Go.Proofs.YtpbpgbedkmbfkaaDoor
open Go.Ab

theorem made18_loop0 {s : St} {v : V} {lo : List Obj} (h : RS s 26 v (lo.map Obj.v)) :
    rc D s.loc.length (.loop [0, 4, 5, 6] b_steadfastlaw18_made_0) [(0, v), (4, .sl (.loc s.loc.length) [] 0 100 (some 100) 24), (5, .ptr (.loc (s.loc.length + 1)) [] 48), (6, .int .i64 0)] ⟨s.loc ++ [.rw (.agg 58 (tab 100 fun _ => lnV zl)), .rw (tabV fun _ => noEnt)], s.hp⟩ =
      some (.exit 0, [(0, v), (4, .sl (.loc s.loc.length) [] 0 100 (some 100) 24), (5, .ptr (.loc (s.loc.length + 1)) [] 48), (6, .int .i64 (min lo.length 49 : Nat)), (28, .bool false)], ⟨s.loc ++ [.rw (.agg 58 (tab 100 fun j => lnV (lnM lo j))), .rw (tabV (entM 16777216 lo))], s.hp⟩) := by
  have hr : ∀ X, RS ⟨s.loc ++ X, s.hp⟩ 26 v (lo.map Obj.v) := fun X => h.more ⟨List.prefix_append _ _, List.prefix_rfl⟩
  have hlt := h.locLt
  refine loop_runs (fun x : Nat => [(0, v), (4, .sl (.loc s.loc.length) [] 0 100 (some 100) 24), (5, .ptr (.loc (s.loc.length + 1)) [] 48), (6, .int .i64 x)])
    (fun x => ⟨s.loc ++ [.rw (.agg 58 (tab 100 fun j => lnV (lnI lo x j))), .rw (tabV (entI 16777216 lo x))], s.hp⟩) (fun _ => _) (fun x => 49 - x) (fun x => x ≤ 49 ∧ x ≤ lo.length) 0 ?_ ⟨Nat.zero_le _, Nat.zero_le _⟩ rfl (by simp only [lnI_zero]; rfl)
  rintro i ⟨hi, hi2⟩
  have hrr := fun a b => hr [.rw (.agg 58 a), .rw (.agg 48 b)]
  have hs := h.slen
  rw [List.length_map] at hs
  by_cases c1 : i < lo.length
  · by_cases c2 : i < 49
    · left
      have d1 : (i : Int) < lo.length := by omega
      have d2 : (i : Int) < 49 := by omega
      have d3 : (0 : Int) ≤ i := by omega
      have d4 : IntKind.i64.wrap ((i : Int) + 1) = (i : Int) + 1 := i64_id (by omega) (by omega)
      have d5 : IntKind.i64.wrap (20 + (i : Int)) = ((20 + i : Nat) : Int) := by rw [i64_id (by omega) (by omega)]; omega
      have e1 := locLt_mono (v := v) (show s.loc.length ≤ s.loc.length + 2 by omega) hlt
      have e2 : s.loc.length < s.loc.length + 2 := by omega
      have e3 : s.loc.length + 1 < s.loc.length + 2 := by omega
      have hg := get_map (f := Obj.v) c1 zeroObj
      have hT1 : ∀ b, ((tab 49 fun j => (entI 16777216 lo i j).v).set i b)[i]? = some b := fun b => List.getElem?_set_self (by rw [tab_len]; exact c2)
      have hT0 := tab_get (f := fun j => (entI 16777216 lo i j).v) c2
      have hA0 := tab_get (f := fun j => lnV (lnI lo i j)) (show 20 + i < 100 by omega)
      have q1 := neg_tmod (lo.getD i zeroObj).kind (m := 5) (by omega) (by omega)
      have q2 := neg_tmod (lo.getD i zeroObj).ver (m := 16777216) (by omega) (by omega)
      have sa := sad_all (a := .loc s.loc.length) (e := 24) (show 20 + i < 100 by omega)
      have hem : entM 16777216 lo i = ⟨absm (lo.getD i zeroObj).kind 5, absm (lo.getD i zeroObj).ver 16777216, if absm (lo.getD i zeroObj).kind 5 = 0 then 0 else 20 + i⟩ := if_pos c1
      refine ⟨i + 1, ⟨by omega, by omega⟩, by omega, rfl, ?_⟩
      by_cases hz : absm (lo.getD i zeroObj).kind 5 = 0
      · have hln : lnM lo (20 + i) = zl := by unfold lnM; rw [if_neg]; rw [Nat.add_sub_cancel_left]; exact fun h => h.2.2.2 hz
        rw [if_pos hz] at hem
        have hes := entI_step (congrArg Ent.v hem)
        simp only [tabV]
        rw [← lnI_same hln, ← hes, ← tab_set]
        simp only [Ent.v, lnV] at *
        generalize tab 100 (fun j => V.agg 24 ((lnI lo i j).map (V.int .u64))) = A at *
        generalize tab 49 (fun j => V.agg 42 [.int .i64 (entI 16777216 lo i j).kind, .int .i64 (entI 16777216 lo i j).ver, .int .i64 (entI 16777216 lo i j).line]) = T at *
        have hrr := hrr A T
        generalize lo.getD i zeroObj = o at *
        obtain ⟨k, w, ws⟩ := o
        simp only [Obj.v, absm] at *
        simp only [go_sem, b_steadfastlaw18_made_0, hs, d1, d2, d3, hrr.sadq hg, hrr.fadq hg, hrr.ldq hg, q1, q2]
        rw [Int.toNat_natCast]
        simp only [go_sem, hT0, hz, d4, e1, e2, e3]
        rfl
      · have hln : lnM lo (20 + i) = (lo.getD i zeroObj).l := by unfold lnM; rw [if_pos]; rw [Nat.add_sub_cancel_left]; rw [Nat.add_sub_cancel_left]; exact ⟨by omega, by omega, by omega, hz⟩
        have d6 : ((20 + i : Nat) : Int) = 20 + (i : Int) := by omega
        rw [if_neg hz, ← d6] at hem
        have hes := entI_step (congrArg Ent.v hem)
        have hls := lnI_step (lo := lo) (i := i)
        simp only [tabV]
        rw [← hls, ← hes, ← tab_set, ← tab_set, hln]
        simp only [Ent.v, lnV] at *
        generalize tab 100 (fun j => V.agg 24 ((lnI lo i j).map (V.int .u64))) = A at *
        generalize tab 49 (fun j => V.agg 42 [.int .i64 (entI 16777216 lo i j).kind, .int .i64 (entI 16777216 lo i j).ver, .int .i64 (entI 16777216 lo i j).line]) = T at *
        have hrr := hrr A
        generalize lo.getD i zeroObj = o at *
        obtain ⟨k, w, ws⟩ := o
        simp only [Obj.v, absm] at *
        have hr1 := hrr T
        have hr2 := hrr (T.set i (.agg 42 [.int .i64 (if k.tmod 5 < 0 then -k.tmod 5 else k.tmod 5), .int .i64 (if w.tmod 16777216 < 0 then -w.tmod 16777216 else w.tmod 16777216), .int .i64 ((20 + i : Nat) : Int)]))
        simp only [go_sem, b_steadfastlaw18_made_0, hs, d1, d2, d3, hr1.sadq hg, hr1.fadq hg, hr1.ldq hg, q1, q2]
        rw [Int.toNat_natCast]
        simp only [go_sem, hT0, hz, d2, d3, d5]
        rw [Int.toNat_natCast]
        simp only [go_sem, hT1, d5, List.set_set, hr2.sadq hg, hr2.fadq hg, hr2.ldq hg, sa, hA0, d4, e1, e2, e3]
        rfl
    · right
      have hm : i = min lo.length 49 := by omega
      have d1 : (i : Int) < lo.length := by omega
      have d2 : ¬ (i : Int) < 49 := by omega
      simp only [tabV]
      rw [lnI_end hm, entI_end hm, ← hm]
      simp only [go_sem, b_steadfastlaw18_made_0, hs, d1, d2]
  · right
    have hm : i = min lo.length 49 := by omega
    have d1 : ¬ (i : Int) < lo.length := by omega
    simp only [tabV]
    rw [lnI_end hm, entI_end hm, ← hm]
    simp only [go_sem, b_steadfastlaw18_made_0, hs, d1]
theorem made18_loop1 (s : St) (P4 P5 : V) (L : List Blk) (hL : L.length = 2) (h4 : P4.locLt (s.loc.length + 3) = true) (h5 : P5.locLt (s.loc.length + 3) = true) (hb : L.all (blkLt (s.loc.length + 3)) = true) :
    rc D s.loc.length (.loop [4, 5, 9, 10] b_steadfastlaw18_made_1) [(4, P4), (5, P5), (9, .ptr (.loc (s.loc.length + 2)) [] 50), (10, .int .i64 0)] ⟨s.loc ++ (L ++ [.rw (.agg 50 (tab 8 fun _ => .int .i64 0))]), s.hp⟩ =
      some (.exit 2, [(4, P4), (5, P5), (9, .ptr (.loc (s.loc.length + 2)) [] 50), (10, .int .i64 8), (74, .bool false)], ⟨s.loc ++ (L ++ [.rw (dirV dir10)]), s.hp⟩) := by
  match L, hL with
  | [b0, b1], _ =>
  simp only [List.all_cons, List.all_nil, Bool.and_true, Bool.and_eq_true] at hb
  obtain ⟨hb0, hb1⟩ := hb
  have hend : (tab 8 fun j => V.int .i64 (if j < 8 then dir10 j else 0)) = tab 8 fun j => V.int .i64 (dir10 j) := tab_congr fun j hj => by rw [if_pos hj]
  refine loop_runs (fun x : Nat => [(4, P4), (5, P5), (9, .ptr (.loc (s.loc.length + 2)) [] 50), (10, .int .i64 x)])
    (fun x => ⟨s.loc ++ [b0, b1, .rw (.agg 50 (tab 8 fun j => .int .i64 (if j < x then dir10 j else 0)))], s.hp⟩) (fun _ => _) (fun x => 8 - x) (fun x => x ≤ 8) 0 ?_ (Nat.zero_le _) rfl rfl
  intro i hi
  by_cases c1 : i < 8
  · left
    have d1 : (i : Int) < 8 := by omega
    have d2 : (0 : Int) ≤ i := by omega
    have d4 : IntKind.i64.wrap ((i : Int) + 1) = (i : Int) + 1 := i64_id (by omega) (by omega)
    have d5 : IntKind.i64.wrap (10 + (i : Int)) = 10 + (i : Int) := i64_id (by omega) (by omega)
    have hA0 := tab_get (f := fun j => V.int .i64 (if j < i then dir10 j else 0)) c1
    have hset : (tab 8 fun j => V.int .i64 (if j < i then dir10 j else 0)).set i (.int .i64 (10 + i)) = tab 8 fun j => V.int .i64 (if j < i + 1 then dir10 j else 0) := by
      rw [tab_set]
      apply tab_congr
      intro j _
      by_cases e : j = i
      · subst e; rw [upd_self]; simp [dir10, c1]
      · rw [upd_ne e]
        by_cases h2 : j < i
        · rw [if_pos h2, if_pos (by omega)]
        · rw [if_neg h2, if_neg (by omega)]
    have e2 : s.loc.length + 2 < s.loc.length + 3 := by omega
    refine ⟨i + 1, by omega, by omega, rfl, ?_⟩
    rw [← hset]
    generalize tab 8 (fun j => V.int .i64 (if j < i then dir10 j else 0)) = A at *
    simp only [go_sem, b_steadfastlaw18_made_1, d1, d2, d5]
    rw [Int.toNat_natCast]
    simp only [go_sem, hA0, d4, h4, h5, hb0, hb1, e2]
    rfl
  · right
    have : i = 8 := by omega
    subst this
    simp only [dirV]
    rw [hend]
    simp only [go_sem, b_steadfastlaw18_made_1]
theorem rf_made18 {s : St} {v : V} {lo : List Obj} (h : RS s 26 v (lo.map Obj.v)) :
    ∃ (w : List Nat) (S : List Int) (X : List Blk), OkS w ∧ (∀ j, j < 1024 → bit w j = true → 10 ≤ j ∧ j < 100) ∧ bit w 18 = true ∧ Alike 10 100 w S ∧
      rf D f_steadfastlaw18_made [v] s = some (.tup [.ptr (.hp (s.hp.length + 7)) [] 43, .ptr (.hp (s.hp.length + 10 + X.length)) [] 31], ⟨s.loc, s.hp ++ madeH s.hp.length (entM 16777216 lo) (lnM lo) w S X⟩) := by
  have l0 := made18_loop0 h
  have ht : ∀ i, i < 49 → (entM 16777216 lo i).kind ≠ 0 → (entM 16777216 lo i).line = 20 + i := fun i _ hk => entM_line hk
  generalize entM 16777216 lo = t at *
  generalize lnM lo = ls at *
  have l1 := made18_loop1 s (.sl (.loc s.loc.length) [] 0 100 (some 100) 24) (.ptr (.loc (s.loc.length + 1)) [] 48) [.rw (.agg 58 (tab 100 fun j => lnV (ls j))), .rw (tabV t)] rfl (by simp only [go_sem]; simp) (by simp only [go_sem]; simp) (by simp only [tabV]; simp only [go_sem])
  have hnv := rf_nvm_Of (n := 100) (a := s.loc.length) (ls := ls) (by omega) (by omega) ⟨s.loc ++ [.rw (.agg 58 (tab 100 fun j => lnV (ls j))), .rw (tabV t), .rw (dirV dir10)], s.hp⟩ (by simp)
  have hr3 := rf_ref03_Of (n := 100) (a := s.loc.length) (ls := ls) (by omega) (by omega) ⟨s.loc ++ [.rw (.agg 58 (tab 100 fun j => lnV (ls j))), .rw (tabV t), .rw (dirV dir10)], s.hp ++ [.rw (.agg 57 (tab 100 fun i => nlV (lnV (ls i)) (lnV (ls i)) .nils zfl)), .rw (memV s.hp.length 100 false false 0 0)]⟩ (by simp)
  simp only [List.length_append, List.length_cons, List.length_nil] at hnv hr3
  obtain ⟨w0, ok0, hb0, hob⟩ := rf_objects_Of (m := s.hp.length + 1) (k := s.hp.length) (n := 100) (off := false) (burns := false) (left := 0) (steps := 0) ⟨s.loc ++ [.rw (.agg 58 (tab 100 fun j => lnV (ls j))), .rw (tabV t), .rw (dirV dir10)], s.hp ++ [.rw (.agg 57 (tab 100 fun i => nlV (lnV (ls i)) (lnV (ls i)) .nils zfl)), .rw (memV s.hp.length 100 false false 0 0), .rw (.agg 58 []), .rw (.agg 58 (tab 100 fun i => lnV (ls i))), .rw (.agg 53 (tab 100 fun _ => .nils)), .rw (rmV (s.hp.length + 3) 100 (s.hp.length + 4) false (-1) 0)]⟩ (by simp) 10 (by omega) (by omega) (by omega) t dir10
  obtain ⟨w, htk, okw, hin, h18⟩ := take_all ht ok0 hb0
  rcases hob with ⟨hn, _⟩ | ⟨w', okw', htk', hob⟩
  · exact absurd (hn.symm.trans htk) (by simp)
  have hww : w' = w := by
    have := htk'.symm.trans htk
    simpa using this
  subst hww
  simp only [List.length_append, List.length_cons, List.length_nil] at hob
  have hr10 := rf_ref10_Of (m := s.hp.length + 5) (k := s.hp.length + 3) (k2 := s.hp.length + 4) (n := 100) (off := false) (left := -1) (count := 0) ⟨s.loc ++ [.rw (.agg 58 (tab 100 fun j => lnV (ls j))), .rw (tabV t), .rw (dirV dir10)], s.hp ++ [.rw (.agg 57 (tab 100 fun i => nlV (lnV (ls i)) (lnV (ls i)) .nils zfl)), .rw (memV s.hp.length 100 false false 0 0), .rw (.agg 58 []), .rw (.agg 58 (tab 100 fun i => lnV (ls i))), .rw (.agg 53 (tab 100 fun _ => .nils)), .rw (rmV (s.hp.length + 3) 100 (s.hp.length + 4) false (-1) 0), .rw (frV 10 100 w' (w16 [])), .rw (StF.v ⟨s.hp.length + 1, s.hp.length + 6, t, t, dir10, fun _ => noEnt, false⟩ (shOf t (fun _ => noEnt) false))]⟩ (by simp) 10 (by omega) (by omega) (by omega) t dir10 (allL_in ht) w0 ok0 hb0
  rcases hr10 with ⟨hn, _⟩ | ⟨w2, S, X, htk2, hal, hr10⟩
  · exact absurd (hn.symm.trans htk) (by simp)
  have hww : w2 = w' := by
    have := htk2.symm.trans htk
    simpa using this
  subst hww
  simp only [List.length_append, List.length_cons, List.length_nil] at hr10
  refine ⟨w2, S, X, okw, hin, h18, hal, ?_⟩
  have z1 : V.agg 48 (List.replicate 49 (.agg 42 [.int .i64 0, .int .i64 0, .int .i64 0])) = tabV fun _ => noEnt := by rw [tab_rep]; rfl
  have z2 : List.replicate 100 (V.agg 24 (List.replicate 8 (.int .u64 0))) = tab 100 fun _ => lnV zl := by rw [tab_rep]; rfl
  have z3 : List.replicate 8 (V.int .i64 0) = tab 8 fun _ => V.int .i64 0 := tab_rep _ _
  have hmost : (100 : Int) ≤ (most : Nat) := by unfold most; omega
  simp only [madeH]
  rw [rf_o D_steadfastlaw18_made rfl]
  simp only [tabV, dirV, rmV] at *
  simp only [List.append_assoc, List.cons_append, List.nil_append, Nat.zero_add, Nat.reduceAdd, Nat.add_assoc] at l1 hnv hr3 hob hr10
  simp only [go_sem, z1, z2, hmost, l0]
  simp only [go_sem, z3, l1]
  simp only [go_sem, hnv]
  simp only [go_sem, hr3]
  simp only [go_sem, hob]
  simp only [go_sem, hr10]
  rw [Nat.add_assoc s.hp.length 10 X.length]
end Go.Proofs.YtpbpgbedkmbfkaaDoor
