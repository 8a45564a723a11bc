/-
  ReachA: capabilities, entries, and whom a capability names.
-/
import Derived.Test.YtpbpgbedkmbfkaaCode
import Derived.Test.YtpbpgbedkmbfkaaAb22
import Derived.Test.YtpbpgbedkmbfkaaAb25
import Derived.KernelRfl
set_option maxRecDepth 100000
namespace Go.Proofs.Ytpbpgbedkmbfkaa
open Go.Ab

structure Cap where
  kind : Int
  rights : Int
  id : Int
  ver : Int
  badge : Int
  deriving DecidableEq
def Cap.v (c : Cap) : V := .agg 40 [.int .i64 c.kind, .int .i64 c.rights, .int .i64 c.id, .int .i64 c.ver, .int .i64 c.badge]
def capOf (w : Int) : Cap := ⟨w % 16, w / 16 % 16, w / 256 % 65536, w / 16777216 % 16777216, w / 281474976710656⟩
def noCap : Cap := ⟨0, 0, 0, 0, 0⟩
def within (n a b : Int) : Bool := decide (a ≤ n) && decide (n ≤ b)
def Cap.may (c : Cap) : Bool :=
  within c.kind 1 6 && within c.rights 0 15 && within c.id 0 48 && within c.ver 0 16777215 && within c.badge 0 65535 && (!(decide (c.kind = 5) || decide (c.kind = 6)) || (decide (c.id = 0) && decide (c.ver = 0)))
theorem rf_caps_within (n a b : Int) (s : St) : rf D f_caps_within [.int .i64 n, .int .i64 a, .int .i64 b] s = some (.bool (within n a b), s) := by
  rw [rf_o D_caps_within rfl]
  simp only [go_sem]
  unfold within
  by_cases h : a ≤ n <;> simp [h, go_sem]
theorem rf_caps_may (c : Cap) (s : St) : rf D f_caps_may [c.v] s = some (.bool c.may, s) := by
  rw [rf_o D_caps_may rfl]
  simp only [go_sem, Cap.v, rf_caps_within]
  simp [Cap.may, Bool.and_assoc]
/-- What a word's capability is, if it is one. -/
def capsOf (w : Int) : Cap := if (capOf w).may then capOf w else noCap
theorem rf_caps_Of (w : Int) (h0 : 0 ≤ w) (h1 : w ≤ 18446744073709551615) (s : St) : rf D f_caps_Of [.int .u64 w] s = some (.tup [(capsOf w).v, .bool (capOf w).may], s) := by
  have p1 : iand .u64 w 15 = w % 16 := iand_mask w 4 h0 (by omega) (by decide)
  have p2 : iand .u64 (w / 16) 15 = w / 16 % 16 := iand_mask (w / 16) 4 (by omega) (by omega) (by decide)
  have p3 : iand .u64 (w / 256) 65535 = w / 256 % 65536 := iand_mask (w / 256) 16 (by omega) (by omega) (by decide)
  have p4 : iand .u64 (w / 16777216) 16777215 = w / 16777216 % 16777216 := iand_mask (w / 16777216) 24 (by omega) (by omega) (by decide)
  have q1 : IntKind.i64.wrap (w % 16) = w % 16 := i64_id (by omega) (by omega)
  have q2 : IntKind.i64.wrap (w / 16 % 16) = w / 16 % 16 := i64_id (by omega) (by omega)
  have q3 : IntKind.i64.wrap (w / 256 % 65536) = w / 256 % 65536 := i64_id (by omega) (by omega)
  have q4 : IntKind.i64.wrap (w / 16777216 % 16777216) = w / 16777216 % 16777216 := i64_id (by omega) (by omega)
  have q5 : IntKind.i64.wrap (w / 281474976710656) = w / 281474976710656 := i64_id (by omega) (by omega)
  have f1 : ishr .u64 w 4 = w / 16 := ishr_two w 4 (by decide)
  have f2 : ishr .u64 w 8 = w / 256 := ishr_two w 8 (by decide)
  have f3 : ishr .u64 w 24 = w / 16777216 := ishr_two w 24 (by decide)
  have f4 : ishr .u64 w 48 = w / 281474976710656 := ishr_two w 48 (by decide)
  have hm := fun s => rf_caps_may (capOf w) s
  rw [rf_o D_caps_Of rfl]
  unfold capsOf
  simp only [Cap.v, capOf] at hm ⊢
  simp only [go_sem, f1, f2, f3, f4, p1, p2, p3, p4, q1, q2, q3, q4, q5, hm]
  by_cases hb : (Cap.mk (w % 16) (w / 16 % 16) (w / 256 % 65536) (w / 16777216 % 16777216) (w / 281474976710656)).may = true <;> simp [hb, noCap]
theorem may_id {c : Cap} (h : c.may = true) : 0 ≤ c.id ∧ c.id ≤ 48 := by
  simp only [Cap.may, within, Bool.and_eq_true, decide_eq_true_eq] at h
  exact h.1.1.1.2

/-! ### Entries -/
def entryNames (kind ver id w : Int) : Int :=
  if (!(capOf w).may || decide (4 < (capsOf w).kind)) then 31 else
  if (capsOf w).id ≠ id then 30 else if (capsOf w).ver ≠ ver then 33 else if kind = 0 then 30 else if (capsOf w).kind ≠ kind then 31 else 0
theorem rf_entry_Names (kind ver line id w : Int) (h0 : 0 ≤ w) (h1 : w ≤ 18446744073709551615) (s : St) :
    rf D f_entry_Names [.agg 42 [.int .i64 kind, .int .i64 ver, .int .i64 line], .int .i64 id, .int .u64 w] s = some (.int .i64 (entryNames kind ver id w), s) := by
  have hc := fun s => rf_caps_Of w h0 h1 s
  rw [rf_o D_entry_Names rfl]
  unfold entryNames
  generalize capsOf w = y at hc ⊢
  generalize (capOf w).may = m at hc ⊢
  simp only [Cap.v] at hc
  simp only [go_sem, hc]
  cases m
  · simp [go_sem]
  · by_cases g1 : 4 < y.kind
    · simp [go_sem, g1]
    · by_cases g2 : y.id = id
      · by_cases g3 : y.ver = ver
        · by_cases g4 : kind = 0
          · simp [go_sem, g1, g2, g3, g4]
          · by_cases g5 : y.kind = kind <;> simp [go_sem, g1, g2, g3, g4, g5]
        · simp [go_sem, g1, g2, g3]
      · simp [go_sem, g1, g2]
end Go.Proofs.Ytpbpgbedkmbfkaa
