/-
  CapsB: a capability's word; what may be done: the program's and the document's.
-/
import Derived.Test.YtpbpgbedkmbfkaaC1
set_option maxRecDepth 100000
namespace Go.Proofs.Ytpbpgbedkmbfkaa
open Go.Ab

/-- The word of a capability that may be. -/
def Cap.word (c : Cap) : Int := c.kind + c.rights * 16 + c.id * 256 + c.ver * 16777216 + c.badge * 281474976710656
def capWord (c : Cap) : Int := if c.may then c.word else 0
def capE (c : Cap) : Int := if c.may then 0 else 1
structure Cap.Ok (c : Cap) : Prop where
  k : 1 ≤ c.kind ∧ c.kind ≤ 6
  r : 0 ≤ c.rights ∧ c.rights ≤ 15
  i : 0 ≤ c.id ∧ c.id ≤ 48
  v : 0 ≤ c.ver ∧ c.ver ≤ 16777215
  b : 0 ≤ c.badge ∧ c.badge ≤ 65535
  free : (c.kind = 5 ∨ c.kind = 6) → c.id = 0 ∧ c.ver = 0
theorem may_iff (c : Cap) : c.may = true ↔ c.Ok := by
  simp only [Cap.may, within, Bool.and_eq_true, decide_eq_true_eq, Bool.or_eq_true, Bool.not_eq_true', Bool.or_eq_false_iff, decide_eq_false_iff_not]
  constructor
  · rintro ⟨⟨⟨⟨⟨h1, h2⟩, h3⟩, h4⟩, h5⟩, h6⟩
    exact ⟨h1, h2, h3, h4, h5, by omega⟩
  · rintro ⟨h1, h2, h3, h4, h5, h6⟩
    exact ⟨⟨⟨⟨⟨h1, h2⟩, h3⟩, h4⟩, h5⟩, by omega⟩
theorem Cap.Ok.nats {c : Cap} (h : c.Ok) : ∃ k r i v b : Nat, c = ⟨k, r, i, v, b⟩ ∧ k < 16 ∧ r < 16 ∧ i < 65536 ∧ v < 16777216 ∧ b < 65536 := by
  obtain ⟨k, r, i, v, b⟩ := c
  have h1 := h.k; have h2 := h.r; have h3 := h.i; have h4 := h.v; have h5 := h.b
  simp only at h1 h2 h3 h4 h5
  refine ⟨k.toNat, r.toNat, i.toNat, v.toNat, b.toNat, ?_, by omega, by omega, by omega, by omega, by omega⟩
  simp only [Cap.mk.injEq]
  omega
theorem rf_caps_Word (c : Cap) (s : St) : rf D f_caps_Word [c.v] s = some (.tup [.int .u64 (capWord c), .int .i64 (capE c)], s) := by
  have hm := fun s => rf_caps_may c s
  rw [rf_o D_caps_Word rfl]
  unfold capWord capE
  by_cases h : c.may = true
  · obtain ⟨k, r, i, v, b, rfl, h1, h2, h3, h4, h5⟩ := ((may_iff c).1 h).nats
    simp only [Cap.v] at hm ⊢
    simp only [h, if_true]
    rw [h] at hm
    have q1 : IntKind.u64.wrap (k : Int) = k := u64_id (by omega) (by omega)
    have q2 : IntKind.u64.wrap (r : Int) = r := u64_id (by omega) (by omega)
    have q3 : IntKind.u64.wrap (i : Int) = i := u64_id (by omega) (by omega)
    have q4 : IntKind.u64.wrap (v : Int) = v := u64_id (by omega) (by omega)
    have q5 : IntKind.u64.wrap (b : Int) = b := u64_id (by omega) (by omega)
    obtain ⟨y2, hy2⟩ : ∃ y : Nat, y = r * 16 := ⟨_, rfl⟩
    obtain ⟨y3, hy3⟩ : ∃ y : Nat, y = i * 256 := ⟨_, rfl⟩
    obtain ⟨y4, hy4⟩ : ∃ y : Nat, y = v * 16777216 := ⟨_, rfl⟩
    obtain ⟨y5, hy5⟩ : ∃ y : Nat, y = b * 281474976710656 := ⟨_, rfl⟩
    have s2 : ishl .u64 (r : Int) 4 = (y2 : Int) := by have := ishl_two (r : Int) 4 (by decide); rw [show ((4 : Nat) : Int) = 4 by rfl] at this; rw [this]; omega
    have s3 : ishl .u64 (i : Int) 8 = (y3 : Int) := by have := ishl_two (i : Int) 8 (by decide); rw [show ((8 : Nat) : Int) = 8 by rfl] at this; rw [this]; omega
    have s4 : ishl .u64 (v : Int) 24 = (y4 : Int) := by have := ishl_two (v : Int) 24 (by decide); rw [show ((24 : Nat) : Int) = 24 by rfl] at this; rw [this]; omega
    have s5 : ishl .u64 (b : Int) 48 = (y5 : Int) := by have := ishl_two (b : Int) 48 (by decide); rw [show ((48 : Nat) : Int) = 48 by rfl] at this; rw [this]; omega
    obtain ⟨x2, hx2⟩ : ∃ x : Nat, x = k + y2 := ⟨_, rfl⟩
    obtain ⟨x3, hx3⟩ : ∃ x : Nat, x = x2 + y3 := ⟨_, rfl⟩
    obtain ⟨x4, hx4⟩ : ∃ x : Nat, x = x3 + y4 := ⟨_, rfl⟩
    obtain ⟨x5, hx5⟩ : ∃ x : Nat, x = x4 + y5 := ⟨_, rfl⟩
    have o2 : ior .u64 (k : Int) (y2 : Int) = (x2 : Int) := by have := ior_add (n := k) (m := r) 4 (by omega) (by omega) (by omega); rw [show r * 2 ^ 4 = y2 by omega] at this; rw [this, hx2]
    have o3 : ior .u64 (x2 : Int) (y3 : Int) = (x3 : Int) := by have := ior_add (n := x2) (m := i) 8 (by omega) (by omega) (by omega); rw [show i * 2 ^ 8 = y3 by omega] at this; rw [this, hx3]
    have o4 : ior .u64 (x3 : Int) (y4 : Int) = (x4 : Int) := by have := ior_add (n := x3) (m := v) 24 (by omega) (by omega) (by omega); rw [show v * 2 ^ 24 = y4 by omega] at this; rw [this, hx4]
    have o5 : ior .u64 (x4 : Int) (y5 : Int) = (x5 : Int) := by have := ior_add (n := x4) (m := b) 48 (by omega) (by omega) (by omega); rw [show b * 2 ^ 48 = y5 by omega] at this; rw [this, hx5]
    have e : (x5 : Int) = Cap.word ⟨k, r, i, v, b⟩ := by simp only [Cap.word]; omega
    rw [← e]
    clear e hx5 hx4 hx3 hx2 hy2 hy3 hy4 hy5
    simp only [go_sem, hm]
    simp only [go_sem, q1, q2, q3, q4, q5]
    simp only [go_sem, s2, s3, s4, s5]
    simp only [go_sem, o2, o3, o4, o5]
  · have h' : c.may = false := by simpa using h
    simp only [Cap.v] at hm ⊢
    rw [h'] at hm
    simp only [go_sem, hm, h']
theorem rf_ref07_Word (c : Cap) (s : St) : rf D f_steadfastref07_Word [c.v] s = some (.tup [.int .u64 (capWord c), .int .i64 (capE c)], s) := by
  rw [rf_o D_steadfastref07_Word rfl]
  unfold capWord capE
  by_cases h : c.may = true
  · have hok := (may_iff c).1 h
    obtain ⟨k, r, i, v, b, rfl, h1, h2, h3, h4, h5⟩ := hok.nats
    have hk := hok.k; have hi := hok.i; have hf := hok.free
    simp only at hk hi hf
    simp only [Cap.v]
    simp only [h, if_true]
    have q1 : IntKind.u64.wrap (k : Int) = k := u64_id (by omega) (by omega)
    have q2 : IntKind.u64.wrap (r : Int) = r := u64_id (by omega) (by omega)
    have q3 : IntKind.u64.wrap (i : Int) = i := u64_id (by omega) (by omega)
    have q4 : IntKind.u64.wrap (v : Int) = v := u64_id (by omega) (by omega)
    have q5 : IntKind.u64.wrap (b : Int) = b := u64_id (by omega) (by omega)
    have w1 := fun s => rf_With (w := 0) (a := 0) (b := 4) (v := k) (by decide) (by decide) (by decide) h1 s
    have w2 := fun s => rf_With (w := 0 + k * 2 ^ 0) (a := 4) (b := 4) (v := r) (by decide) (by decide) (by omega) h2 s
    have w3 := fun s => rf_With (w := 0 + k * 2 ^ 0 + r * 2 ^ 4) (a := 8) (b := 16) (v := i) (by decide) (by decide) (by omega) h3 s
    have w4 := fun s => rf_With (w := 0 + k * 2 ^ 0 + r * 2 ^ 4 + i * 2 ^ 8) (a := 24) (b := 24) (v := v) (by decide) (by decide) (by omega) h4 s
    have w5 := fun s => rf_With (w := 0 + k * 2 ^ 0 + r * 2 ^ 4 + i * 2 ^ 8 + v * 2 ^ 24) (a := 48) (b := 16) (v := b) (by decide) (by decide) (by omega) h5 s
    have e : ((0 + k * 2 ^ 0 + r * 2 ^ 4 + i * 2 ^ 8 + v * 2 ^ 24 + b * 2 ^ 48 : Nat) : Int) = Cap.word ⟨k, r, i, v, b⟩ := by simp only [Cap.word]; omega
    rw [← e]
    have c1 : ¬ (k : Int) < 1 := by omega
    have c2 : ¬ 6 < (k : Int) := by omega
    have c3 : ¬ (r : Int) < 0 := by omega
    have c4 : ¬ 15 < (r : Int) := by omega
    have c5 : ¬ (i : Int) < 0 := by omega
    have c6 : ¬ 49 ≤ (i : Int) := by omega
    have c7 : ¬ (v : Int) < 0 := by omega
    have c8 : ¬ 16777215 < (v : Int) := by omega
    have c9 : ¬ (b : Int) < 0 := by omega
    have c10 : ¬ 65535 < (b : Int) := by omega
    generalize 0 + k * 2 ^ 0 + r * 2 ^ 4 + i * 2 ^ 8 + v * 2 ^ 24 + b * 2 ^ 48 = x5 at *
    generalize 0 + k * 2 ^ 0 + r * 2 ^ 4 + i * 2 ^ 8 + v * 2 ^ 24 = x4 at *
    generalize 0 + k * 2 ^ 0 + r * 2 ^ 4 + i * 2 ^ 8 = x3 at *
    generalize 0 + k * 2 ^ 0 + r * 2 ^ 4 = x2 at *
    generalize 0 + k * 2 ^ 0 = x1 at *
    simp only [Int.natCast_zero, show ((4 : Nat) : Int) = 4 by rfl, show ((8 : Nat) : Int) = 8 by rfl, show ((16 : Nat) : Int) = 16 by rfl, show ((24 : Nat) : Int) = 24 by rfl, show ((48 : Nat) : Int) = 48 by rfl] at w1 w2 w3 w4 w5
    by_cases g : (k : Int) = 5
    · obtain ⟨g1, g2⟩ := hf (.inl g)
      obtain rfl : k = 5 := by omega
      obtain rfl : i = 0 := by omega
      obtain rfl : v = 0 := by omega
      simp only [show ((5 : Nat) : Int) = 5 by rfl, Int.natCast_zero] at w1 w2 w3 w4 w5 q1 q3 q4 ⊢
      simp only [go_sem, c3, c4, c9, c10, q1, q2, q3, q5, w1, w2, w3, w4, w5]
    · by_cases g' : (k : Int) = 6
      · obtain ⟨g1, g2⟩ := hf (.inr g')
        obtain rfl : k = 6 := by omega
        obtain rfl : i = 0 := by omega
        obtain rfl : v = 0 := by omega
        simp only [show ((6 : Nat) : Int) = 6 by rfl, Int.natCast_zero] at w1 w2 w3 w4 w5 q1 q3 q4 ⊢
        simp only [go_sem, c3, c4, c9, c10, q1, q2, q3, q5, w1, w2, w3, w4, w5]
      · simp only [go_sem, c1, c2, c3, c4, c5, c6, c7, c8, c9, c10, g, g', q1, q2, q3, q4, q5, w1, w2, w3, w4, w5]
  · have h' : c.may = false := by simpa using h
    have hn : ¬ c.Ok := fun ho => h ((may_iff c).2 ho)
    obtain ⟨k, r, i, v, b⟩ := c
    simp only [Cap.v, h']
    by_cases c1 : k < 1
    · simp [go_sem, c1]
    by_cases c2 : 6 < k
    · simp [go_sem, c1, c2]
    by_cases c3 : r < 0
    · simp [go_sem, c1, c2, c3]
    by_cases c4 : 15 < r
    · simp [go_sem, c1, c2, c3, c4]
    by_cases c5 : i < 0
    · simp [go_sem, c1, c2, c3, c4, c5]
    by_cases c6 : 49 ≤ i
    · simp [go_sem, c1, c2, c3, c4, c5, c6]
    by_cases c7 : v < 0
    · simp [go_sem, c1, c2, c3, c4, c5, c6, c7]
    by_cases c8 : 16777215 < v
    · simp [go_sem, c1, c2, c3, c4, c5, c6, c7, c8]
    by_cases c9 : b < 0
    · simp [go_sem, c1, c2, c3, c4, c5, c6, c7, c8, c9]
    by_cases c10 : 65535 < b
    · simp [go_sem, c1, c2, c3, c4, c5, c6, c7, c8, c9, c10]
    have g : k = 5 ∨ k = 6 := by
      by_cases g : k = 5 ∨ k = 6
      · exact g
      · exact absurd ⟨by simp only; omega, by simp only; omega, by simp only; omega, by simp only; omega, by simp only; omega, fun hg => absurd hg g⟩ hn
    have g2 : ¬ i = 0 ∨ ¬ v = 0 := by
      by_cases g2 : i = 0 ∧ v = 0
      · exact absurd ⟨by simp only; omega, by simp only; omega, by simp only; omega, by simp only; omega, by simp only; omega, fun _ => g2⟩ hn
      · omega
    by_cases g3 : k = 5
    · by_cases g4 : i = 0
      · have g5 : ¬ v = 0 := by omega
        simp [go_sem, c3, c4, c7, c8, c9, c10, g3, g4, g5]
      · simp [go_sem, c3, c4, c5, c6, c7, c8, c9, c10, g3, g4]
    · have g3' : k = 6 := by omega
      by_cases g4 : i = 0
      · have g5 : ¬ v = 0 := by omega
        simp [go_sem, c3, c4, c7, c8, c9, c10, g3', g4, g5]
      · simp [go_sem, c3, c4, c5, c6, c7, c8, c9, c10, g3', g4]
theorem word_capOf {w : Int} : (capOf w).word = w := by
  simp only [Cap.word, capOf]
  omega
theorem rf_ref07_Of (w : Int) (h0 : 0 ≤ w) (h1 : w ≤ 18446744073709551615) (s : St) : rf D f_steadfastref07_Of [.int .u64 w] s = some (.tup [(capsOf w).v, .bool (capOf w).may], s) := by
  obtain ⟨n, rfl⟩ : ∃ n : Nat, w = n := ⟨w.toNat, by omega⟩
  have hw := fun s => rf_ref07_Word (capOf n) s
  have hwc := word_capOf (w := (n : Int))
  have f1 := fun s => rf_Field1 (w := n) (a := 0) (b := 4) (by decide) (by decide) (by omega) s
  have f2 := fun s => rf_Field1 (w := n) (a := 4) (b := 4) (by decide) (by decide) (by omega) s
  have f3 := fun s => rf_Field1 (w := n) (a := 8) (b := 16) (by decide) (by decide) (by omega) s
  have f4 := fun s => rf_Field1 (w := n) (a := 24) (b := 24) (by decide) (by decide) (by omega) s
  have f5 := fun s => rf_Field1 (w := n) (a := 48) (b := 16) (by decide) (by decide) (by omega) s
  have q1 : IntKind.i64.wrap ((n / 2 ^ 0 % 2 ^ 4 : Nat) : Int) = (n : Int) % 16 := by rw [i64_id (by omega) (by omega)]; omega
  have q2 : IntKind.i64.wrap ((n / 2 ^ 4 % 2 ^ 4 : Nat) : Int) = (n : Int) / 16 % 16 := by rw [i64_id (by omega) (by omega)]; omega
  have q3 : IntKind.i64.wrap ((n / 2 ^ 8 % 2 ^ 16 : Nat) : Int) = (n : Int) / 256 % 65536 := by rw [i64_id (by omega) (by omega)]; omega
  have q4 : IntKind.i64.wrap ((n / 2 ^ 24 % 2 ^ 24 : Nat) : Int) = (n : Int) / 16777216 % 16777216 := by rw [i64_id (by omega) (by omega)]; omega
  have q5 : IntKind.i64.wrap ((n / 2 ^ 48 % 2 ^ 16 : Nat) : Int) = (n : Int) / 281474976710656 := by rw [i64_id (by omega) (by omega)]; omega
  simp only [Int.natCast_zero, show ((4 : Nat) : Int) = 4 by rfl, show ((8 : Nat) : Int) = 8 by rfl, show ((16 : Nat) : Int) = 16 by rfl, show ((24 : Nat) : Int) = 24 by rfl, show ((48 : Nat) : Int) = 48 by rfl] at f1 f2 f3 f4 f5
  generalize n / 2 ^ 0 % 2 ^ 4 = y1 at *
  generalize n / 2 ^ 4 % 2 ^ 4 = y2 at *
  generalize n / 2 ^ 8 % 2 ^ 16 = y3 at *
  generalize n / 2 ^ 24 % 2 ^ 24 = y4 at *
  generalize n / 2 ^ 48 % 2 ^ 16 = y5 at *
  unfold capsOf
  simp only [capWord, capE] at hw
  by_cases hb : (capOf n).may = true
  · simp only [hb, if_true, hwc] at hw ⊢
    simp only [capOf, Cap.v] at hw ⊢
    generalize (n : Int) % 16 = z1 at *
    generalize (n : Int) / 16 % 16 = z2 at *
    generalize (n : Int) / 256 % 65536 = z3 at *
    generalize (n : Int) / 16777216 % 16777216 = z4 at *
    generalize (n : Int) / 281474976710656 = z5 at *
    rw [rf_o D_steadfastref07_Of rfl]
    simp only [go_sem, f1, f2, f3, f4, f5, q1, q2, q3, q4, q5, hw]
  · have hb' : (capOf n).may = false := by simpa using hb
    simp only [hb'] at hw ⊢
    simp only [capOf, Cap.v, noCap] at hw ⊢
    generalize (n : Int) % 16 = z1 at *
    generalize (n : Int) / 16 % 16 = z2 at *
    generalize (n : Int) / 256 % 65536 = z3 at *
    generalize (n : Int) / 16777216 % 16777216 = z4 at *
    generalize (n : Int) / 281474976710656 = z5 at *
    simp only [Bool.false_eq_true, if_false] at hw ⊢
    rw [rf_o D_steadfastref07_Of rfl]
    simp only [go_sem, f1, f2, f3, f4, f5, q1, q2, q3, q4, q5, hw]
end Go.Proofs.Ytpbpgbedkmbfkaa
