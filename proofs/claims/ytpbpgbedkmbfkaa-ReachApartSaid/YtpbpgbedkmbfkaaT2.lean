/-
  YtpbpgbedkmbfkaaT2: what functions of the program compute (RegA, RegB, RegC).
-/
import Derived.Test.YtpbpgbedkmbfkaaT1
set_option maxRecDepth 100000
namespace Go.Proofs.Ytpbpgbedkmbfkaa
open Go.Ab

theorem rf_rwithin (n a b : Int) (s : St) : rf D f_regs_within [.int .i64 n, .int .i64 a, .int .i64 b] s = some (.bool (within n a b), s) := by
  rw [rf_o D_regs_within rfl]
  unfold within
  by_cases h : a ≤ n
  · simp [go_sem, h]
  · simp [go_sem, h]
structure Thr where
  pc : Int
  r0 : Int
  r1 : Int
  r2 : Int
  r3 : Int
  sp : Int
  ky : Int
  st : Int
  at' : Int
  sl : Int
  fl : Int
def Thr.v (t : Thr) : V := .agg 64 [.int .i64 t.pc, .agg 62 [.int .u64 t.r0, .int .u64 t.r1, .int .u64 t.r2, .int .u64 t.r3], .int .u64 t.sp, .int .u64 t.ky, .int .i64 t.st, .int .i64 t.at', .int .i64 t.sl, .int .i64 t.fl]
def rightB (st a sl fl : Int) : Bool :=
  if st = 3 then within a 0 48 && within sl 0 7 && within fl 0 1 else
  if st = 4 then within a 0 48 && within sl 0 7 && decide (fl = 0) else
  if st = 5 then within a 0 255 && decide (sl = 0) && decide (fl = 0) else
  if st = 1 ∨ st = 2 then decide (a = 0) && decide (sl = 0) && decide (fl = 0) else false
theorem rf_right (t : Thr) (s : St) : rf D f_regs_right [t.v] s = some (.bool (rightB t.st t.at' t.sl t.fl), s) := by
  obtain ⟨pc, r0, r1, r2, r3, sp, ky, st, a, sl, fl⟩ := t
  have h1 := fun s => rf_rwithin a 0 48 s
  have h2 := fun s => rf_rwithin sl 0 7 s
  have h3 := fun s => rf_rwithin fl 0 1 s
  have h4 := fun s => rf_rwithin a 0 255 s
  simp only [Thr.v]
  unfold rightB
  generalize within a 0 48 = w1 at *
  generalize within sl 0 7 = w2 at *
  generalize within fl 0 1 = w3 at *
  generalize within a 0 255 = w4 at *
  rw [rf_o D_regs_right rfl]
  by_cases e3 : st = 3
  · cases w1
    · simp [go_sem, e3, h1]
    · cases w2
      · simp [go_sem, e3, h1, h2]
      · simp [go_sem, e3, h1, h2, h3]
  · by_cases e4 : st = 4
    · cases w1
      · simp [go_sem, e4, h1]
      · cases w2
        · simp [go_sem, e4, h1, h2]
        · simp [go_sem, e4, h1, h2]
    · by_cases e5 : st = 5
      · cases w4
        · simp [go_sem, e5, h4]
        · by_cases g : sl = 0
          · simp [go_sem, e5, h4, g]
          · simp [go_sem, e5, h4, g]
      · by_cases e1 : st = 1
        · by_cases g1 : a = 0
          · by_cases g2 : sl = 0
            · simp [go_sem, e1, g1, g2]
            · simp [go_sem, e1, g1, g2]
          · simp [go_sem, e1, g1]
        · by_cases e2 : st = 2
          · by_cases g1 : a = 0
            · by_cases g2 : sl = 0
              · simp [go_sem, e2, g1, g2]
              · simp [go_sem, e2, g1, g2]
            · simp [go_sem, e2, g1]
          · simp [go_sem, e1, e2, e3, e4, e5]
theorem rf_mask {b : Nat} (hb : 1 ≤ b) (hb2 : b ≤ 64) (hm : 18446744073709551615 / 2 ^ (64 - b) = 2 ^ b - 1) (s : St) : rf D f_word_mask [.int .i64 b] s = some (.int .u64 (2 ^ b - 1 : Nat), s) := by
  have e1 : IntKind.i64.wrap (64 - (b : Int)) = ((64 - b : Nat) : Int) := by rw [i64_id (by omega) (by omega)]; omega
  have e2 : ishr .u64 18446744073709551615 ((64 - b : Nat) : Int) = ((2 ^ b - 1 : Nat) : Int) := by
    rw [ishr_two 18446744073709551615 (64 - b) (by omega), ← hm, Int.natCast_ediv, Int.natCast_pow]; rfl
  have e3 : ¬ ((64 - b : Nat) : Int) < 0 := by omega
  generalize 64 - b = q at *
  generalize 2 ^ b - 1 = z at *
  rw [rf_o D_word_mask rfl]
  simp only [go_sem, e1, e2, e3]
theorem rf_wfield {a b : Nat} (hb : 1 ≤ b) (hab : a + b ≤ 64) (s : St) : rf D f_word_field [.int .i64 a, .int .i64 b] s = some (.bool true, s) := by
  have e1 : IntKind.i64.wrap (64 - (a : Int)) = 64 - (a : Int) := i64_id (by omega) (by omega)
  have c1 : (0 : Int) ≤ a := by omega
  have c2 : (a : Int) < 64 := by omega
  have c3 : (1 : Int) ≤ b := by omega
  have c4 : (b : Int) ≤ 64 - a := by omega
  rw [rf_o D_word_field rfl]
  simp only [go_sem, c1, c2, c3, e1, c4]
theorem rf_wField {w a b : Nat} (hb : 1 ≤ b) (hab : a + b ≤ 64) (hw : w < 18446744073709551616) (hm : 18446744073709551615 / 2 ^ (64 - b) = 2 ^ b - 1) (s : St) :
    rf D f_word_Field [.int .u64 w, .int .i64 a, .int .i64 b] s = some (.int .u64 (w / 2 ^ a % 2 ^ b : Nat), s) := by
  have h1 := fun s => rf_wfield hb hab s
  have h2 := fun s => rf_mask hb (by omega) hm s
  have e1 : ishr .u64 (w : Int) (a : Int) = ((w / 2 ^ a : Nat) : Int) := by
    rw [ishr_two (w : Int) a (by omega), Int.natCast_ediv, Int.natCast_pow]; rfl
  have e2 : iand .u64 ((w / 2 ^ a : Nat) : Int) ((2 ^ b - 1 : Nat) : Int) = ((w / 2 ^ a % 2 ^ b : Nat) : Int) := by
    have hlt : w / 2 ^ a < 18446744073709551616 := Nat.lt_of_le_of_lt (Nat.div_le_self _ _) hw
    generalize w / 2 ^ a = y at *
    have := iand_mask (y : Int) b (by omega) (by omega) (by omega)
    have hp := Nat.two_pow_pos b
    rw [show ((2 ^ b - 1 : Nat) : Int) = 2 ^ b - 1 by rw [Int.natCast_sub hp, Int.natCast_pow]; rfl, this, Int.natCast_emod, Int.natCast_pow]; rfl
  have e3 : ¬ (a : Int) < 0 := by omega
  generalize w / 2 ^ a % 2 ^ b = z at *
  generalize w / 2 ^ a = y at *
  generalize 2 ^ b - 1 = m at *
  rw [rf_o D_word_Field rfl]
  simp only [go_sem, h1, h2, e1, e2, e3]
theorem rf_Number {w : Nat} (hw : w < 18446744073709551616) (s : St) : rf D f_word_Number [.int .u64 w, .int .i64 1099511627776] s = some (if w ≤ 1099511627776 then .tup [.int .i64 w, .int .i64 0] else .tup [.int .i64 0, .int .i64 2], s) := by
  have e0 : IntKind.u64.wrap 1099511627776 = 1099511627776 := u64_id (by omega) (by omega)
  rw [rf_o D_word_Number rfl]
  by_cases h : w ≤ 1099511627776
  · have h1 : ¬ 1099511627776 < (w : Int) := by omega
    have e1 : IntKind.i64.wrap (w : Int) = w := i64_id (by omega) (by omega)
    simp only [go_sem, e0, h1, e1, h, if_true]
  · have h1 : 1099511627776 < (w : Int) := by omega
    simp only [go_sem, e0, h1, h, if_false]
theorem rf_rNumber {w : Nat} (hw : w < 18446744073709551616) (s : St) : rf D f_steadfastref01_Number [.int .u64 w, .int .i64 1099511627776] s = some (if w ≤ 1099511627776 then .tup [.int .i64 w, .int .i64 0] else .tup [.int .i64 0, .int .i64 2], s) := by
  have e0 : IntKind.u64.wrap 1099511627776 = 1099511627776 := u64_id (by omega) (by omega)
  rw [rf_o D_steadfastref01_Number rfl]
  by_cases h : w ≤ 1099511627776
  · have h1 : ¬ 1099511627776 < (w : Int) := by omega
    have e1 : IntKind.i64.wrap (w : Int) = w := i64_id (by omega) (by omega)
    simp only [go_sem, e0, h1, e1, h, if_true]
  · have h1 : 1099511627776 < (w : Int) := by omega
    simp only [go_sem, e0, h1, h, if_false]
end Go.Proofs.Ytpbpgbedkmbfkaa
namespace Go.Proofs.Ytpbpgbedkmbfkaa
open Go.Ab

/-- A line of these eight words. -/
def l8V (a b c d e f g h : Int) : V := .agg 24 [.int .u64 a, .int .u64 b, .int .u64 c, .int .u64 d, .int .u64 e, .int .u64 f, .int .u64 g, .int .u64 h]
def l8Z : V := .agg 24 (List.replicate 8 (.int .u64 0))
def thrZ : Thr := ⟨0, 0, 0, 0, 0, 0, 0, 0, 0, 0, 0⟩
theorem copy_regs {base n : Nat} {L hp : List Blk} (hn : n = L.length) (hb : base = n) {p0 p2 p3 p4 p5 p6 p7 Z : V} {z0 z5 z6 : Int} {r0 r1 r2 r3 : Int} :
    vcopy base 18 (.sl (.loc (n + 2)) [] 1 7 (some 7) 18) (.sl (.loc n) [1] 0 4 (some 4) 18)
      ⟨L ++ [.rw (.agg 64 [p0, .agg 62 [.int .u64 r0, .int .u64 r1, .int .u64 r2, .int .u64 r3], p2, p3, p4, p5, p6, p7]), .rw Z, .rw (.agg 24 [.int .u64 z0, .int .u64 0, .int .u64 0, .int .u64 0, .int .u64 0, .int .u64 z5, .int .u64 z6, .int .u64 0])], hp⟩ =
    some (.int .i64 4, ⟨L ++ [.rw (.agg 64 [p0, .agg 62 [.int .u64 r0, .int .u64 r1, .int .u64 r2, .int .u64 r3], p2, p3, p4, p5, p6, p7]), .rw Z, .rw (.agg 24 [.int .u64 z0, .int .u64 r0, .int .u64 r1, .int .u64 r2, .int .u64 r3, .int .u64 z5, .int .u64 z6, .int .u64 0])], hp⟩) := by
  subst hn hb
  unfold vcopy
  simp [V.slIs, V.elIs, St.elems, go_sem]
theorem rf_rLine {pc st a sl fl : Nat} (r0 r1 r2 r3 sp ky : Int) (hpc : pc ≤ 1099511627776) (hst : st < 16) (ha : a < 65536) (hsl : sl < 16) (hfl : fl < 2) (s : St) :
    rf D f_regs_Line [Thr.v ⟨pc, r0, r1, r2, r3, sp, ky, st, a, sl, fl⟩] s = some (if rightB st a sl fl then .tup [l8V pc r0 r1 r2 r3 sp ky (st + a * 16 + sl * 1048576 + fl * 16777216 : Nat), .int .i64 0] else .tup [l8Z, .int .i64 1], s) := by
  have hr := fun s => rf_right ⟨pc, r0, r1, r2, r3, sp, ky, st, a, sl, fl⟩ s
  have hw := fun s => rf_rwithin pc 0 1099511627776 s
  rw [show within pc 0 1099511627776 = true by unfold within; simp; omega] at hw
  simp only [Thr.v] at *
  by_cases hb : rightB st a sl fl = true
  · rw [hb] at hr
    rw [if_pos hb]
    have q0 : IntKind.u64.wrap (pc : Int) = pc := u64_id (by omega) (by omega)
    have q1 : IntKind.u64.wrap (st : Int) = st := u64_id (by omega) (by omega)
    have q2 : IntKind.u64.wrap (a : Int) = a := u64_id (by omega) (by omega)
    have q3 : IntKind.u64.wrap (sl : Int) = sl := u64_id (by omega) (by omega)
    have q4 : IntKind.u64.wrap (fl : Int) = fl := u64_id (by omega) (by omega)
    obtain ⟨y2, hy2⟩ : ∃ y : Nat, y = a * 16 := ⟨_, rfl⟩
    obtain ⟨y3, hy3⟩ : ∃ y : Nat, y = sl * 1048576 := ⟨_, rfl⟩
    obtain ⟨y4, hy4⟩ : ∃ y : Nat, y = fl * 16777216 := ⟨_, rfl⟩
    have s2 : ishl .u64 (a : Int) 4 = (y2 : Int) := by have := ishl_two (a : Int) 4 (by decide); rw [show ((4 : Nat) : Int) = 4 by rfl] at this; rw [this]; omega
    have s3 : ishl .u64 (sl : Int) 20 = (y3 : Int) := by have := ishl_two (sl : Int) 20 (by decide); rw [show ((20 : Nat) : Int) = 20 by rfl] at this; rw [this]; omega
    have s4 : ishl .u64 (fl : Int) 24 = (y4 : Int) := by have := ishl_two (fl : Int) 24 (by decide); rw [show ((24 : Nat) : Int) = 24 by rfl] at this; rw [this]; omega
    obtain ⟨x2, hx2⟩ : ∃ x : Nat, x = st + y2 := ⟨_, rfl⟩
    obtain ⟨x3, hx3⟩ : ∃ x : Nat, x = x2 + y3 := ⟨_, rfl⟩
    obtain ⟨x4, hx4⟩ : ∃ x : Nat, x = x3 + y4 := ⟨_, rfl⟩
    have o2 : ior .u64 (st : Int) (y2 : Int) = (x2 : Int) := by have := ior_add (n := st) (m := a) 4 (by omega) (by omega) (by omega); rw [show a * 2 ^ 4 = y2 by omega] at this; rw [this, hx2]
    have o3 : ior .u64 (x2 : Int) (y3 : Int) = (x3 : Int) := by have := ior_add (n := x2) (m := sl) 20 (by omega) (by omega) (by omega); rw [show sl * 2 ^ 20 = y3 by omega] at this; rw [this, hx3]
    have o4 : ior .u64 (x3 : Int) (y4 : Int) = (x4 : Int) := by have := ior_add (n := x3) (m := fl) 24 (by omega) (by omega) (by omega); rw [show fl * 2 ^ 24 = y4 by omega] at this; rw [this, hx4]
    have e : (st + a * 16 + sl * 1048576 + fl * 16777216 : Nat) = x4 := by omega
    rw [e]
    clear e hx4 hx3 hx2 hy2 hy3 hy4 hb
    have hcp := fun Z => copy_regs (L := s.loc) (hp := s.hp) rfl (rfl : s.loc.length = s.loc.length) (p0 := .int .i64 pc) (p2 := .int .u64 sp) (p3 := .int .u64 ky) (p4 := .int .i64 st) (p5 := .int .i64 a) (p6 := .int .i64 sl) (p7 := .int .i64 fl) (Z := Z) (z0 := pc) (z5 := sp) (z6 := ky) (r0 := r0) (r1 := r1) (r2 := r2) (r3 := r3)
    rw [rf_o D_regs_Line rfl]
    simp only [l8V, go_sem, hr, hw, List.replicate, q0, hcp]
    simp only [go_sem, q1, q2, q3, q4, s2, s3, s4, o2, o3, o4]
  · have hb' : rightB st a sl fl = false := by simpa using hb
    rw [hb'] at hr
    rw [hb', if_neg (by simp)]
    rw [rf_o D_regs_Line rfl]
    simp only [l8Z, go_sem, hr]
theorem veqs_ints {k : IntKind} : ∀ {A B : List Int}, A.length = B.length → veqs (A.map (.int k)) (B.map (.int k)) = some (decide (A = B))
  | [], [], _ => by simp [veqs]
  | a :: A, b :: B, h => by
    have ih := veqs_ints (k := k) (A := A) (B := B) (by simpa using h)
    simp only [List.map_cons, veqs, veq, if_true, ih]
    by_cases hab : a = b
    · subst hab; simp
    · simp [hab]
  | [], _ :: _, h => by simp at h
  | _ :: _, [], h => by simp at h
theorem veq_line (a b c d e f g x y : Int) : veq (l8V a b c d e f g x) (l8V a b c d e f g y) = some (decide (x = y)) := by
  have := veqs_ints (k := .u64) (A := [a, b, c, d, e, f, g, x]) (B := [a, b, c, d, e, f, g, y]) rfl
  simp only [l8V]
  show (if 24 = 24 then veqs _ _ else none) = _
  rw [if_pos rfl]
  refine this.trans ?_
  simp
/-- Whether a line is a thread: by its first and its last word. -/
def thrR (l0 l7 : Nat) : Bool := decide (l0 ≤ 1099511627776) && rightB (l7 % 16 : Nat) (l7 / 16 % 65536 : Nat) (l7 / 1048576 % 16 : Nat) (l7 / 16777216 % 2 : Nat) && decide (l7 % 16 + l7 / 16 % 65536 * 16 + l7 / 1048576 % 16 * 1048576 + l7 / 16777216 % 2 * 16777216 = l7)
def thrOf (l0 : Nat) (l1 l2 l3 l4 l5 l6 : Int) (l7 : Nat) : Thr := ⟨l0, l1, l2, l3, l4, l5, l6, (l7 % 16 : Nat), (l7 / 16 % 65536 : Nat), (l7 / 1048576 % 16 : Nat), (l7 / 16777216 % 2 : Nat)⟩
theorem copy_back {base n : Nat} {L hp : List Blk} (hn : n = L.length) (hb : base = n) {p0 p2 p3 p4 p5 p6 p7 Z : V} {l0 l1 l2 l3 l4 l5 l6 l7 : Int} :
    vcopy base 18 (.sl (.loc (n + 2)) [1] 0 4 (some 4) 18) (.sl (.loc n) [] 1 7 (some 7) 18)
      ⟨L ++ [.rw (l8V l0 l1 l2 l3 l4 l5 l6 l7), .rw Z, .rw (.agg 64 [p0, .agg 62 [.int .u64 0, .int .u64 0, .int .u64 0, .int .u64 0], p2, p3, p4, p5, p6, p7])], hp⟩ =
    some (.int .i64 4, ⟨L ++ [.rw (l8V l0 l1 l2 l3 l4 l5 l6 l7), .rw Z, .rw (.agg 64 [p0, .agg 62 [.int .u64 l1, .int .u64 l2, .int .u64 l3, .int .u64 l4], p2, p3, p4, p5, p6, p7])], hp⟩) := by
  subst hn hb
  unfold vcopy
  simp [V.slIs, V.elIs, St.elems, go_sem, l8V]
theorem rf_part {a b : Nat} (hb : 1 ≤ b) (hab : a + b ≤ 63) (hm : 18446744073709551615 / 2 ^ (64 - b) = 2 ^ b - 1) (hb2 : b ≤ 40) {L hp : List Blk} (l0 l1 l2 l3 l4 l5 l6 : Int) {l7 : Nat} (h7 : l7 < 18446744073709551616) (X : List Blk) :
    rf D f_regs_Of_1 [.int .i64 a, .int .i64 b, .ptr (.loc L.length) [] 24] ⟨L ++ .rw (l8V l0 l1 l2 l3 l4 l5 l6 l7) :: X, hp⟩ = some (.int .i64 (l7 / 2 ^ a % 2 ^ b : Nat), ⟨L ++ .rw (l8V l0 l1 l2 l3 l4 l5 l6 l7) :: X, hp⟩) := by
  have hf := fun s => rf_wField (w := l7) hb (show a + b ≤ 64 by omega) h7 hm s
  have hlt : l7 / 2 ^ a % 2 ^ b < 2 ^ 40 := Nat.lt_of_lt_of_le (Nat.mod_lt _ (Nat.two_pow_pos b)) (Nat.pow_le_pow_right (by decide) hb2)
  have e1 : IntKind.i64.wrap ((l7 / 2 ^ a % 2 ^ b : Nat) : Int) = (l7 / 2 ^ a % 2 ^ b : Nat) := i64_id (by omega) (by omega)
  generalize l7 / 2 ^ a % 2 ^ b = z at *
  have hrd : (L ++ .rw (l8V l0 l1 l2 l3 l4 l5 l6 l7) :: X)[L.length]? = some (.rw (l8V l0 l1 l2 l3 l4 l5 l6 l7)) := by
    rw [List.getElem?_append_right (Nat.le_refl _), Nat.sub_self]; rfl
  generalize L ++ .rw (l8V l0 l1 l2 l3 l4 l5 l6 l7) :: X = L2 at *
  simp only [l8V] at hrd
  rw [rf_o D_regs_Of_1 rfl]
  simp only [go_sem, hrd, hf, e1]
theorem rf_regs_Of (l0 : Nat) (l1 l2 l3 l4 l5 l6 : Int) (l7 : Nat) (h0 : l0 < 18446744073709551616) (h7 : l7 < 18446744073709551616) (s : St) :
    rf D f_regs_Of [l8V l0 l1 l2 l3 l4 l5 l6 l7] s = some (if thrR l0 l7 then .tup [(thrOf l0 l1 l2 l3 l4 l5 l6 l7).v, .bool true] else .tup [thrZ.v, .bool false], s) := by
  have hn := fun s => rf_Number h0 s
  have f1 := fun X => rf_part (a := 0) (b := 4) (by decide) (by decide) (by decide) (by decide) (L := s.loc) (hp := s.hp) l0 l1 l2 l3 l4 l5 l6 h7 X
  have f2 := fun X => rf_part (a := 4) (b := 16) (by decide) (by decide) (by decide) (by decide) (L := s.loc) (hp := s.hp) l0 l1 l2 l3 l4 l5 l6 h7 X
  have f3 := fun X => rf_part (a := 20) (b := 4) (by decide) (by decide) (by decide) (by decide) (L := s.loc) (hp := s.hp) l0 l1 l2 l3 l4 l5 l6 h7 X
  have f4 := fun X => rf_part (a := 24) (b := 1) (by decide) (by decide) (by decide) (by decide) (L := s.loc) (hp := s.hp) l0 l1 l2 l3 l4 l5 l6 h7 X
  unfold thrR thrOf
  by_cases hp : l0 ≤ 1099511627776
  · have hl := fun s => rf_rLine l1 l2 l3 l4 l5 l6 hp (show l7 % 16 < 16 by omega) (show l7 / 16 % 65536 < 65536 by omega) (show l7 / 1048576 % 16 < 16 by omega) (show l7 / 16777216 % 2 < 2 by omega) s
    rw [if_pos hp] at hn
    simp only [show l7 / 2 ^ 0 % 2 ^ 4 = l7 % 16 by omega, show l7 / 2 ^ 4 % 2 ^ 16 = l7 / 16 % 65536 by omega, show l7 / 2 ^ 20 % 2 ^ 4 = l7 / 1048576 % 16 by omega, show l7 / 2 ^ 24 % 2 ^ 1 = l7 / 16777216 % 2 by omega] at f1 f2 f3 f4
    have hcb := fun Z p4 p5 p6 p7 => copy_back (L := s.loc) (hp := s.hp) rfl (rfl : s.loc.length = s.loc.length) (p0 := .int .i64 l0) (p2 := .int .u64 l5) (p3 := .int .u64 l6) (p4 := p4) (p5 := p5) (p6 := p6) (p7 := p7) (Z := Z) (l0 := l0) (l1 := l1) (l2 := l2) (l3 := l3) (l4 := l4) (l5 := l5) (l6 := l6) (l7 := l7)
    generalize hw : l7 % 16 + l7 / 16 % 65536 * 16 + l7 / 1048576 % 16 * 1048576 + l7 / 16777216 % 2 * 16777216 = w at *
    generalize l7 % 16 = st at *
    generalize l7 / 16 % 65536 = a at *
    generalize l7 / 1048576 % 16 = sl at *
    generalize l7 / 16777216 % 2 = fl at *
    generalize rightB st a sl fl = rb at *
    simp only [Int.natCast_zero, show ((4 : Nat) : Int) = 4 by rfl, show ((1 : Nat) : Int) = 1 by rfl, show ((16 : Nat) : Int) = 16 by rfl, show ((20 : Nat) : Int) = 20 by rfl, show ((24 : Nat) : Int) = 24 by rfl] at f1 f2 f3 f4
    rw [decide_eq_true hp, Bool.true_and]
    clear hp
    simp only [l8V, l8Z, Thr.v, thrZ] at *
    have ek : (if s.loc.length < s.loc.length then s.loc.length else max 0 (max 0 (max (s.loc.length + 1) s.loc.length))) = s.loc.length + 1 := by rw [if_neg (by omega)]; omega
    have ek1 : s.loc.length < s.loc.length + 1 := by omega
    have ek2 : s.loc.length ≤ s.loc.length + 1 := by omega
    have ek3 : s.loc.length + 1 ≤ s.loc.length + 2 := by omega
    rw [rf_o D_regs_Of rfl]
    simp only [go_sem, List.replicate, hn]
    simp only [ek]
    simp only [go_sem, ek1, ek2, ek3, f1, f2, f3, f4]
    simp only [go_sem, List.replicate, hcb]
    have hq := veq_line l0 l1 l2 l3 l4 l5 l6 w l7
    have ht : ∀ z : Int, (l8V l0 l1 l2 l3 l4 l5 l6 z).tag = 24 := fun _ => rfl
    have htw := ht w
    have htv := ht l7
    have htl : V.locLt 0 (l8V l0 l1 l2 l3 l4 l5 l6 w) = true := rfl
    simp only [l8V] at hq htw htv htl
    generalize V.agg 24 [.int .u64 l0, .int .u64 l1, .int .u64 l2, .int .u64 l3, .int .u64 l4, .int .u64 l5, .int .u64 l6, .int .u64 w] = LW at *
    generalize V.agg 24 [.int .u64 l0, .int .u64 l1, .int .u64 l2, .int .u64 l3, .int .u64 l4, .int .u64 l5, .int .u64 l6, .int .u64 l7] = LV at *
    cases rb
    · simp only [go_sem, List.replicate, hl]
    · rw [Bool.true_and]
      by_cases g : w = l7
      · subst g
        rw [decide_eq_true rfl] at hq ⊢
        simp only [go_sem, List.replicate, hl, htw, htv, htl, hq]
      · have g' : ¬ (w : Int) = (l7 : Int) := by omega
        rw [decide_eq_false g'] at hq
        rw [decide_eq_false g]
        simp only [go_sem, List.replicate, hl, htw, htv, htl, hq]
  · rw [if_neg hp] at hn
    simp only [l8V, Thr.v, thrZ, hp, decide_false, Bool.false_and, Bool.false_eq_true, if_false]
    rw [rf_o D_regs_Of rfl]
    simp only [go_sem, hn, List.replicate]
end Go.Proofs.Ytpbpgbedkmbfkaa
namespace Go.Proofs.Ytpbpgbedkmbfkaa
open Go.Ab

theorem rf_r14Line {pc st a sl fl : Nat} (r0 r1 r2 r3 sp ky : Int) (hpc : pc ≤ 1099511627776) (hst : st < 16) (ha : a < 65536) (hsl : sl < 16) (hfl : fl < 2) (s : St) :
    rf D f_steadfastref14_Line [Thr.v ⟨pc, r0, r1, r2, r3, sp, ky, st, a, sl, fl⟩] s = some (if rightB st a sl fl then .tup [l8V pc r0 r1 r2 r3 sp ky (st + a * 16 + sl * 1048576 + fl * 16777216 : Nat), .int .i64 0] else .tup [l8Z, .int .i64 1], s) := by
  have q0 : IntKind.u64.wrap (pc : Int) = pc := u64_id (by omega) (by omega)
  have q1 : IntKind.u64.wrap (st : Int) = st := u64_id (by omega) (by omega)
  have q2 : IntKind.u64.wrap (a : Int) = a := u64_id (by omega) (by omega)
  have q3 : IntKind.u64.wrap (sl : Int) = sl := u64_id (by omega) (by omega)
  have q4 : IntKind.u64.wrap (fl : Int) = fl := u64_id (by omega) (by omega)
  have w1 := fun s => rf_With (w := 0) (a := 0) (b := 4) (v := st) (by decide) (by decide) (by decide) (by omega) s
  have w2 := fun s => rf_With (w := 0 + st * 2 ^ 0) (a := 4) (b := 16) (v := a) (by decide) (by decide) (by omega) (by omega) s
  have w3 := fun s => rf_With (w := 0 + st * 2 ^ 0 + a * 2 ^ 4) (a := 20) (b := 4) (v := sl) (by decide) (by decide) (by omega) (by omega) s
  have w4 := fun s => rf_With (w := 0 + st * 2 ^ 0 + a * 2 ^ 4 + sl * 2 ^ 20) (a := 24) (b := 1) (v := fl) (by decide) (by decide) (by omega) (by omega) s
  have e : 0 + st * 2 ^ 0 + a * 2 ^ 4 + sl * 2 ^ 20 + fl * 2 ^ 24 = st + a * 16 + sl * 1048576 + fl * 16777216 := by omega
  rw [e] at w4
  generalize st + a * 16 + sl * 1048576 + fl * 16777216 = x4 at *
  generalize 0 + st * 2 ^ 0 + a * 2 ^ 4 + sl * 2 ^ 20 = x3 at *
  generalize 0 + st * 2 ^ 0 + a * 2 ^ 4 = x2 at *
  generalize 0 + st * 2 ^ 0 = x1 at *
  simp only [Int.natCast_zero, show ((4 : Nat) : Int) = 4 by rfl, show ((1 : Nat) : Int) = 1 by rfl, show ((16 : Nat) : Int) = 16 by rfl, show ((20 : Nat) : Int) = 20 by rfl, show ((24 : Nat) : Int) = 24 by rfl] at w1 w2 w3 w4
  have p0 : (0 : Int) ≤ pc := by omega
  have p1 : (pc : Int) ≤ 1099511627776 := by omega
  have a0 : ¬ (a : Int) < 0 := by omega
  have s0 : ¬ (sl : Int) < 0 := by omega
  have f01 : (fl : Int) = 0 ∨ (fl : Int) = 1 := by omega
  clear e hpc
  generalize (pc : Int) = pc at *
  generalize (a : Int) = a at *
  generalize (sl : Int) = sl at *
  generalize (fl : Int) = fl at *
  have hs : st = 0 ∨ st = 1 ∨ st = 2 ∨ st = 3 ∨ st = 4 ∨ st = 5 ∨ 5 < st := by omega
  simp only [Thr.v, l8V, l8Z]
  rcases hs with rfl | rfl | rfl | rfl | rfl | rfl | hs
  · rw [show rightB (0 : Nat) a sl fl = false by simp [rightB], if_neg (by simp)]
    rw [rf_o D_steadfastref14_Line rfl]
    simp only [Int.natCast_zero]
    simp only [go_sem, p0, p1, List.replicate]
  · simp only [show ((1 : Nat) : Int) = 1 by rfl] at q1 w1 ⊢
    by_cases h1 : 0 < a
    · rw [show rightB 1 a sl fl = false by simp [rightB, within]; omega, if_neg (by simp)]
      rw [rf_o D_steadfastref14_Line rfl]
      simp only [go_sem, p0, p1, a0, s0, List.replicate, h1]
    · by_cases h2 : 7 < sl
      · rw [show rightB 1 a sl fl = false by simp [rightB, within]; omega, if_neg (by simp)]
        rw [rf_o D_steadfastref14_Line rfl]
        simp only [go_sem, p0, p1, a0, s0, List.replicate, h1, h2]
      · by_cases h3 : sl = 0
        · rcases f01 with hf | hf
          · rw [show rightB 1 a sl fl = true by simp [rightB, within]; omega, if_pos rfl]
            subst hf
            rw [h3] at w3 q3
            rw [rf_o D_steadfastref14_Line rfl]
            simp only [go_sem, p0, p1, a0, s0, List.replicate, h1, h2, h3]
            simp only [go_sem, List.replicate, q0, q1, q2, q3, q4, w1, w2, w3, w4]
          · rw [show rightB 1 a sl fl = false by simp [rightB, within]; omega, if_neg (by simp)]
            rw [rf_o D_steadfastref14_Line rfl]
            simp only [go_sem, p0, p1, a0, s0, List.replicate, h1, h2, h3, hf]
        · rw [show rightB 1 a sl fl = false by simp [rightB, within]; omega, if_neg (by simp)]
          rw [rf_o D_steadfastref14_Line rfl]
          simp only [go_sem, p0, p1, a0, s0, List.replicate, h1, h2, h3]
  · simp only [show ((2 : Nat) : Int) = 2 by rfl] at q1 w1 ⊢
    by_cases h1 : 0 < a
    · rw [show rightB 2 a sl fl = false by simp [rightB, within]; omega, if_neg (by simp)]
      rw [rf_o D_steadfastref14_Line rfl]
      simp only [go_sem, p0, p1, a0, s0, List.replicate, h1]
    · by_cases h2 : 7 < sl
      · rw [show rightB 2 a sl fl = false by simp [rightB, within]; omega, if_neg (by simp)]
        rw [rf_o D_steadfastref14_Line rfl]
        simp only [go_sem, p0, p1, a0, s0, List.replicate, h1, h2]
      · by_cases h3 : sl = 0
        · rcases f01 with hf | hf
          · rw [show rightB 2 a sl fl = true by simp [rightB, within]; omega, if_pos rfl]
            subst hf
            rw [h3] at w3 q3
            rw [rf_o D_steadfastref14_Line rfl]
            simp only [go_sem, p0, p1, a0, s0, List.replicate, h1, h2, h3]
            simp only [go_sem, List.replicate, q0, q1, q2, q3, q4, w1, w2, w3, w4]
          · rw [show rightB 2 a sl fl = false by simp [rightB, within]; omega, if_neg (by simp)]
            rw [rf_o D_steadfastref14_Line rfl]
            simp only [go_sem, p0, p1, a0, s0, List.replicate, h1, h2, h3, hf]
        · rw [show rightB 2 a sl fl = false by simp [rightB, within]; omega, if_neg (by simp)]
          rw [rf_o D_steadfastref14_Line rfl]
          simp only [go_sem, p0, p1, a0, s0, List.replicate, h1, h2, h3]
  · simp only [show ((3 : Nat) : Int) = 3 by rfl] at q1 w1 ⊢
    by_cases h1 : 48 < a
    · rw [show rightB 3 a sl fl = false by simp [rightB, within]; omega, if_neg (by simp)]
      rw [rf_o D_steadfastref14_Line rfl]
      simp only [go_sem, p0, p1, a0, s0, List.replicate, h1]
    · by_cases h2 : 7 < sl
      · rw [show rightB 3 a sl fl = false by simp [rightB, within]; omega, if_neg (by simp)]
        rw [rf_o D_steadfastref14_Line rfl]
        simp only [go_sem, p0, p1, a0, s0, List.replicate, h1, h2]
      · rcases f01 with hf | hf
        · rw [show rightB 3 a sl fl = true by simp [rightB, within]; omega, if_pos rfl]
          subst hf
          rw [rf_o D_steadfastref14_Line rfl]
          simp only [go_sem, p0, p1, a0, s0, List.replicate, h1, h2]
          simp only [go_sem, List.replicate, q0, q1, q2, q3, q4, w1, w2, w3, w4]
        · rw [show rightB 3 a sl fl = true by simp [rightB, within]; omega, if_pos rfl]
          subst hf
          rw [rf_o D_steadfastref14_Line rfl]
          simp only [go_sem, p0, p1, a0, s0, List.replicate, h1, h2]
          simp only [go_sem, List.replicate, q0, q1, q2, q3, q4, w1, w2, w3, w4]
  · simp only [show ((4 : Nat) : Int) = 4 by rfl] at q1 w1 ⊢
    by_cases h1 : 48 < a
    · rw [show rightB 4 a sl fl = false by simp [rightB, within]; omega, if_neg (by simp)]
      rw [rf_o D_steadfastref14_Line rfl]
      simp only [go_sem, p0, p1, a0, s0, List.replicate, h1]
    · by_cases h2 : 7 < sl
      · rw [show rightB 4 a sl fl = false by simp [rightB, within]; omega, if_neg (by simp)]
        rw [rf_o D_steadfastref14_Line rfl]
        simp only [go_sem, p0, p1, a0, s0, List.replicate, h1, h2]
      · rcases f01 with hf | hf
        · rw [show rightB 4 a sl fl = true by simp [rightB, within]; omega, if_pos rfl]
          subst hf
          rw [rf_o D_steadfastref14_Line rfl]
          simp only [go_sem, p0, p1, a0, s0, List.replicate, h1, h2]
          simp only [go_sem, List.replicate, q0, q1, q2, q3, q4, w1, w2, w3, w4]
        · rw [show rightB 4 a sl fl = false by simp [rightB, within]; omega, if_neg (by simp)]
          rw [rf_o D_steadfastref14_Line rfl]
          simp only [go_sem, p0, p1, a0, s0, List.replicate, h1, h2, hf]
  · simp only [show ((5 : Nat) : Int) = 5 by rfl] at q1 w1 ⊢
    by_cases h1 : 255 < a
    · rw [show rightB 5 a sl fl = false by simp [rightB, within]; omega, if_neg (by simp)]
      rw [rf_o D_steadfastref14_Line rfl]
      simp only [go_sem, p0, p1, a0, s0, List.replicate, h1]
    · by_cases h2 : 7 < sl
      · rw [show rightB 5 a sl fl = false by simp [rightB, within]; omega, if_neg (by simp)]
        rw [rf_o D_steadfastref14_Line rfl]
        simp only [go_sem, p0, p1, a0, s0, List.replicate, h1, h2]
      · by_cases h3 : sl = 0
        · rcases f01 with hf | hf
          · rw [show rightB 5 a sl fl = true by simp [rightB, within]; omega, if_pos rfl]
            subst hf
            rw [h3] at w3 q3
            rw [rf_o D_steadfastref14_Line rfl]
            simp only [go_sem, p0, p1, a0, s0, List.replicate, h1, h2, h3]
            simp only [go_sem, List.replicate, q0, q1, q2, q3, q4, w1, w2, w3, w4]
          · rw [show rightB 5 a sl fl = false by simp [rightB, within]; omega, if_neg (by simp)]
            rw [rf_o D_steadfastref14_Line rfl]
            simp only [go_sem, p0, p1, a0, s0, List.replicate, h1, h2, h3, hf]
        · rw [show rightB 5 a sl fl = false by simp [rightB, within]; omega, if_neg (by simp)]
          rw [rf_o D_steadfastref14_Line rfl]
          simp only [go_sem, p0, p1, a0, s0, List.replicate, h1, h2, h3]
  · have g1 : (1 : Int) ≤ st := by omega
    have g2 : ¬ (st : Int) ≤ 5 := by omega
    have n1 : ¬ (st : Int) = 1 := by omega
    have n2 : ¬ (st : Int) = 2 := by omega
    have n3 : ¬ (st : Int) = 3 := by omega
    have n4 : ¬ (st : Int) = 4 := by omega
    have n5 : ¬ (st : Int) = 5 := by omega
    rw [show rightB st a sl fl = false by simp [rightB, n1, n2, n3, n4, n5], if_neg (by simp)]
    rw [rf_o D_steadfastref14_Line rfl]
    simp only [go_sem, p0, p1, g1, g2, n3, n4, List.replicate]
theorem rf_r14Of (l0 : Nat) (l1 l2 l3 l4 l5 l6 : Int) (l7 : Nat) (h0 : l0 < 18446744073709551616) (h7 : l7 < 18446744073709551616) (s : St) :
    rf D f_steadfastref14_Of [l8V l0 l1 l2 l3 l4 l5 l6 l7] s = some (if thrR l0 l7 then .tup [(thrOf l0 l1 l2 l3 l4 l5 l6 l7).v, .bool true] else .tup [thrZ.v, .bool false], s) := by
  have hn := fun s => rf_rNumber h0 s
  have f1 := fun s => rf_Field1 (w := l7) (a := 0) (b := 4) (by decide) (by decide) h7 s
  have f2 := fun s => rf_Field1 (w := l7) (a := 4) (b := 16) (by decide) (by decide) h7 s
  have f3 := fun s => rf_Field1 (w := l7) (a := 20) (b := 4) (by decide) (by decide) h7 s
  have f4 := fun s => rf_Field1 (w := l7) (a := 24) (b := 1) (by decide) (by decide) h7 s
  unfold thrR thrOf
  by_cases hp : l0 ≤ 1099511627776
  · have hl := fun s => rf_r14Line l1 l2 l3 l4 l5 l6 hp (show l7 % 16 < 16 by omega) (show l7 / 16 % 65536 < 65536 by omega) (show l7 / 1048576 % 16 < 16 by omega) (show l7 / 16777216 % 2 < 2 by omega) s
    rw [if_pos hp] at hn
    simp only [show l7 / 2 ^ 0 % 2 ^ 4 = l7 % 16 by omega, show l7 / 2 ^ 4 % 2 ^ 16 = l7 / 16 % 65536 by omega, show l7 / 2 ^ 20 % 2 ^ 4 = l7 / 1048576 % 16 by omega, show l7 / 2 ^ 24 % 2 ^ 1 = l7 / 16777216 % 2 by omega] at f1 f2 f3 f4
    have q1 : IntKind.i64.wrap ((l7 % 16 : Nat) : Int) = (l7 % 16 : Nat) := i64_id (by omega) (by omega)
    have q2 : IntKind.i64.wrap ((l7 / 16 % 65536 : Nat) : Int) = (l7 / 16 % 65536 : Nat) := i64_id (by omega) (by omega)
    have q3 : IntKind.i64.wrap ((l7 / 1048576 % 16 : Nat) : Int) = (l7 / 1048576 % 16 : Nat) := i64_id (by omega) (by omega)
    have q4 : IntKind.i64.wrap ((l7 / 16777216 % 2 : Nat) : Int) = (l7 / 16777216 % 2 : Nat) := i64_id (by omega) (by omega)
    generalize hw : l7 % 16 + l7 / 16 % 65536 * 16 + l7 / 1048576 % 16 * 1048576 + l7 / 16777216 % 2 * 16777216 = w at *
    generalize l7 % 16 = st at *
    generalize l7 / 16 % 65536 = a at *
    generalize l7 / 1048576 % 16 = sl at *
    generalize l7 / 16777216 % 2 = fl at *
    generalize rightB st a sl fl = rb at *
    simp only [Int.natCast_zero, show ((4 : Nat) : Int) = 4 by rfl, show ((1 : Nat) : Int) = 1 by rfl, show ((16 : Nat) : Int) = 16 by rfl, show ((20 : Nat) : Int) = 20 by rfl, show ((24 : Nat) : Int) = 24 by rfl] at f1 f2 f3 f4
    rw [decide_eq_true hp, Bool.true_and]
    clear hp
    simp only [l8V, l8Z, Thr.v, thrZ] at *
    rw [rf_o D_steadfastref14_Of rfl]
    simp only [go_sem, List.replicate, hn, f1, f2, f3, f4, q1, q2, q3, q4]
    have hq := veq_line l0 l1 l2 l3 l4 l5 l6 w l7
    have ht : ∀ z : Int, (l8V l0 l1 l2 l3 l4 l5 l6 z).tag = 24 := fun _ => rfl
    have htw := ht w
    have htv := ht l7
    have htl : V.locLt 0 (l8V l0 l1 l2 l3 l4 l5 l6 w) = true := rfl
    simp only [l8V] at hq htw htv htl
    generalize V.agg 24 [.int .u64 l0, .int .u64 l1, .int .u64 l2, .int .u64 l3, .int .u64 l4, .int .u64 l5, .int .u64 l6, .int .u64 w] = LW at *
    generalize V.agg 24 [.int .u64 l0, .int .u64 l1, .int .u64 l2, .int .u64 l3, .int .u64 l4, .int .u64 l5, .int .u64 l6, .int .u64 l7] = LV at *
    cases rb
    · simp only [go_sem, List.replicate, hl]
    · rw [Bool.true_and]
      by_cases g : w = l7
      · subst g
        rw [decide_eq_true rfl] at hq ⊢
        simp only [go_sem, List.replicate, hl, htw, htv, htl, hq]
      · have g' : ¬ (w : Int) = (l7 : Int) := by omega
        rw [decide_eq_false g'] at hq
        rw [decide_eq_false g]
        simp only [go_sem, List.replicate, hl, htw, htv, htl, hq]
  · rw [if_neg hp] at hn
    simp only [l8V, Thr.v, thrZ, hp, decide_false, Bool.false_and, Bool.false_eq_true, if_false]
    rw [rf_o D_steadfastref14_Of rfl]
    simp only [go_sem, hn, List.replicate]
end Go.Proofs.Ytpbpgbedkmbfkaa
