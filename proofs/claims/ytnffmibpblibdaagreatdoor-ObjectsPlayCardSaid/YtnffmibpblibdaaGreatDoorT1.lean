/-
  YtnffmibpblibdaaGreatDoorT1: what functions of the program compute (ReachA, CapsA, CapsB, CapsC, NvmA, FrmA, FrmB, ObjO, ObjA, ObjG, NxtA, DooA, ObjB).
-/
import Derived.Test.YtnffmibpblibdaaGreatDoorCode
import Derived.Test.YtnffmibpblibdaaGreatDoorAbD
import Derived.Test.YtnffmibpblibdaaGreatDoorAbE
import Derived.KernelRfl
import Derived.Laws.Bits64
set_option maxRecDepth 100000
namespace Go.Proofs.YtnffmibpblibdaaGreatDoor
open Go.Ab
structure Cap where
 kind : Int
 rights : Int
 id : Int
 ver : Int
 badge : Int
 deriving DecidableEq
def Cap.v (c : Cap) : V := .agg 40 [.int .i64 c.kind, .int .i64 c.rights, .int .i64 c.id, .int .i64 c.ver, .int .i64 c.badge]
def eK (w : Int) : Cap := ⟨w % 16, w / 16 % 16, w / 256 % 65536, w / 16777216 % 16777216, w / 281474976710656⟩
def AP : Cap := ⟨0, 0, 0, 0, 0⟩
def kI (n a b : Int) : Bool := decide (a ≤ n) && decide (n ≤ b)
def Cap.may (c : Cap) : Bool :=
 kI c.kind 1 6 && kI c.rights 0 15 && kI c.id 0 48 && kI c.ver 0 16777215 && kI c.badge 0 65535 && (!(decide (c.kind = 5) || decide (c.kind = 6)) || (decide (c.id = 0) && decide (c.ver = 0)))
theorem va (n a b : Int) (s : St) : rf D bV [.int .i64 n, .int .i64 a, .int .i64 b] s = some (.bool (kI n a b), s) := by
 rw [ah wa rfl];simp only [go_sem];unfold kI;by_cases h : a ≤ n <;> simp [h, go_sem]
theorem yY (c : Cap) (s : St) : rf D m6 [c.v] s = some (.bool c.may, s) := by
 rw [ah AB rfl];simp only [go_sem, Cap.v, va];simp [Cap.may, Bool.and_assoc]
def bK (w : Int) : Cap := if (eK w).may then eK w else AP
theorem uy (w : Int) (h0 : 0 ≤ w) (h1 : w ≤ 18446744073709551615) (s : St) : rf D kw [.int .u64 w] s = some (.tup [(bK w).v, .bool (eK w).may], s) := by
 have p1 : j8 .u64 w 15 = w % 16 := kx w 4 h0 (by omega) (by decide);have p2 : j8 .u64 (w / 16) 15 = w / 16 % 16 := kx (w / 16) 4 (by omega) (by omega) (by decide);have p3 : j8 .u64 (w / 256) 65535 = w / 256 % 65536 := kx (w / 256) 16 (by omega) (by omega) (by decide);have p4 : j8 .u64 (w / 16777216) 16777215 = w / 16777216 % 16777216 := kx (w / 16777216) 24 (by omega) (by omega) (by decide);have q1 : IntKind.i64.wrap (w % 16) = w % 16 := ao (by omega) (by omega);have q2 : IntKind.i64.wrap (w / 16 % 16) = w / 16 % 16 := ao (by omega) (by omega);have q3 : IntKind.i64.wrap (w / 256 % 65536) = w / 256 % 65536 := ao (by omega) (by omega);have q4 : IntKind.i64.wrap (w / 16777216 % 16777216) = w / 16777216 % 16777216 := ao (by omega) (by omega);have q5 : IntKind.i64.wrap (w / 281474976710656) = w / 281474976710656 := ao (by omega) (by omega);have f1 : ke .u64 w 4 = w / 16 := kn w 4 (by decide);have f2 : ke .u64 w 8 = w / 256 := kn w 8 (by decide);have f3 : ke .u64 w 24 = w / 16777216 := kn w 24 (by decide);have f4 : ke .u64 w 48 = w / 281474976710656 := kn w 48 (by decide);have hm := fun s => yY (eK w) s;rw [ah Dz rfl];unfold bK;simp only [Cap.v, eK] at hm ⊢;simp only [go_sem, f1, f2, f3, f4, p1, p2, p3, p4, q1, q2, q3, q4, q5, hm];by_cases hb : (Cap.mk (w % 16) (w / 16 % 16) (w / 256 % 65536) (w / 16777216 % 16777216) (w / 281474976710656)).may = true <;> simp [hb, AP]
theorem UX {c : Cap} (h : c.may = true) : 0 ≤ c.id ∧ c.id ≤ 48 := by
 simp only [Cap.may, kI, Bool.and_eq_true, decide_eq_true_eq] at h;exact h.1.1.1.2
def gO (kind ver id w : Int) : Int :=
 if (!(eK w).may || decide (4 < (bK w).kind)) then 31 else
 if (bK w).id ≠ id then 30 else if (bK w).ver ≠ ver then 33 else if kind = 0 then 30 else if (bK w).kind ≠ kind then 31 else 0
theorem vh (kind ver line id w : Int) (h0 : 0 ≤ w) (h1 : w ≤ 18446744073709551615) (s : St) :
 rf D km [.agg 42 [.int .i64 kind, .int .i64 ver, .int .i64 line], .int .i64 id, .int .u64 w] s = some (.int .i64 (gO kind ver id w), s) := by
 have hc := fun s => uy w h0 h1 s;rw [ah vV rfl];unfold gO;generalize bK w = y at hc ⊢;generalize (eK w).may = m at hc ⊢;simp only [Cap.v] at hc;simp only [go_sem, hc];cases m
 ·simp [go_sem]
 ·by_cases g1 : 4 < y.kind
  ·simp [go_sem, g1]
  ·by_cases g2 : y.id = id
   ·by_cases g3 : y.ver = ver
    ·by_cases g4 : kind = 0
     ·simp [go_sem, g1, g2, g3, g4]
     ·by_cases g5 : y.kind = kind <;> simp [go_sem, g1, g2, g3, g4, g5]
    ·simp [go_sem, g1, g2, g3]
   ·simp [go_sem, g1, g2]
end Go.Proofs.YtnffmibpblibdaaGreatDoor
namespace Go.Proofs.YtnffmibpblibdaaGreatDoor
open Go.Ab
theorem sR {r : Nat} (h : r < 64) : 2 ^ r < 18446744073709551616 := Nat.pow_lt_pow_right (show 1 < 2 by decide) h
theorem sn {w i : Nat} (hw : w < 18446744073709551616) (hi : i ≤ 64) (s : St) : rf D be [.int .u64 w, .int .i64 i] s = some (.int .u64 (w / 2 ^ i % 2 : Nat), s) := by
 have e1 : ke .u64 (w : Int) (i : Int) = ((w / 2 ^ i : Nat) : Int) := by
  rw [kn (w : Int) i hi, Int.natCast_ediv, Int.natCast_pow]; rfl
 have e2 : j8 .u64 ((w / 2 ^ i : Nat) : Int) 1 = ((w / 2 ^ i % 2 : Nat) : Int) := by
  have hlt : w / 2 ^ i < 18446744073709551616 := Nat.lt_of_le_of_lt (Nat.div_le_self _ _) hw;generalize w / 2 ^ i = y at *;have := kx (y : Int) 1 (by omega) (by omega) (by decide);rw [show (1 : Int) = 2 ^ 1 - 1 by decide, this]; simp
 generalize w / 2 ^ i % 2 = z at *;generalize w / 2 ^ i = y at *;have d : ¬ (i : Int) < 0 := by omega
 rw [ah qc rfl];simp only [go_sem, e1, e2, d]
theorem EY {a b : Nat} (h1 : 1 ≤ b) (h2 : a + b ≤ 64) (s : St) : rf D dB [.int .i64 a, .int .i64 b] s = some (.bool true, s) := by
 have e : IntKind.i64.wrap ((a : Int) + (b : Int)) = ((a + b : Nat) : Int) := by rw [ao (by omega) (by omega)]; omega
 have c1 : (0 : Int) ≤ a := by omega
 have c2 : (a : Int) ≤ 63 := by omega
 have c3 : (1 : Int) ≤ b := by omega
 have c4 : (b : Int) ≤ 64 := by omega
 have c5 : ((a + b : Nat) : Int) ≤ 64 := by omega
 rw [ah qU rfl];simp only [go_sem, c1, c2, c3, c4, e, c5]
theorem Tb {w a v i : Nat} (hw : w < 2 ^ a) : w + v % 2 ^ i * 2 ^ a < 2 ^ (a + i) := by
 have h1 : v % 2 ^ i < 2 ^ i := Nat.mod_lt _ (Nat.two_pow_pos i);have h2 : (v % 2 ^ i + 1) * 2 ^ a ≤ 2 ^ i * 2 ^ a := Nat.mul_le_mul_right _ h1;rw [Nat.pow_add, Nat.mul_comm (2 ^ a)];rw [Nat.add_mul, Nat.one_mul] at h2;omega
theorem CE {w a v i : Nat} : w + v % 2 ^ (i + 1) * 2 ^ a = w + v % 2 ^ i * 2 ^ a + v / 2 ^ i % 2 * 2 ^ (a + i) := by
 rw [Nat.mod_pow_succ, Nat.add_mul, Nat.pow_add, ← Nat.add_assoc];congr 1;rw [Nat.mul_comm (2 ^ i), Nat.mul_assoc, Nat.mul_comm (2 ^ i)]
theorem pe {w a b v : Nat} (hb : 1 ≤ b) (hab : a + b ≤ 64) (hw : w < 2 ^ a) (hv : v < 2 ^ b) (s : St) :
 rf D aQ [.int .u64 w, .int .i64 a, .int .i64 b, .int .u64 v] s = some (.tup [.int .u64 (w + v * 2 ^ a : Nat), .int .i64 0], s) := by
 have hw64 : w < 18446744073709551616 := Nat.lt_trans hw (sR (by omega));have hv64 : v < 18446744073709551616 := Nat.lt_of_lt_of_le hv (show 2 ^ b ≤ 2 ^ 64 from Nat.pow_le_pow_right (by decide) (by omega))
 have his := fun s => EY hb hab s;have loop1 : rc D s.loc.length (.loop [0, 1, 2, 3, 10] eM) [(0, .int .u64 w), (1, .int .i64 a), (2, .int .i64 b), (3, .int .u64 v), (10, .int .i64 b)] s =
  some (.exit 0, [(0, .int .u64 w), (1, .int .i64 a), (2, .int .i64 b), (3, .int .u64 v), (10, .int .i64 64), (18, .bool false)], s) := by
  refine cw (fun x : Nat => [(0, .int .u64 w), (1, .int .i64 a), (2, .int .i64 b), (3, .int .u64 v), (10, .int .i64 x)]) (fun _ => s) (fun _ => _) (fun x => 64 - x) (fun x => b ≤ x ∧ x ≤ 64) b ?_ ⟨Nat.le_refl _, by omega⟩ rfl rfl;rintro i ⟨h1, h2⟩;by_cases c1 : i < 64
  ·left;have d1 : (i : Int) < 64 := by omega
   have d4 : IntKind.i64.wrap ((i : Int) + 1) = (i : Int) + 1 := ao (by omega) (by omega);have hbit := fun s => sn hv64 (i := i) (by omega) s;have hz : v / 2 ^ i % 2 = 0 := by
    rw [Nat.div_eq_of_lt (Nat.lt_of_lt_of_le hv (Nat.pow_le_pow_right (by decide) h1))]
   rw [hz] at hbit;refine ⟨i + 1, ⟨by omega, by omega⟩, by omega, rfl, ?_⟩;simp only [go_sem, eM, d1, hbit, d4];rfl
  ·right;have : i = 64 := by omega
   subst this;simp only [go_sem, eM]
 have loop2 : rc D s.loc.length (.loop [0, 1, 2, 3, 11] dj) [(0, .int .u64 w), (1, .int .i64 a), (2, .int .i64 b), (3, .int .u64 v), (11, .int .i64 0)] s =
  some (.exit 2, [(0, .int .u64 (w + v * 2 ^ a : Nat)), (1, .int .i64 a), (2, .int .i64 b), (3, .int .u64 v), (11, .int .i64 b), (27, .bool false)], s) := by
  refine cw (fun x : Nat => [(0, .int .u64 (w + v % 2 ^ x * 2 ^ a : Nat)), (1, .int .i64 a), (2, .int .i64 b), (3, .int .u64 v), (11, .int .i64 x)]) (fun _ => s) (fun _ => _) (fun x => b - x) (fun x => x ≤ b) 0 ?_ (Nat.zero_le _) (by simp [Nat.mod_one]) rfl;intro i h2;by_cases c1 : i < b
  ·left;have d1 : (i : Int) < b := by omega
   have d4 : IntKind.i64.wrap ((i : Int) + 1) = (i : Int) + 1 := ao (by omega) (by omega);have e1 : IntKind.i64.wrap ((a : Int) + (i : Int)) = ((a + i : Nat) : Int) := by rw [ao (by omega) (by omega)]; omega
   have hlt := Tb (v := v) (i := i) hw;have h64 : 2 ^ (a + i) < 18446744073709551616 := sR (by omega);have hx64 : w + v % 2 ^ i * 2 ^ a < 18446744073709551616 := Nat.lt_trans hlt h64;have hb1 := fun s => sn hv64 (i := i) (by omega) s;have hb2 := fun s => sn hx64 (i := a + i) (by omega) s;rw [Nat.div_eq_of_lt hlt] at hb2;have hs := CE (w := w) (a := a) (v := v) (i := i);have hsh : uJ .u64 1 ((a + i : Nat) : Int) = ((2 ^ (a + i) : Nat) : Int) := by
    rw [tn 1 (a + i) (by omega), Int.one_mul, show (2 : Int) ^ (a + i) = ((2 ^ (a + i) : Nat) : Int) by rw [Int.natCast_pow]; rfl];generalize 2 ^ (a + i) = p at *;omega
   have hx := tE hx64 h64;rw [TG hlt] at hx;refine ⟨i + 1, by omega, by omega, rfl, ?_⟩;simp only [hs];have h2 : v / 2 ^ i % 2 < 2 := Nat.mod_lt _ (by decide);generalize w + v % 2 ^ i * 2 ^ a = x at *;generalize v / 2 ^ i % 2 = z at *;generalize 2 ^ (a + i) = p at *;have d3 : ¬ ((a + i : Nat) : Int) < 0 := by omega
   generalize a + i = q at *;by_cases hz : z = 1
   ·subst hz;simp only [go_sem, dj, d1, e1, hb1, hb2, d3, hsh, hx, d4];simp only [Nat.one_mul];rfl
   ·have hz0 : z = 0 := by omega
    subst hz0;simp only [go_sem, dj, d1, e1, hb1, hb2, d4];simp only [Nat.zero_mul, Nat.add_zero];rfl
  ·right;have : i = b := by omega
   subst this;have d1 : ¬ (i : Int) < i := by omega
   rw [Nat.mod_eq_of_lt hv];simp only [go_sem, dj, d1]
 generalize w + v * 2 ^ a = r at *;rw [ah o4 rfl];simp only [go_sem, his, loop1, loop2]
theorem mI {w a b : Nat} (hb : 1 ≤ b) (hab : a + b ≤ 64) (hw : w < 18446744073709551616) (s : St) :
 rf D aL [.int .u64 w, .int .i64 a, .int .i64 b] s = some (.int .u64 (w / 2 ^ a % 2 ^ b : Nat), s) := by
 have his := fun s => EY hb hab s;have loop : rc D s.loc.length (.loop [0, 1, 2, 7, 8] dY) [(0, .int .u64 w), (1, .int .i64 a), (2, .int .i64 b), (7, .int .u64 0), (8, .int .i64 0)] s =
  some (.exit 0, [(0, .int .u64 w), (1, .int .i64 a), (2, .int .i64 b), (7, .int .u64 (w / 2 ^ a % 2 ^ b : Nat)), (8, .int .i64 b), (15, .bool false)], s) := by
  refine cw (fun x : Nat => [(0, .int .u64 w), (1, .int .i64 a), (2, .int .i64 b), (7, .int .u64 (w / 2 ^ a % 2 ^ x : Nat)), (8, .int .i64 x)]) (fun _ => s) (fun _ => _) (fun x => b - x) (fun x => x ≤ b) 0 ?_ (Nat.zero_le _) (by simp [Nat.mod_one]) rfl;intro i h2;by_cases c1 : i < b
  ·left;have d1 : (i : Int) < b := by omega
   have d4 : IntKind.i64.wrap ((i : Int) + 1) = (i : Int) + 1 := ao (by omega) (by omega);have e1 : IntKind.i64.wrap ((a : Int) + (i : Int)) = ((a + i : Nat) : Int) := by rw [ao (by omega) (by omega)]; omega
   have hb1 := fun s => sn hw (i := a + i) (by omega) s;have hlt : w / 2 ^ a % 2 ^ i < 2 ^ i := Nat.mod_lt _ (Nat.two_pow_pos i);have h64 : 2 ^ i < 18446744073709551616 := sR (by omega);have hs : w / 2 ^ a % 2 ^ (i + 1) = w / 2 ^ a % 2 ^ i + w / 2 ^ (a + i) % 2 * 2 ^ i := by
    rw [Nat.mod_pow_succ, Nat.div_div_eq_div_mul, ← Nat.pow_add, Nat.mul_comm (2 ^ i)]
   refine ⟨i + 1, by omega, by omega, rfl, ?_⟩;simp only [hs];have hz2 : w / 2 ^ (a + i) % 2 < 2 := Nat.mod_lt _ (by decide);generalize w / 2 ^ (a + i) % 2 = z at *;have hzp : z * 2 ^ i < 18446744073709551616 := by
    have : z * 2 ^ i ≤ 1 * 2 ^ i := Nat.mul_le_mul_right _ (by omega);omega
   have hsh : uJ .u64 (z : Int) (i : Int) = ((z * 2 ^ i : Nat) : Int) := by
    rw [tn (z : Int) i (by omega), show (2 : Int) ^ i = ((2 ^ i : Nat) : Int) by rw [Int.natCast_pow]; rfl, ← Int.natCast_mul];generalize z * 2 ^ i = p at *;omega
   have hor := Tn (n := w / 2 ^ a % 2 ^ i) (m := z) i hlt (by omega) hzp;generalize w / 2 ^ a % 2 ^ i = x at *;have d3 : ¬ (i : Int) < 0 := by omega
   generalize z * 2 ^ i = p at *;generalize a + i = q at *;simp only [go_sem, dY, d1, e1, hb1, d3, hsh, hor, d4];rfl
  ·right;have : i = b := by omega
   subst this;have d1 : ¬ (i : Int) < i := by omega
   simp only [go_sem, dY, d1]
 generalize w / 2 ^ a % 2 ^ b = r at *;rw [ah oS rfl];simp only [go_sem, his, loop]
end Go.Proofs.YtnffmibpblibdaaGreatDoor
namespace Go.Proofs.YtnffmibpblibdaaGreatDoor
open Go.Ab
def Cap.word (c : Cap) : Int := c.kind + c.rights * 16 + c.id * 256 + c.ver * 16777216 + c.badge * 281474976710656
def uQ (c : Cap) : Int := if c.may then c.word else 0
def FO (c : Cap) : Int := if c.may then 0 else 1
structure Cap.Ok (c : Cap) : Prop where
 k : 1 ≤ c.kind ∧ c.kind ≤ 6
 r : 0 ≤ c.rights ∧ c.rights ≤ 15
 i : 0 ≤ c.id ∧ c.id ≤ 48
 v : 0 ≤ c.ver ∧ c.ver ≤ 16777215
 b : 0 ≤ c.badge ∧ c.badge ≤ 65535
 free : (c.kind = 5 ∨ c.kind = 6) → c.id = 0 ∧ c.ver = 0
theorem u5 (c : Cap) : c.may = true ↔ c.Ok := by
 simp only [Cap.may, kI, Bool.and_eq_true, decide_eq_true_eq, Bool.or_eq_true, Bool.not_eq_true', Bool.or_eq_false_iff, decide_eq_false_iff_not];constructor
 ·rintro ⟨⟨⟨⟨⟨h1, h2⟩, h3⟩, h4⟩, h5⟩, h6⟩;exact ⟨h1, h2, h3, h4, h5, by omega⟩
 ·rintro ⟨h1, h2, h3, h4, h5, h6⟩;exact ⟨⟨⟨⟨⟨h1, h2⟩, h3⟩, h4⟩, h5⟩, by omega⟩
theorem Cap.Ok.nats {c : Cap} (h : c.Ok) : ∃ k r i v b : Nat, c = ⟨k, r, i, v, b⟩ ∧ k < 16 ∧ r < 16 ∧ i < 65536 ∧ v < 16777216 ∧ b < 65536 := by
 obtain ⟨k, r, i, v, b⟩ := c;have h1 := h.k; have h2 := h.r; have h3 := h.i; have h4 := h.v; have h5 := h.b;simp only at h1 h2 h3 h4 h5;refine ⟨k.toNat, r.toNat, i.toNat, v.toNat, b.toNat, ?_, by omega, by omega, by omega, by omega, by omega⟩;simp only [Cap.mk.injEq];omega
theorem vU (c : Cap) (s : St) : rf D fJ [c.v] s = some (.tup [.int .u64 (uQ c), .int .i64 (FO c)], s) := by
 rw [ah o6 rfl];unfold uQ FO;by_cases h : c.may = true
 ·have hok := (u5 c).1 h;obtain ⟨k, r, i, v, b, rfl, h1, h2, h3, h4, h5⟩ := hok.nats;have hk := hok.k; have hi := hok.i; have hf := hok.free;simp only at hk hi hf;simp only [Cap.v];simp only [h, if_true];have q1 : IntKind.u64.wrap (k : Int) = k := pj (by omega) (by omega);have q2 : IntKind.u64.wrap (r : Int) = r := pj (by omega) (by omega);have q3 : IntKind.u64.wrap (i : Int) = i := pj (by omega) (by omega);have q4 : IntKind.u64.wrap (v : Int) = v := pj (by omega) (by omega);have q5 : IntKind.u64.wrap (b : Int) = b := pj (by omega) (by omega);have w1 := fun s => pe (w := 0) (a := 0) (b := 4) (v := k) (by decide) (by decide) (by decide) h1 s;have w2 := fun s => pe (w := 0 + k * 2 ^ 0) (a := 4) (b := 4) (v := r) (by decide) (by decide) (by omega) h2 s;have w3 := fun s => pe (w := 0 + k * 2 ^ 0 + r * 2 ^ 4) (a := 8) (b := 16) (v := i) (by decide) (by decide) (by omega) h3 s;have w4 := fun s => pe (w := 0 + k * 2 ^ 0 + r * 2 ^ 4 + i * 2 ^ 8) (a := 24) (b := 24) (v := v) (by decide) (by decide) (by omega) h4 s;have w5 := fun s => pe (w := 0 + k * 2 ^ 0 + r * 2 ^ 4 + i * 2 ^ 8 + v * 2 ^ 24) (a := 48) (b := 16) (v := b) (by decide) (by decide) (by omega) h5 s;have e : ((0 + k * 2 ^ 0 + r * 2 ^ 4 + i * 2 ^ 8 + v * 2 ^ 24 + b * 2 ^ 48 : Nat) : Int) = Cap.word ⟨k, r, i, v, b⟩ := by simp only [Cap.word]; omega
  rw [← e];have c1 : ¬ (k : Int) < 1 := by omega
  have c2 : ¬ 6 < (k : Int) := by omega
  have c3 : ¬ (r : Int) < 0 := by omega
  have c4 : ¬ 15 < (r : Int) := by omega
  have c5 : ¬ (i : Int) < 0 := by omega
  have c6 : ¬ 49 ≤ (i : Int) := by omega
  have c7 : ¬ (v : Int) < 0 := by omega
  have c8 : ¬ 16777215 < (v : Int) := by omega
  have c9 : ¬ (b : Int) < 0 := by omega
  have c10 : ¬ 65535 < (b : Int) := by omega
  generalize 0 + k * 2 ^ 0 + r * 2 ^ 4 + i * 2 ^ 8 + v * 2 ^ 24 + b * 2 ^ 48 = x5 at *;generalize 0 + k * 2 ^ 0 + r * 2 ^ 4 + i * 2 ^ 8 + v * 2 ^ 24 = x4 at *;generalize 0 + k * 2 ^ 0 + r * 2 ^ 4 + i * 2 ^ 8 = x3 at *;generalize 0 + k * 2 ^ 0 + r * 2 ^ 4 = x2 at *;generalize 0 + k * 2 ^ 0 = x1 at *;simp only [Int.natCast_zero, show ((4 : Nat) : Int) = 4 by rfl, show ((8 : Nat) : Int) = 8 by rfl, show ((16 : Nat) : Int) = 16 by rfl, show ((24 : Nat) : Int) = 24 by rfl, show ((48 : Nat) : Int) = 48 by rfl] at w1 w2 w3 w4 w5;by_cases g : (k : Int) = 5
  ·obtain ⟨g1, g2⟩ := hf (.inl g);obtain rfl : k = 5 := by omega
   obtain rfl : i = 0 := by omega
   obtain rfl : v = 0 := by omega
   simp only [show ((5 : Nat) : Int) = 5 by rfl, Int.natCast_zero] at w1 w2 w3 w4 w5 q1 q3 q4 ⊢;simp only [go_sem, c3, c4, c9, c10, q1, q2, q3, q5, w1, w2, w3, w4, w5]
  ·by_cases g' : (k : Int) = 6
   ·obtain ⟨g1, g2⟩ := hf (.inr g');obtain rfl : k = 6 := by omega
    obtain rfl : i = 0 := by omega
    obtain rfl : v = 0 := by omega
    simp only [show ((6 : Nat) : Int) = 6 by rfl, Int.natCast_zero] at w1 w2 w3 w4 w5 q1 q3 q4 ⊢;simp only [go_sem, c3, c4, c9, c10, q1, q2, q3, q5, w1, w2, w3, w4, w5]
   ·simp only [go_sem, c1, c2, c3, c4, c5, c6, c7, c8, c9, c10, g, g', q1, q2, q3, q4, q5, w1, w2, w3, w4, w5]
 ·have h' : c.may = false := by simpa using h
  have hn : ¬ c.Ok := fun ho => h ((u5 c).2 ho);obtain ⟨k, r, i, v, b⟩ := c;simp only [Cap.v, h'];by_cases c1 : k < 1
  ·simp [go_sem, c1]
  by_cases c2 : 6 < k
  ·simp [go_sem, c1, c2]
  by_cases c3 : r < 0
  ·simp [go_sem, c1, c2, c3]
  by_cases c4 : 15 < r
  ·simp [go_sem, c1, c2, c3, c4]
  by_cases c5 : i < 0
  ·simp [go_sem, c1, c2, c3, c4, c5]
  by_cases c6 : 49 ≤ i
  ·simp [go_sem, c1, c2, c3, c4, c5, c6]
  by_cases c7 : v < 0
  ·simp [go_sem, c1, c2, c3, c4, c5, c6, c7]
  by_cases c8 : 16777215 < v
  ·simp [go_sem, c1, c2, c3, c4, c5, c6, c7, c8]
  by_cases c9 : b < 0
  ·simp [go_sem, c1, c2, c3, c4, c5, c6, c7, c8, c9]
  by_cases c10 : 65535 < b
  ·simp [go_sem, c1, c2, c3, c4, c5, c6, c7, c8, c9, c10]
  have g : k = 5 ∨ k = 6 := by
   by_cases g : k = 5 ∨ k = 6
   ·exact g
   ·exact absurd ⟨by simp only; omega, by simp only; omega, by simp only; omega, by simp only; omega, by simp only; omega, fun hg => absurd hg g⟩ hn
  have g2 : ¬ i = 0 ∨ ¬ v = 0 := by
   by_cases g2 : i = 0 ∧ v = 0
   ·exact absurd ⟨by simp only; omega, by simp only; omega, by simp only; omega, by simp only; omega, by simp only; omega, fun _ => g2⟩ hn
   ·omega
  by_cases g3 : k = 5
  ·by_cases g4 : i = 0
   ·have g5 : ¬ v = 0 := by omega
    simp [go_sem, c3, c4, c7, c8, c9, c10, g3, g4, g5]
   ·simp [go_sem, c3, c4, c5, c6, c7, c8, c9, c10, g3, g4]
  ·have g3' : k = 6 := by omega
   by_cases g4 : i = 0
   ·have g5 : ¬ v = 0 := by omega
    simp [go_sem, c3, c4, c7, c8, c9, c10, g3', g4, g5]
   ·simp [go_sem, c3, c4, c5, c6, c7, c8, c9, c10, g3', g4]
theorem Ax {w : Int} : (eK w).word = w := by
 simp only [Cap.word, eK];omega
theorem sG (w : Int) (h0 : 0 ≤ w) (h1 : w ≤ 18446744073709551615) (s : St) : rf D dw [.int .u64 w] s = some (.tup [(bK w).v, .bool (eK w).may], s) := by
 obtain ⟨n, rfl⟩ : ∃ n : Nat, w = n := ⟨w.toNat, by omega⟩;have hw := fun s => vU (eK n) s;have hwc := Ax (w := (n : Int));have f1 := fun s => mI (w := n) (a := 0) (b := 4) (by decide) (by decide) (by omega) s;have f2 := fun s => mI (w := n) (a := 4) (b := 4) (by decide) (by decide) (by omega) s;have f3 := fun s => mI (w := n) (a := 8) (b := 16) (by decide) (by decide) (by omega) s;have f4 := fun s => mI (w := n) (a := 24) (b := 24) (by decide) (by decide) (by omega) s;have f5 := fun s => mI (w := n) (a := 48) (b := 16) (by decide) (by decide) (by omega) s;have q1 : IntKind.i64.wrap ((n / 2 ^ 0 % 2 ^ 4 : Nat) : Int) = (n : Int) % 16 := by rw [ao (by omega) (by omega)]; omega
 have q2 : IntKind.i64.wrap ((n / 2 ^ 4 % 2 ^ 4 : Nat) : Int) = (n : Int) / 16 % 16 := by rw [ao (by omega) (by omega)]; omega
 have q3 : IntKind.i64.wrap ((n / 2 ^ 8 % 2 ^ 16 : Nat) : Int) = (n : Int) / 256 % 65536 := by rw [ao (by omega) (by omega)]; omega
 have q4 : IntKind.i64.wrap ((n / 2 ^ 24 % 2 ^ 24 : Nat) : Int) = (n : Int) / 16777216 % 16777216 := by rw [ao (by omega) (by omega)]; omega
 have q5 : IntKind.i64.wrap ((n / 2 ^ 48 % 2 ^ 16 : Nat) : Int) = (n : Int) / 281474976710656 := by rw [ao (by omega) (by omega)]; omega
 simp only [Int.natCast_zero, show ((4 : Nat) : Int) = 4 by rfl, show ((8 : Nat) : Int) = 8 by rfl, show ((16 : Nat) : Int) = 16 by rfl, show ((24 : Nat) : Int) = 24 by rfl, show ((48 : Nat) : Int) = 48 by rfl] at f1 f2 f3 f4 f5;generalize n / 2 ^ 0 % 2 ^ 4 = y1 at *;generalize n / 2 ^ 4 % 2 ^ 4 = y2 at *;generalize n / 2 ^ 8 % 2 ^ 16 = y3 at *;generalize n / 2 ^ 24 % 2 ^ 24 = y4 at *;generalize n / 2 ^ 48 % 2 ^ 16 = y5 at *;unfold bK;simp only [uQ, FO] at hw;by_cases hb : (eK n).may = true
 ·simp only [hb, if_true, hwc] at hw ⊢;simp only [eK, Cap.v] at hw ⊢;generalize (n : Int) % 16 = z1 at *;generalize (n : Int) / 16 % 16 = z2 at *;generalize (n : Int) / 256 % 65536 = z3 at *;generalize (n : Int) / 16777216 % 16777216 = z4 at *;generalize (n : Int) / 281474976710656 = z5 at *;rw [ah lF rfl];simp only [go_sem, f1, f2, f3, f4, f5, q1, q2, q3, q4, q5, hw]
 ·have hb' : (eK n).may = false := by simpa using hb
  simp only [hb'] at hw ⊢;simp only [eK, Cap.v, AP] at hw ⊢;generalize (n : Int) % 16 = z1 at *;generalize (n : Int) / 16 % 16 = z2 at *;generalize (n : Int) / 256 % 65536 = z3 at *;generalize (n : Int) / 16777216 % 16777216 = z4 at *;generalize (n : Int) / 281474976710656 = z5 at *;simp only [Bool.false_eq_true, if_false] at hw ⊢;rw [ah lF rfl];simp only [go_sem, f1, f2, f3, f4, f5, q1, q2, q3, q4, q5, hw]
end Go.Proofs.YtnffmibpblibdaaGreatDoor
namespace Go.Proofs.YtnffmibpblibdaaGreatDoor
open Go.Ab
end Go.Proofs.YtnffmibpblibdaaGreatDoor
namespace Go.Proofs.YtnffmibpblibdaaGreatDoor
open Go.Ab
def lnV (l : List Int) : V := .agg 24 (l.map (.int .u64))
def zl : List Int := List.replicate 8 0
def zfl : V := .agg 50 (List.replicate 8 (.int .i64 0))
def nlV (now sure since fl : V) : V := .agg 55 [now, sure, since, fl]
def zln : V := .agg 24 (List.replicate 8 (.int .u64 0))
def Uz (k n : Nat) (off burns : Bool) (left jb : Int) : V := .agg 59 [.sl (.hp k) [] 0 n (some n) 55, .bool off, .bool burns, .int .i64 left, .int .i64 jb]
theorem AX {n : Nat} (h0 : 64 ≤ n) (h1 : n ≤ 1024) (s : St) : rf D kA [.int .i64 n] s =
 some (.tup [.ptr (.hp (s.hp.length + 1)) [] 59, .int .i64 0], ⟨s.loc, s.hp ++ [.rw (.agg 57 (tab n fun _ => nlV zln zln .nils zfl)), .rw (Uz s.hp.length n false false 0 0)]⟩) := by
 have c1 : ¬ (n : Int) < 64 := by omega
 have c2 : ¬ 1024 < (n : Int) := by omega
 have c3 : (0 : Int) ≤ n := by omega
 have c4 : ¬ (n : Int) < 0 := by omega
 have c5 : (n : Int) ≤ 4611686018427387904 := by omega
 have hm : (n : Int) ≤ (cq : Nat) := by unfold cq; omega
 rw [ah Dt rfl, ← jX];simp only [nlV, zln, zfl, Uz];simp only [go_sem, c1, c2, c3, hm, Int.le_refl, Int.toNat_natCast]
def rmV (k n k2 : Nat) (off : Bool) (left count : Int) : V := .agg 33 [.sl (.hp k) [] 0 n none 24, .sl (.hp k2) [] 0 n (some n) 1, .bool off, .int .i64 left, .int .i64 count]
theorem yl {n a : Nat} {ls : Nat → List Int} (h0 : 64 ≤ n) (h1 : n ≤ 1024) (s : St) (hs : s.loc[a]? = some (.rw (.agg 58 (tab n fun i => lnV (ls i))))) : rf D gp [.sl (.loc a) [] 0 n (some n) 24] s =
 some (.tup [.ptr (.hp (s.hp.length + 3)) [] 33, .int .i64 0], ⟨s.loc, s.hp ++ [.rw (.agg 58 []), .rw (.agg 58 (tab n fun i => lnV (ls i))), .rw (.agg 53 (tab n fun _ => .nils)),
  .rw (.agg 33 [.sl (.hp (s.hp.length + 1)) [] 0 n none 24, .sl (.hp (s.hp.length + 2)) [] 0 n (some n) 1, .bool false, .int .i64 (-1), .int .i64 0])]⟩) := by
 have c1 : ¬ (n : Int) < 64 := by omega
 have c2 : ¬ 1024 < (n : Int) := by omega
 have c3 : (0 : Int) ≤ n := by omega
 have hm : (n : Int) ≤ (cq : Nat) := by unfold cq; omega
 have hl := gc n fun i => lnV (ls i);rw [ah qW rfl, ← jX];have happ := FD (base := s.loc.length) (r := 58) (e := 24) (h := true) (s := ⟨s.loc, s.hp ++ [.rw (.agg 58 [])]⟩) (a := .hp s.hp.length) (p := []) (o := 0) (n := 0) (c := 0) (y := .sl (.loc a) [] 0 n (some n) 24) (old := []) (new := tab n fun i => lnV (ls i))
  (.inr ⟨_, _, _, _, _, rfl⟩) (by simp [St.elems]) (dH (t := 58) (by simp only [go_sem, hs]) hl.symm) (by intro h; rw [h] at hl; simp at hl; omega) (by simp only [List.length_nil, hl]; omega) (by simp only [List.length_nil, hl]; unfold cq; omega) rfl
 generalize tab n (fun i => lnV (ls i)) = T at *;simp only [List.nil_append, List.length_nil, Nat.zero_add, hl] at happ;simp only [go_sem] at happ;simp only [go_sem, c1, c2, c3, hm, happ, List.replicate_zero, Int.le_refl, Int.toNat_natCast]
end Go.Proofs.YtnffmibpblibdaaGreatDoor
namespace Go.Proofs.YtnffmibpblibdaaGreatDoor
open Go.Ab
def w16 (l : List Nat) : List Nat := l ++ List.replicate (16 - l.length) 0
abbrev cN (n : Nat) : V := V.int .u64 (n : Int)
def frV (f l : Int) (wf wl : List Nat) : V := .agg 80 [.int .i64 f, .int .i64 l, .agg 78 (wf.map cN), .agg 78 (wl.map cN)]
def bit (w : List Nat) (i : Nat) : Bool := (w.getD (i / 64) 0).testBit (i % 64)
def flip (w : List Nat) (i : Nat) : List Nat := w.set (i / 64) ((w.getD (i / 64) 0) ^^^ 2 ^ (i % 64))
structure OkS (w : List Nat) : Prop where
 len : w.length = 16
 lt : ∀ x ∈ w, x < 18446744073709551616
theorem ue {r : Nat} (h : r < 64) : 2 ^ r < 18446744073709551616 := Nat.pow_lt_pow_right (show 1 < 2 by decide) h
theorem OkS.get {w : List Nat} (h : OkS w) {q : Nat} (hq : q < 16) : w.getD q 0 < 18446744073709551616 := h.lt _ (xZ (by rw [h.len]; exact hq) 0)
theorem OkS.flip {w : List Nat} (h : OkS w) {i : Nat} (hi : i < 1024) : OkS (flip w i) := by
 refine ⟨by simp [YtnffmibpblibdaaGreatDoor.flip, h.len], fun x hx => ?_⟩;rcases List.mem_or_eq_of_mem_set hx with hx | rfl
 ·exact h.lt x hx
 ·exact Nat.xor_lt_two_pow (n := 64) (h.get (by omega)) (ue (by omega))
theorem tz {w : List Nat} (h : OkS w) {i : Nat} (hi : i < 1024) (j : Nat) : bit (flip w i) j = ((bit w j) ^^ decide (i = j)) := by
 unfold bit YtnffmibpblibdaaGreatDoor.flip;have hlen := h.len;by_cases hq : i / 64 = j / 64
 ·have e : (w.set (i / 64) (w.getD (i / 64) 0 ^^^ 2 ^ (i % 64))).getD (j / 64) 0 = w.getD (j / 64) 0 ^^^ 2 ^ (i % 64) := by
   rw [hq, List.getD_eq_getElem?_getD, List.getElem?_set_self (by omega)]; rfl
  rw [e, Nat.testBit_xor, Nat.testBit_two_pow];congr 1;apply decide_eq_decide.2;omega
 ·have e : (w.set (i / 64) (w.getD (i / 64) 0 ^^^ 2 ^ (i % 64))).getD (j / 64) 0 = w.getD (j / 64) 0 := by
   rw [List.getD_eq_getElem?_getD, List.getElem?_set_ne hq, List.getD_eq_getElem?_getD]
  have hij : ¬ i = j := fun h => hq (by rw [h]);rw [e];simp [hij]
theorem wk {i : Nat} (hi : i < 1024) : IntKind.i64.wrap ((i : Int).tdiv 64) = ((i / 64 : Nat) : Int) := by
 rw [show (64 : Int) = ((64 : Nat) : Int) by rfl, ← Int.ofNat_tdiv];exact ao (by omega) (by omega)
theorem wt {i : Nat} : (i : Int).tmod 64 = ((i % 64 : Nat) : Int) := by
 rw [show (64 : Int) = ((64 : Nat) : Int) by rfl, ← Int.ofNat_tmod]
theorem kE {w r : Nat} (hr : r ≤ 64) : ke .u64 (w : Int) (r : Int) = ((w / 2 ^ r : Nat) : Int) := by
 rw [kn (w : Int) r hr, Int.natCast_ediv, Int.natCast_pow]; rfl
theorem ze {x : Nat} (hx : x < 18446744073709551616) : j8 .u64 (x : Int) 1 = ((x % 2 : Nat) : Int) := by
 have := kx (x : Int) 1 (by omega) (by omega) (by decide);rw [show (1 : Int) = 2 ^ 1 - 1 by decide, this]; simp
theorem zn {r : Nat} (hr : r < 64) : uJ .u64 1 (r : Int) = ((2 ^ r : Nat) : Int) := by
 rw [tn 1 r (by omega)];have h := ue hr;rw [Int.one_mul, show (2 : Int) ^ r = ((2 ^ r : Nat) : Int) by rw [Int.natCast_pow]; rfl];generalize 2 ^ r = p at *;omega
theorem SG (s : St) (a : Nat) (F L X : V) (w : List Nat) (hw : OkS w) (hb : s.hp[a]? = some (.rw (.agg 80 [F, L, .agg 78 (w.map cN), X]))) (i : Nat) (hi : i < 1024) :
 rf D dP [.ptr (.hp a) [2] 78, .int .i64 i] s = some (.bool (bit w i), s) := by
 have e1 := wk hi;have e2 := wt (i := i);have hq : i / 64 < 16 := by omega
 have hr : i % 64 < 64 := by omega
 have hg := ck (f := cN) (l := w) (i := i / 64) (by rw [hw.len]; exact hq) 0;have hlt := hw.get hq;unfold bit;generalize i / 64 = q at *;generalize i % 64 = r at *;generalize w.getD q 0 = x at *;have e3 := kE (w := x) (r := r) (by omega);have hx2 : x / 2 ^ r < 18446744073709551616 := Nat.lt_of_le_of_lt (Nat.div_le_self _ _) hlt;have e4 := ze hx2;rw [Nat.testBit_eq_decide_div_mod_eq];generalize x / 2 ^ r = y at *;generalize y % 2 = z at *;have d1 : (q : Int) < 16 := by omega
 have d2 : (0 : Int) ≤ q := by omega
 have d3 : ¬ (r : Int) < 0 := by omega
 rw [ah nH rfl];simp only [go_sem, e1, e2, d1, d2];rw [Int.toNat_natCast];simp only [go_sem, hb, hg, e3, e4, d3];have e5 : decide ((z : Int) = 1) = decide (z = 1) := decide_eq_decide.2 (by omega);rw [e5]
theorem SJ (s : St) (a : Nat) (F L X : V) (w : List Nat) (hw : OkS w) (hb : s.hp[a]? = some (.rw (.agg 80 [F, L, X, .agg 78 (w.map cN)]))) (i : Nat) (hi : i < 1024) :
 rf D dP [.ptr (.hp a) [3] 78, .int .i64 i] s = some (.bool (bit w i), s) := by
 have e1 := wk hi;have e2 := wt (i := i);have hq : i / 64 < 16 := by omega
 have hr : i % 64 < 64 := by omega
 have hg := ck (f := cN) (l := w) (i := i / 64) (by rw [hw.len]; exact hq) 0;have hlt := hw.get hq;unfold bit;generalize i / 64 = q at *;generalize i % 64 = r at *;generalize w.getD q 0 = x at *;have e3 := kE (w := x) (r := r) (by omega);have hx2 : x / 2 ^ r < 18446744073709551616 := Nat.lt_of_le_of_lt (Nat.div_le_self _ _) hlt;have e4 := ze hx2;rw [Nat.testBit_eq_decide_div_mod_eq];generalize x / 2 ^ r = y at *;generalize y % 2 = z at *;have d1 : (q : Int) < 16 := by omega
 have d2 : (0 : Int) ≤ q := by omega
 have d3 : ¬ (r : Int) < 0 := by omega
 rw [ah nH rfl];simp only [go_sem, e1, e2, d1, d2];rw [Int.toNat_natCast];simp only [go_sem, hb, hg, e3, e4, d3];have e5 : decide ((z : Int) = 1) = decide (z = 1) := decide_eq_decide.2 (by omega);rw [e5]
theorem pP (s : St) (a : Nat) (F L X : V) (w : List Nat) (hw : OkS w) (hb : s.hp[a]? = some (.rw (.agg 80 [F, L, .agg 78 (w.map cN), X]))) (i : Nat) (hi : i < 1024) :
 rf D aY [.ptr (.hp a) [2] 78, .int .i64 i] s = some (.tup [], ⟨s.loc, s.hp.set a (.rw (.agg 80 [F, L, .agg 78 ((flip w i).map cN), X]))⟩) := by
 have e1 := wk hi;have e2 := wt (i := i);have hq : i / 64 < 16 := by omega
 have hr : i % 64 < 64 := by omega
 have hg := ck (f := cN) (l := w) (i := i / 64) (by rw [hw.len]; exact hq) 0;have hlt := hw.get hq;unfold YtnffmibpblibdaaGreatDoor.flip;generalize i / 64 = q at *;generalize i % 64 = r at *;generalize w.getD q 0 = x at *;have e3 := zn hr;have e4 := tE hlt (ue hr);rw [List.map_set];generalize x ^^^ 2 ^ r = y at *;generalize 2 ^ r = z at *;have d1 : (q : Int) < 16 := by omega
 have d2 : (0 : Int) ≤ q := by omega
 have d3 : ¬ (r : Int) < 0 := by omega
 rw [ah mZ rfl];simp only [go_sem, e1, e2, d1, d2, d3];rw [Int.toNat_natCast];simp only [go_sem, hb, hg, e3, e4]
theorem Ut {l : List Nat} (hl : l.length ≤ 16) (h : ∀ x ∈ l, x < 18446744073709551616) : OkS (w16 l) := by
 refine ⟨by simp [w16]; omega, fun x hx => ?_⟩;rcases List.mem_append.1 hx with hx | hx
 ·exact h x hx
 ·rw [List.eq_of_mem_replicate hx]; decide
theorem pu (i : Nat) : bit (w16 []) i = false := by
 unfold bit w16;simp only [List.nil_append, List.length_nil, Nat.sub_zero, List.getD_eq_getElem?_getD, List.getElem?_replicate];split <;> exact Nat.zero_testBit _
theorem rH : OkS (w16 []) := Ut (by decide) (by simp)
theorem zs : (w16 []).map cN = List.replicate 16 (V.int .u64 0) := rfl
def cB (f l : Int) (wf wl : List Nat) (line : Int) : Int :=
 if line < f ∨ l ≤ line then -1 else if bit wf line.toNat then 0 else if bit wl line.toNat then 2 else 1
structure Fr (s : St) (a : Nat) (f l : Int) (wf wl : List Nat) : Prop where
 blk : s.hp[a]? = some (.rw (frV f l wf wl))
 f0 : 0 ≤ f
 l1 : l ≤ 1024
 okf : OkS wf
 okl : OkS wl
theorem wU {s : St} {a : Nat} {f l : Int} {wf wl : List Nat} (h : Fr s a f l wf wl) (line : Int) :
 rf D ca [.ptr (.hp a) [] 80, .int .i64 line] s = some (.int .i64 (cB f l wf wl line), s) := by
 have hb := h.blk;have h0 := h.f0;have h1 := h.l1;unfold cB;simp only [frV] at hb;by_cases c1 : line < f
 ·rw [if_pos (.inl c1), ah iW rfl];simp only [go_sem, hb, c1]
 ·by_cases c2 : l ≤ line
  ·rw [if_pos (.inr c2), ah iW rfl];simp only [go_sem, hb, c1, c2]
  ·rw [if_neg (by omega)];obtain ⟨i, rfl⟩ : ∃ i : Nat, line = i := ⟨line.toNat, by omega⟩;have e1 := SG s a _ _ _ wf h.okf hb i (by omega);have e2 := SJ s a _ _ _ wl h.okl hb i (by omega);rw [Int.toNat_natCast, ah iW rfl];simp only [go_sem, hb, c1, c2, e1];cases bit wf i
   ·simp only [go_sem, e2]
   ·simp only [go_sem]
def inE (st want : Int) : Int := if st = -1 then 1 else if st = want then 0 else 3
theorem ss {s : St} {a : Nat} {f l : Int} {wf wl : List Nat} (h : Fr s a f l wf wl) (line want : Int) :
 rf D cg [.ptr (.hp a) [] 80, .int .i64 line, .int .i64 want] s = some (.int .i64 (inE (cB f l wf wl line) want), s) := by
 have e := wU h line;unfold inE;generalize cB f l wf wl line = t at *;rw [ah rl rfl];by_cases c1 : t = -1
 ·simp only [go_sem, e, c1]
 ·by_cases c2 : t = want
  ·subst c2;simp only [go_sem, e, c1]
  ·simp only [go_sem, e, c1, c2]
theorem nv {f l : Int} {wf wl : List Nat} {line : Int} (h : cB f l wf wl line ≠ -1) : f ≤ line ∧ line < l := by
 unfold cB at h;split at h
 ·exact absurd rfl h
 ·omega
theorem uq {s : St} {a : Nat} {f l : Int} {wf wl : List Nat} (h : Fr s a f l wf wl) (line : Int) (ht : cB f l wf wl line = 0) :
 rf D cl [.ptr (.hp a) [] 80, .int .i64 line] s = some (.int .i64 0, ⟨s.loc, s.hp.set a (.rw (frV f l (flip wf line.toNat) wl))⟩) := by
 have e := ss h line 0;rw [ht] at e;have hl := nv (show cB f l wf wl line ≠ -1 by rw [ht]; decide);have h0 := h.f0;have h1 := h.l1;obtain ⟨i, rfl⟩ : ∃ i : Nat, line = i := ⟨line.toNat, by omega⟩;have hb := h.blk;simp only [frV] at hb ⊢;have e1 := pP s a _ _ _ wf h.okf hb i (by omega);rw [Int.toNat_natCast, ah kO rfl];have hi : inE 0 0 = 0 := rfl;simp only [go_sem, e, hi, e1]
theorem uF {s : St} {a : Nat} {f l : Int} {wf wl : List Nat} (h : Fr s a f l wf wl) (line : Int) (ht : cB f l wf wl line ≠ 0) :
 rf D cl [.ptr (.hp a) [] 80, .int .i64 line] s = some (.int .i64 (inE (cB f l wf wl line) 0), s) := by
 have e := ss h line 0;have hn : ¬ inE (cB f l wf wl line) 0 = 0 := by unfold inE; split <;> simp_all
 rw [ah kO rfl];simp only [go_sem, e, hn]
theorem AJ (f l : Int) (h : f < 0 ∨ l < f ∨ 1024 < l) (s : St) : rf D iQ [.int .i64 f, .int .i64 l] s = some (.tup [.nilp, .int .i64 1], s) := by
 rw [ah rp rfl];by_cases h1 : f < 0
 ·simp only [go_sem, h1]
 ·by_cases h2 : l < f
  ·simp only [go_sem, h1, h2]
  ·have h3 : 1024 < l := by omega
   simp only [go_sem, h1, h2, h3]
theorem q9 (f l : Int) (h0 : 0 ≤ f) (h1 : f ≤ l) (h2 : l ≤ 1024) (s : St) :
 ∃ w, OkS w ∧ (∀ j : Nat, j < 1024 → bit w j = (decide (f ≤ j) && decide ((j : Int) < l))) ∧
  rf D iQ [.int .i64 f, .int .i64 l] s = some (.tup [.ptr (.hp s.hp.length) [] 80, .int .i64 0], ⟨s.loc, s.hp ++ [.rw (frV f l w (w16 []))]⟩) := by
 obtain ⟨a, rfl⟩ : ∃ n : Nat, f = n := ⟨f.toNat, by omega⟩;obtain ⟨b, rfl⟩ : ∃ n : Nat, l = n := ⟨l.toNat, by omega⟩;have loop : ∃ r, rc D s.loc.length (.loop [0, 6, 25, 26] jW) [(0, .int .i64 a), (6, .ptr (.hp s.hp.length) [] 80), (25, .int .i64 (b - a : Nat)), (26, .int .i64 0)] ⟨s.loc, s.hp ++ [.rw (frV a b (w16 []) (w16 []))]⟩ = some r ∧
  ∃ w : List Nat, r = (.exit 0, [(0, .int .i64 a), (6, .ptr (.hp s.hp.length) [] 80), (25, .int .i64 (b - a : Nat)), (26, .int .i64 (b - a : Nat)), (27, .bool false)], ⟨s.loc, s.hp ++ [.rw (frV a b w (w16 []))]⟩) ∧
   OkS w ∧ ∀ j : Nat, j < 1024 → bit w j = (decide (a ≤ j) && decide (j < b)) := by
  refine j4 (fun x : Nat × List Nat => [(0, .int .i64 a), (6, .ptr (.hp s.hp.length) [] 80), (25, .int .i64 (b - a : Nat)), (26, .int .i64 x.1)]) (fun x => ⟨s.loc, s.hp ++ [.rw (frV a b x.2 (w16 []))]⟩) _ (fun x => b - a - x.1)
   (fun x => x.1 ≤ b - a ∧ OkS x.2 ∧ ∀ j : Nat, j < 1024 → bit x.2 j = (decide (a ≤ j) && decide (j < a + x.1))) (0, w16 []) ?_ ⟨by simp, rH, fun j hj => ?_⟩ rfl rfl
  ·rintro ⟨i, w⟩ ⟨hi, hok, hbit⟩;simp only at hi hok hbit;by_cases c1 : i < b - a
   ·left;have d1 : (i : Int) < (b - a : Nat) := by omega
    have d4 : IntKind.i64.wrap ((i : Int) + 1) = (i : Int) + 1 := ao (by omega) (by omega);have e1 : IntKind.i64.wrap ((a : Int) + (i : Int)) = ((a + i : Nat) : Int) := by rw [ao (by omega) (by omega)]; omega
    have r1 := pP ⟨s.loc, s.hp ++ [.rw (.agg 80 [.int .i64 a, .int .i64 b, .agg 78 (w.map cN), .agg 78 ((w16 []).map cN)])]⟩ s.hp.length (.int .i64 a) (.int .i64 b) (.agg 78 ((w16 []).map cN)) w hok (by simp) (a + i) (by omega);simp only [qJ, List.set_cons_zero] at r1;refine ⟨(i + 1, flip w (a + i)), ⟨by simp only; omega, hok.flip (by omega), fun j hj => ?_⟩, by simp only; omega, ?_⟩
    ·simp only;rw [tz hok (by omega), hbit j hj];by_cases hij : a + i = j
     ·subst hij;simp
     ·have : decide (j < a + (i + 1)) = decide (j < a + i) := decide_eq_decide.2 (by omega);simp [hij, this]
    ·simp only [frV];generalize a + i = n at *;simp only [go_sem, jW, d1, d4, e1, r1];rfl
   ·right;have : i = b - a := by omega
    subst this;refine ⟨_, ?_, w, rfl, hok, fun j hj => ?_⟩
    ·have d1 : ¬ ((b - a : Nat) : Int) < ((b - a : Nat) : Int) := by omega
     simp only [go_sem, jW, d1]
    ·rw [hbit j hj, show a + (b - a) = b by omega]
  ·simp only;rw [pu];by_cases h1 : a ≤ j
   ·simp
   ·simp [h1]
 obtain ⟨_, hl, w, rfl, hok, hbit⟩ := loop;refine ⟨w, hok, fun j hj => ?_, ?_⟩
 ·rw [hbit j hj];have e1 : decide ((a : Int) ≤ j) = decide (a ≤ j) := decide_eq_decide.2 (by omega);have e2 : decide ((j : Int) < b) = decide (j < b) := decide_eq_decide.2 (by omega);rw [e1, e2]
 ·have c1 : ¬ (a : Int) < 0 := by omega
  have c2 : ¬ (b : Int) < a := by omega
  have c3 : ¬ 1024 < (b : Int) := by omega
  have e1 : IntKind.i64.wrap ((b : Int) - (a : Int)) = ((b - a : Nat) : Int) := by rw [ao (by omega) (by omega)]; omega
  simp only [frV, zs] at hl ⊢;generalize b - a = n at *;rw [ah rp rfl];simp only [go_sem, c1, c2, c3, e1, hl]
end Go.Proofs.YtnffmibpblibdaaGreatDoor
namespace Go.Proofs.YtnffmibpblibdaaGreatDoor
open Go.Ab
def rfV (f : Int) (c n : Nat) : V := .agg 21 [.int .i64 f, .sl (.hp c) [] 0 n (some n) 10]
structure Rf (s : St) (b c : Nat) (f : Int) (S : List Int) : Prop where
 rb : s.hp[b]? = some (.rw (rfV f c S.length))
 sb : s.hp[c]? = some (.rw (.agg 38 (S.map (.int .i64))))
 f0 : 0 ≤ f
 n : f + S.length ≤ 1024
def stS (f : Int) (S : List Int) (line : Int) : Int := if line < f ∨ (S.length : Int) ≤ line - f then -1 else S.getD (line - f).toNat 0
theorem sp {c n k : Nat} (h : k < n) : co 10 (.sl (.hp c) [] 0 n (some n) 10) (.int .i64 (k : Int)) = some (.ptr (.hp c) [k] 10) := by
 simp [co, h]
theorem Dr {s : St} {b c : Nat} {f : Int} {S : List Int} (h : Rf s b c f S) (line : Int) (hl : line ≤ 9223372036854775807) :
 rf D cJ [.ptr (.hp b) [] 21, .int .i64 line] s = some (.int .i64 (stS f S line), s) := by
 have hb := h.rb;have hc := h.sb;have h0 := h.f0;have hn := h.n;unfold stS;simp only [rfV] at hb;by_cases c1 : line < f
 ·rw [if_pos (.inl c1), ah ew rfl];simp only [go_sem, hb, c1]
 ·have e1 : IntKind.i64.wrap (line - f) = line - f := ao (by omega) (by omega);by_cases c2 : (S.length : Int) ≤ line - f
  ·rw [if_pos (.inr c2), ah ew rfl];simp only [go_sem, hb, c1, e1, c2]
  ·obtain ⟨k, hk⟩ : ∃ k : Nat, line - f = k := ⟨(line - f).toNat, by omega⟩;rw [if_neg (by omega)];rw [hk] at e1 c2 ⊢;have hkl : k < S.length := by omega
   have hg := ck (f := V.int .i64) (l := S) hkl 0;rw [Int.toNat_natCast, ah ew rfl];simp only [go_sem, hb, c1, hk, e1, c2, sp hkl, hc, hg]
theorem lY {s : St} {b c : Nat} {f : Int} {S : List Int} (h : Rf s b c f S) (line : Int) (hl : line ≤ 9223372036854775807) (x y : Int) :
 rf D aN [.ptr (.hp b) [] 21, .int .i64 line, .int .i64 x, .int .i64 y] s =
  if stS f S line < 0 then some (.int .i64 1, s) else if stS f S line ≠ x then some (.int .i64 3, s) else
   some (.int .i64 0, ⟨s.loc, s.hp.set c (.rw (.agg 38 ((S.set (line - f).toNat y).map (.int .i64))))⟩) := by
 have e := Dr h line hl;have hb := h.rb;have hc := h.sb;have h0 := h.f0;have hn := h.n;simp only [rfV] at hb;rw [ah lM rfl];by_cases c1 : stS f S line < 0
 ·rw [if_pos c1];generalize stS f S line = t at *;simp only [go_sem, e, c1]
 ·rw [if_neg c1];by_cases c2 : stS f S line = x
  ·have hin : ¬ (line < f ∨ (S.length : Int) ≤ line - f) := fun hh => by
    unfold stS at c1;rw [if_pos hh] at c1;exact c1 (by decide)
   obtain ⟨k, hk⟩ : ∃ k : Nat, line - f = k := ⟨(line - f).toNat, by omega⟩;have hkl : k < S.length := by omega
   have hg := ck (f := V.int .i64) (l := S) hkl 0;have e1 : IntKind.i64.wrap (line - f) = k := by rw [hk]; exact ao (by omega) (by omega)
   rw [if_neg (by simp [c2]), hk, Int.toNat_natCast, List.map_set];subst c2;generalize stS f S line = t at *;simp only [go_sem, e, c1, hb, e1, sp hkl, hc, hg]
  ·rw [if_pos c2];generalize stS f S line = t at *;simp only [go_sem, e, c1, c2]
theorem GD {s : St} {b c : Nat} {f : Int} {S : List Int} (h : Rf s b c f S) (line : Int) (hl : line ≤ 9223372036854775807) :
 rf D br [.ptr (.hp b) [] 21, .int .i64 line] s = rf D aN [.ptr (.hp b) [] 21, .int .i64 line, .int .i64 0, .int .i64 1] s := by
 rw [lY h line hl 0 1];have e := lY h line hl 0 1;rw [ah md rfl];by_cases c1 : stS f S line < 0
 ·rw [if_pos c1] at e ⊢;simp only [go_sem, e]
 ·rw [if_neg c1] at e ⊢;by_cases c2 : stS f S line = 0
  ·rw [if_neg (by simp [c2])] at e ⊢;simp only [go_sem, e]
  ·rw [if_pos c2] at e ⊢;simp only [go_sem, e]
theorem vL {B : List Int} {i j : Nat} {v : Int} (hi : i < B.length) : (B.set i v).getD j 0 = if i = j then v else B.getD j 0 := by
 rw [List.getD_eq_getElem?_getD, List.getD_eq_getElem?_getD, List.getElem?_set];by_cases h : i = j
 ·subst h; simp [hi]
 ·simp [h]
theorem nC {l : List Blk} {a : Nat} {x : Blk} (h : l[a]? = some x) : l.set a x = l := by
 have ha := (List.getElem?_eq_some_iff.1 h).1;apply List.ext_getElem?;intro j;by_cases e : a = j
 ·subst e; rw [List.getElem?_set_self ha]; exact h.symm
 ·rw [List.getElem?_set_ne e]
theorem yI (f l : Int) (h : f < 0 ∨ l < f ∨ 1024 < l) (s : St) : rf D d9 [.int .i64 f, .int .i64 l] s = some (.tup [.nilp, .int .i64 1], s) := by
 rw [ah lh rfl];by_cases h1 : f < 0
 ·simp only [go_sem, h1]
 ·by_cases h2 : l < f
  ·simp only [go_sem, h1, h2]
  ·have h3 : 1024 < l := by omega
   simp only [go_sem, h1, h2, h3]
theorem AQ (f l : Int) (h0 : 0 ≤ f) (h1 : f ≤ l) (h2 : l ≤ 1024) (s : St) :
 rf D d9 [.int .i64 f, .int .i64 l] s = some (.tup [.ptr (.hp (s.hp.length + 1)) [] 21, .int .i64 0], ⟨s.loc, s.hp ++ [.rw (.agg 38 (List.replicate (l - f).toNat (.int .i64 0))), .rw (rfV f s.hp.length (l - f).toNat)]⟩) := by
 have c1 : ¬ f < 0 := by omega
 have c2 : ¬ l < f := by omega
 have c3 : ¬ 1024 < l := by omega
 obtain ⟨n, hn⟩ : ∃ n : Nat, l - f = n := ⟨(l - f).toNat, by omega⟩;have e1 : IntKind.i64.wrap (l - f) = n := by rw [hn]; exact ao (by omega) (by omega)
 have hm : (n : Int) ≤ (cq : Nat) := by unfold cq; omega
 have d0 : (0 : Int) ≤ n := by omega
 rw [hn, Int.toNat_natCast, ah lh rfl];simp only [rfV];simp only [go_sem, c1, c2, c3, e1, hm, d0, Int.le_refl];rw [Int.toNat_natCast]
end Go.Proofs.YtnffmibpblibdaaGreatDoor
namespace Go.Proofs.YtnffmibpblibdaaGreatDoor
open Go.Ab
structure Obj where
 kind : Int
 ver : Int
 l : List Int
def Obj.v (o : Obj) : V := .agg 26 [.int .i64 o.kind, .int .i64 o.ver, .agg 24 (o.l.map (.int .u64))]
theorem U6 {α : Type} {f : α → V} {P : α → Prop} {l : List V} (h : ∀ x ∈ l, ∃ a, x = f a ∧ P a) : ∃ la : List α, l = la.map f ∧ ∀ a ∈ la, P a := by
 induction l with
 | nil => exact ⟨[], rfl, by simp⟩
 | cons x l ih =>
  obtain ⟨a, rfl, ha⟩ := h x (List.mem_cons_self ..);obtain ⟨la, rfl, hl⟩ := ih fun y hy => h y (List.mem_cons_of_mem _ hy);refine ⟨a :: la, rfl, fun y hy => ?_⟩;rcases List.mem_cons.1 hy with rfl | hy
  ·exact ha
  ·exact hl y hy
end Go.Proofs.YtnffmibpblibdaaGreatDoor
namespace Go.Proofs.YtnffmibpblibdaaGreatDoor
open Go.Ab
structure Ent where
 kind : Int
 ver : Int
 line : Int
def Ent.v (x : Ent) : V := .agg 42 [.int .i64 x.kind, .int .i64 x.ver, .int .i64 x.line]
def aj (t : Nat → Ent) : V := .agg 48 (tab 49 fun i => (t i).v)
def ax (d : Nat → Int) : V := .agg 50 (tab 8 fun i => .int .i64 (d i))
def shV (f : Nat → Bool) : V := .agg 82 (tab 1024 fun j => .bool (f j))
def dK : Ent := ⟨0, 0, 0⟩
def bP (t : Nat → Ent) (f : Nat → Bool) : Nat → Nat → Bool
 | 0 => f
 | n + 1 => if (t n).kind = 0 then bP t f n else upd (bP t f n) (t n).line.toNat true
structure InL (t : Nat → Ent) : Prop where
 inn : ∀ i, i < 49 → (t i).kind ≠ 0 → 0 ≤ (t i).line ∧ (t i).line < 1024
theorem EG {s : St} {a : Nat} {x0 x1 x2 x3 x4 x5 x6 : V} {f : Nat → Bool} {t : Nat → Ent} (h : s.hp[a]? = some (.rw (.agg 43 [x0, x1, x2, x3, x4, x5, x6, shV f]))) (ht : InL t) :
 rf D bv [.ptr (.hp a) [7] 82, aj t] s = some (.tup [], ⟨s.loc, s.hp.set a (.rw (.agg 43 [x0, x1, x2, x3, x4, x5, x6, shV (bP t f 49)]))⟩) := by
 have ha := (List.getElem?_eq_some_iff.1 h).1;have loop : rc D s.loc.length (.loop [0, 6, 7] bh) [(0, .ptr (.hp a) [7] 82), (6, aj t), (7, .int .i64 0)] ⟨s.loc ++ [.rw (aj t)], s.hp⟩ =
  some (.exit 0, [(0, .ptr (.hp a) [7] 82), (6, aj t), (7, .int .i64 49), (8, .bool false)], ⟨s.loc ++ [.rw (aj t)], s.hp.set a (.rw (.agg 43 [x0, x1, x2, x3, x4, x5, x6, shV (bP t f 49)]))⟩) := by
  refine cw (fun x : Nat => [(0, .ptr (.hp a) [7] 82), (6, aj t), (7, .int .i64 x)]) (fun x => ⟨s.loc ++ [.rw (aj t)], s.hp.set a (.rw (.agg 43 [x0, x1, x2, x3, x4, x5, x6, shV (bP t f x)]))⟩) (fun _ => _) (fun x => 49 - x) (fun x => x ≤ 49) 0 ?_ (by omega) rfl ?_
  ·intro i hi;by_cases c1 : i < 49
   ·left;have d1 : (i : Int) < 49 := by omega
    have d2 : (0 : Int) ≤ i := by omega
    have d4 : IntKind.i64.wrap ((i : Int) + 1) = (i : Int) + 1 := ao (by omega) (by omega);have g1 := aG (f := fun i => (t i).v) c1;have hin := ht.inn i c1;refine ⟨i + 1, by omega, by omega, rfl, ?_⟩;simp only [aj, Ent.v, bP] at *;generalize tab 49 (fun i => V.agg 42 [.int .i64 (t i).kind, .int .i64 (t i).ver, .int .i64 (t i).line]) = T at *;have hs : ∀ b, (s.hp.set a b)[a]? = some b := fun b => List.getElem?_set_self ha;by_cases hk : (t i).kind = 0
    ·simp only [hk, if_true] at g1 ⊢;generalize bP t f i = f' at *;simp only [go_sem, bh, d1, d2];rw [Int.toNat_natCast];simp only [go_sem, g1, d4];rfl
    ·simp only [hk, if_false] at g1 ⊢;obtain ⟨h1, h2⟩ := hin hk;obtain ⟨q, hq⟩ : ∃ q : Nat, (t i).line = q := ⟨(t i).line.toNat, by omega⟩;simp only [hq, Int.toNat_natCast] at g1 h1 h2 ⊢;have e := j6 1024 (fun j => V.bool (bP t f i j)) q (.bool true);have hu : tab 1024 (upd (fun j => V.bool (bP t f i j)) q (.bool true)) = tab 1024 (fun j => V.bool (upd (bP t f i) q true j)) := fD fun j _ => by unfold upd; split <;> rfl
     rw [hu] at e;have hg := aG (f := fun j => V.bool (bP t f i j)) (show q < 1024 by omega);simp only [shV];rw [← e];generalize tab 1024 (fun j => V.bool (bP t f i j)) = F at *;generalize bP t f i q = y at *;simp only [go_sem, bh, d1, d2];rw [Int.toNat_natCast];simp only [go_sem, g1, hk, h1, h2, hs];rw [Int.toNat_natCast];simp only [go_sem, hg, d4, List.set_set];rfl
   ·right;have : i = 49 := by omega
    subst this;simp only [aj];simp only [go_sem, bh]
  ·simp only [bP];rw [nC h]
 simp only [aj] at *;rw [ah lD rfl];simp only [go_sem, loop]
def kc (base mark : Nat → Ent) (marked : Bool) : Nat → Bool := if marked then bP mark (bP base (fun _ => false) 49) 49 else bP base (fun _ => false) 49
structure StF where
 m : Nat
 fr : Nat
 work : Nat → Ent
 base : Nat → Ent
 dir : Nat → Int
 mark : Nat → Ent
 marked : Bool
def StF.v (x : StF) (sh : Nat → Bool) : V := .agg 43 [.ptr (.hp x.m) [] 59, .ptr (.hp x.fr) [] 80, aj x.work, aj x.base, ax x.dir, aj x.mark, .bool x.marked, shV sh]
theorem As : V.agg 82 (List.replicate 1024 (.bool false)) = shV fun _ => false := by rw [jX]; rfl
theorem tG {s : St} {a : Nat} {x : StF} {sh : Nat → Bool} (h : s.hp[a]? = some (.rw (x.v sh))) (hb : InL x.base) (hm : x.marked = true → InL x.mark) :
 rf D bB [.ptr (.hp a) [] 43] s = some (.tup [], ⟨s.loc, s.hp.set a (.rw (x.v (kc x.base x.mark x.marked)))⟩) := by
 have ha := (List.getElem?_eq_some_iff.1 h).1;have hs : ∀ b, (s.hp.set a b)[a]? = some b := fun b => List.getElem?_set_self ha;obtain ⟨m, fr, work, base, dir, mark, marked⟩ := x;simp only [StF.v] at *;have r1 := fun L => EG (s := ⟨s.loc ++ L, s.hp.set a (.rw (.agg 43 [.ptr (.hp m) [] 59, .ptr (.hp fr) [] 80, aj work, aj base, ax dir, aj mark, .bool marked, shV fun _ => false]))⟩) (hs _) hb;have r2 := fun L (h : marked = true) => EG (s := ⟨s.loc ++ L, s.hp.set a (.rw (.agg 43 [.ptr (.hp m) [] 59, .ptr (.hp fr) [] 80, aj work, aj base, ax dir, aj mark, .bool marked, shV (bP base (fun _ => false) 49)]))⟩) (hs _) (hm h);have e := As;simp only [List.set_set, shV] at r1 r2 h e ⊢;have r1 := r1 [];have r2 := r2 [];simp only [List.append_nil] at r1 r2;rw [ah pJ rfl];simp only [aj, V.agg.injEq, true_and] at *;cases marked
 ·simp only [kc, Bool.false_eq_true, if_false];generalize tab 1024 (fun j => V.bool (bP base (fun _ => false) 49 j)) = F1 at *;simp only [go_sem, h, e, hs, r1]
 ·have r2 := r2 rfl;simp only [kc, if_true];generalize tab 1024 (fun j => V.bool (bP base (fun _ => false) 49 j)) = F1 at *;simp only [go_sem, h, e, hs, r1, r2]
end Go.Proofs.YtnffmibpblibdaaGreatDoor
namespace Go.Proofs.YtnffmibpblibdaaGreatDoor
open Go.Ab
def nmE (t : Nat → Ent) (c : Int) : Int := gO (t (bK c).id.toNat).kind (t (bK c).id.toNat).ver (bK c).id c
def vg (t : Nat → Ent) (c : Int) : Int := if nmE t c = 0 then (bK c).id else 0
theorem vn (c : Int) : 0 ≤ (bK c).id ∧ (bK c).id ≤ 48 := by
 unfold bK;split
 ·rename_i h; exact UX h
 ·exact ⟨Int.le_refl _, by decide⟩
theorem Fd {t : Nat → Ent} {c : Int} (h : (eK c).may = false) : nmE t c = 31 := by
 unfold nmE gO; rw [h]; rfl
theorem Hn {s : St} {a : Nat} {x : StF} {sh : Nat → Bool} (h : s.hp[a]? = some (.rw (x.v sh))) (c : Int) (h0 : 0 ≤ c) (h1 : c ≤ 18446744073709551615) :
 rf D dR [.ptr (.hp a) [] 43, .int .u64 c] s = some (.tup [.int .i64 (vg x.work c), .int .i64 (nmE x.work c)], s) := by
 have hc := fun s => uy c h0 h1 s;have hid := vn c;have hno := Fd (t := x.work) (c := c);unfold vg;have hn : nmE x.work c = gO (x.work (bK c).id.toNat).kind (x.work (bK c).id.toNat).ver (bK c).id c := rfl;obtain ⟨i, hi⟩ : ∃ i : Nat, (bK c).id = i := ⟨(bK c).id.toNat, by omega⟩;rw [hi, Int.toNat_natCast] at hn;have g1 := aG (f := fun i => (x.work i).v) (show i < 49 by omega);have hen := fun s => vh (x.work i).kind (x.work i).ver (x.work i).line i c h0 h1 s;rw [← hn] at hen;have c1 : (i : Int) < 49 := by omega
 have c2 : (0 : Int) ≤ i := by omega
 simp only [hi] at hc ⊢;obtain ⟨m, fr, work, base, dir, mark, marked⟩ := x;simp only [StF.v, aj, Cap.v, Ent.v] at *;simp only [hi] at hc;generalize nmE work c = e at *;generalize tab 49 (fun i => V.agg 42 [.int .i64 (work i).kind, .int .i64 (work i).ver, .int .i64 (work i).line]) = T at *;rw [ah pE rfl];by_cases hm : (eK c).may = true
 ·simp only [hm] at hc;simp only [go_sem, hc, h, c1, c2];rw [Int.toNat_natCast];by_cases he : e = 0
  ·subst he;simp only [go_sem, g1, hen]
  ·simp only [go_sem, g1, hen, he]
 ·have hm' : (eK c).may = false := by simpa using hm
  have he := hno hm';subst he;simp only [hm'] at hc;simp only [go_sem, hc]
def gE (t : Nat → Ent) (id : Int) : Int := if id < 0 ∨ 49 ≤ id then 1 else if (t id.toNat).kind = 0 then 30 else 0
theorem SD {s : St} {a : Nat} {x : StF} {sh : Nat → Bool} (h : s.hp[a]? = some (.rw (x.v sh))) (id : Int) : rf D bg [.ptr (.hp a) [] 43, .int .i64 id] s = some (.int .i64 (gE x.work id), s) := by
 obtain ⟨m, fr, work, base, dir, mark, marked⟩ := x;simp only [StF.v, aj] at *;unfold gE;rw [ah rU rfl];by_cases c1 : id < 0
 ·simp only [go_sem, c1]
 ·by_cases c2 : 49 ≤ id
  ·simp only [go_sem, c1, c2]
  ·obtain ⟨i, rfl⟩ : ∃ i : Nat, id = i := ⟨id.toNat, by omega⟩;have g1 := aG (f := fun i => (work i).v) (show i < 49 by omega);simp only [Ent.v] at *;generalize tab 49 (fun i => V.agg 42 [.int .i64 (work i).kind, .int .i64 (work i).ver, .int .i64 (work i).line]) = T at *;have d1 : (i : Int) < 49 := by omega
   have d2 : (0 : Int) ≤ i := by omega
   rw [if_neg (by omega), Int.toNat_natCast];by_cases hk : (work i).kind = 0
   ·simp only [hk] at *;simp only [go_sem, c1, c2, h, d1, d2];rw [Int.toNat_natCast];simp only [go_sem, g1]
   ·simp only [go_sem, c1, c2, h, d1, d2];rw [Int.toNat_natCast];simp only [go_sem, g1, hk]
end Go.Proofs.YtnffmibpblibdaaGreatDoor
namespace Go.Proofs.YtnffmibpblibdaaGreatDoor
open Go.Ab
def nj (e : Ent) : Bool := decide (e.kind = 0) && decide (e.ver < 16777215)
theorem qN (k v l : Int) (s : St) : rf D kL [.agg 42 [.int .i64 k, .int .i64 v, .int .i64 l]] s = some (.bool (nj ⟨k, v, l⟩), s) := by
 unfold nj;rw [ah wN rfl];by_cases h1 : k = 0
 ·simp [go_sem, h1]
 ·simp [go_sem, h1]
def nxt (t : Nat → Ent) : Option Nat := (List.range 49).find? fun i => nj (t i)
theorem sW {t : Nat → Ent} {n : Nat} (h : nxt t = some n) : n < 49 ∧ nj (t n) = true ∧ ∀ j, j < n → nj (t j) = false := by
 unfold nxt at h;rw [List.find?_range_eq_some] at h;simp only [Bool.not_eq_true'] at h;exact ⟨by simpa using h.2.1, h.1, h.2.2⟩
theorem xm {t : Nat → Ent} (h : nxt t = none) : ∀ j, j < 49 → nj (t j) = false := by
 unfold nxt at h;rw [List.find?_eq_none] at h;intro j hj;simpa using h j (by simpa using hj)
theorem Eh {s : St} {t : Nat → Ent} (h : nxt t = none) :
 rc D s.loc.length (.loop [17, 18] bQ) [(17, aj t), (18, .int .i64 0)] s = some (.exit 1, [(17, aj t), (18, .int .i64 49), (19, .bool false)], s) := by
 have hn := xm h;refine cw (fun x : Nat => [(17, aj t), (18, .int .i64 x)]) (fun _ => s) (fun _ => _) (fun x => 49 - x) (fun x => x ≤ 49) 0 ?_ (Nat.zero_le _) rfl rfl;intro i hi;by_cases c1 : i < 49
 ·left;have d1 : (i : Int) < 49 := by omega
  have d2 : (0 : Int) ≤ i := by omega
  have d4 : IntKind.i64.wrap ((i : Int) + 1) = (i : Int) + 1 := ao (by omega) (by omega);have ho := fun s => qN (t i).kind (t i).ver (t i).line s;have ht := aG (f := fun i => (t i).v) c1;rw [show (⟨(t i).kind, (t i).ver, (t i).line⟩ : Ent) = t i from rfl, hn i c1] at ho
  refine ⟨i + 1, by omega, by omega, rfl, ?_⟩;simp only [aj, Ent.v] at *;generalize tab 49 (fun i => V.agg 42 [.int .i64 (t i).kind, .int .i64 (t i).ver, .int .i64 (t i).line]) = T at *;simp only [go_sem, bQ, d1, d2];rw [Int.toNat_natCast];simp only [go_sem, ht, ho, d4];rfl
 ·right;have : i = 49 := by omega
  subst this;simp only [go_sem, bQ]
theorem Eb {s : St} {t : Nat → Ent} {n : Nat} (h : nxt t = some n) :
 rc D s.loc.length (.loop [17, 18] bQ) [(17, aj t), (18, .int .i64 0)] s = some (.ret, [(4, .int .i64 n), (5, .int .i64 (t n).ver), (6, .int .i64 0)], ⟨s.loc ++ [.rw (t n).v], s.hp⟩) := by
 obtain ⟨hn, h1, h2⟩ := sW h;refine cw (fun x : Nat => [(17, aj t), (18, .int .i64 x)]) (fun _ => s) (fun _ => _) (fun x => n - x) (fun x => x ≤ n) 0 ?_ (Nat.zero_le _) rfl rfl;intro i hi;have c1 : i < 49 := by omega
 have d1 : (i : Int) < 49 := by omega
 have d2 : (0 : Int) ≤ i := by omega
 have d4 : IntKind.i64.wrap ((i : Int) + 1) = (i : Int) + 1 := ao (by omega) (by omega);have ho := fun s => qN (t i).kind (t i).ver (t i).line s;have ht := aG (f := fun i => (t i).v) c1;rw [show (⟨(t i).kind, (t i).ver, (t i).line⟩ : Ent) = t i from rfl] at ho
 by_cases c2 : i < n
 ·left;rw [h2 i c2] at ho;refine ⟨i + 1, by omega, by omega, rfl, ?_⟩;simp only [aj, Ent.v] at *;generalize tab 49 (fun i => V.agg 42 [.int .i64 (t i).kind, .int .i64 (t i).ver, .int .i64 (t i).line]) = T at *;simp only [go_sem, bQ, d1, d2];rw [Int.toNat_natCast];simp only [go_sem, ht, ho, d4];rfl
 ·right;have : i = n := by omega
  subst this;rw [h1] at ho;simp only [aj, Ent.v] at *;generalize tab 49 (fun i => V.agg 42 [.int .i64 (t i).kind, .int .i64 (t i).ver, .int .i64 (t i).line]) = T at *;simp only [go_sem, bQ, d1, d2];rw [Int.toNat_natCast];simp only [go_sem, ht, ho]
def jp (k : Int) : Prop := k = 1 ∨ k = 2 ∨ k = 4
instance (k : Int) : Decidable (jp k) := inferInstanceAs (Decidable (k = 1 ∨ k = 2 ∨ k = 4))
def nxI (t : Nat → Ent) (k : Int) : Int := if jp k then match nxt t with | some n => n | none => 0 else 0
def nxV (t : Nat → Ent) (k : Int) : Int := if jp k then match nxt t with | some n => (t n).ver | none => 0 else 0
def nxE (t : Nat → Ent) (k : Int) : Int := if jp k then match nxt t with | some _ => 0 | none => 34 else 1
theorem Tf {s : St} {a : Nat} {x : StF} {sh : Nat → Bool} (h : s.hp[a]? = some (.rw (x.v sh))) (k : Int) :
 rf D bN [.ptr (.hp a) [] 43, .int .i64 k] s = some (.tup [.int .i64 (nxI x.work k), .int .i64 (nxV x.work k), .int .i64 (nxE x.work k)], s) := by
 obtain ⟨m, fr, work, base, dir, mark, marked⟩ := x;simp only [StF.v] at *;unfold nxI nxV nxE;by_cases hk : jp k
 ·simp only [hk, if_true];cases hn : nxt work with
  | none =>
   have hl := Eh (s := s) hn;simp only;generalize aj work = T at *;rw [ah jo rfl];by_cases k1 : k = 1
   ·simp only [go_sem, k1, h, hl]
   ·by_cases k2 : k = 2
    ·simp only [go_sem, k1, k2, h, hl]
    ·have k4 : k = 4 := by unfold jp at hk; omega
     simp only [go_sem, k1, k2, k4, h, hl]
  | some n =>
   have hl := Eb (s := s) hn;simp only;generalize aj work = T at *;simp only [Ent.v] at hl;rw [ah jo rfl];by_cases k1 : k = 1
   ·simp only [go_sem, k1, h, hl]
   ·by_cases k2 : k = 2
    ·simp only [go_sem, k1, k2, h, hl]
    ·have k4 : k = 4 := by unfold jp at hk; omega
     simp only [go_sem, k1, k2, k4, h, hl]
 ·simp only [hk, if_false];have k1 : ¬ k = 1 := fun e => hk (.inl e);have k2 : ¬ k = 2 := fun e => hk (.inr (.inl e));have k4 : ¬ k = 4 := fun e => hk (.inr (.inr e));rw [ah jo rfl];simp only [go_sem, k1, k2, k4]
def mS (v : Int) : Int := if 1 ≤ 16777215 - v then v + 1 else 16777215
theorem xl (k v l : Int) (hk : k ≠ 0) (h0 : 0 ≤ v) (h1 : v ≤ 16777215) (s : St) : rf D mi [.agg 42 [.int .i64 k, .int .i64 v, .int .i64 l]] s = some (.tup [.agg 42 [.int .i64 0, .int .i64 (mS v), .int .i64 0], .int .i64 0], s) := by
 have e1 : IntKind.i64.wrap (16777215 - v) = 16777215 - v := ao (by omega) (by omega);unfold mS;rw [ah yC rfl];by_cases h : 1 ≤ 16777215 - v
 ·have e2 : IntKind.i64.wrap (v + 1) = v + 1 := ao (by omega) (by omega);have e3 : min (1 : Int) (16777215 - v) = 1 := by omega
  simp only [go_sem, hk, e1, e2, e3, h, if_true]
 ·have e2 : IntKind.i64.wrap (v + (16777215 - v)) = 16777215 := by rw [ao (by omega) (by omega)]; omega
  have e3 : min (1 : Int) (16777215 - v) = 16777215 - v := by omega
  simp only [go_sem, hk, e1, e2, e3, h, if_false]
def updE (t : Nat → Ent) (i : Nat) (e : Ent) : Nat → Ent := fun j => if j = i then e else t j
theorem GE {t : Nat → Ent} {i : Nat} {e : Ent} : tab 49 (upd (fun j => (t j).v) i e.v) = tab 49 fun j => (updE t i e j).v := by
 apply fD;intro j _;unfold upd updE;split <;> rfl
theorem UW {s : St} {a : Nat} {x : StF} {sh : Nat → Bool} (h : s.hp[a]? = some (.rw (x.v sh))) (i : Nat) (hi : i < 49) (hl : 0 ≤ (x.work i).line ∧ (x.work i).line < 1024) :
 rf D bw [.ptr (.hp a) [] 43, .int .i64 i] s = some (.bool (!sh (x.work i).line.toNat), s) := by
 obtain ⟨m, fr, work, base, dir, mark, marked⟩ := x;have g1 := aG (f := fun i => (work i).v) hi;simp only at hl;obtain ⟨q, hq⟩ : ∃ q : Nat, (work i).line = q := ⟨(work i).line.toNat, by omega⟩;have g2 := aG (n := 1024) (f := fun j => V.bool (sh j)) (show q < 1024 by omega);have d1 : (i : Int) < 49 := by omega
 have d2 : (0 : Int) ≤ i := by omega
 have d3 : (q : Int) < 1024 := by omega
 have d4 : (0 : Int) ≤ q := by omega
 simp only [StF.v, aj, shV, Ent.v] at *;rw [hq] at g1;simp only [hq, Int.toNat_natCast];generalize tab 49 (fun i => V.agg 42 [.int .i64 (work i).kind, .int .i64 (work i).ver, .int .i64 (work i).line]) = T at *;generalize tab 1024 (fun j => V.bool (sh j)) = U at *;rw [ah qX rfl];simp only [go_sem, h, d1, d2];rw [Int.toNat_natCast];simp only [go_sem, g1, h, d3, d4];rw [Int.toNat_natCast];simp only [go_sem, g2]
end Go.Proofs.YtnffmibpblibdaaGreatDoor
namespace Go.Proofs.YtnffmibpblibdaaGreatDoor
open Go.Ab
theorem GZ : ∀ w : Nat, w ≠ 0 → ∃ k m, w = 2 ^ k * (2 * m + 1) := by
 intro w
 induction w using Nat.strongRecOn with
 | _ w ih =>
  intro h;by_cases h2 : w % 2 = 1
  ·exact ⟨0, w / 2, by omega⟩
  ·obtain ⟨k, m, hk⟩ := ih (w / 2) (by omega) (by omega);refine ⟨k + 1, m, ?_⟩;rw [Nat.pow_succ, Nat.mul_assoc, Nat.mul_left_comm, ← hk]; omega
theorem oQ {k m j : Nat} : (2 ^ k * (2 * m + 1)).testBit j = (decide (j = k) || (decide (k < j) && m.testBit (j - k - 1))) := by
 rw [Nat.testBit_two_pow_mul];by_cases h : k ≤ j
 ·obtain ⟨d, rfl⟩ := Nat.exists_eq_add_of_le h;simp only [Nat.le_add_right, decide_true, Bool.true_and, Nat.add_sub_cancel_left];cases d with
  | zero => simp
  | succ d =>
   rw [Nat.testBit_succ, show (2 * m + 1) / 2 = m by omega];simp
 ·have h1 : ¬ j = k := by omega
  have h2 : ¬ k < j := by omega
  simp [h, h1, h2]
theorem SB {k m : Nat} (hw : 2 ^ k * (2 * m + 1) < 2 ^ 64) : (2 ^ k * (2 * m + 1)) &&& (2 ^ 64 - 2 ^ k * (2 * m + 1)) = 2 ^ k := by
 have hpos : 0 < 2 ^ k := Nat.two_pow_pos k;apply Nat.eq_of_testBit_eq;intro j;have e : 2 ^ 64 - 2 ^ k * (2 * m + 1) = 2 ^ 64 - ((2 ^ k * (2 * m) + (2 ^ k - 1)) + 1) := by
  have : 2 ^ k * (2 * m + 1) = 2 ^ k * (2 * m) + 2 ^ k := by rw [Nat.mul_add, Nat.mul_one]
  omega
 have hlt : 2 ^ k * (2 * m) + (2 ^ k - 1) < 2 ^ 64 := by
  have : 2 ^ k * (2 * m + 1) = 2 ^ k * (2 * m) + 2 ^ k := by rw [Nat.mul_add, Nat.mul_one]
  omega
 rw [Nat.testBit_and, e, Nat.testBit_two_pow_sub_succ hlt, oQ, Nat.testBit_two_pow_mul_add _ (by omega : 2 ^ k - 1 < 2 ^ k), Nat.testBit_two_pow];by_cases h1 : j = k
 ·subst h1;have hk : j < 64 := by
   by_cases h : j < 64
   ·exact h
   ·have := Nat.pow_le_pow_right (show 0 < 2 by decide) (show 64 ≤ j by omega);have h3 : 2 ^ j ≤ 2 ^ j * (2 * m + 1) := Nat.le_mul_of_pos_right _ (by omega);omega
  simp [hk]
 ·by_cases h2 : k < j
  ·have h3 : ¬ j < k := by omega
   have h4 : ¬ k = j := fun h => h1 h.symm;obtain ⟨d, rfl⟩ := Nat.exists_eq_add_of_lt h2;have e2 : k + d + 1 - k = d + 1 := by omega
   simp only [h1, h3, h4, if_false, decide_false, Bool.false_or, h2, decide_true, Bool.true_and, e2, Nat.add_sub_cancel];rw [Nat.testBit_succ, show 2 * m / 2 = m by omega];cases m.testBit d <;> simp
  ·have h4 : ¬ k = j := fun h => h1 h.symm;simp [h1, h2, h4]
def WJ (k : Nat) : Bool := decide (mK[(2 ^ k * 285870213051353865 % 18446744073709551616) / 288230376151711744]? = some (k : Int))
theorem T6 : (List.range 64).all WJ = true := by kernel_rfl
theorem GM {k : Nat} (hk : k < 64) : mK[(2 ^ k * 285870213051353865 % 18446744073709551616) / 288230376151711744]? = some (k : Int) :=
 of_decide_eq_true (List.all_eq_true.1 T6 k (List.mem_range.2 hk))
structure Low (w k : Nat) : Prop where
 lt : k < 64
 set : w.testBit k = true
 less : ∀ j, j < k → w.testBit j = false
theorem Wh (w : Nat) (h0 : w ≠ 0) (hw : w < 18446744073709551616) : IntKind.u64.wrap (0 - (w : Int)) = ((18446744073709551616 - w : Nat) : Int) := by
 rw [IntKind.wrap_u64]; omega
theorem V2 (p : Nat) : IntKind.u64.wrap ((p : Int) * 285870213051353865) = ((p * 285870213051353865 % 18446744073709551616 : Nat) : Int) := by
 rw [IntKind.wrap_u64]; simp
theorem Wr (q : Nat) : ke .u64 (q : Int) 58 = ((q / 288230376151711744 : Nat) : Int) := by
 have := kn (q : Int) 58 (by decide);rw [show (58 : Int) = ((58 : Nat) : Int) by rfl, this]; simp
theorem IW {k m : Nat} (hw : 2 ^ k * (2 * m + 1) < 18446744073709551616) : k < 64 := by
 by_cases h : k < 64
 ·exact h
 ·have h1 := Nat.pow_le_pow_right (show 0 < 2 by decide) (show 64 ≤ k by omega);have h3 : 2 ^ k ≤ 2 ^ k * (2 * m + 1) := Nat.le_mul_of_pos_right _ (by omega);have h4 : 18446744073709551616 ≤ 2 ^ k := h1;exact absurd hw (Nat.not_lt.2 (Nat.le_trans h4 h3))
theorem UC {k m : Nat} (hw : 2 ^ k * (2 * m + 1) < 18446744073709551616) : Low (2 ^ k * (2 * m + 1)) k := by
 refine ⟨IW hw, by rw [oQ]; simp, fun j hj => ?_⟩;rw [oQ];have h1 : ¬ j = k := by omega
 have h2 : ¬ k < j := by omega
 simp [h1, h2]
theorem Wx {k m : Nat} (hw : 2 ^ k * (2 * m + 1) < 18446744073709551616) : j8 .u64 (2 ^ k * (2 * m + 1) : Nat) ((18446744073709551616 - 2 ^ k * (2 * m + 1) : Nat) : Int) = ((2 ^ k : Nat) : Int) := by
 have h : 0 < 2 ^ k * (2 * m + 1) := Nat.mul_pos (Nat.two_pow_pos k) (by omega);rw [nG hw (by omega)];exact congrArg _ (SB hw)
theorem Uw {q : Nat} (h : q < 18446744073709551616) : q / 288230376151711744 < 64 := by omega
theorem VQ (w : Nat) (h0 : w ≠ 0) (hw : w < 18446744073709551616) (s : St) (hG : s.hp[0]? = some (.ro dC)) :
 ∃ k, Low w k ∧ rf D dq [.int .u64 w] s = some (.int .i64 k, s) := by
 obtain ⟨k, m, rfl⟩ := GZ w h0;have hk := IW hw;refine ⟨k, UC hw, ?_⟩;have e1 := Wh _ h0 hw;have e2 := Wx hw;have ht := GM hk;have d3 : ¬ ((2 ^ k * (2 * m + 1) : Nat) : Int) = 0 := by rw [Int.natCast_eq_zero]; exact h0
 clear hw h0;generalize 2 ^ k * (2 * m + 1) = w at *;generalize 2 ^ k = p at *;have e3 := V2 p;have hq : p * 285870213051353865 % 18446744073709551616 < 18446744073709551616 := Nat.mod_lt _ (by decide);generalize p * 285870213051353865 % 18446744073709551616 = q at *;have e4 := Wr q;have hq64 := Uw hq;generalize q / 288230376151711744 = r at *;have d1 : (r : Int) < 64 := by omega
 have d2 : (0 : Int) ≤ (r : Int) := by omega
 have hg : (mK.map (V.int .u8))[r]? = some (.int .u8 k) := by rw [List.getElem?_map, ht]; rfl
 have d4 : IntKind.i64.wrap (k : Int) = k := ao (by omega) (by omega);have hG' : s.hp[0]? = some (.ro (.agg 108 (mK.map (V.int .u8)))) := hG;generalize 18446744073709551616 - w = nw at *;rw [ah mA rfl];simp only [go_sem, d3, e1, e2, e3];simp only [e4];simp only [d1, d2, go_sem];rw [Int.toNat_natCast, hG'];simp only [go_sem, hg, d4]
theorem BA {s : St} {a : Nat} {f l : Int} {wf wl : List Nat} (h : Fr s a f l wf wl) (line : Int) (ht : cB f l wf wl line = 1) :
 rf D dg [.ptr (.hp a) [] 80, .int .i64 line] s = some (.int .i64 0, ⟨s.loc, s.hp.set a (.rw (frV f l (flip wf line.toNat) wl))⟩) := by
 have e := ss h line 1;rw [ht] at e;have hl := nv (show cB f l wf wl line ≠ -1 by rw [ht]; decide);have h0 := h.f0;have h1 := h.l1;obtain ⟨i, rfl⟩ : ∃ i : Nat, line = i := ⟨line.toNat, by omega⟩;have hb := h.blk;simp only [frV] at hb ⊢;have e1 := pP s a _ _ _ wf h.okf hb i (by omega);rw [Int.toNat_natCast, ah kU rfl];have hi : inE 1 1 = 0 := rfl;simp only [go_sem, e, hi, e1]
theorem AZ {s : St} {a : Nat} {f l : Int} {wf wl : List Nat} (h : Fr s a f l wf wl) (line : Int) (ht : cB f l wf wl line ≠ 1) :
 rf D dg [.ptr (.hp a) [] 80, .int .i64 line] s = some (.int .i64 (inE (cB f l wf wl line) 1), s) := by
 have e := ss h line 1;have hn : ¬ inE (cB f l wf wl line) 1 = 0 := by unfold inE; split <;> simp_all
 rw [ah kU rfl];simp only [go_sem, e, hn]
structure BQ (w : List Nat) (n : Nat) : Prop where
 lt : n < 1024
 set : bit w n = true
 less : ∀ j, j < n → bit w j = false
def Hz (w : List Nat) : Prop := ∀ j, j < 1024 → bit w j = false
theorem CM {x : Nat} (h : x = 0) (i : Nat) : x.testBit i = false := by subst h; exact Nat.zero_testBit i
theorem GS {s : St} {a : Nat} {f l : Int} {wf wl : List Nat} (h : Fr s a f l wf wl) (hG : s.hp[0]? = some (.ro dC)) :
 (∃ n, BQ wf n ∧ rf D bD [.ptr (.hp a) [] 80] s = some (.tup [.int .i64 n, .int .i64 0], ⟨s.loc, s.hp.set a (.rw (frV f l (flip wf n) wl))⟩)) ∨
  (Hz wf ∧ rf D bD [.ptr (.hp a) [] 80] s = some (.tup [.int .i64 0, .int .i64 10], s)) := by
 have hb := h.blk;have hlen := h.okf.len;simp only [frV] at hb ⊢;have loop : ∃ r, rc D s.loc.length (.loop [0, 10, 11] dm) [(0, .ptr (.hp a) [] 80), (10, .agg 78 (wf.map cN)), (11, .int .i64 0)] s = some r ∧
  ((∃ n : Nat, BQ wf n ∧ r = (.ret, [(2, .int .i64 n), (3, .int .i64 0)], ⟨s.loc, s.hp.set a (.rw (.agg 80 [.int .i64 f, .int .i64 l, .agg 78 ((flip wf n).map cN), .agg 78 (wl.map cN)]))⟩)) ∨
   (Hz wf ∧ r = (.exit 0, [(0, .ptr (.hp a) [] 80), (10, .agg 78 (wf.map cN)), (11, .int .i64 16), (12, .bool false)], s))) := by
  refine j4 (fun x : Nat => [(0, .ptr (.hp a) [] 80), (10, .agg 78 (wf.map cN)), (11, .int .i64 x)]) (fun _ => s) _ (fun x => 16 - x)
   (fun x => x ≤ 16 ∧ ∀ j, j < 64 * x → bit wf j = false) 0 ?_ ⟨by omega, fun j hj => by omega⟩ rfl rfl
  rintro i ⟨hi, hz⟩;by_cases c1 : i < 16
  ·have d1 : (i : Int) < 16 := by omega
   have d2 : (0 : Int) ≤ i := by omega
   have d4 : IntKind.i64.wrap ((i : Int) + 1) = (i : Int) + 1 := ao (by omega) (by omega);have hg := ck (f := cN) (l := wf) (i := i) (by omega) 0;have hlt := h.okf.get c1;by_cases hw : wf.getD i 0 = 0
   ·left;refine ⟨i + 1, ⟨by omega, fun j hj => ?_⟩, by omega, ?_⟩
    ·by_cases hj2 : j < 64 * i
     ·exact hz j hj2
     ·have e : j / 64 = i := by omega
      unfold bit;rw [e];exact CM hw _
    ·rw [hw] at hg;simp only [go_sem, dm, d1, d2];rw [Int.toNat_natCast];simp only [go_sem, hg, d4];rfl
   ·right;obtain ⟨k, hk, htz⟩ := VQ _ hw hlt s hG;have hk64 := hk.lt;have hfirst : BQ wf (64 * i + k) := by
     refine ⟨by omega, ?_, fun j hj => ?_⟩
     ·unfold bit;rw [show (64 * i + k) / 64 = i by omega, show (64 * i + k) % 64 = k by omega];exact hk.set
     ·by_cases hj2 : j < 64 * i
      ·exact hz j hj2
      ·unfold bit;rw [show j / 64 = i by omega];exact hk.less _ (by omega)
    have e1 := pP s a _ _ _ wf h.okf hb (64 * i + k) hfirst.lt;refine ⟨_, ?_, .inl ⟨64 * i + k, hfirst, rfl⟩⟩;have e2 : IntKind.i64.wrap (64 * (i : Int)) = 64 * (i : Int) := ao (by omega) (by omega);have e3 : IntKind.i64.wrap (64 * (i : Int) + (k : Int)) = ((64 * i + k : Nat) : Int) := by rw [ao (by omega) (by omega)]; omega
    have hw' : ¬ ((wf.getD i 0 : Nat) : Int) = 0 := by omega
    generalize 64 * i + k = n at *;generalize wf.getD i 0 = x at *;simp only [go_sem, dm, d1, d2];rw [Int.toNat_natCast];simp only [go_sem, hg, hw', htz, e2, e3, e1]
  ·right;have : i = 16 := by omega
   subst this;refine ⟨_, ?_, .inr ⟨fun j hj => hz j (by omega), rfl⟩⟩;simp only [go_sem, dm]
 obtain ⟨r, hl, hr⟩ := loop;rcases hr with ⟨n, hn, rfl⟩ | ⟨hn, rfl⟩
 ·left;refine ⟨n, hn, ?_⟩;rw [ah ky rfl];simp only [go_sem, hb, hl]
 ·right;refine ⟨hn, ?_⟩;rw [ah ky rfl];simp only [go_sem, hb, hl]
end Go.Proofs.YtnffmibpblibdaaGreatDoor
namespace Go.Proofs.YtnffmibpblibdaaGreatDoor
open Go.Ab
def bS (f l : Int) : List Int → List Nat → Option (List Nat)
 | [], w => some w
 | x :: r, w => if cB f l w (w16 []) x = 0 then bS f l r (flip w x.toNat) else none
def aJ (t : Nat → Ent) : Nat → Nat → List Int
 | _, 0 => []
 | i, n + 1 => if (t i).kind = 0 then aJ t (i + 1) n else (t i).line :: aJ t (i + 1) n
def dX (d : Nat → Int) : Nat → Nat → List Int
 | _, 0 => []
 | i, n + 1 => d i :: dX d (i + 1) n
def cU (t : Nat → Ent) (d : Nat → Int) : List Int := aJ t 0 49 ++ dX d 0 8
theorem wY {f l : Int} (h0 : 0 ≤ f) (h1 : l ≤ 1024) : ∀ {ls : List Int} {w w' : List Nat}, bS f l ls w = some w' → ∀ x ∈ ls, 0 ≤ x ∧ x < 1024
 | [], _, _, _, x, hx => by cases hx
 | y :: r, w, w', h, x, hx => by
  simp only [bS] at h;split at h
  ·rename_i hz;rcases List.mem_cons.1 hx with rfl | hx
   ·have := nv (show cB f l w (w16 []) x ≠ -1 by rw [hz]; decide);omega
   ·exact wY h0 h1 h x hx
  ·cases h
theorem qk (t : Nat → Ent) : ∀ (n i k : Nat), i ≤ k → k < i + n → (t k).kind ≠ 0 → (t k).line ∈ aJ t i n
 | 0, i, k, h1, h2, _ => by omega
 | n + 1, i, k, h1, h2, h3 => by
  simp only [aJ];by_cases e : i = k
  ·subst e; rw [if_neg h3]; exact List.mem_cons_self
  ·have := qk t n (i + 1) k (by omega) (by omega) h3;split
   ·exact this
   ·exact List.mem_cons_of_mem _ this
theorem tC {f l : Int} (h0 : 0 ≤ f) (h1 : l ≤ 1024) {w : List Nat} (hw : OkS w) {x : Int} (hx : cB f l w (w16 []) x = 0) : OkS (flip w x.toNat) := by
 have := nv (show cB f l w (w16 []) x ≠ -1 by rw [hx]; decide);exact hw.flip (by omega)
theorem wX {f l : Int} (h0 : 0 ≤ f) (h1 : l ≤ 1024) : ∀ {ls : List Int} {w w' : List Nat}, OkS w → bS f l ls w = some w' → OkS w'
 | [], _, _, hw, h => by cases h; exact hw
 | y :: r, w, w', hw, h => by
  simp only [bS] at h;split at h
  ·rename_i hz;exact wX h0 h1 (tC h0 h1 hw hz) h
  ·cases h
theorem EF {st : Int} (h : st ≠ 0) : ¬ inE st 0 = 0 := by
 unfold inE; split <;> simp_all
theorem yK (L0 H : List Blk) (t : Nat → Ent) (d : Nat → Int) (f : Int) (l : Nat) (X : V) (h0 : 0 ≤ f) (h1 : l ≤ 1024) (w0 : List Nat) (hw0 : OkS w0) (rest : List Int) :
 ∃ r, rc D L0.length (.loop [7, 10, 12, 34, 35] gd) [(7, .ptr (.loc (L0.length + 1)) [] 50), (10, .ptr (.hp H.length) [] 80), (12, .ptr (.hp (H.length + 1)) [] 43), (34, aj t), (35, .int .i64 0)]
  ⟨L0 ++ [.rw (aj t), .rw (ax d)], H ++ [.rw (frV f l w0 (w16 [])), .rw X]⟩ = some r ∧
  ((bS f l (aJ t 0 49 ++ rest) w0 = none ∧ ∃ (L' : List Blk) (w : List Nat), r = (.ret, [(8, .nilp), (9, .int .i64 21)], ⟨L0 ++ L', H ++ [.rw (frV f l w (w16 [])), .rw X]⟩)) ∨
   (∃ w, OkS w ∧ bS f l (aJ t 0 49 ++ rest) w0 = bS f l rest w ∧ r = (.exit 0, [(7, .ptr (.loc (L0.length + 1)) [] 50), (10, .ptr (.hp H.length) [] 80), (12, .ptr (.hp (H.length + 1)) [] 43), (34, aj t), (35, .int .i64 49), (36, .bool false)],
    ⟨L0 ++ [.rw (aj t), .rw (ax d)], H ++ [.rw (frV f l w (w16 [])), .rw X]⟩))) := by
 refine j4 (fun x : Nat × List Nat => [(7, .ptr (.loc (L0.length + 1)) [] 50), (10, .ptr (.hp H.length) [] 80), (12, .ptr (.hp (H.length + 1)) [] 43), (34, aj t), (35, .int .i64 x.1)])
  (fun x => ⟨L0 ++ [.rw (aj t), .rw (ax d)], H ++ [.rw (frV f l x.2 (w16 [])), .rw X]⟩) _ (fun x => 49 - x.1)
  (fun x => x.1 ≤ 49 ∧ OkS x.2 ∧ bS f l (aJ t 0 49 ++ rest) w0 = bS f l (aJ t x.1 (49 - x.1) ++ rest) x.2) (0, w0) ?_ ⟨by simp only; omega, hw0, rfl⟩ rfl rfl
 rintro ⟨i, w⟩ ⟨hi, hok, htk⟩;simp only at hi hok htk;by_cases c1 : i < 49
 ·have d1 : (i : Int) < 49 := by omega
  have d2 : (0 : Int) ≤ i := by omega
  have d5 : L0.length + 1 < L0.length + 2 := by omega
  have d4 : IntKind.i64.wrap ((i : Int) + 1) = (i : Int) + 1 := ao (by omega) (by omega);have g1 := aG (f := fun i => (t i).v) c1;have hl : aJ t i (49 - i) = if (t i).kind = 0 then aJ t (i + 1) (49 - (i + 1)) else (t i).line :: aJ t (i + 1) (49 - (i + 1)) := by
   rw [show 49 - i = (49 - (i + 1)) + 1 by omega]; rfl
  rw [hl] at htk;by_cases hk : (t i).kind = 0
  ·left;rw [if_pos hk] at htk;refine ⟨(i + 1, w), ⟨by simp only; omega, hok, htk⟩, by simp only; omega, ?_⟩;simp only [aj, Ent.v, ax] at *;simp only [hk] at g1;generalize tab 49 (fun i => V.agg 42 [.int .i64 (t i).kind, .int .i64 (t i).ver, .int .i64 (t i).line]) = T at *;simp only [go_sem, gd, d1, d2];rw [Int.toNat_natCast];simp only [go_sem, g1, d4, d5];rfl
  ·rw [if_neg hk, List.cons_append] at htk;simp only [bS] at htk;have hfr : ∀ L : List Blk, Fr ⟨L, H ++ [.rw (frV f l w (w16 [])), .rw X]⟩ H.length f l w (w16 []) := fun L => ⟨by simp, h0, by omega, hok, rH⟩;by_cases hst : cB f l w (w16 []) (t i).line = 0
   ·left;rw [if_pos hst] at htk;have r1 := fun L => uq (hfr L) (t i).line hst;refine ⟨(i + 1, flip w (t i).line.toNat), ⟨by simp only; omega, tC h0 (by omega) hok hst, htk⟩, by simp only; omega, ?_⟩;simp only [aj, Ent.v, ax] at *;generalize tab 49 (fun i => V.agg 42 [.int .i64 (t i).kind, .int .i64 (t i).ver, .int .i64 (t i).line]) = T at *;simp only [qJ, List.set_cons_zero] at r1;simp only [go_sem, gd, d1, d2];rw [Int.toNat_natCast];simp only [go_sem, g1, hk, r1, d4, d5];rfl
   ·right;rw [if_neg hst] at htk;have r1 := fun L => uF (hfr L) (t i).line hst;have hne := EF hst;refine ⟨_, ?_, .inl ⟨htk, [.rw (aj t), .rw (ax d), .rw (t i).v], w, rfl⟩⟩;simp only [aj, Ent.v, ax] at *;generalize tab 49 (fun i => V.agg 42 [.int .i64 (t i).kind, .int .i64 (t i).ver, .int .i64 (t i).line]) = T at *;simp only [go_sem, gd, d1, d2];rw [Int.toNat_natCast];simp only [go_sem, g1, hk, r1, hne]
 ·right;have : i = 49 := by omega
  subst this;refine ⟨_, ?_, .inr ⟨w, hok, by rw [htk]; rfl, rfl⟩⟩;simp only [aj];simp only [go_sem, gd]
theorem yE (L0 H : List Blk) (t : Nat → Ent) (d : Nat → Int) (f : Int) (l : Nat) (X : V) (h0 : 0 ≤ f) (h1 : l ≤ 1024) (w0 : List Nat) (hw0 : OkS w0) :
 ∃ r, rc D L0.length (.loop [10, 12, 49, 50] iU) [(10, .ptr (.hp H.length) [] 80), (12, .ptr (.hp (H.length + 1)) [] 43), (49, ax d), (50, .int .i64 0)]
  ⟨L0 ++ [.rw (aj t), .rw (ax d)], H ++ [.rw (frV f l w0 (w16 [])), .rw X]⟩ = some r ∧
  ((bS f l (dX d 0 8) w0 = none ∧ ∃ (L' : List Blk) (w : List Nat), r = (.ret, [(8, .nilp), (9, .int .i64 21)], ⟨L0 ++ L', H ++ [.rw (frV f l w (w16 [])), .rw X]⟩)) ∨
   (∃ w, bS f l (dX d 0 8) w0 = some w ∧ r = (.exit 2, [(10, .ptr (.hp H.length) [] 80), (12, .ptr (.hp (H.length + 1)) [] 43), (49, ax d), (50, .int .i64 8), (51, .bool false)],
    ⟨L0 ++ [.rw (aj t), .rw (ax d)], H ++ [.rw (frV f l w (w16 [])), .rw X]⟩))) := by
 refine j4 (fun x : Nat × List Nat => [(10, .ptr (.hp H.length) [] 80), (12, .ptr (.hp (H.length + 1)) [] 43), (49, ax d), (50, .int .i64 x.1)])
  (fun x => ⟨L0 ++ [.rw (aj t), .rw (ax d)], H ++ [.rw (frV f l x.2 (w16 [])), .rw X]⟩) _ (fun x => 8 - x.1)
  (fun x => x.1 ≤ 8 ∧ OkS x.2 ∧ bS f l (dX d 0 8) w0 = bS f l (dX d x.1 (8 - x.1)) x.2) (0, w0) ?_ ⟨by simp only; omega, hw0, rfl⟩ rfl rfl
 rintro ⟨i, w⟩ ⟨hi, hok, htk⟩;simp only at hi hok htk;by_cases c1 : i < 8
 ·have d1 : (i : Int) < 8 := by omega
  have d2 : (0 : Int) ≤ i := by omega
  have d4 : IntKind.i64.wrap ((i : Int) + 1) = (i : Int) + 1 := ao (by omega) (by omega);have g1 := aG (f := fun i => V.int .i64 (d i)) c1;have hl : dX d i (8 - i) = d i :: dX d (i + 1) (8 - (i + 1)) := by
   rw [show 8 - i = (8 - (i + 1)) + 1 by omega]; rfl
  rw [hl] at htk;simp only [bS] at htk;have hfr : ∀ L : List Blk, Fr ⟨L, H ++ [.rw (frV f l w (w16 [])), .rw X]⟩ H.length f l w (w16 []) := fun L => ⟨by simp, h0, by omega, hok, rH⟩;by_cases hst : cB f l w (w16 []) (d i) = 0
  ·left;rw [if_pos hst] at htk;have r1 := fun L => uq (hfr L) (d i) hst;refine ⟨(i + 1, flip w (d i).toNat), ⟨by simp only; omega, tC h0 (by omega) hok hst, htk⟩, by simp only; omega, ?_⟩;simp only [aj, ax] at *;generalize tab 8 (fun i => V.int .i64 (d i)) = T at *;simp only [qJ, List.set_cons_zero] at r1;simp only [go_sem, iU, d1, d2];rw [Int.toNat_natCast];simp only [go_sem, g1, r1, d4];rfl
  ·right;rw [if_neg hst] at htk;have r1 := fun L => uF (hfr L) (d i) hst;have hne := EF hst;refine ⟨_, ?_, .inl ⟨htk, [.rw (aj t), .rw (ax d)], w, rfl⟩⟩;simp only [aj, ax] at *;generalize tab 8 (fun i => V.int .i64 (d i)) = T at *;simp only [go_sem, iU, d1, d2];rw [Int.toNat_natCast];simp only [go_sem, g1, r1, hne]
 ·right;have : i = 8 := by omega
  subst this;refine ⟨_, ?_, .inr ⟨w, by rw [htk]; rfl, rfl⟩⟩;simp only [ax];simp only [go_sem, iU]
theorem FJ {w w' : List Nat} (h : OkS w) (h' : OkS w') (hb : ∀ j, j < 1024 → bit w j = bit w' j) : w = w' := by
 apply List.ext_getElem?;intro q;by_cases hq : q < 16
 ·have e : w.getD q 0 = w'.getD q 0 := by
   apply Nat.eq_of_testBit_eq;intro k;by_cases hk : k < 64
   ·have := hb (64 * q + k) (by omega);unfold bit at this;rw [show (64 * q + k) / 64 = q by omega, show (64 * q + k) % 64 = k by omega] at this;exact this
   ·have h2 : 2 ^ 64 ≤ 2 ^ k := Nat.pow_le_pow_right (by decide) (by omega);rw [Nat.testBit_lt_two_pow (Nat.lt_of_lt_of_le (h.get hq) h2), Nat.testBit_lt_two_pow (Nat.lt_of_lt_of_le (h'.get hq) h2)]
  have hl := h.len;have hl' := h'.len;rw [List.getD_eq_getElem?_getD, List.getD_eq_getElem?_getD, List.getElem?_eq_getElem (by omega), List.getElem?_eq_getElem (by omega)] at e;rw [List.getElem?_eq_getElem (by omega), List.getElem?_eq_getElem (by omega)];exact congrArg some e
 ·rw [List.getElem?_eq_none (by rw [h.len]; omega), List.getElem?_eq_none (by rw [h'.len]; omega)]
theorem uO {m n : Nat} (s : St) (hln : ∀ L, rf D cj [.ptr (.hp m) [] 59] ⟨s.loc ++ L, s.hp⟩ = some (.int .i64 n, ⟨s.loc ++ L, s.hp⟩)) (f : Int) (h0 : 0 ≤ f) (h1 : f ≤ n) (h2 : n ≤ 1024) (t : Nat → Ent) (d : Nat → Int) :
 ∃ w0, OkS w0 ∧ (∀ j : Nat, j < 1024 → bit w0 j = (decide (f ≤ j) && decide ((j : Int) < n))) ∧
  ((bS f n (cU t d) w0 = none ∧ ∃ more, rf D dG [.ptr (.hp m) [] 59, .int .i64 f, aj t, ax d] s = some (.tup [.nilp, .int .i64 21], ⟨s.loc, s.hp ++ more⟩)) ∨
   (∃ w, OkS w ∧ bS f n (cU t d) w0 = some w ∧ rf D dG [.ptr (.hp m) [] 59, .int .i64 f, aj t, ax d] s = some (.tup [.ptr (.hp (s.hp.length + 1)) [] 43, .int .i64 0],
    ⟨s.loc, s.hp ++ [.rw (frV f n w (w16 [])), .rw ((⟨m, s.hp.length, t, t, d, fun _ => dK, false⟩ : StF).v (kc t (fun _ => dK) false))]⟩))) := by
 obtain ⟨w0, hok0, hbit0, _⟩ := q9 f n h0 h1 (by omega) s;have hnew : ∀ L, rf D iQ [.int .i64 f, .int .i64 n] ⟨s.loc ++ L, s.hp⟩ = some (.tup [.ptr (.hp s.hp.length) [] 80, .int .i64 0], ⟨s.loc ++ L, s.hp ++ [.rw (frV f n w0 (w16 []))]⟩) := by
  intro L;obtain ⟨w1, hok1, hbit1, e⟩ := q9 f n h0 h1 (by omega) ⟨s.loc ++ L, s.hp⟩;rw [FJ hok0 hok1 fun j hj => by rw [hbit0 j hj, hbit1 j hj]];exact e
 refine ⟨w0, hok0, hbit0, ?_⟩;obtain ⟨r0, e0, q0⟩ := yK s.loc s.hp t d f n ((⟨m, s.hp.length, t, t, d, fun _ => dK, false⟩ : StF).v (fun _ => false)) h0 h2 w0 hok0 (dX d 0 8);have z1 : V.agg 48 (List.replicate 49 (.agg 42 [.int .i64 0, .int .i64 0, .int .i64 0])) = aj fun _ => dK := by rw [jX]; rfl
 have z2 := As;simp only [cU];rcases q0 with ⟨hn, L', w, rfl⟩ | ⟨w, hok, hw, rfl⟩
 ·left;refine ⟨hn, [.rw (frV f n w (w16 [])), .rw ((⟨m, s.hp.length, t, t, d, fun _ => dK, false⟩ : StF).v (fun _ => false))], ?_⟩;rw [ah kP rfl];simp only [StF.v, aj, ax, shV] at *;simp only [go_sem, hln, hnew, z1, z2, e0]
 ·obtain ⟨r1, e1, q1⟩ := yE s.loc s.hp t d f n ((⟨m, s.hp.length, t, t, d, fun _ => dK, false⟩ : StF).v (fun _ => false)) h0 h2 w hok;rw [hw];rcases q1 with ⟨hn, L', w', rfl⟩ | ⟨w', hw', rfl⟩
  ·left;refine ⟨hn, [.rw (frV f n w' (w16 [])), .rw ((⟨m, s.hp.length, t, t, d, fun _ => dK, false⟩ : StF).v (fun _ => false))], ?_⟩;rw [ah kP rfl];simp only [StF.v, aj, ax, shV] at *;simp only [go_sem, hln, hnew, z1, z2, e0, e1]
  ·right;have hin : InL t := ⟨fun i hi hk => wY h0 (by omega) (hw.trans hw') _ (List.mem_append_left _ (qk t 49 0 i (by omega) (by omega) hk))⟩;have rs := fun L => tG (s := ⟨s.loc ++ L, s.hp ++ [.rw (frV f n w' (w16 [])), .rw ((⟨m, s.hp.length, t, t, d, fun _ => dK, false⟩ : StF).v (fun _ => false))]⟩) (a := s.hp.length + 1) (x := ⟨m, s.hp.length, t, t, d, fun _ => dK, false⟩) (sh := fun _ => false) (by simp) hin (fun h => absurd h (by simp));refine ⟨w', wX h0 (by omega) hok hw', hw', ?_⟩;rw [ah kP rfl];simp only [StF.v, aj, ax, shV] at *;simp only [go_sem, hln, hnew, z1, z2, e0, e1, rs]
theorem sE {m n : Nat} (s : St) (hln : ∀ L, rf D cj [.ptr (.hp m) [] 59] ⟨s.loc ++ L, s.hp⟩ = some (.int .i64 n, ⟨s.loc ++ L, s.hp⟩)) (f : Int) (h : f < 0 ∨ (n : Int) < f ∨ 1024 < n) (t : Nat → Ent) (d : Nat → Int) :
 rf D dG [.ptr (.hp m) [] 59, .int .i64 f, aj t, ax d] s = some (.tup [.nilp, .int .i64 1], s) := by
 have hnew := fun L => AJ f n (by omega) ⟨s.loc ++ L, s.hp⟩;rw [ah kP rfl];simp only [aj, ax] at *;simp only [go_sem, hln, hnew]
end Go.Proofs.YtnffmibpblibdaaGreatDoor
