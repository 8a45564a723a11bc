/-
  YtilcajpldklbiaaDoorAbE: an abstract semantics of the program's code, and that what it tells holds of the program (part E).
-/
import Derived.Test.YtilcajpldklbiaaDoorAbA
import Derived.IntWalk
import Derived.Test.YtilcajpldklbiaaDoorAbD
set_option maxRecDepth 100000
namespace Go.Ab
theorem gJ {n : Nat} (h : n < 18446744073709551616) : (BitVec.ofInt IntKind.u64.bits (n : Int)).toNat = n := by
 rw [BitVec.ofInt_natCast, BitVec.toNat_ofNat];exact Nat.mod_eq_of_lt (by simp only [IntKind.bits]; omega)
theorem mS {n m : Nat} (hn : n < 18446744073709551616) (hm : m < 18446744073709551616) : j5 .u64 n m = ((n &&& m : Nat) : Int) := by
 unfold j5 bits;show IntKind.u64.wrap (((BitVec.ofInt IntKind.u64.bits (n : Int)) &&& (BitVec.ofInt IntKind.u64.bits (m : Int))).toNat : Int) = _;rw [BitVec.toNat_and, gJ hn, gJ hm];have : n &&& m ≤ n := Nat.and_le_left;exact IntWalk.u64_in _ (by omega)
theorem wu {n m : Nat} (hn : n < 18446744073709551616) (hm : m < 18446744073709551616) : ior .u64 n m = ((n ||| m : Nat) : Int) := by
 unfold ior bits;show IntKind.u64.wrap (((BitVec.ofInt IntKind.u64.bits (n : Int)) ||| (BitVec.ofInt IntKind.u64.bits (m : Int))).toNat : Int) = _;rw [BitVec.toNat_or, gJ hn, gJ hm];have : n ||| m < 2 ^ 64 := Nat.or_lt_two_pow hn hm;exact IntWalk.u64_in _ (by omega)
theorem yT {n m : Nat} (hn : n < 18446744073709551616) (hm : m < 18446744073709551616) : kG .u64 n m = ((n ^^^ m : Nat) : Int) := by
 unfold kG bits;show IntKind.u64.wrap (((BitVec.ofInt IntKind.u64.bits (n : Int)) ^^^ (BitVec.ofInt IntKind.u64.bits (m : Int))).toNat : Int) = _;rw [BitVec.toNat_xor, gJ hn, gJ hm];have : n ^^^ m < 2 ^ 64 := Nat.xor_lt_two_pow hn hm;exact IntWalk.u64_in _ (by omega)
theorem xk (w : Int) (k : Nat) (h0 : 0 ≤ w) (h1 : w ≤ 18446744073709551615) (hk : k ≤ 64) : j5 .u64 w (2 ^ k - 1 : Int) = w % 2 ^ k := by
 obtain ⟨n, rfl⟩ : ∃ n : Nat, w = n := ⟨w.toNat, by omega⟩;have hp : 0 < 2 ^ k := Nat.pow_pos (by decide);have hle : 2 ^ k ≤ 2 ^ 64 := Nat.pow_le_pow_right (by decide) hk;have e1 : ((2 : Int) ^ k - 1) = ((2 ^ k - 1 : Nat) : Int) := by
  rw [Int.natCast_sub hp]; simp
 rw [e1, mS (by omega) (by omega), Nat.and_two_pow_sub_one_eq_mod];simp
theorem pQ (w : Int) (k : Nat) (hk : k ≤ 64) : iT .u64 w k = w / 2 ^ k := by
 unfold iT;rw [Int.toNat_natCast];show w.fdiv (2 ^ min k 64) = _;rw [Nat.min_eq_left hk, Int.fdiv_eq_ediv_of_nonneg];exact Int.le_of_lt (Int.pow_pos (by decide))
theorem HD (w : Int) (k : Nat) (hk : k ≤ 64) : nY .u64 w k = w * 2 ^ k % 18446744073709551616 := by
 unfold nY;rw [Int.toNat_natCast];show IntKind.u64.wrap (w * 2 ^ min k 64) = _;rw [Nat.min_eq_left hk];simp [IntKind.wrap, IntKind.bits, IntKind.signed]
theorem ai {n : Int} (h0 : -9223372036854775808 ≤ n) (h1 : n ≤ 9223372036854775807) : IntKind.i64.wrap n = n := IntWalk.i64_in _ ⟨h0, h1⟩
theorem gz {n : Int} (h0 : 0 ≤ n) (h1 : n ≤ 18446744073709551615) : IntKind.u64.wrap n = n := IntWalk.u64_in _ ⟨h0, h1⟩
end Go.Ab
namespace Go.Ab
end Go.Ab
namespace Go.Ab
def elq (v : V) (j : Nat) (q : List Nat) (t : Nat) : V := match v with
 | .sl a p off _ _ _ => .ptr a (p ++ (off + j) :: q) t
 | _ => .dead
section
variable {s : St} {e : Nat} {v : V} {l : List V} {j : Nat} {x : V}
theorem RS.sadq (h : RS s e v l) (hg : l[j]? = some x) {k : IntKind} : np e v (.int k (j : Int)) = some (elq v j [] e) := by
 have hj := (List.getElem?_eq_some_iff.1 hg).1;rw [h.sad hj];rcases h with ⟨rfl, rfl⟩ | ⟨a, p, off, c, rfl, _⟩
 ·cases hg
 ·rfl
theorem RS.fadq (h : RS s e v l) (hg : l[j]? = some x) {t f u : Nat} {q : List Nat} : qQ t f u (elq v j q t) = some (elq v j (q ++ [f]) u) := by
 rcases h with ⟨rfl, rfl⟩ | ⟨a, p, off, c, rfl, _⟩
 ·cases hg
 ·simp [qQ, elq, List.append_assoc]
theorem RS.ldq (h : RS s e v l) (hg : l[j]? = some x) {t : Nat} {q : List Nat} : ldv s t (elq v j q t) = V.at q x := by
 obtain ⟨hj, hx⟩ := List.getElem?_eq_some_iff.1 hg;subst hx;rcases h with ⟨rfl, rfl⟩ | ⟨a, p, off, c, rfl, _, _, h⟩
 ·cases hg
 ·rcases h with h | ⟨r, L, h1, h2⟩
  ·subst h; cases hg
  ·simp only [ldv, elq, if_true];rw [sP h1];simp only [vP, h2 j l[j] (by simp [hj]), aM]
end
theorem aG {α : Type} {f : α → V} {l : List α} {i : Nat} (h : i < l.length) (d : α) : (l.map f)[i]? = some (f (l.getD i d)) := by
 simp [List.getD_eq_getElem?_getD, h]
theorem mF {α : Type} {l : List α} {i : Nat} (h : i < l.length) (d : α) : l.getD i d ∈ l := by
 rw [List.getD_eq_getElem?_getD, List.getElem?_eq_getElem h, Option.getD_some];exact List.getElem_mem _
end Go.Ab
namespace Go.Ab
theorem LE {n m k : Nat} (h : n < 2 ^ k) : n ||| m * 2 ^ k = n + m * 2 ^ k := by
 rw [Nat.or_comm, Nat.mul_comm, Nat.add_comm];exact (Nat.two_pow_add_eq_or_of_lt h m).symm
theorem B4 {n m : Nat} (k : Nat) (h : n < 2 ^ k) (hn : n < 18446744073709551616) (hm : m * 2 ^ k < 18446744073709551616) : ior .u64 (n : Int) ((m * 2 ^ k : Nat) : Int) = ((n + m * 2 ^ k : Nat) : Int) := by
 rw [wu hn hm, LE h]
end Go.Ab
namespace Go.Ab
def tab (n : Nat) (f : Nat → V) : List V := (List.range n).map f
def upd {α : Type} (f : Nat → α) (i : Nat) (x : α) : Nat → α := fun j => if j = i then x else f j
theorem aj {α : Type} {f : Nat → α} {i : Nat} {x : α} : upd f i x i = x := by simp [upd]
theorem an {α : Type} {f : Nat → α} {i j : Nat} {x : α} (h : j ≠ i) : upd f i x j = f j := by simp [upd, h]
theorem iE (n : Nat) (f : Nat → V) : (tab n f).length = n := by simp [tab]
theorem aC {n : Nat} {f : Nat → V} {i : Nat} (h : i < n) : (tab n f)[i]? = some (f i) := by simp [tab, h]
theorem eM (n : Nat) (f : Nat → V) (i : Nat) (v : V) : (tab n f).set i v = tab n (upd f i v) := by
 apply List.ext_getElem?;intro j;by_cases hj : j < n
 ·rw [aC hj];by_cases e : i = j
  ·subst e;rw [List.getElem?_set_self (by rw [iE]; exact hj), aj]
  ·rw [List.getElem?_set_ne e, aC hj, an (Ne.symm e)]
 ·rw [List.getElem?_eq_none (by simp [iE]; omega), List.getElem?_eq_none (by rw [iE]; omega)]
theorem bM {n : Nat} {f g : Nat → V} (h : ∀ j, j < n → f j = g j) : tab n f = tab n g := by
 apply List.ext_getElem?;intro j;by_cases hj : j < n
 ·rw [aC hj, aC hj, h j hj]
 ·rw [List.getElem?_eq_none (by rw [iE]; omega), List.getElem?_eq_none (by rw [iE]; omega)]
theorem fW (n : Nat) (v : V) : List.replicate n v = tab n fun _ => v := by
 apply List.ext_getElem?;intro j;by_cases hj : j < n
 ·rw [aC hj]; simp [hj]
 ·rw [List.getElem?_eq_none (by simp; omega), List.getElem?_eq_none (by rw [iE]; omega)]
end Go.Ab
namespace Go.Ab
section
variable {base r e : Nat} {h : Bool} {x y : V} {old new : List V} {s : St}
theorem BS (hx : x = .nils ∨ ∃ a p o n c, x = .sl a p o n c e) : x.slIs e = true := by
 rcases hx with rfl | ⟨a, p, o, n, c, rfl⟩
 ·rfl
 ·simp [V.slIs]
theorem BP (hx : x = .nils ∨ ∃ a p o n c, x = .sl a p o n c e) : x.elIs e = true := by
 rcases hx with rfl | ⟨a, p, o, n, c, rfl⟩
 ·rfl
 ·simp [V.elIs]
theorem jb {a : Loc} {n t : Nat} {c : Option Nat} {l : List V} (ha : s.read a [] = some (.agg t l)) (hn : n = l.length) : s.elems (.sl a [] 0 n c e) = some l := by
 subst hn;by_cases h0 : l.length = 0
 ·rw [List.length_eq_zero_iff.1 h0]; simp [St.elems]
 ·simp [St.elems, h0, ha]
end
end Go.Ab
