/-
  YtpbpgbedkmbfkaaDoorAbE: an abstract semantics of the program's code, and that what it tells holds of the program (part E).
-/
import Derived.Test.YtpbpgbedkmbfkaaDoorAbA
import Derived.IntWalk
import Derived.Test.YtpbpgbedkmbfkaaDoorAbD
set_option maxRecDepth 100000
namespace Go.Ab

theorem ofInt_toNat {n : Nat} (h : n < 18446744073709551616) : (BitVec.ofInt IntKind.u64.bits (n : Int)).toNat = n := by
  rw [BitVec.ofInt_natCast, BitVec.toNat_ofNat]
  exact Nat.mod_eq_of_lt (by simp only [IntKind.bits]; omega)
theorem iand_nat {n m : Nat} (hn : n < 18446744073709551616) (hm : m < 18446744073709551616) : iand .u64 n m = ((n &&& m : Nat) : Int) := by
  unfold iand bits
  show IntKind.u64.wrap (((BitVec.ofInt IntKind.u64.bits (n : Int)) &&& (BitVec.ofInt IntKind.u64.bits (m : Int))).toNat : Int) = _
  rw [BitVec.toNat_and, ofInt_toNat hn, ofInt_toNat hm]
  have : n &&& m ≤ n := Nat.and_le_left
  exact IntWalk.u64_in _ (by omega)
theorem ior_nat {n m : Nat} (hn : n < 18446744073709551616) (hm : m < 18446744073709551616) : ior .u64 n m = ((n ||| m : Nat) : Int) := by
  unfold ior bits
  show IntKind.u64.wrap (((BitVec.ofInt IntKind.u64.bits (n : Int)) ||| (BitVec.ofInt IntKind.u64.bits (m : Int))).toNat : Int) = _
  rw [BitVec.toNat_or, ofInt_toNat hn, ofInt_toNat hm]
  have : n ||| m < 2 ^ 64 := Nat.or_lt_two_pow hn hm
  exact IntWalk.u64_in _ (by omega)
theorem ixor_nat {n m : Nat} (hn : n < 18446744073709551616) (hm : m < 18446744073709551616) : ixor .u64 n m = ((n ^^^ m : Nat) : Int) := by
  unfold ixor bits
  show IntKind.u64.wrap (((BitVec.ofInt IntKind.u64.bits (n : Int)) ^^^ (BitVec.ofInt IntKind.u64.bits (m : Int))).toNat : Int) = _
  rw [BitVec.toNat_xor, ofInt_toNat hn, ofInt_toNat hm]
  have : n ^^^ m < 2 ^ 64 := Nat.xor_lt_two_pow hn hm
  exact IntWalk.u64_in _ (by omega)
theorem iand_mask (w : Int) (k : Nat) (h0 : 0 ≤ w) (h1 : w ≤ 18446744073709551615) (hk : k ≤ 64) : iand .u64 w (2 ^ k - 1 : Int) = w % 2 ^ k := by
  obtain ⟨n, rfl⟩ : ∃ n : Nat, w = n := ⟨w.toNat, by omega⟩
  have hp : 0 < 2 ^ k := Nat.pow_pos (by decide)
  have hle : 2 ^ k ≤ 2 ^ 64 := Nat.pow_le_pow_right (by decide) hk
  have e1 : ((2 : Int) ^ k - 1) = ((2 ^ k - 1 : Nat) : Int) := by
    rw [Int.natCast_sub hp]; simp
  rw [e1, iand_nat (by omega) (by omega), Nat.and_two_pow_sub_one_eq_mod]
  simp
theorem ishr_two (w : Int) (k : Nat) (hk : k ≤ 64) : ishr .u64 w k = w / 2 ^ k := by
  unfold ishr
  rw [Int.toNat_natCast]
  show w.fdiv (2 ^ min k 64) = _
  rw [Nat.min_eq_left hk, Int.fdiv_eq_ediv_of_nonneg]
  exact Int.le_of_lt (Int.pow_pos (by decide))
theorem ishl_two (w : Int) (k : Nat) (hk : k ≤ 64) : ishl .u64 w k = w * 2 ^ k % 18446744073709551616 := by
  unfold ishl
  rw [Int.toNat_natCast]
  show IntKind.u64.wrap (w * 2 ^ min k 64) = _
  rw [Nat.min_eq_left hk]
  simp [IntKind.wrap, IntKind.bits, IntKind.signed]
theorem i64_id {n : Int} (h0 : -9223372036854775808 ≤ n) (h1 : n ≤ 9223372036854775807) : IntKind.i64.wrap n = n := IntWalk.i64_in _ ⟨h0, h1⟩
theorem u64_id {n : Int} (h0 : 0 ≤ n) (h1 : n ≤ 18446744073709551615) : IntKind.u64.wrap n = n := IntWalk.u64_in _ ⟨h0, h1⟩
end Go.Ab
namespace Go.Ab

theorem count_true_le : ∀ {a b : List Bool}, a.length = b.length → (∀ i : Nat, a[i]? = some true → b[i]? = some true) → a.count true ≤ b.count true
  | [], [], _, _ => Nat.le_refl _
  | x :: a, y :: b, h, hi => by
    have ih := count_true_le (a := a) (b := b) (by simpa using h) (fun i hh => by simpa using hi (i + 1) (by simpa using hh))
    have h0 := hi 0
    simp only [List.getElem?_cons_zero, Option.some.injEq] at h0
    cases x <;> cases y <;> simp_all <;> omega
  | [], _ :: _, h, _ => by simp at h
  | _ :: _, [], h, _ => by simp at h
theorem count_sum : ∀ (a : List Bool), a.count true + a.count false = a.length
  | [] => rfl
  | x :: a => by
    have := count_sum a
    cases x <;> simp <;> omega
theorem count_false_le {a b : List Bool} (h : a.length = b.length) (hi : ∀ i : Nat, a[i]? = some true → b[i]? = some true) : b.count false ≤ a.count false := by
  have h1 := count_true_le h hi
  have h2 := count_sum a
  have h3 := count_sum b
  omega
theorem count_false_set {t : List Bool} {j : Nat} (h : t[j]? = some false) : (t.set j true).count false + 1 = t.count false := by
  obtain ⟨hj, hv⟩ := List.getElem?_eq_some_iff.1 h
  have h1 := List.count_set (a := true) (b := true) hj
  rw [hv] at h1
  have h2 := count_sum t
  have h3 := count_sum (t.set j true)
  rw [List.length_set] at h3
  simp at h1
  omega
theorem map_vset {α : Type} (f : α → V) (t : List α) (i : Nat) (x : α) : (t.map f).set i (f x) = (t.set i x).map f := by rw [List.map_set]
theorem getElem?_bool {a : List Bool} {j : Nat} (h : j < a.length) : a[j]? = some true ∨ a[j]? = some false := by
  rw [List.getElem?_eq_getElem h]
  cases a[j] <;> simp
theorem set_true {a : List Bool} {i j : Nat} (h : (a.set i true)[j]? = some true) : a[j]? = some true ∨ j = i := by
  rw [List.getElem?_set] at h
  split at h
  · rename_i e; exact .inr e.symm
  · exact .inl h
theorem set_true_sub {a : List Bool} {i j : Nat} (h : a[j]? = some true) : (a.set i true)[j]? = some true := by
  have hj := (List.getElem?_eq_some_iff.1 h).1
  rw [List.getElem?_set]
  split
  · rename_i e; subst e; rw [if_pos hj]
  · exact h
end Go.Ab
namespace Go.Ab
def elq (v : V) (j : Nat) (q : List Nat) (t : Nat) : V := match v with
  | .sl a p off _ _ _ => .ptr a (p ++ (off + j) :: q) t
  | _ => .dead
section
variable {s : St} {e : Nat} {v : V} {l : List V} {j : Nat} {x : V}
theorem RS.sadq (h : RS s e v l) (hg : l[j]? = some x) {k : IntKind} : sadv e v (.int k (j : Int)) = some (elq v j [] e) := by
  have hj := (List.getElem?_eq_some_iff.1 hg).1
  rw [h.sad hj]
  rcases h with ⟨rfl, rfl⟩ | ⟨a, p, off, c, rfl, _⟩
  · cases hg
  · rfl
theorem RS.fadq (h : RS s e v l) (hg : l[j]? = some x) {t f u : Nat} {q : List Nat} : fadv t f u (elq v j q t) = some (elq v j (q ++ [f]) u) := by
  rcases h with ⟨rfl, rfl⟩ | ⟨a, p, off, c, rfl, _⟩
  · cases hg
  · simp [fadv, elq, List.append_assoc]
theorem RS.iadq (h : RS s e v l) (hg : l[j]? = some x) {t n u : Nat} {q : List Nat} {k : IntKind} {i : Int} (h0 : 0 ≤ i) (h1 : i < n) : iadv t n u (elq v j q t) (.int k i) = some (elq v j (q ++ [i.toNat]) u) := by
  rcases h with ⟨rfl, rfl⟩ | ⟨a, p, off, c, rfl, _⟩
  · cases hg
  · simp [iadv, elq, List.append_assoc, h0, h1]
theorem RS.ldq (h : RS s e v l) (hg : l[j]? = some x) {t : Nat} {q : List Nat} : ldv s t (elq v j q t) = V.at q x := by
  obtain ⟨hj, hx⟩ := List.getElem?_eq_some_iff.1 hg
  subst hx
  rcases h with ⟨rfl, rfl⟩ | ⟨a, p, off, c, rfl, _, _, h⟩
  · cases hg
  · rcases h with h | ⟨r, L, h1, h2⟩
    · subst h; cases hg
    · simp only [ldv, elq, if_true]
      rw [read_append h1]
      simp only [at_cons, h2 j l[j] (by simp [hj]), obind_some]
end
theorem get_map {α : Type} {f : α → V} {l : List α} {i : Nat} (h : i < l.length) (d : α) : (l.map f)[i]? = some (f (l.getD i d)) := by
  simp [List.getD_eq_getElem?_getD, h]
theorem getD_mem {α : Type} {l : List α} {i : Nat} (h : i < l.length) (d : α) : l.getD i d ∈ l := by
  rw [List.getD_eq_getElem?_getD, List.getElem?_eq_getElem h, Option.getD_some]
  exact List.getElem_mem _
end Go.Ab
namespace Go.Ab

theorem i64_back (x : BitVec 64) : IntKind.i64.wrap (x.toNat : Int) = x.toInt := by
  rw [IntKind.wrap_i64, BitVec.toInt_eq_toNat_cond]
  have := x.isLt
  split <;> omega
theorem ofInt_back {z : Int} (h0 : -9223372036854775808 ≤ z) (h1 : z ≤ 9223372036854775807) : (BitVec.ofInt 64 z).toInt = z := by
  rw [BitVec.toInt_ofInt]
  simp only [Int.bmod]
  omega
theorem iand_i64 (a b : Int) : iand .i64 a b = (BitVec.ofInt 64 a &&& BitVec.ofInt 64 b).toInt := i64_back _
theorem iandnot_i64 (a b : Int) : iandnot .i64 a b = (BitVec.ofInt 64 a &&& ~~~ BitVec.ofInt 64 b).toInt := i64_back _
theorem bv_less (a b : BitVec 64) : a &&& ~~~ b = 0#64 ↔ b &&& a = a := by
  constructor
  · intro h
    apply BitVec.eq_of_getLsbD_eq
    intro i hi
    have := congrArg (fun x => x.getLsbD i) h
    simp only [BitVec.getLsbD_and, BitVec.getLsbD_not, hi, decide_true, Bool.true_and, BitVec.getLsbD_zero] at this ⊢
    cases ha : a.getLsbD i <;> cases hb : b.getLsbD i <;> simp_all
  · intro h
    apply BitVec.eq_of_getLsbD_eq
    intro i hi
    have := congrArg (fun x => x.getLsbD i) h
    simp only [BitVec.getLsbD_and, BitVec.getLsbD_not, hi, decide_true, Bool.true_and, BitVec.getLsbD_zero] at this ⊢
    cases ha : a.getLsbD i <;> cases hb : b.getLsbD i <;> simp_all
/-- Nothing of a beyond b. -/
theorem less_i64 {a b : Int} (h0 : -9223372036854775808 ≤ a) (h1 : a ≤ 9223372036854775807) : iandnot .i64 a b = 0 ↔ iand .i64 b a = a := by
  rw [iand_i64, iandnot_i64]
  have ha := ofInt_back h0 h1
  constructor
  · intro h
    have : BitVec.ofInt 64 a &&& ~~~ BitVec.ofInt 64 b = 0#64 := BitVec.eq_of_toInt_eq (by rw [h]; rfl)
    rw [(bv_less _ _).1 this, ha]
  · intro h
    have : BitVec.ofInt 64 b &&& BitVec.ofInt 64 a = BitVec.ofInt 64 a := BitVec.eq_of_toInt_eq (by rw [h, ha])
    rw [(bv_less _ _).2 this]; rfl
theorem iand_comm (k : IntKind) (a b : Int) : iand k a b = iand k b a := by
  unfold iand bits; simp only [BitVec.and_comm]
theorem iand_i64_nat {n m : Nat} (hn : n < 9223372036854775808) (hm : m < 9223372036854775808) : iand .i64 n m = ((n &&& m : Nat) : Int) := by
  rw [iand_i64, BitVec.ofInt_natCast, BitVec.ofInt_natCast]
  have hl : n &&& m ≤ n := Nat.and_le_left
  rw [BitVec.toInt_eq_toNat_of_lt, BitVec.toNat_and, BitVec.toNat_ofNat, BitVec.toNat_ofNat, Nat.mod_eq_of_lt (by omega), Nat.mod_eq_of_lt (by omega)]
  rw [BitVec.toNat_and, BitVec.toNat_ofNat, BitVec.toNat_ofNat, Nat.mod_eq_of_lt (by omega), Nat.mod_eq_of_lt (by omega)]
  omega
theorem iand_i64_le {n m : Int} (hn : 0 ≤ n) (hn1 : n < 9223372036854775808) (hm : 0 ≤ m) (hm1 : m < 9223372036854775808) : 0 ≤ iand .i64 n m ∧ iand .i64 n m ≤ n ∧ iand .i64 n m ≤ m := by
  obtain ⟨a, rfl⟩ : ∃ a : Nat, n = a := ⟨n.toNat, by omega⟩
  obtain ⟨b, rfl⟩ : ∃ a : Nat, m = a := ⟨m.toNat, by omega⟩
  rw [iand_i64_nat (by omega) (by omega)]
  have h1 : a &&& b ≤ a := Nat.and_le_left
  have h2 : a &&& b ≤ b := Nat.and_le_right
  omega
/-- What lies above is added. -/
theorem or_add {n m k : Nat} (h : n < 2 ^ k) : n ||| m * 2 ^ k = n + m * 2 ^ k := by
  rw [Nat.or_comm, Nat.mul_comm, Nat.add_comm]
  exact (Nat.two_pow_add_eq_or_of_lt h m).symm
theorem ior_add {n m : Nat} (k : Nat) (h : n < 2 ^ k) (hn : n < 18446744073709551616) (hm : m * 2 ^ k < 18446744073709551616) : ior .u64 (n : Int) ((m * 2 ^ k : Nat) : Int) = ((n + m * 2 ^ k : Nat) : Int) := by
  rw [ior_nat hn hm, or_add h]
theorem xor_add {n k : Nat} (h : n < 2 ^ k) : n ^^^ 2 ^ k = n + 2 ^ k := by
  have e := Nat.two_pow_add_eq_or_of_lt h 1
  rw [Nat.mul_one] at e
  rw [Nat.add_comm, e]
  apply Nat.eq_of_testBit_eq
  intro j
  rw [Nat.testBit_xor, Nat.testBit_or, Nat.testBit_two_pow]
  by_cases hj : k = j
  · subst hj
    rw [Nat.testBit_lt_two_pow h]; simp
  · simp [hj]
end Go.Ab
namespace Go.Ab
def tab (n : Nat) (f : Nat → V) : List V := (List.range n).map f
def upd {α : Type} (f : Nat → α) (i : Nat) (x : α) : Nat → α := fun j => if j = i then x else f j
theorem upd_self {α : Type} {f : Nat → α} {i : Nat} {x : α} : upd f i x i = x := by simp [upd]
theorem upd_ne {α : Type} {f : Nat → α} {i j : Nat} {x : α} (h : j ≠ i) : upd f i x j = f j := by simp [upd, h]
theorem tab_len (n : Nat) (f : Nat → V) : (tab n f).length = n := by simp [tab]
theorem tab_get {n : Nat} {f : Nat → V} {i : Nat} (h : i < n) : (tab n f)[i]? = some (f i) := by simp [tab, h]
theorem tab_set (n : Nat) (f : Nat → V) (i : Nat) (v : V) : (tab n f).set i v = tab n (upd f i v) := by
  apply List.ext_getElem?
  intro j
  by_cases hj : j < n
  · rw [tab_get hj]
    by_cases e : i = j
    · subst e
      rw [List.getElem?_set_self (by rw [tab_len]; exact hj), upd_self]
    · rw [List.getElem?_set_ne e, tab_get hj, upd_ne (Ne.symm e)]
  · rw [List.getElem?_eq_none (by simp [tab_len]; omega), List.getElem?_eq_none (by rw [tab_len]; omega)]
theorem tab_congr {n : Nat} {f g : Nat → V} (h : ∀ j, j < n → f j = g j) : tab n f = tab n g := by
  apply List.ext_getElem?
  intro j
  by_cases hj : j < n
  · rw [tab_get hj, tab_get hj, h j hj]
  · rw [List.getElem?_eq_none (by rw [tab_len]; omega), List.getElem?_eq_none (by rw [tab_len]; omega)]
theorem tab_rep (n : Nat) (v : V) : List.replicate n v = tab n fun _ => v := by
  apply List.ext_getElem?
  intro j
  by_cases hj : j < n
  · rw [tab_get hj]; simp [hj]
  · rw [List.getElem?_eq_none (by simp; omega), List.getElem?_eq_none (by rw [tab_len]; omega)]
theorem tab_map {α : Type} (f : α → V) (l : List α) (d : α) : l.map f = tab l.length fun i => f (l.getD i d) := by
  apply List.ext_getElem?
  intro j
  by_cases hj : j < l.length
  · rw [tab_get hj, get_map hj d]
  · rw [List.getElem?_eq_none (by simp; omega), List.getElem?_eq_none (by rw [tab_len]; omega)]
/-- A place of a slice over a whole block. -/
theorem sad_all {a : Loc} {n e k : Nat} (h : k < n) : sadv e (.sl a [] 0 n (some n) e) (.int .i64 (k : Int)) = some (.ptr a [k] e) := by
  simp [sadv, h]
end Go.Ab
namespace Go.Ab
section
variable {base r e : Nat} {h : Bool} {x y : V} {old new : List V} {s : St}
theorem slIs_of (hx : x = .nils ∨ ∃ a p o n c, x = .sl a p o n c e) : x.slIs e = true := by
  rcases hx with rfl | ⟨a, p, o, n, c, rfl⟩
  · rfl
  · simp [V.slIs]
theorem elIs_of (hx : x = .nils ∨ ∃ a p o n c, x = .sl a p o n c e) : x.elIs e = true := by
  rcases hx with rfl | ⟨a, p, o, n, c, rfl⟩
  · rfl
  · simp [V.elIs]
/-- Nothing is appended. -/
theorem app_none (hx : x = .nils ∨ ∃ a p o n c, x = .sl a p o n c e) (hy : y = .nils ∨ ∃ a p o n c, y = .sl a p o n c e) (h1 : s.elems x = some old) (h2 : s.elems y = some []) : vappend base h r e x y s = some (x, s) := by
  unfold vappend
  rw [slIs_of hx, elIs_of hy, h1, h2]
  rfl
/-- To nothing. -/
theorem app_nils (hy : y = .nils ∨ ∃ a p o n c, y = .sl a p o n c e) (h2 : s.elems y = some new) (hn : new ≠ []) (hm : new.length ≤ most) (he : e % 2 = 0) :
    vappend base h r e .nils y s = some (.sl (s.fresh h) [] 0 new.length none e, s.new h (.agg r new)) := by
  have h0 : ¬ new.length = 0 := by rw [List.length_eq_zero_iff]; exact hn
  unfold vappend
  rw [slIs_of (.inl rfl), elIs_of hy, h2]
  simp [St.elems, h0, hm, he]
/-- To a slice that has no room. -/
theorem app_full {a : Loc} {p : List Nat} {o n c : Nat} (hy : y = .nils ∨ ∃ a p o n c, y = .sl a p o n c e) (h1 : s.elems (.sl a p o n (some c) e) = some old) (h2 : s.elems y = some new) (hn : new ≠ []) (hc : c < old.length + new.length) (hm : old.length + new.length ≤ most) (he : e % 2 = 0) :
    vappend base h r e (.sl a p o n (some c) e) y s = some (.sl (s.fresh h) [] 0 (old.length + new.length) none e, s.new h (.agg r (old ++ new))) := by
  have h0 : ¬ new.length = 0 := by rw [List.length_eq_zero_iff]; exact hn
  unfold vappend
  rw [slIs_of (.inr ⟨_, _, _, _, _, rfl⟩), elIs_of hy, h1, h2]
  simp [h0, hm, he, hc]
/-- To a slice of which it isn't known whether it has room. -/
theorem app_may {a : Loc} {o n : Nat} {v : V} (hy : y = .nils ∨ ∃ a p o n c, y = .sl a p o n c e) (h1 : s.elems (.sl a [] o n none e) = some old) (h2 : s.elems y = some new) (hn : new ≠ []) (hm : old.length + new.length ≤ most) (he : e % 2 = 0) (ha : s.at a = some (.rw v)) :
    vappend base h r e (.sl a [] o n none e) y s = some (.sl ((s.set a .dead).fresh h) [] 0 (old.length + new.length) none e, (s.set a .dead).new h (.agg r (old ++ new))) := by
  have h0 : ¬ new.length = 0 := by rw [List.length_eq_zero_iff]; exact hn
  unfold vappend
  rw [slIs_of (.inr ⟨_, _, _, _, _, rfl⟩), elIs_of hy, h1, h2]
  simp [h0, hm, he, ha]
theorem elems_whole {a : Loc} {n t : Nat} {c : Option Nat} {l : List V} (ha : s.read a [] = some (.agg t l)) (hn : n = l.length) : s.elems (.sl a [] 0 n c e) = some l := by
  subst hn
  by_cases h0 : l.length = 0
  · rw [List.length_eq_zero_iff.1 h0]; simp [St.elems]
  · simp [St.elems, h0, ha]
end
end Go.Ab
