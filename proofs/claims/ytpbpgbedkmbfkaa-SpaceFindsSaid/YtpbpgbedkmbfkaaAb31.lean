/-
  Ab31: arrays told by a function.
-/
import Derived.Test.YtpbpgbedkmbfkaaAb27
namespace Go.Ab
def tab (n : Nat) (f : Nat → V) : List V := (List.range n).map f
def upd {α : Type} (f : Nat → α) (i : Nat) (x : α) : Nat → α := fun j => if j = i then x else f j
theorem upd_self {α : Type} {f : Nat → α} {i : Nat} {x : α} : upd f i x i = x := by simp [upd]
theorem upd_ne {α : Type} {f : Nat → α} {i j : Nat} {x : α} (h : j ≠ i) : upd f i x j = f j := by simp [upd, h]
theorem tab_len (n : Nat) (f : Nat → V) : (tab n f).length = n := by simp [tab]
theorem tab_get {n : Nat} {f : Nat → V} {i : Nat} (h : i < n) : (tab n f)[i]? = some (f i) := by simp [tab, h]
theorem tab_set (n : Nat) (f : Nat → V) (i : Nat) (v : V) : (tab n f).set i v = tab n (upd f i v) := by
  apply List.ext_getElem?
  intro j
  by_cases hj : j < n
  · rw [tab_get hj]
    by_cases e : i = j
    · subst e
      rw [List.getElem?_set_self (by rw [tab_len]; exact hj), upd_self]
    · rw [List.getElem?_set_ne e, tab_get hj, upd_ne (Ne.symm e)]
  · rw [List.getElem?_eq_none (by simp [tab_len]; omega), List.getElem?_eq_none (by rw [tab_len]; omega)]
theorem tab_congr {n : Nat} {f g : Nat → V} (h : ∀ j, j < n → f j = g j) : tab n f = tab n g := by
  apply List.ext_getElem?
  intro j
  by_cases hj : j < n
  · rw [tab_get hj, tab_get hj, h j hj]
  · rw [List.getElem?_eq_none (by rw [tab_len]; omega), List.getElem?_eq_none (by rw [tab_len]; omega)]
theorem tab_rep (n : Nat) (v : V) : List.replicate n v = tab n fun _ => v := by
  apply List.ext_getElem?
  intro j
  by_cases hj : j < n
  · rw [tab_get hj]; simp [hj]
  · rw [List.getElem?_eq_none (by simp; omega), List.getElem?_eq_none (by rw [tab_len]; omega)]
theorem tab_map {α : Type} (f : α → V) (l : List α) (d : α) : l.map f = tab l.length fun i => f (l.getD i d) := by
  apply List.ext_getElem?
  intro j
  by_cases hj : j < l.length
  · rw [tab_get hj, get_map hj d]
  · rw [List.getElem?_eq_none (by simp; omega), List.getElem?_eq_none (by rw [tab_len]; omega)]
/-- A place of a slice over a whole block. -/
theorem sad_all {a : Loc} {n e k : Nat} (h : k < n) : sadv e (.sl a [] 0 n (some n) e) (.int .i64 (k : Int)) = some (.ptr a [k] e) := by
  simp [sadv, h]
end Go.Ab
