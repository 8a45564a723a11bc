/-
  Ab26: small laws of lists.
-/
import Derived.Test.YtpbpgbedkmbfkaaAb1
namespace Go.Ab

theorem count_true_le : ∀ {a b : List Bool}, a.length = b.length → (∀ i : Nat, a[i]? = some true → b[i]? = some true) → a.count true ≤ b.count true
  | [], [], _, _ => Nat.le_refl _
  | x :: a, y :: b, h, hi => by
    have ih := count_true_le (a := a) (b := b) (by simpa using h) (fun i hh => by simpa using hi (i + 1) (by simpa using hh))
    have h0 := hi 0
    simp only [List.getElem?_cons_zero, Option.some.injEq] at h0
    cases x <;> cases y <;> simp_all <;> omega
  | [], _ :: _, h, _ => by simp at h
  | _ :: _, [], h, _ => by simp at h
theorem count_sum : ∀ (a : List Bool), a.count true + a.count false = a.length
  | [] => rfl
  | x :: a => by
    have := count_sum a
    cases x <;> simp <;> omega
theorem count_false_le {a b : List Bool} (h : a.length = b.length) (hi : ∀ i : Nat, a[i]? = some true → b[i]? = some true) : b.count false ≤ a.count false := by
  have h1 := count_true_le h hi
  have h2 := count_sum a
  have h3 := count_sum b
  omega
theorem count_false_set {t : List Bool} {j : Nat} (h : t[j]? = some false) : (t.set j true).count false + 1 = t.count false := by
  obtain ⟨hj, hv⟩ := List.getElem?_eq_some_iff.1 h
  have h1 := List.count_set (a := true) (b := true) hj
  rw [hv] at h1
  have h2 := count_sum t
  have h3 := count_sum (t.set j true)
  rw [List.length_set] at h3
  simp at h1
  omega
theorem map_vset {α : Type} (f : α → V) (t : List α) (i : Nat) (x : α) : (t.map f).set i (f x) = (t.set i x).map f := by rw [List.map_set]
theorem getElem?_bool {a : List Bool} {j : Nat} (h : j < a.length) : a[j]? = some true ∨ a[j]? = some false := by
  rw [List.getElem?_eq_getElem h]
  cases a[j] <;> simp
theorem set_true {a : List Bool} {i j : Nat} (h : (a.set i true)[j]? = some true) : a[j]? = some true ∨ j = i := by
  rw [List.getElem?_set] at h
  split at h
  · rename_i e; exact .inr e.symm
  · exact .inl h
theorem set_true_sub {a : List Bool} {i j : Nat} (h : a[j]? = some true) : (a.set i true)[j]? = some true := by
  have hj := (List.getElem?_eq_some_iff.1 h).1
  rw [List.getElem?_set]
  split
  · rename_i e; subst e; rw [if_pos hj]
  · exact h
end Go.Ab
