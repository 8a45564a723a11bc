/-
  Ab27: places inside a slice's elements.
-/
import Derived.Test.YtpbpgbedkmbfkaaAb22
import Derived.Test.YtpbpgbedkmbfkaaAb26
namespace Go.Ab
def elq (v : V) (j : Nat) (q : List Nat) (t : Nat) : V := match v with
  | .sl a p off _ _ _ => .ptr a (p ++ (off + j) :: q) t
  | _ => .dead
section
variable {s : St} {e : Nat} {v : V} {l : List V} {j : Nat} {x : V}
theorem RS.sadq (h : RS s e v l) (hg : l[j]? = some x) {k : IntKind} : sadv e v (.int k (j : Int)) = some (elq v j [] e) := by
  have hj := (List.getElem?_eq_some_iff.1 hg).1
  rw [h.sad hj]
  rcases h with ⟨rfl, rfl⟩ | ⟨a, p, off, c, rfl, _⟩
  · cases hg
  · rfl
theorem RS.fadq (h : RS s e v l) (hg : l[j]? = some x) {t f u : Nat} {q : List Nat} : fadv t f u (elq v j q t) = some (elq v j (q ++ [f]) u) := by
  rcases h with ⟨rfl, rfl⟩ | ⟨a, p, off, c, rfl, _⟩
  · cases hg
  · simp [fadv, elq, List.append_assoc]
theorem RS.iadq (h : RS s e v l) (hg : l[j]? = some x) {t n u : Nat} {q : List Nat} {k : IntKind} {i : Int} (h0 : 0 ≤ i) (h1 : i < n) : iadv t n u (elq v j q t) (.int k i) = some (elq v j (q ++ [i.toNat]) u) := by
  rcases h with ⟨rfl, rfl⟩ | ⟨a, p, off, c, rfl, _⟩
  · cases hg
  · simp [iadv, elq, List.append_assoc, h0, h1]
theorem RS.ldq (h : RS s e v l) (hg : l[j]? = some x) {t : Nat} {q : List Nat} : ldv s t (elq v j q t) = V.at q x := by
  obtain ⟨hj, hx⟩ := List.getElem?_eq_some_iff.1 hg
  subst hx
  rcases h with ⟨rfl, rfl⟩ | ⟨a, p, off, c, rfl, _, _, h⟩
  · cases hg
  · rcases h with h | ⟨r, L, h1, h2⟩
    · subst h; cases hg
    · simp only [ldv, elq, if_true]
      rw [read_append h1]
      simp only [at_cons, h2 j l[j] (by simp [hj]), obind_some]
end
theorem get_map {α : Type} {f : α → V} {l : List α} {i : Nat} (h : i < l.length) (d : α) : (l.map f)[i]? = some (f (l.getD i d)) := by
  simp [List.getD_eq_getElem?_getD, h]
theorem getD_mem {α : Type} {l : List α} {i : Nat} (h : i < l.length) (d : α) : l.getD i d ∈ l := by
  rw [List.getD_eq_getElem?_getD, List.getElem?_eq_getElem h, Option.getD_some]
  exact List.getElem_mem _
end Go.Ab
