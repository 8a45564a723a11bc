/-
  Ab32: append, of elements without references.
-/
import Derived.Test.YtpbpgbedkmbfkaaAb31
namespace Go.Ab
section
variable {base r e : Nat} {h : Bool} {x y : V} {old new : List V} {s : St}
theorem slIs_of (hx : x = .nils ∨ ∃ a p o n c, x = .sl a p o n c e) : x.slIs e = true := by
  rcases hx with rfl | ⟨a, p, o, n, c, rfl⟩
  · rfl
  · simp [V.slIs]
theorem elIs_of (hx : x = .nils ∨ ∃ a p o n c, x = .sl a p o n c e) : x.elIs e = true := by
  rcases hx with rfl | ⟨a, p, o, n, c, rfl⟩
  · rfl
  · simp [V.elIs]
/-- Nothing is appended. -/
theorem app_none (hx : x = .nils ∨ ∃ a p o n c, x = .sl a p o n c e) (hy : y = .nils ∨ ∃ a p o n c, y = .sl a p o n c e) (h1 : s.elems x = some old) (h2 : s.elems y = some []) : vappend base h r e x y s = some (x, s) := by
  unfold vappend
  rw [slIs_of hx, elIs_of hy, h1, h2]
  rfl
/-- To nothing. -/
theorem app_nils (hy : y = .nils ∨ ∃ a p o n c, y = .sl a p o n c e) (h2 : s.elems y = some new) (hn : new ≠ []) (hm : new.length ≤ most) (he : e % 2 = 0) :
    vappend base h r e .nils y s = some (.sl (s.fresh h) [] 0 new.length none e, s.new h (.agg r new)) := by
  have h0 : ¬ new.length = 0 := by rw [List.length_eq_zero_iff]; exact hn
  unfold vappend
  rw [slIs_of (.inl rfl), elIs_of hy, h2]
  simp [St.elems, h0, hm, he]
/-- To a slice that has no room. -/
theorem app_full {a : Loc} {p : List Nat} {o n c : Nat} (hy : y = .nils ∨ ∃ a p o n c, y = .sl a p o n c e) (h1 : s.elems (.sl a p o n (some c) e) = some old) (h2 : s.elems y = some new) (hn : new ≠ []) (hc : c < old.length + new.length) (hm : old.length + new.length ≤ most) (he : e % 2 = 0) :
    vappend base h r e (.sl a p o n (some c) e) y s = some (.sl (s.fresh h) [] 0 (old.length + new.length) none e, s.new h (.agg r (old ++ new))) := by
  have h0 : ¬ new.length = 0 := by rw [List.length_eq_zero_iff]; exact hn
  unfold vappend
  rw [slIs_of (.inr ⟨_, _, _, _, _, rfl⟩), elIs_of hy, h1, h2]
  simp [h0, hm, he, hc]
/-- To a slice of which it isn't known whether it has room. -/
theorem app_may {a : Loc} {o n : Nat} {v : V} (hy : y = .nils ∨ ∃ a p o n c, y = .sl a p o n c e) (h1 : s.elems (.sl a [] o n none e) = some old) (h2 : s.elems y = some new) (hn : new ≠ []) (hm : old.length + new.length ≤ most) (he : e % 2 = 0) (ha : s.at a = some (.rw v)) :
    vappend base h r e (.sl a [] o n none e) y s = some (.sl ((s.set a .dead).fresh h) [] 0 (old.length + new.length) none e, (s.set a .dead).new h (.agg r (old ++ new))) := by
  have h0 : ¬ new.length = 0 := by rw [List.length_eq_zero_iff]; exact hn
  unfold vappend
  rw [slIs_of (.inr ⟨_, _, _, _, _, rfl⟩), elIs_of hy, h1, h2]
  simp [h0, hm, he, ha]
theorem elems_whole {a : Loc} {n t : Nat} {c : Option Nat} {l : List V} (ha : s.read a [] = some (.agg t l)) (hn : n = l.length) : s.elems (.sl a [] 0 n c e) = some l := by
  subst hn
  by_cases h0 : l.length = 0
  · rw [List.length_eq_zero_iff.1 h0]; simp [St.elems]
  · simp [St.elems, h0, ha]
end
end Go.Ab
