/-
  Ab28: the program's tables of numbers, as the row lists them.
-/
import Derived.Test.YtfdaihhnlohckaaDoorAb22
import Derived.OpenShut
import Derived.FnData
namespace Go.Ab

theorem cells_of_laid {H : Type} {enc : TypeId × Value → H} {P : Program} {w : World} {base : Nat} {spare : Nat → Bool} {held : Bool} {fuel t e : Nat} {n : Nat} {k : IntKind} {cs : List Value} {ls : List Int} {ps : List MemPlace}
    (ht : P.underlying t = some (.array n e)) (he : P.underlying e = some (.int k)) (h1 : P.cellsOf e = 1) (h2 : P.cellsOf t = n)
    (h : DataW.trod enc P w base spare held fuel t cs = some (.agg (ls.map fun x => .lit (.int k x)), ps)) : cs = ls.map (Value.int k) := by
  obtain ⟨xs, m, rfl, hx, hlen, hn, hel⟩ := DataW.trod_array ht h
  simp only [Prod.mk.injEq, DataW.agg.injEq] at hx
  have hl : ls.length = n := by
    have := congrArg List.length hx.1
    simp only [List.length_map] at this
    omega
  apply List.ext_getElem?
  intro i
  by_cases hi : i < n
  · have hxi : i < xs.length := by omega
    have hci : i < cs.length := by omega
    have hli : i < ls.length := by omega
    have g := hel i hi
    rw [h1, Nat.mul_one, List.getElem?_eq_getElem hxi] at g
    obtain ⟨v, g1, g2, _⟩ := DataW.trod_int he g
    have g3 : xs[i].1 = .lit (.int k ls[i]) := by
      have := congrArg (fun l => l[i]?) hx.1
      simp only [List.getElem?_map, List.getElem?_eq_getElem hxi, List.getElem?_eq_getElem hli, Option.map_some, Option.some.injEq] at this
      exact this.symm
    rw [g2] at g3
    simp only [DataW.lit.injEq, Lit.int.injEq, true_and] at g3
    have g4 : cs[i] = .int k v := by
      have := congrArg (fun l => l[0]?) g1
      simp only [List.getElem?_take, List.getElem?_drop, Nat.add_zero, Nat.zero_lt_one, if_true, List.getElem?_eq_getElem hci, List.getElem?_cons_zero, Option.some.injEq] at this
      exact this
    rw [List.getElem?_eq_getElem hci, List.getElem?_map, List.getElem?_eq_getElem hli, g4, g3]
    rfl
  · rw [List.getElem?_eq_none (by omega), List.getElem?_eq_none (by simp; omega)]
end Go.Ab
