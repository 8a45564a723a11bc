/-
  ObjO: rows of objects, as arguments are opened (picked out of ReachB and ReachC).
-/
import Derived.Test.YtpbpgbedkmbfkaaAb27
import Derived.Test.YtpbpgbedkmbfkaaAb25
set_option maxRecDepth 100000
namespace Go.Proofs.Ytpbpgbedkmbfkaa
open Go.Ab
structure Obj where
  kind : Int
  ver : Int
  l : List Int
def Obj.v (o : Obj) : V := .agg 26 [.int .i64 o.kind, .int .i64 o.ver, .agg 24 (o.l.map (.int .u64))]
def noObj : Obj := ⟨0, 0, []⟩
theorem map_of {α : Type} {f : α → V} {P : α → Prop} {l : List V} (h : ∀ x ∈ l, ∃ a, x = f a ∧ P a) : ∃ la : List α, l = la.map f ∧ ∀ a ∈ la, P a := by
  induction l with
  | nil => exact ⟨[], rfl, by simp⟩
  | cons x l ih =>
    obtain ⟨a, rfl, ha⟩ := h x (List.mem_cons_self ..)
    obtain ⟨la, rfl, hl⟩ := ih fun y hy => h y (List.mem_cons_of_mem _ hy)
    refine ⟨a :: la, rfl, fun y hy => ?_⟩
    rcases List.mem_cons.1 hy with rfl | hy
    · exact ha
    · exact hl y hy
structure OkO (o : Obj) : Prop where
  l8 : o.l.length = 8
  words : ∀ x ∈ o.l, 0 ≤ x ∧ x ≤ 18446744073709551615
theorem obj_of {hp : List Blk} {v : V} (h : (Sh.st 26 [.int .i64, .int .i64, .arr 24 8 (.int .u64)]).Fits hp v) : ∃ o : Obj, v = o.v ∧ OkO o ∧ (-9223372036854775808 ≤ o.kind ∧ o.kind ≤ 9223372036854775807) ∧ (-9223372036854775808 ≤ o.ver ∧ o.ver ≤ 9223372036854775807) := by
  obtain ⟨vs, rfl, h⟩ := h
  obtain ⟨x, y, z, rfl, ⟨k, rfl, hk⟩, ⟨w, rfl, hw⟩, ⟨ws, rfl, hn, hl⟩⟩ := fits3 h
  obtain ⟨l, rfl, hl'⟩ := map_of (f := V.int .u64) (P := fun x => 0 ≤ x ∧ x ≤ 18446744073709551615) (fun x hx => by
    obtain ⟨n, rfl, h1, h2⟩ := hl x hx
    exact ⟨n, rfl, h1, h2⟩)
  refine ⟨⟨k, w, l⟩, rfl, ⟨by simpa using hn, hl'⟩, hk, hw⟩
def zeroObj : Obj := ⟨0, 0, List.replicate 8 0⟩
def absm (k m : Int) : Int := if Int.tmod k m < 0 then -(Int.tmod k m) else Int.tmod k m
theorem absm_le (k : Int) {m : Int} (hm : 0 < m) : 0 ≤ absm k m ∧ absm k m < m := by
  have h1 := Int.tmod_lt_of_pos k hm
  have h2 := Int.lt_tmod_of_pos k hm
  unfold absm
  split <;> omega
end Go.Proofs.Ytpbpgbedkmbfkaa
