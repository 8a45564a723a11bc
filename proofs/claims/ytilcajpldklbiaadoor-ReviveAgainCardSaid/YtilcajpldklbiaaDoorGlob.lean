/-
  YtilcajpldklbiaaDoorGlob: the listed table lies where the laws look.
-/
import Derived.Test.YtilcajpldklbiaaDoorRows
import Derived.Test.YtilcajpldklbiaaDoorChk
import Derived.Test.YtilcajpldklbiaaDoorAbF
import Derived.ProofKit
import Derived.LaidMore
import Derived.OpenShut
import Derived.Stop.Joined
set_option maxRecDepth 100000
namespace Go.Proofs.YtilcajpldklbiaaDoor
open Go.ChangeShapes Go.WideShapes Go.ChangeAt Go.RowKit Go.Ab
theorem EW : Tryd.prog.globalNamed "math/bits.deBruijn64tab" = some 0 := by kernel_rfl
theorem Nl : (Tryd.prog.globals[0]?).map (·.type) = some 134 := by kernel_rfl
def uW : List (String × DataW Unit) := [("math/bits.deBruijn64tab", Rows.laid_math_bits_deBruijn64tab)]
theorem GQ (os : Os) (args : Array Value) : laidMetH Tryd.prog uW ((World.doorLaid Tryd.prog 400 os).forCall (fun _ _ => 0) ⟨#[], args, []⟩).memory :=
 laidMetH_of_parts3 (fuel := 8) (laidMet_of_run' 8 (by kernel_rfl) (by kernel_rfl)) (by kernel_rfl) (by kernel_rfl)
theorem Iq : (Rows.laid_math_bits_deBruijn64tab : DataW Unit) = .agg (lB.map fun x => .lit (.int .u8 x)) := by kernel_rfl
theorem Gh {W : World} (h : laidMetH Tryd.prog uW W) : Inv cfg.T W ⟨[], [(⟨0, 0, none⟩, 108)]⟩ G := by
 rw [MakeChecks.laidMetH_plain _ _ _ (by kernel_rfl)] at h;obtain ⟨ps, ⟨g0, t0, cs0, f0, p0, q0, hg0, ht0, hv0, hd0, _⟩, _⟩ := h;obtain rfl := Option.some.inj (EW.symm.trans hg0);obtain rfl := Option.some.inj (Nl.symm.trans ht0);rw [Iq] at hd0;have hcs : cs0.toList = lB.map (Value.int .u8) := xJ Tryd.underlying134 Tryd.underlying5 (by kernel_rfl) (by kernel_rfl) hd0;simp only [World.var?, EW, Option.bind_some] at hv0;split at hv0
 ·rename_i c e fr hheap;cases hv0;refine Inv.push (JL cfg.T W) (ar := (⟨0, 0, none⟩, 108)) (b := .ro bU) ⟨CX (by kernel_rfl), rfl, _, _, _, _, hheap, tR (cs := lB.map (Value.int .u8)) (by kernel_rfl), fun i x hx => ?_, rfl⟩ (by first | rfl | simp)
  rw [← hcs] at hx;rw [Nat.zero_add];simpa using hx
 ·cases hv0
theorem Lx : cA cfg.gl ⟨[], [(⟨0, 0, none⟩, 108)]⟩ := by
 intro g i t h;simp only [cfg, gls, List.mem_singleton, Prod.mk.injEq] at h;obtain ⟨rfl, rfl, rfl⟩ := h;rfl
end Go.Proofs.YtilcajpldklbiaaDoor
