/-
  NARROWER THAN 'FOR EVERY INPUT', by the rows' own cells (each row's printed sentence says how): FramesOnce: laid · FramesSettled: laid · FramesLeft: laid · FramesFirst: laid · FramesPlay: laid.
  DERIVED. THE GIVEN ROWS OF THIS SEAT. 5 by the template 'for every input the law returns true; each argument reads behind the call as it read before'; 0 by the template 'total and deterministic' (their statements: YtfdaihhnlohckaaDoorTotals.lean).
  GIVEN WITH THE SEED: the statements are not yours to turn. If you find one false, say at which input.
  Laid BY PROGRAM, IN A SANDBOX (cutbox-rows.mjs): the forced cells as the released guide's own fill.sh prints them over the translation fdf3496724c2cced… (all of the seat's roots in one cut). By AI agents, Wed Nov 11 2026. No macro, syntax, notation, axiom, sorry.
-/
import Derived.Test.YtfdaihhnlohckaaDoorChecked
import GoSem.Claim
import GoSem.ClaimJoined
import GoSem.ClaimMapViews
import Derived.JoinedTies
import Derived.KernelRfl
namespace Go.Proofs.YtfdaihhnlohckaaDoor
/- THE CELL 'sum', in the pinned program and in every row, IS THE sha256 OF THE DUMP (.gsa) THAT YtfdaihhnlohckaaDoorProg.lean LOADS. Nothing in Lean hashes anything: it is a label: what it is worth is what the hold of that sum in a sandbox is worth. -/
noncomputable def Tryd.pinned : Pinned := { name := "ytfdaihhnlohckaadoor", sum := "fdf3496724c2cced1811d8eb62fc62b99533fbe277d414f9fc23aed56428c118", checked := Tryd.checked }
namespace Rows
def none {H : Type} : Left H := { results := [], args := [] }

/- WHAT THE LISTED PACKAGE-LEVEL VARIABLES READ AS WHEN THE CALL BEGINS. Each datum BY PROGRAM (the guide's laid-datum.mjs) off the statement by which the dump's own 'gosem.cut.vars' lays the variable. In a bare row this is a premise. The card (YtfdaihhnlohckaaDoorCards.lean) ties it to the program's text. -/
def laid_math_bits_deBruijn64tab {H : Type} : DataW H := .agg [.lit (.int .u8 0), .lit (.int .u8 1), .lit (.int .u8 56), .lit (.int .u8 2), .lit (.int .u8 57), .lit (.int .u8 49), .lit (.int .u8 28), .lit (.int .u8 3), .lit (.int .u8 61), .lit (.int .u8 58), .lit (.int .u8 42), .lit (.int .u8 50), .lit (.int .u8 38), .lit (.int .u8 29), .lit (.int .u8 17), .lit (.int .u8 4), .lit (.int .u8 62), .lit (.int .u8 47), .lit (.int .u8 59), .lit (.int .u8 36), .lit (.int .u8 45), .lit (.int .u8 43), .lit (.int .u8 51), .lit (.int .u8 22), .lit (.int .u8 53), .lit (.int .u8 39), .lit (.int .u8 33), .lit (.int .u8 30), .lit (.int .u8 24), .lit (.int .u8 18), .lit (.int .u8 12), .lit (.int .u8 5), .lit (.int .u8 63), .lit (.int .u8 55), .lit (.int .u8 48), .lit (.int .u8 27), .lit (.int .u8 60), .lit (.int .u8 41), .lit (.int .u8 37), .lit (.int .u8 16), .lit (.int .u8 46), .lit (.int .u8 35), .lit (.int .u8 44), .lit (.int .u8 21), .lit (.int .u8 52), .lit (.int .u8 32), .lit (.int .u8 23), .lit (.int .u8 11), .lit (.int .u8 54), .lit (.int .u8 26), .lit (.int .u8 40), .lit (.int .u8 15), .lit (.int .u8 34), .lit (.int .u8 20), .lit (.int .u8 31), .lit (.int .u8 10), .lit (.int .u8 25), .lit (.int .u8 14), .lit (.int .u8 19), .lit (.int .u8 9), .lit (.int .u8 13), .lit (.int .u8 8), .lit (.int .u8 7), .lit (.int .u8 6)]

/-- 'steadfastlaw04.FramesOnce': WHATEVER THE INPUT: true; the input reads as it did. -/
def framesOnceSpec : ChangeSpec := { name := "framesOnce", fn := fun _ => fun
  | [d] => { results := [.lit (.bool true)], args := [d] }
  | _ => none }
def framesOnceRow : OpenClaim := { program := "ytfdaihhnlohckaadoor", sum := "fdf3496724c2cced1811d8eb62fc62b99533fbe277d414f9fc23aed56428c118", func := "steadfast/steadfastlaw04.FramesOnce", spec := "framesOnce", named := ["math/bits.deBruijn64tab"], apart := false, laid := [("math/bits.deBruijn64tab", laid_math_bits_deBruijn64tab)] }
def FramesOnceSaid : Prop := framesOnceRow.holds Tryd.pinned (OpenSpec.ofChange framesOnceSpec)

/-- ITS FALSE NEIGHBOUR: 'it returns false'. Refute it at one input. -/
def framesOnceWrong : ChangeSpec := { name := "framesOnce", fn := fun _ => fun
  | [d] => { results := [.lit (.bool false)], args := [d] }
  | _ => none }
def FramesOnceWrongFalsely : Prop := framesOnceRow.holds Tryd.pinned (OpenSpec.ofChange framesOnceWrong)

/-- 'steadfastlaw04.FramesSettled': WHATEVER THE INPUT: true; the input reads as it did. -/
def framesSettledSpec : ChangeSpec := { name := "framesSettled", fn := fun _ => fun
  | [d] => { results := [.lit (.bool true)], args := [d] }
  | _ => none }
def framesSettledRow : OpenClaim := { program := "ytfdaihhnlohckaadoor", sum := "fdf3496724c2cced1811d8eb62fc62b99533fbe277d414f9fc23aed56428c118", func := "steadfast/steadfastlaw04.FramesSettled", spec := "framesSettled", named := ["math/bits.deBruijn64tab"], apart := false, laid := [("math/bits.deBruijn64tab", laid_math_bits_deBruijn64tab)] }
def FramesSettledSaid : Prop := framesSettledRow.holds Tryd.pinned (OpenSpec.ofChange framesSettledSpec)

/-- ITS FALSE NEIGHBOUR: 'it returns false'. Refute it at one input. -/
def framesSettledWrong : ChangeSpec := { name := "framesSettled", fn := fun _ => fun
  | [d] => { results := [.lit (.bool false)], args := [d] }
  | _ => none }
def FramesSettledWrongFalsely : Prop := framesSettledRow.holds Tryd.pinned (OpenSpec.ofChange framesSettledWrong)

/-- 'steadfastlaw04.FramesLeft': WHATEVER THE INPUT: true; the input reads as it did. -/
def framesLeftSpec : ChangeSpec := { name := "framesLeft", fn := fun _ => fun
  | [d1, d2] => { results := [.lit (.bool true)], args := [d1, d2] }
  | _ => none }
def framesLeftRow : OpenClaim := { program := "ytfdaihhnlohckaadoor", sum := "fdf3496724c2cced1811d8eb62fc62b99533fbe277d414f9fc23aed56428c118", func := "steadfast/steadfastlaw04.FramesLeft", spec := "framesLeft", named := ["math/bits.deBruijn64tab"], apart := false, laid := [("math/bits.deBruijn64tab", laid_math_bits_deBruijn64tab)] }
def FramesLeftSaid : Prop := framesLeftRow.holds Tryd.pinned (OpenSpec.ofChange framesLeftSpec)

/-- ITS FALSE NEIGHBOUR: 'it returns false'. Refute it at one input. -/
def framesLeftWrong : ChangeSpec := { name := "framesLeft", fn := fun _ => fun
  | [d1, d2] => { results := [.lit (.bool false)], args := [d1, d2] }
  | _ => none }
def FramesLeftWrongFalsely : Prop := framesLeftRow.holds Tryd.pinned (OpenSpec.ofChange framesLeftWrong)

/-- 'steadfastlaw04.FramesFirst': WHATEVER THE INPUT: true; the input reads as it did. -/
def framesFirstSpec : ChangeSpec := { name := "framesFirst", fn := fun _ => fun
  | [d] => { results := [.lit (.bool true)], args := [d] }
  | _ => none }
def framesFirstRow : OpenClaim := { program := "ytfdaihhnlohckaadoor", sum := "fdf3496724c2cced1811d8eb62fc62b99533fbe277d414f9fc23aed56428c118", func := "steadfast/steadfastlaw04.FramesFirst", spec := "framesFirst", named := ["math/bits.deBruijn64tab"], apart := false, laid := [("math/bits.deBruijn64tab", laid_math_bits_deBruijn64tab)] }
def FramesFirstSaid : Prop := framesFirstRow.holds Tryd.pinned (OpenSpec.ofChange framesFirstSpec)

/-- ITS FALSE NEIGHBOUR: 'it returns false'. Refute it at one input. -/
def framesFirstWrong : ChangeSpec := { name := "framesFirst", fn := fun _ => fun
  | [d] => { results := [.lit (.bool false)], args := [d] }
  | _ => none }
def FramesFirstWrongFalsely : Prop := framesFirstRow.holds Tryd.pinned (OpenSpec.ofChange framesFirstWrong)

/-- 'steadfastlaw04.FramesPlay': WHATEVER THE INPUT: true; the input reads as it did. -/
def framesPlaySpec : ChangeSpec := { name := "framesPlay", fn := fun _ => fun
  | [d1, d2, d3] => { results := [.lit (.bool true)], args := [d1, d2, d3] }
  | _ => none }
def framesPlayRow : OpenClaim := { program := "ytfdaihhnlohckaadoor", sum := "fdf3496724c2cced1811d8eb62fc62b99533fbe277d414f9fc23aed56428c118", func := "steadfast/steadfastlaw04.FramesPlay", spec := "framesPlay", named := ["math/bits.deBruijn64tab"], apart := false, laid := [("math/bits.deBruijn64tab", laid_math_bits_deBruijn64tab)] }
def FramesPlaySaid : Prop := framesPlayRow.holds Tryd.pinned (OpenSpec.ofChange framesPlaySpec)

/-- ITS FALSE NEIGHBOUR: 'it returns false'. Refute it at one input. -/
def framesPlayWrong : ChangeSpec := { name := "framesPlay", fn := fun _ => fun
  | [d1, d2, d3] => { results := [.lit (.bool false)], args := [d1, d2, d3] }
  | _ => none }
def FramesPlayWrongFalsely : Prop := framesPlayRow.holds Tryd.pinned (OpenSpec.ofChange framesPlayWrong)

/- THE SECOND FORM. 'bulk': how many values and letters a reading holds, each counted each time it is reached (what is shared counts as often as it is met; a slice's spare places count too). A statement '..UptoSaid' is the law's where the arguments, and the package variables that the reading takes, are together of bulk at most 1048576: NARROWER than '..Said'. Prove '..Said' where nothing that the law and all that it calls make is longer than what came in: it says more and counts as full. Else prove '..UptoSaid'. A law counts once. -/
mutual
def uptoBulk {H : Type} : DataW H → Nat
  | .lit (.string bytes) => bytes.length + 1
  | .lit _ => 1
  | .nil => 1
  | .ptr d => uptoBulk d + 1
  | .slice elems spare => uptoBulkAll elems + uptoBulkAll spare + 1
  | .agg parts => uptoBulkAll parts + 1
  | .iface _ d => uptoBulk d + 1
  | .map entries => uptoBulkEntries entries + 1
  | .held _ => 1
def uptoBulkAll {H : Type} : List (DataW H) → Nat
  | [] => 0
  | d :: r => uptoBulk d + uptoBulkAll r
def uptoBulkEntries {H : Type} : List (Lit × DataW H) → Nat
  | [] => 0
  | x :: r => uptoBulkEntry x + uptoBulkEntries r
def uptoBulkEntry {H : Type} : Lit × DataW H → Nat
  | (.string bytes, d) => bytes.length + uptoBulk d + 1
  | (_, d) => uptoBulk d + 1
 end
def uptoSmall : (H : Type) → List (DataW H) → Bool := fun _ ds => decide (uptoBulkAll ds ≤ 1048576)
def OpenSpec.upto (s : _root_.Go.ChangeSpec) : _root_.Go.OpenSpec := { _root_.Go.OpenSpec.ofChange s with cond := some uptoSmall }

/-- 'steadfastlaw04.FramesOnce', WHERE WHAT IT READS IS OF BULK AT MOST 1048576: true; the input reads as it did. -/
def framesOnceUptoRow : OpenClaim := { program := "ytfdaihhnlohckaadoor", sum := "fdf3496724c2cced1811d8eb62fc62b99533fbe277d414f9fc23aed56428c118", func := "steadfast/steadfastlaw04.FramesOnce", spec := "framesOnce", named := ["math/bits.deBruijn64tab"], apart := false, laid := [("math/bits.deBruijn64tab", laid_math_bits_deBruijn64tab)], narrowed := true }
def FramesOnceUptoSaid : Prop := framesOnceUptoRow.holds Tryd.pinned (OpenSpec.upto framesOnceSpec)

/-- 'steadfastlaw04.FramesSettled', WHERE WHAT IT READS IS OF BULK AT MOST 1048576: true; the input reads as it did. -/
def framesSettledUptoRow : OpenClaim := { program := "ytfdaihhnlohckaadoor", sum := "fdf3496724c2cced1811d8eb62fc62b99533fbe277d414f9fc23aed56428c118", func := "steadfast/steadfastlaw04.FramesSettled", spec := "framesSettled", named := ["math/bits.deBruijn64tab"], apart := false, laid := [("math/bits.deBruijn64tab", laid_math_bits_deBruijn64tab)], narrowed := true }
def FramesSettledUptoSaid : Prop := framesSettledUptoRow.holds Tryd.pinned (OpenSpec.upto framesSettledSpec)

/-- 'steadfastlaw04.FramesLeft', WHERE WHAT IT READS IS OF BULK AT MOST 1048576: true; the input reads as it did. -/
def framesLeftUptoRow : OpenClaim := { program := "ytfdaihhnlohckaadoor", sum := "fdf3496724c2cced1811d8eb62fc62b99533fbe277d414f9fc23aed56428c118", func := "steadfast/steadfastlaw04.FramesLeft", spec := "framesLeft", named := ["math/bits.deBruijn64tab"], apart := false, laid := [("math/bits.deBruijn64tab", laid_math_bits_deBruijn64tab)], narrowed := true }
def FramesLeftUptoSaid : Prop := framesLeftUptoRow.holds Tryd.pinned (OpenSpec.upto framesLeftSpec)

/-- 'steadfastlaw04.FramesFirst', WHERE WHAT IT READS IS OF BULK AT MOST 1048576: true; the input reads as it did. -/
def framesFirstUptoRow : OpenClaim := { program := "ytfdaihhnlohckaadoor", sum := "fdf3496724c2cced1811d8eb62fc62b99533fbe277d414f9fc23aed56428c118", func := "steadfast/steadfastlaw04.FramesFirst", spec := "framesFirst", named := ["math/bits.deBruijn64tab"], apart := false, laid := [("math/bits.deBruijn64tab", laid_math_bits_deBruijn64tab)], narrowed := true }
def FramesFirstUptoSaid : Prop := framesFirstUptoRow.holds Tryd.pinned (OpenSpec.upto framesFirstSpec)

/-- 'steadfastlaw04.FramesPlay', WHERE WHAT IT READS IS OF BULK AT MOST 1048576: true; the input reads as it did. -/
def framesPlayUptoRow : OpenClaim := { program := "ytfdaihhnlohckaadoor", sum := "fdf3496724c2cced1811d8eb62fc62b99533fbe277d414f9fc23aed56428c118", func := "steadfast/steadfastlaw04.FramesPlay", spec := "framesPlay", named := ["math/bits.deBruijn64tab"], apart := false, laid := [("math/bits.deBruijn64tab", laid_math_bits_deBruijn64tab)], narrowed := true }
def FramesPlayUptoSaid : Prop := framesPlayUptoRow.holds Tryd.pinned (OpenSpec.upto framesPlaySpec)

end Rows
end Go.Proofs.YtfdaihhnlohckaaDoor
