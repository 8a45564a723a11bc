/-
  No cell of these rows narrows 'for every input' (looked for: loops, veiled, ifaces, maps, wideKeys, modest, calm, conditions, laid).
  DERIVED. THE GIVEN ROWS OF THIS SEAT. 7 by the template 'for every input the law returns true; each argument reads behind the call as it read before'; 0 by the template 'total and deterministic' (their statements: YtfdaihhnlohckaaTotals.lean).
  GIVEN WITH THE SEED: the statements are not yours to turn. If you find one false, say at which input.
  Laid BY PROGRAM, IN A SANDBOX (cutbox-rows.mjs): the forced cells as the released guide's own fill.sh prints them over the translation c65ee90a41ce52ee… (all of the seat's roots in one cut). By AI agents, Wed Nov 11 2026. No macro, syntax, notation, axiom, sorry.
-/
import Derived.Test.YtfdaihhnlohckaaChecked
import GoSem.Claim
import GoSem.ClaimJoined
import GoSem.ClaimMapViews
import Derived.JoinedTies
import Derived.KernelRfl
namespace Go.Proofs.Ytfdaihhnlohckaa
/- THE CELL 'sum', in the pinned program and in every row, IS THE sha256 OF THE DUMP (.gsa) THAT YtfdaihhnlohckaaProg.lean LOADS. Nothing in Lean hashes anything: it is a label: what it is worth is what the hold of that sum in a sandbox is worth. -/
noncomputable def Try.pinned : Pinned := { name := "ytfdaihhnlohckaa", sum := "c65ee90a41ce52eed73dd0baeca9ad9d1fbc891ed4447a31e768f310fb74fca2", checked := Try.checked }
namespace Rows
def none {H : Type} : Left H := { results := [], args := [] }

/-- 'steadfastlaw19.QueueNexts': WHATEVER THE INPUT: true; the input reads as it did. -/
def queueNextsSpec : ChangeSpec := { name := "queueNexts", fn := fun _ => fun
  | [d1, d2, d3] => { results := [.lit (.bool true)], args := [d1, d2, d3] }
  | _ => none }
def queueNextsRow : OpenClaim := { program := "ytfdaihhnlohckaa", sum := "c65ee90a41ce52eed73dd0baeca9ad9d1fbc891ed4447a31e768f310fb74fca2", func := "steadfast/steadfastlaw19.QueueNexts", spec := "queueNexts", unfollowed := true, recurses := true, apart := false }
def QueueNextsSaid : Prop := queueNextsRow.holds Try.pinned (OpenSpec.ofChange queueNextsSpec)

/-- ITS FALSE NEIGHBOUR: 'it returns false'. Refute it at one input. -/
def queueNextsWrong : ChangeSpec := { name := "queueNexts", fn := fun _ => fun
  | [d1, d2, d3] => { results := [.lit (.bool false)], args := [d1, d2, d3] }
  | _ => none }
def QueueNextsWrongFalsely : Prop := queueNextsRow.holds Try.pinned (OpenSpec.ofChange queueNextsWrong)

/-- 'steadfastlaw19.QueueTurns': WHATEVER THE INPUT: true; the input reads as it did. -/
def queueTurnsSpec : ChangeSpec := { name := "queueTurns", fn := fun _ => fun
  | [d1, d2, d3] => { results := [.lit (.bool true)], args := [d1, d2, d3] }
  | _ => none }
def queueTurnsRow : OpenClaim := { program := "ytfdaihhnlohckaa", sum := "c65ee90a41ce52eed73dd0baeca9ad9d1fbc891ed4447a31e768f310fb74fca2", func := "steadfast/steadfastlaw19.QueueTurns", spec := "queueTurns", unfollowed := true, recurses := true, apart := false }
def QueueTurnsSaid : Prop := queueTurnsRow.holds Try.pinned (OpenSpec.ofChange queueTurnsSpec)

/-- ITS FALSE NEIGHBOUR: 'it returns false'. Refute it at one input. -/
def queueTurnsWrong : ChangeSpec := { name := "queueTurns", fn := fun _ => fun
  | [d1, d2, d3] => { results := [.lit (.bool false)], args := [d1, d2, d3] }
  | _ => none }
def QueueTurnsWrongFalsely : Prop := queueTurnsRow.holds Try.pinned (OpenSpec.ofChange queueTurnsWrong)

/-- 'steadfastlaw19.QueueCores': WHATEVER THE INPUT: true; the input reads as it did. -/
def queueCoresSpec : ChangeSpec := { name := "queueCores", fn := fun _ => fun
  | [d1, d2, d3] => { results := [.lit (.bool true)], args := [d1, d2, d3] }
  | _ => none }
def queueCoresRow : OpenClaim := { program := "ytfdaihhnlohckaa", sum := "c65ee90a41ce52eed73dd0baeca9ad9d1fbc891ed4447a31e768f310fb74fca2", func := "steadfast/steadfastlaw19.QueueCores", spec := "queueCores", unfollowed := true, recurses := true, apart := false }
def QueueCoresSaid : Prop := queueCoresRow.holds Try.pinned (OpenSpec.ofChange queueCoresSpec)

/-- ITS FALSE NEIGHBOUR: 'it returns false'. Refute it at one input. -/
def queueCoresWrong : ChangeSpec := { name := "queueCores", fn := fun _ => fun
  | [d1, d2, d3] => { results := [.lit (.bool false)], args := [d1, d2, d3] }
  | _ => none }
def QueueCoresWrongFalsely : Prop := queueCoresRow.holds Try.pinned (OpenSpec.ofChange queueCoresWrong)

/-- 'steadfastlaw23.ReachLess': WHATEVER THE INPUT: true; the input reads as it did. -/
def reachLessSpec : ChangeSpec := { name := "reachLess", fn := fun _ => fun
  | [d1, d2, d3] => { results := [.lit (.bool true)], args := [d1, d2, d3] }
  | _ => none }
def reachLessRow : OpenClaim := { program := "ytfdaihhnlohckaa", sum := "c65ee90a41ce52eed73dd0baeca9ad9d1fbc891ed4447a31e768f310fb74fca2", func := "steadfast/steadfastlaw23.ReachLess", spec := "reachLess", unfollowed := true, recurses := true, apart := false }
def ReachLessSaid : Prop := reachLessRow.holds Try.pinned (OpenSpec.ofChange reachLessSpec)

/-- ITS FALSE NEIGHBOUR: 'it returns false'. Refute it at one input. -/
def reachLessWrong : ChangeSpec := { name := "reachLess", fn := fun _ => fun
  | [d1, d2, d3] => { results := [.lit (.bool false)], args := [d1, d2, d3] }
  | _ => none }
def ReachLessWrongFalsely : Prop := reachLessRow.holds Try.pinned (OpenSpec.ofChange reachLessWrong)

/-- 'steadfastlaw23.ReachParts': WHATEVER THE INPUT: true; the input reads as it did. -/
def reachPartsSpec : ChangeSpec := { name := "reachParts", fn := fun _ => fun
  | [d1, d2] => { results := [.lit (.bool true)], args := [d1, d2] }
  | _ => none }
def reachPartsRow : OpenClaim := { program := "ytfdaihhnlohckaa", sum := "c65ee90a41ce52eed73dd0baeca9ad9d1fbc891ed4447a31e768f310fb74fca2", func := "steadfast/steadfastlaw23.ReachParts", spec := "reachParts", unfollowed := true, recurses := true, apart := false }
def ReachPartsSaid : Prop := reachPartsRow.holds Try.pinned (OpenSpec.ofChange reachPartsSpec)

/-- ITS FALSE NEIGHBOUR: 'it returns false'. Refute it at one input. -/
def reachPartsWrong : ChangeSpec := { name := "reachParts", fn := fun _ => fun
  | [d1, d2] => { results := [.lit (.bool false)], args := [d1, d2] }
  | _ => none }
def ReachPartsWrongFalsely : Prop := reachPartsRow.holds Try.pinned (OpenSpec.ofChange reachPartsWrong)

/-- 'steadfastlaw23.ReachFinds': WHATEVER THE INPUT: true; the input reads as it did. -/
def reachFindsSpec : ChangeSpec := { name := "reachFinds", fn := fun _ => fun
  | [d1, d2, d3] => { results := [.lit (.bool true)], args := [d1, d2, d3] }
  | _ => none }
def reachFindsRow : OpenClaim := { program := "ytfdaihhnlohckaa", sum := "c65ee90a41ce52eed73dd0baeca9ad9d1fbc891ed4447a31e768f310fb74fca2", func := "steadfast/steadfastlaw23.ReachFinds", spec := "reachFinds", unfollowed := true, recurses := true, apart := false }
def ReachFindsSaid : Prop := reachFindsRow.holds Try.pinned (OpenSpec.ofChange reachFindsSpec)

/-- ITS FALSE NEIGHBOUR: 'it returns false'. Refute it at one input. -/
def reachFindsWrong : ChangeSpec := { name := "reachFinds", fn := fun _ => fun
  | [d1, d2, d3] => { results := [.lit (.bool false)], args := [d1, d2, d3] }
  | _ => none }
def ReachFindsWrongFalsely : Prop := reachFindsRow.holds Try.pinned (OpenSpec.ofChange reachFindsWrong)

/-- 'steadfastlaw23.ReachApart': WHATEVER THE INPUT: true; the input reads as it did. -/
def reachApartSpec : ChangeSpec := { name := "reachApart", fn := fun _ => fun
  | [d1, d2, d3] => { results := [.lit (.bool true)], args := [d1, d2, d3] }
  | _ => none }
def reachApartRow : OpenClaim := { program := "ytfdaihhnlohckaa", sum := "c65ee90a41ce52eed73dd0baeca9ad9d1fbc891ed4447a31e768f310fb74fca2", func := "steadfast/steadfastlaw23.ReachApart", spec := "reachApart", unfollowed := true, recurses := true, apart := false }
def ReachApartSaid : Prop := reachApartRow.holds Try.pinned (OpenSpec.ofChange reachApartSpec)

/-- ITS FALSE NEIGHBOUR: 'it returns false'. Refute it at one input. -/
def reachApartWrong : ChangeSpec := { name := "reachApart", fn := fun _ => fun
  | [d1, d2, d3] => { results := [.lit (.bool false)], args := [d1, d2, d3] }
  | _ => none }
def ReachApartWrongFalsely : Prop := reachApartRow.holds Try.pinned (OpenSpec.ofChange reachApartWrong)

/- THE SECOND FORM. 'bulk': how many values and letters a reading holds, each counted each time it is reached (what is shared counts as often as it is met; a slice's spare places count too). A statement '..UptoSaid' is the law's where the arguments, and the package variables that the reading takes, are together of bulk at most 1048576: NARROWER than '..Said'. Prove '..Said' where nothing that the law and all that it calls make is longer than what came in: it says more and counts as full. Else prove '..UptoSaid'. A law counts once. -/
mutual
def uptoBulk {H : Type} : DataW H → Nat
  | .lit (.string bytes) => bytes.length + 1
  | .lit _ => 1
  | .nil => 1
  | .ptr d => uptoBulk d + 1
  | .slice elems spare => uptoBulkAll elems + uptoBulkAll spare + 1
  | .agg parts => uptoBulkAll parts + 1
  | .iface _ d => uptoBulk d + 1
  | .map entries => uptoBulkEntries entries + 1
  | .held _ => 1
def uptoBulkAll {H : Type} : List (DataW H) → Nat
  | [] => 0
  | d :: r => uptoBulk d + uptoBulkAll r
def uptoBulkEntries {H : Type} : List (Lit × DataW H) → Nat
  | [] => 0
  | x :: r => uptoBulkEntry x + uptoBulkEntries r
def uptoBulkEntry {H : Type} : Lit × DataW H → Nat
  | (.string bytes, d) => bytes.length + uptoBulk d + 1
  | (_, d) => uptoBulk d + 1
 end
def uptoSmall : (H : Type) → List (DataW H) → Bool := fun _ ds => decide (uptoBulkAll ds ≤ 1048576)
def OpenSpec.upto (s : _root_.Go.ChangeSpec) : _root_.Go.OpenSpec := { _root_.Go.OpenSpec.ofChange s with cond := some uptoSmall }

/-- 'steadfastlaw19.QueueNexts', WHERE WHAT IT READS IS OF BULK AT MOST 1048576: true; the input reads as it did. -/
def queueNextsUptoRow : OpenClaim := { program := "ytfdaihhnlohckaa", sum := "c65ee90a41ce52eed73dd0baeca9ad9d1fbc891ed4447a31e768f310fb74fca2", func := "steadfast/steadfastlaw19.QueueNexts", spec := "queueNexts", unfollowed := true, recurses := true, apart := false, narrowed := true }
def QueueNextsUptoSaid : Prop := queueNextsUptoRow.holds Try.pinned (OpenSpec.upto queueNextsSpec)

/-- 'steadfastlaw19.QueueTurns', WHERE WHAT IT READS IS OF BULK AT MOST 1048576: true; the input reads as it did. -/
def queueTurnsUptoRow : OpenClaim := { program := "ytfdaihhnlohckaa", sum := "c65ee90a41ce52eed73dd0baeca9ad9d1fbc891ed4447a31e768f310fb74fca2", func := "steadfast/steadfastlaw19.QueueTurns", spec := "queueTurns", unfollowed := true, recurses := true, apart := false, narrowed := true }
def QueueTurnsUptoSaid : Prop := queueTurnsUptoRow.holds Try.pinned (OpenSpec.upto queueTurnsSpec)

/-- 'steadfastlaw19.QueueCores', WHERE WHAT IT READS IS OF BULK AT MOST 1048576: true; the input reads as it did. -/
def queueCoresUptoRow : OpenClaim := { program := "ytfdaihhnlohckaa", sum := "c65ee90a41ce52eed73dd0baeca9ad9d1fbc891ed4447a31e768f310fb74fca2", func := "steadfast/steadfastlaw19.QueueCores", spec := "queueCores", unfollowed := true, recurses := true, apart := false, narrowed := true }
def QueueCoresUptoSaid : Prop := queueCoresUptoRow.holds Try.pinned (OpenSpec.upto queueCoresSpec)

/-- 'steadfastlaw23.ReachLess', WHERE WHAT IT READS IS OF BULK AT MOST 1048576: true; the input reads as it did. -/
def reachLessUptoRow : OpenClaim := { program := "ytfdaihhnlohckaa", sum := "c65ee90a41ce52eed73dd0baeca9ad9d1fbc891ed4447a31e768f310fb74fca2", func := "steadfast/steadfastlaw23.ReachLess", spec := "reachLess", unfollowed := true, recurses := true, apart := false, narrowed := true }
def ReachLessUptoSaid : Prop := reachLessUptoRow.holds Try.pinned (OpenSpec.upto reachLessSpec)

/-- 'steadfastlaw23.ReachParts', WHERE WHAT IT READS IS OF BULK AT MOST 1048576: true; the input reads as it did. -/
def reachPartsUptoRow : OpenClaim := { program := "ytfdaihhnlohckaa", sum := "c65ee90a41ce52eed73dd0baeca9ad9d1fbc891ed4447a31e768f310fb74fca2", func := "steadfast/steadfastlaw23.ReachParts", spec := "reachParts", unfollowed := true, recurses := true, apart := false, narrowed := true }
def ReachPartsUptoSaid : Prop := reachPartsUptoRow.holds Try.pinned (OpenSpec.upto reachPartsSpec)

/-- 'steadfastlaw23.ReachFinds', WHERE WHAT IT READS IS OF BULK AT MOST 1048576: true; the input reads as it did. -/
def reachFindsUptoRow : OpenClaim := { program := "ytfdaihhnlohckaa", sum := "c65ee90a41ce52eed73dd0baeca9ad9d1fbc891ed4447a31e768f310fb74fca2", func := "steadfast/steadfastlaw23.ReachFinds", spec := "reachFinds", unfollowed := true, recurses := true, apart := false, narrowed := true }
def ReachFindsUptoSaid : Prop := reachFindsUptoRow.holds Try.pinned (OpenSpec.upto reachFindsSpec)

/-- 'steadfastlaw23.ReachApart', WHERE WHAT IT READS IS OF BULK AT MOST 1048576: true; the input reads as it did. -/
def reachApartUptoRow : OpenClaim := { program := "ytfdaihhnlohckaa", sum := "c65ee90a41ce52eed73dd0baeca9ad9d1fbc891ed4447a31e768f310fb74fca2", func := "steadfast/steadfastlaw23.ReachApart", spec := "reachApart", unfollowed := true, recurses := true, apart := false, narrowed := true }
def ReachApartUptoSaid : Prop := reachApartUptoRow.holds Try.pinned (OpenSpec.upto reachApartSpec)

end Rows
end Go.Proofs.Ytfdaihhnlohckaa
