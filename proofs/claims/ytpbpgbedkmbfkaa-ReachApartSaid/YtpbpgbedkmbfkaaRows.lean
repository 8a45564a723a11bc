/-
  No cell of these rows narrows 'for every input' (looked for: loops, veiled, ifaces, maps, wideKeys, modest, calm, conditions, laid).
  DERIVED. THE GIVEN ROWS OF THIS SEAT. 9 by the template 'for every input the law returns true; each argument reads behind the call as it read before'; 0 by the template 'total and deterministic' (their statements: YtpbpgbedkmbfkaaTotals.lean).
  GIVEN WITH THE SEED: the statements are not yours to turn. If you find one false, say at which input.
  Laid BY PROGRAM, IN A SANDBOX (cutbox-rows.mjs): the forced cells as the released guide's own fill.sh prints them over the translation 0b2c402e5036c518… (all of the seat's roots in one cut). By AI agents, Wed Nov 11 2026. No macro, syntax, notation, axiom, sorry.
-/
import Derived.Test.YtpbpgbedkmbfkaaChecked
import GoSem.Claim
import GoSem.ClaimJoined
import GoSem.ClaimMapViews
import Derived.JoinedTies
import Derived.KernelRfl
namespace Go.Proofs.Ytpbpgbedkmbfkaa
/- THE CELL 'sum', in the pinned program and in every row, IS THE sha256 OF THE DUMP (.gsa) THAT YtpbpgbedkmbfkaaProg.lean LOADS. Nothing in Lean hashes anything: it is a label: what it is worth is what the hold of that sum in a sandbox is worth. -/
noncomputable def Try.pinned : Pinned := { name := "ytpbpgbedkmbfkaa", sum := "0b2c402e5036c518103cf807e421d1e194797b53fede44fb55e4ca759d7d1628", checked := Try.checked }
namespace Rows
def none {H : Type} : Left H := { results := [], args := [] }

/-- 'steadfastlaw23.ReachFinds': WHATEVER THE INPUT: true; the input reads as it did. -/
def reachFindsSpec : ChangeSpec := { name := "reachFinds", fn := fun _ => fun
  | [d1, d2, d3] => { results := [.lit (.bool true)], args := [d1, d2, d3] }
  | _ => none }
def reachFindsRow : OpenClaim := { program := "ytpbpgbedkmbfkaa", sum := "0b2c402e5036c518103cf807e421d1e194797b53fede44fb55e4ca759d7d1628", func := "steadfast/steadfastlaw23.ReachFinds", spec := "reachFinds", unfollowed := true, recurses := true, apart := false }
def ReachFindsSaid : Prop := reachFindsRow.holds Try.pinned (OpenSpec.ofChange reachFindsSpec)

/-- ITS FALSE NEIGHBOUR: 'it returns false'. Refute it at one input. -/
def reachFindsWrong : ChangeSpec := { name := "reachFinds", fn := fun _ => fun
  | [d1, d2, d3] => { results := [.lit (.bool false)], args := [d1, d2, d3] }
  | _ => none }
def ReachFindsWrongFalsely : Prop := reachFindsRow.holds Try.pinned (OpenSpec.ofChange reachFindsWrong)

/-- 'steadfastlaw23.ReachApart': WHATEVER THE INPUT: true; the input reads as it did. -/
def reachApartSpec : ChangeSpec := { name := "reachApart", fn := fun _ => fun
  | [d1, d2, d3] => { results := [.lit (.bool true)], args := [d1, d2, d3] }
  | _ => none }
def reachApartRow : OpenClaim := { program := "ytpbpgbedkmbfkaa", sum := "0b2c402e5036c518103cf807e421d1e194797b53fede44fb55e4ca759d7d1628", func := "steadfast/steadfastlaw23.ReachApart", spec := "reachApart", unfollowed := true, recurses := true, apart := false }
def ReachApartSaid : Prop := reachApartRow.holds Try.pinned (OpenSpec.ofChange reachApartSpec)

/-- ITS FALSE NEIGHBOUR: 'it returns false'. Refute it at one input. -/
def reachApartWrong : ChangeSpec := { name := "reachApart", fn := fun _ => fun
  | [d1, d2, d3] => { results := [.lit (.bool false)], args := [d1, d2, d3] }
  | _ => none }
def ReachApartWrongFalsely : Prop := reachApartRow.holds Try.pinned (OpenSpec.ofChange reachApartWrong)

/-- 'steadfastlaw18.BankFull': WHATEVER THE INPUT: true; the input reads as it did. -/
def bankFullSpec : ChangeSpec := { name := "bankFull", fn := fun _ => fun
  | [d1, d2] => { results := [.lit (.bool true)], args := [d1, d2] }
  | _ => none }
def bankFullRow : OpenClaim := { program := "ytpbpgbedkmbfkaa", sum := "0b2c402e5036c518103cf807e421d1e194797b53fede44fb55e4ca759d7d1628", func := "steadfast/steadfastlaw18.BankFull", spec := "bankFull", apart := false }
def BankFullSaid : Prop := bankFullRow.holds Try.pinned (OpenSpec.ofChange bankFullSpec)

/-- ITS FALSE NEIGHBOUR: 'it returns false'. Refute it at one input. -/
def bankFullWrong : ChangeSpec := { name := "bankFull", fn := fun _ => fun
  | [d1, d2] => { results := [.lit (.bool false)], args := [d1, d2] }
  | _ => none }
def BankFullWrongFalsely : Prop := bankFullRow.holds Try.pinned (OpenSpec.ofChange bankFullWrong)

/-- 'steadfastlaw15.SpaceHeights': WHATEVER THE INPUT: true; the input reads as it did. -/
def spaceHeightsSpec : ChangeSpec := { name := "spaceHeights", fn := fun _ => fun
  | [d] => { results := [.lit (.bool true)], args := [d] }
  | _ => none }
def spaceHeightsRow : OpenClaim := { program := "ytpbpgbedkmbfkaa", sum := "0b2c402e5036c518103cf807e421d1e194797b53fede44fb55e4ca759d7d1628", func := "steadfast/steadfastlaw15.SpaceHeights", spec := "spaceHeights", apart := false }
def SpaceHeightsSaid : Prop := spaceHeightsRow.holds Try.pinned (OpenSpec.ofChange spaceHeightsSpec)

/-- ITS FALSE NEIGHBOUR: 'it returns false'. Refute it at one input. -/
def spaceHeightsWrong : ChangeSpec := { name := "spaceHeights", fn := fun _ => fun
  | [d] => { results := [.lit (.bool false)], args := [d] }
  | _ => none }
def SpaceHeightsWrongFalsely : Prop := spaceHeightsRow.holds Try.pinned (OpenSpec.ofChange spaceHeightsWrong)

/-- 'steadfastlaw15.SpaceFinds': WHATEVER THE INPUT: true; the input reads as it did. -/
def spaceFindsSpec : ChangeSpec := { name := "spaceFinds", fn := fun _ => fun
  | [d1, d2, d3] => { results := [.lit (.bool true)], args := [d1, d2, d3] }
  | _ => none }
def spaceFindsRow : OpenClaim := { program := "ytpbpgbedkmbfkaa", sum := "0b2c402e5036c518103cf807e421d1e194797b53fede44fb55e4ca759d7d1628", func := "steadfast/steadfastlaw15.SpaceFinds", spec := "spaceFinds", apart := false }
def SpaceFindsSaid : Prop := spaceFindsRow.holds Try.pinned (OpenSpec.ofChange spaceFindsSpec)

/-- ITS FALSE NEIGHBOUR: 'it returns false'. Refute it at one input. -/
def spaceFindsWrong : ChangeSpec := { name := "spaceFinds", fn := fun _ => fun
  | [d1, d2, d3] => { results := [.lit (.bool false)], args := [d1, d2, d3] }
  | _ => none }
def SpaceFindsWrongFalsely : Prop := spaceFindsRow.holds Try.pinned (OpenSpec.ofChange spaceFindsWrong)

/-- 'steadfastlaw15.SpaceDown': WHATEVER THE INPUT: true; the input reads as it did. -/
def spaceDownSpec : ChangeSpec := { name := "spaceDown", fn := fun _ => fun
  | [d1, d2, d3] => { results := [.lit (.bool true)], args := [d1, d2, d3] }
  | _ => none }
def spaceDownRow : OpenClaim := { program := "ytpbpgbedkmbfkaa", sum := "0b2c402e5036c518103cf807e421d1e194797b53fede44fb55e4ca759d7d1628", func := "steadfast/steadfastlaw15.SpaceDown", spec := "spaceDown", apart := false }
def SpaceDownSaid : Prop := spaceDownRow.holds Try.pinned (OpenSpec.ofChange spaceDownSpec)

/-- ITS FALSE NEIGHBOUR: 'it returns false'. Refute it at one input. -/
def spaceDownWrong : ChangeSpec := { name := "spaceDown", fn := fun _ => fun
  | [d1, d2, d3] => { results := [.lit (.bool false)], args := [d1, d2, d3] }
  | _ => none }
def SpaceDownWrongFalsely : Prop := spaceDownRow.holds Try.pinned (OpenSpec.ofChange spaceDownWrong)

/-- 'steadfastlaw15.SpacePages': WHATEVER THE INPUT: true; the input reads as it did. -/
def spacePagesSpec : ChangeSpec := { name := "spacePages", fn := fun _ => fun
  | [d1, d2, d3] => { results := [.lit (.bool true)], args := [d1, d2, d3] }
  | _ => none }
def spacePagesRow : OpenClaim := { program := "ytpbpgbedkmbfkaa", sum := "0b2c402e5036c518103cf807e421d1e194797b53fede44fb55e4ca759d7d1628", func := "steadfast/steadfastlaw15.SpacePages", spec := "spacePages", apart := false }
def SpacePagesSaid : Prop := spacePagesRow.holds Try.pinned (OpenSpec.ofChange spacePagesSpec)

/-- ITS FALSE NEIGHBOUR: 'it returns false'. Refute it at one input. -/
def spacePagesWrong : ChangeSpec := { name := "spacePages", fn := fun _ => fun
  | [d1, d2, d3] => { results := [.lit (.bool false)], args := [d1, d2, d3] }
  | _ => none }
def SpacePagesWrongFalsely : Prop := spacePagesRow.holds Try.pinned (OpenSpec.ofChange spacePagesWrong)

/-- 'steadfastlaw18.BankEnds': WHATEVER THE INPUT: true; the input reads as it did. -/
def bankEndsSpec : ChangeSpec := { name := "bankEnds", fn := fun _ => fun
  | [d1, d2, d3] => { results := [.lit (.bool true)], args := [d1, d2, d3] }
  | _ => none }
def bankEndsRow : OpenClaim := { program := "ytpbpgbedkmbfkaa", sum := "0b2c402e5036c518103cf807e421d1e194797b53fede44fb55e4ca759d7d1628", func := "steadfast/steadfastlaw18.BankEnds", spec := "bankEnds", apart := false }
def BankEndsSaid : Prop := bankEndsRow.holds Try.pinned (OpenSpec.ofChange bankEndsSpec)

/-- ITS FALSE NEIGHBOUR: 'it returns false'. Refute it at one input. -/
def bankEndsWrong : ChangeSpec := { name := "bankEnds", fn := fun _ => fun
  | [d1, d2, d3] => { results := [.lit (.bool false)], args := [d1, d2, d3] }
  | _ => none }
def BankEndsWrongFalsely : Prop := bankEndsRow.holds Try.pinned (OpenSpec.ofChange bankEndsWrong)

/-- 'steadfastlaw15.SpaceAll': WHATEVER THE INPUT: true; the input reads as it did. -/
def spaceAllSpec : ChangeSpec := { name := "spaceAll", fn := fun _ => fun
  | [d1, d2, d3] => { results := [.lit (.bool true)], args := [d1, d2, d3] }
  | _ => none }
def spaceAllRow : OpenClaim := { program := "ytpbpgbedkmbfkaa", sum := "0b2c402e5036c518103cf807e421d1e194797b53fede44fb55e4ca759d7d1628", func := "steadfast/steadfastlaw15.SpaceAll", spec := "spaceAll", apart := false }
def SpaceAllSaid : Prop := spaceAllRow.holds Try.pinned (OpenSpec.ofChange spaceAllSpec)

/-- ITS FALSE NEIGHBOUR: 'it returns false'. Refute it at one input. -/
def spaceAllWrong : ChangeSpec := { name := "spaceAll", fn := fun _ => fun
  | [d1, d2, d3] => { results := [.lit (.bool false)], args := [d1, d2, d3] }
  | _ => none }
def SpaceAllWrongFalsely : Prop := spaceAllRow.holds Try.pinned (OpenSpec.ofChange spaceAllWrong)

/- THE SECOND FORM. 'bulk': how many values and letters a reading holds, each counted each time it is reached (what is shared counts as often as it is met; a slice's spare places count too). A statement '..UptoSaid' is the law's where the arguments, and the package variables that the reading takes, are together of bulk at most 1048576: NARROWER than '..Said'. Prove '..Said' where nothing that the law and all that it calls make is longer than what came in: it says more and counts as full. Else prove '..UptoSaid'. A law counts once. -/
mutual
def uptoBulk {H : Type} : DataW H → Nat
  | .lit (.string bytes) => bytes.length + 1
  | .lit _ => 1
  | .nil => 1
  | .ptr d => uptoBulk d + 1
  | .slice elems spare => uptoBulkAll elems + uptoBulkAll spare + 1
  | .agg parts => uptoBulkAll parts + 1
  | .iface _ d => uptoBulk d + 1
  | .map entries => uptoBulkEntries entries + 1
  | .held _ => 1
def uptoBulkAll {H : Type} : List (DataW H) → Nat
  | [] => 0
  | d :: r => uptoBulk d + uptoBulkAll r
def uptoBulkEntries {H : Type} : List (Lit × DataW H) → Nat
  | [] => 0
  | x :: r => uptoBulkEntry x + uptoBulkEntries r
def uptoBulkEntry {H : Type} : Lit × DataW H → Nat
  | (.string bytes, d) => bytes.length + uptoBulk d + 1
  | (_, d) => uptoBulk d + 1
 end
def uptoSmall : (H : Type) → List (DataW H) → Bool := fun _ ds => decide (uptoBulkAll ds ≤ 1048576)
def OpenSpec.upto (s : _root_.Go.ChangeSpec) : _root_.Go.OpenSpec := { _root_.Go.OpenSpec.ofChange s with cond := some uptoSmall }

/-- 'steadfastlaw23.ReachFinds', WHERE WHAT IT READS IS OF BULK AT MOST 1048576: true; the input reads as it did. -/
def reachFindsUptoRow : OpenClaim := { program := "ytpbpgbedkmbfkaa", sum := "0b2c402e5036c518103cf807e421d1e194797b53fede44fb55e4ca759d7d1628", func := "steadfast/steadfastlaw23.ReachFinds", spec := "reachFinds", unfollowed := true, recurses := true, apart := false, narrowed := true }
def ReachFindsUptoSaid : Prop := reachFindsUptoRow.holds Try.pinned (OpenSpec.upto reachFindsSpec)

/-- 'steadfastlaw23.ReachApart', WHERE WHAT IT READS IS OF BULK AT MOST 1048576: true; the input reads as it did. -/
def reachApartUptoRow : OpenClaim := { program := "ytpbpgbedkmbfkaa", sum := "0b2c402e5036c518103cf807e421d1e194797b53fede44fb55e4ca759d7d1628", func := "steadfast/steadfastlaw23.ReachApart", spec := "reachApart", unfollowed := true, recurses := true, apart := false, narrowed := true }
def ReachApartUptoSaid : Prop := reachApartUptoRow.holds Try.pinned (OpenSpec.upto reachApartSpec)

/-- 'steadfastlaw18.BankFull', WHERE WHAT IT READS IS OF BULK AT MOST 1048576: true; the input reads as it did. -/
def bankFullUptoRow : OpenClaim := { program := "ytpbpgbedkmbfkaa", sum := "0b2c402e5036c518103cf807e421d1e194797b53fede44fb55e4ca759d7d1628", func := "steadfast/steadfastlaw18.BankFull", spec := "bankFull", apart := false, narrowed := true }
def BankFullUptoSaid : Prop := bankFullUptoRow.holds Try.pinned (OpenSpec.upto bankFullSpec)

/-- 'steadfastlaw15.SpaceHeights', WHERE WHAT IT READS IS OF BULK AT MOST 1048576: true; the input reads as it did. -/
def spaceHeightsUptoRow : OpenClaim := { program := "ytpbpgbedkmbfkaa", sum := "0b2c402e5036c518103cf807e421d1e194797b53fede44fb55e4ca759d7d1628", func := "steadfast/steadfastlaw15.SpaceHeights", spec := "spaceHeights", apart := false, narrowed := true }
def SpaceHeightsUptoSaid : Prop := spaceHeightsUptoRow.holds Try.pinned (OpenSpec.upto spaceHeightsSpec)

/-- 'steadfastlaw15.SpaceFinds', WHERE WHAT IT READS IS OF BULK AT MOST 1048576: true; the input reads as it did. -/
def spaceFindsUptoRow : OpenClaim := { program := "ytpbpgbedkmbfkaa", sum := "0b2c402e5036c518103cf807e421d1e194797b53fede44fb55e4ca759d7d1628", func := "steadfast/steadfastlaw15.SpaceFinds", spec := "spaceFinds", apart := false, narrowed := true }
def SpaceFindsUptoSaid : Prop := spaceFindsUptoRow.holds Try.pinned (OpenSpec.upto spaceFindsSpec)

/-- 'steadfastlaw15.SpaceDown', WHERE WHAT IT READS IS OF BULK AT MOST 1048576: true; the input reads as it did. -/
def spaceDownUptoRow : OpenClaim := { program := "ytpbpgbedkmbfkaa", sum := "0b2c402e5036c518103cf807e421d1e194797b53fede44fb55e4ca759d7d1628", func := "steadfast/steadfastlaw15.SpaceDown", spec := "spaceDown", apart := false, narrowed := true }
def SpaceDownUptoSaid : Prop := spaceDownUptoRow.holds Try.pinned (OpenSpec.upto spaceDownSpec)

/-- 'steadfastlaw15.SpacePages', WHERE WHAT IT READS IS OF BULK AT MOST 1048576: true; the input reads as it did. -/
def spacePagesUptoRow : OpenClaim := { program := "ytpbpgbedkmbfkaa", sum := "0b2c402e5036c518103cf807e421d1e194797b53fede44fb55e4ca759d7d1628", func := "steadfast/steadfastlaw15.SpacePages", spec := "spacePages", apart := false, narrowed := true }
def SpacePagesUptoSaid : Prop := spacePagesUptoRow.holds Try.pinned (OpenSpec.upto spacePagesSpec)

/-- 'steadfastlaw18.BankEnds', WHERE WHAT IT READS IS OF BULK AT MOST 1048576: true; the input reads as it did. -/
def bankEndsUptoRow : OpenClaim := { program := "ytpbpgbedkmbfkaa", sum := "0b2c402e5036c518103cf807e421d1e194797b53fede44fb55e4ca759d7d1628", func := "steadfast/steadfastlaw18.BankEnds", spec := "bankEnds", apart := false, narrowed := true }
def BankEndsUptoSaid : Prop := bankEndsUptoRow.holds Try.pinned (OpenSpec.upto bankEndsSpec)

/-- 'steadfastlaw15.SpaceAll', WHERE WHAT IT READS IS OF BULK AT MOST 1048576: true; the input reads as it did. -/
def spaceAllUptoRow : OpenClaim := { program := "ytpbpgbedkmbfkaa", sum := "0b2c402e5036c518103cf807e421d1e194797b53fede44fb55e4ca759d7d1628", func := "steadfast/steadfastlaw15.SpaceAll", spec := "spaceAll", apart := false, narrowed := true }
def SpaceAllUptoSaid : Prop := spaceAllUptoRow.holds Try.pinned (OpenSpec.upto spaceAllSpec)

end Rows
end Go.Proofs.Ytpbpgbedkmbfkaa
