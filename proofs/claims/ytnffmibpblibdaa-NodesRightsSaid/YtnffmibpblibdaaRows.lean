/-
  No cell of these rows narrows 'for every input' (looked for: loops, veiled, ifaces, maps, wideKeys, modest, calm, conditions, laid).
  DERIVED. THE GIVEN ROWS OF THIS SEAT. 4 by the template 'for every input the law returns true; each argument reads behind the call as it read before'; 0 by the template 'total and deterministic' (their statements: YtnffmibpblibdaaTotals.lean).
  GIVEN WITH THE SEED: the statements are not yours to turn. If you find one false, say at which input.
  Laid BY PROGRAM, IN A SANDBOX (cutbox-rows.mjs): the forced cells as the released guide's own fill.sh prints them over the translation 650a2d816f3ff122… (all of the seat's roots in one cut). By AI agents, Wed Nov 11 2026. No macro, syntax, notation, axiom, sorry.
-/
import Derived.Test.YtnffmibpblibdaaChecked
import GoSem.Claim
import GoSem.ClaimJoined
import GoSem.ClaimMapViews
import Derived.JoinedTies
import Derived.KernelRfl
namespace Go.Proofs.Ytnffmibpblibdaa
/- THE CELL 'sum', in the pinned program and in every row, IS THE sha256 OF THE DUMP (.gsa) THAT YtnffmibpblibdaaProg.lean LOADS. Nothing in Lean hashes anything: it is a label: what it is worth is what the hold of that sum in a sandbox is worth. -/
noncomputable def Try.pinned : Pinned := { name := "ytnffmibpblibdaa", sum := "650a2d816f3ff12208db8cc7a780464b5929146bde587744f0153c7c9de58614", checked := Try.checked }
namespace Rows
def none {H : Type} : Left H := { results := [], args := [] }

/-- 'steadfastlaw17.NodesSlots': WHATEVER THE INPUT: true; the input reads as it did. -/
def nodesSlotsSpec : ChangeSpec := { name := "nodesSlots", fn := fun _ => fun
  | [d1, d2, d3] => { results := [.lit (.bool true)], args := [d1, d2, d3] }
  | _ => none }
def nodesSlotsRow : OpenClaim := { program := "ytnffmibpblibdaa", sum := "650a2d816f3ff12208db8cc7a780464b5929146bde587744f0153c7c9de58614", func := "steadfast/steadfastlaw17.NodesSlots", spec := "nodesSlots", unfollowed := true, recurses := true, apart := false }
def NodesSlotsSaid : Prop := nodesSlotsRow.holds Try.pinned (OpenSpec.ofChange nodesSlotsSpec)

/-- ITS FALSE NEIGHBOUR: 'it returns false'. Refute it at one input. -/
def nodesSlotsWrong : ChangeSpec := { name := "nodesSlots", fn := fun _ => fun
  | [d1, d2, d3] => { results := [.lit (.bool false)], args := [d1, d2, d3] }
  | _ => none }
def NodesSlotsWrongFalsely : Prop := nodesSlotsRow.holds Try.pinned (OpenSpec.ofChange nodesSlotsWrong)

/-- 'steadfastlaw17.NodesMints': WHATEVER THE INPUT: true; the input reads as it did. -/
def nodesMintsSpec : ChangeSpec := { name := "nodesMints", fn := fun _ => fun
  | [d1, d2, d3] => { results := [.lit (.bool true)], args := [d1, d2, d3] }
  | _ => none }
def nodesMintsRow : OpenClaim := { program := "ytnffmibpblibdaa", sum := "650a2d816f3ff12208db8cc7a780464b5929146bde587744f0153c7c9de58614", func := "steadfast/steadfastlaw17.NodesMints", spec := "nodesMints", unfollowed := true, recurses := true, apart := false }
def NodesMintsSaid : Prop := nodesMintsRow.holds Try.pinned (OpenSpec.ofChange nodesMintsSpec)

/-- ITS FALSE NEIGHBOUR: 'it returns false'. Refute it at one input. -/
def nodesMintsWrong : ChangeSpec := { name := "nodesMints", fn := fun _ => fun
  | [d1, d2, d3] => { results := [.lit (.bool false)], args := [d1, d2, d3] }
  | _ => none }
def NodesMintsWrongFalsely : Prop := nodesMintsRow.holds Try.pinned (OpenSpec.ofChange nodesMintsWrong)

/-- 'steadfastlaw17.NodesCopies': WHATEVER THE INPUT: true; the input reads as it did. -/
def nodesCopiesSpec : ChangeSpec := { name := "nodesCopies", fn := fun _ => fun
  | [d1, d2, d3] => { results := [.lit (.bool true)], args := [d1, d2, d3] }
  | _ => none }
def nodesCopiesRow : OpenClaim := { program := "ytnffmibpblibdaa", sum := "650a2d816f3ff12208db8cc7a780464b5929146bde587744f0153c7c9de58614", func := "steadfast/steadfastlaw17.NodesCopies", spec := "nodesCopies", unfollowed := true, recurses := true, apart := false }
def NodesCopiesSaid : Prop := nodesCopiesRow.holds Try.pinned (OpenSpec.ofChange nodesCopiesSpec)

/-- ITS FALSE NEIGHBOUR: 'it returns false'. Refute it at one input. -/
def nodesCopiesWrong : ChangeSpec := { name := "nodesCopies", fn := fun _ => fun
  | [d1, d2, d3] => { results := [.lit (.bool false)], args := [d1, d2, d3] }
  | _ => none }
def NodesCopiesWrongFalsely : Prop := nodesCopiesRow.holds Try.pinned (OpenSpec.ofChange nodesCopiesWrong)

/-- 'steadfastlaw17.NodesRights': WHATEVER THE INPUT: true; the input reads as it did. -/
def nodesRightsSpec : ChangeSpec := { name := "nodesRights", fn := fun _ => fun
  | [d1, d2, d3] => { results := [.lit (.bool true)], args := [d1, d2, d3] }
  | _ => none }
def nodesRightsRow : OpenClaim := { program := "ytnffmibpblibdaa", sum := "650a2d816f3ff12208db8cc7a780464b5929146bde587744f0153c7c9de58614", func := "steadfast/steadfastlaw17.NodesRights", spec := "nodesRights", unfollowed := true, recurses := true, apart := false }
def NodesRightsSaid : Prop := nodesRightsRow.holds Try.pinned (OpenSpec.ofChange nodesRightsSpec)

/-- ITS FALSE NEIGHBOUR: 'it returns false'. Refute it at one input. -/
def nodesRightsWrong : ChangeSpec := { name := "nodesRights", fn := fun _ => fun
  | [d1, d2, d3] => { results := [.lit (.bool false)], args := [d1, d2, d3] }
  | _ => none }
def NodesRightsWrongFalsely : Prop := nodesRightsRow.holds Try.pinned (OpenSpec.ofChange nodesRightsWrong)

/- THE SECOND FORM. 'bulk': how many values and letters a reading holds, each counted each time it is reached (what is shared counts as often as it is met; a slice's spare places count too). A statement '..UptoSaid' is the law's where the arguments, and the package variables that the reading takes, are together of bulk at most 1048576: NARROWER than '..Said'. Prove '..Said' where nothing that the law and all that it calls make is longer than what came in: it says more and counts as full. Else prove '..UptoSaid'. A law counts once. -/
mutual
def uptoBulk {H : Type} : DataW H → Nat
  | .lit (.string bytes) => bytes.length + 1
  | .lit _ => 1
  | .nil => 1
  | .ptr d => uptoBulk d + 1
  | .slice elems spare => uptoBulkAll elems + uptoBulkAll spare + 1
  | .agg parts => uptoBulkAll parts + 1
  | .iface _ d => uptoBulk d + 1
  | .map entries => uptoBulkEntries entries + 1
  | .held _ => 1
def uptoBulkAll {H : Type} : List (DataW H) → Nat
  | [] => 0
  | d :: r => uptoBulk d + uptoBulkAll r
def uptoBulkEntries {H : Type} : List (Lit × DataW H) → Nat
  | [] => 0
  | x :: r => uptoBulkEntry x + uptoBulkEntries r
def uptoBulkEntry {H : Type} : Lit × DataW H → Nat
  | (.string bytes, d) => bytes.length + uptoBulk d + 1
  | (_, d) => uptoBulk d + 1
 end
def uptoSmall : (H : Type) → List (DataW H) → Bool := fun _ ds => decide (uptoBulkAll ds ≤ 1048576)
def OpenSpec.upto (s : _root_.Go.ChangeSpec) : _root_.Go.OpenSpec := { _root_.Go.OpenSpec.ofChange s with cond := some uptoSmall }

/-- 'steadfastlaw17.NodesSlots', WHERE WHAT IT READS IS OF BULK AT MOST 1048576: true; the input reads as it did. -/
def nodesSlotsUptoRow : OpenClaim := { program := "ytnffmibpblibdaa", sum := "650a2d816f3ff12208db8cc7a780464b5929146bde587744f0153c7c9de58614", func := "steadfast/steadfastlaw17.NodesSlots", spec := "nodesSlots", unfollowed := true, recurses := true, apart := false, narrowed := true }
def NodesSlotsUptoSaid : Prop := nodesSlotsUptoRow.holds Try.pinned (OpenSpec.upto nodesSlotsSpec)

/-- 'steadfastlaw17.NodesMints', WHERE WHAT IT READS IS OF BULK AT MOST 1048576: true; the input reads as it did. -/
def nodesMintsUptoRow : OpenClaim := { program := "ytnffmibpblibdaa", sum := "650a2d816f3ff12208db8cc7a780464b5929146bde587744f0153c7c9de58614", func := "steadfast/steadfastlaw17.NodesMints", spec := "nodesMints", unfollowed := true, recurses := true, apart := false, narrowed := true }
def NodesMintsUptoSaid : Prop := nodesMintsUptoRow.holds Try.pinned (OpenSpec.upto nodesMintsSpec)

/-- 'steadfastlaw17.NodesCopies', WHERE WHAT IT READS IS OF BULK AT MOST 1048576: true; the input reads as it did. -/
def nodesCopiesUptoRow : OpenClaim := { program := "ytnffmibpblibdaa", sum := "650a2d816f3ff12208db8cc7a780464b5929146bde587744f0153c7c9de58614", func := "steadfast/steadfastlaw17.NodesCopies", spec := "nodesCopies", unfollowed := true, recurses := true, apart := false, narrowed := true }
def NodesCopiesUptoSaid : Prop := nodesCopiesUptoRow.holds Try.pinned (OpenSpec.upto nodesCopiesSpec)

/-- 'steadfastlaw17.NodesRights', WHERE WHAT IT READS IS OF BULK AT MOST 1048576: true; the input reads as it did. -/
def nodesRightsUptoRow : OpenClaim := { program := "ytnffmibpblibdaa", sum := "650a2d816f3ff12208db8cc7a780464b5929146bde587744f0153c7c9de58614", func := "steadfast/steadfastlaw17.NodesRights", spec := "nodesRights", unfollowed := true, recurses := true, apart := false, narrowed := true }
def NodesRightsUptoSaid : Prop := nodesRightsUptoRow.holds Try.pinned (OpenSpec.upto nodesRightsSpec)

end Rows
end Go.Proofs.Ytnffmibpblibdaa
