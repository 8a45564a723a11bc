/-
  DERIVED. GIVEN WITH THE SEED: THE CARDS: each row of YtmimfopnhmmlbaaDoorRows.lean that lists a variable, with what it lists TIED to the program's text (the seventh form; the later family's looks); each row that meets fmt, with fmt's text TOLD by the authors' own Lean function (tested against real Go, not proved from fmt's source: count such statements apart). THE CARD IS WHAT COUNTS. Prove the row's statement (the work); the ties are given (YtmimfopnhmmlbaaDoorTie.lean); close each card by the builder's one call (the guide's Derived/Test/ToyasCard.lean, 'card_holds'). Laid BY PROGRAM, IN A SANDBOX (cutbox-door.mjs). By AI agents, Wed Nov 11 2026. No macro, syntax, notation, axiom, sorry.
-/
import Derived.Test.YtmimfopnhmmlbaaDoorRows
import GoSem.ClaimSeven
namespace Go.Proofs.YtmimfopnhmmlbaaDoor
namespace Rows

/-- THE TIED CARD OF 'steadfastlaw11.SnapAborts'. -/
def snapAbortsCard : Claim7 := { stood := { row := snapAbortsRow, standIns := [], harness := (true, "f1641b1a8515e0a2a44494390ce3875c00ba19651f11049d2ffd1910c87e9dcc"), looks := false }, kinds := [], alts := [], laidByText := true, laidKinds := [.data], laidTests := true, laidLooks := .later }
def SnapAbortsCardSaid : Prop := Claim7.holds Tryd.pinned (.plain (OpenSpec.ofChange snapAbortsSpec)) snapAbortsCard

/-- THE TIED CARD OF 'steadfastlaw11.SnapQuiet'. -/
def snapQuietCard : Claim7 := { stood := { row := snapQuietRow, standIns := [], harness := (true, "f1641b1a8515e0a2a44494390ce3875c00ba19651f11049d2ffd1910c87e9dcc"), looks := false }, kinds := [], alts := [], laidByText := true, laidKinds := [.data], laidTests := true, laidLooks := .later }
def SnapQuietCardSaid : Prop := Claim7.holds Tryd.pinned (.plain (OpenSpec.ofChange snapQuietSpec)) snapQuietCard

/-- THE SECOND FORM's CARD OF 'steadfastlaw11.SnapAborts'. -/
def snapAbortsUptoCard : Claim7 := { stood := { row := snapAbortsUptoRow, standIns := [], harness := (true, "f1641b1a8515e0a2a44494390ce3875c00ba19651f11049d2ffd1910c87e9dcc"), looks := false }, kinds := [], alts := [], laidByText := true, laidKinds := [.data], laidTests := true, laidLooks := .later }
def SnapAbortsUptoCardSaid : Prop := Claim7.holds Tryd.pinned (.plain (OpenSpec.upto snapAbortsSpec)) snapAbortsUptoCard

/-- THE SECOND FORM's CARD OF 'steadfastlaw11.SnapQuiet'. -/
def snapQuietUptoCard : Claim7 := { stood := { row := snapQuietUptoRow, standIns := [], harness := (true, "f1641b1a8515e0a2a44494390ce3875c00ba19651f11049d2ffd1910c87e9dcc"), looks := false }, kinds := [], alts := [], laidByText := true, laidKinds := [.data], laidTests := true, laidLooks := .later }
def SnapQuietUptoCardSaid : Prop := Claim7.holds Tryd.pinned (.plain (OpenSpec.upto snapQuietSpec)) snapQuietUptoCard
end Rows
end Go.Proofs.YtmimfopnhmmlbaaDoor
