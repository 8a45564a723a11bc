/-
  DERIVED. GIVEN WITH THE SEED: THE CARDS: each row of YtmimfopnhmmlbaaGreatDoorRows.lean that lists a variable, with what it lists TIED to the program's text (the seventh form; the later family's looks); each row that meets fmt, with fmt's text TOLD by the authors' own Lean function (tested against real Go, not proved from fmt's source: count such statements apart). THE CARD IS WHAT COUNTS. Prove the row's statement (the work); the ties are given (YtmimfopnhmmlbaaGreatDoorTie.lean); close each card by the builder's one call (the guide's Derived/Test/ToyasCard.lean, 'card_holds'). Laid BY PROGRAM, IN A SANDBOX (cutbox-door.mjs). By AI agents, Wed Nov 11 2026. No macro, syntax, notation, axiom, sorry.
-/
import Derived.Test.YtmimfopnhmmlbaaGreatDoorRows
import GoSem.ClaimSeven
namespace Go.Proofs.YtmimfopnhmmlbaaGreatDoor
namespace Rows

/-- THE TIED CARD OF 'steadfastlaw11.SnapPlays'. -/
def snapPlaysCard : Claim7 := { stood := { row := snapPlaysRow, standIns := [], harness := (true, "b65f09234122422661b74890e0e8ff17d4e9268e780c6edf004a5cda616bc112"), looks := false }, kinds := [], alts := [], laidByText := true, laidKinds := [.data], laidTests := true, laidLooks := .later }
def SnapPlaysCardSaid : Prop := Claim7.holds Tryz.pinned (.plain (OpenSpec.ofChange snapPlaysSpec)) snapPlaysCard

/-- THE TIED CARD OF 'steadfastlaw11.SnapCommits'. -/
def snapCommitsCard : Claim7 := { stood := { row := snapCommitsRow, standIns := [], harness := (true, "b65f09234122422661b74890e0e8ff17d4e9268e780c6edf004a5cda616bc112"), looks := false }, kinds := [], alts := [], laidByText := true, laidKinds := [.data], laidTests := true, laidLooks := .later }
def SnapCommitsCardSaid : Prop := Claim7.holds Tryz.pinned (.plain (OpenSpec.ofChange snapCommitsSpec)) snapCommitsCard

/-- THE TIED CARD OF 'steadfastlaw11.SnapPower'. -/
def snapPowerCard : Claim7 := { stood := { row := snapPowerRow, standIns := [], harness := (true, "b65f09234122422661b74890e0e8ff17d4e9268e780c6edf004a5cda616bc112"), looks := false }, kinds := [], alts := [], laidByText := true, laidKinds := [.data], laidTests := true, laidLooks := .later }
def SnapPowerCardSaid : Prop := Claim7.holds Tryz.pinned (.plain (OpenSpec.ofChange snapPowerSpec)) snapPowerCard

/-- THE SECOND FORM's CARD OF 'steadfastlaw11.SnapPlays'. -/
def snapPlaysUptoCard : Claim7 := { stood := { row := snapPlaysUptoRow, standIns := [], harness := (true, "b65f09234122422661b74890e0e8ff17d4e9268e780c6edf004a5cda616bc112"), looks := false }, kinds := [], alts := [], laidByText := true, laidKinds := [.data], laidTests := true, laidLooks := .later }
def SnapPlaysUptoCardSaid : Prop := Claim7.holds Tryz.pinned (.plain (OpenSpec.upto snapPlaysSpec)) snapPlaysUptoCard

/-- THE SECOND FORM's CARD OF 'steadfastlaw11.SnapCommits'. -/
def snapCommitsUptoCard : Claim7 := { stood := { row := snapCommitsUptoRow, standIns := [], harness := (true, "b65f09234122422661b74890e0e8ff17d4e9268e780c6edf004a5cda616bc112"), looks := false }, kinds := [], alts := [], laidByText := true, laidKinds := [.data], laidTests := true, laidLooks := .later }
def SnapCommitsUptoCardSaid : Prop := Claim7.holds Tryz.pinned (.plain (OpenSpec.upto snapCommitsSpec)) snapCommitsUptoCard

/-- THE SECOND FORM's CARD OF 'steadfastlaw11.SnapPower'. -/
def snapPowerUptoCard : Claim7 := { stood := { row := snapPowerUptoRow, standIns := [], harness := (true, "b65f09234122422661b74890e0e8ff17d4e9268e780c6edf004a5cda616bc112"), looks := false }, kinds := [], alts := [], laidByText := true, laidKinds := [.data], laidTests := true, laidLooks := .later }
def SnapPowerUptoCardSaid : Prop := Claim7.holds Tryz.pinned (.plain (OpenSpec.upto snapPowerSpec)) snapPowerUptoCard
end Rows
end Go.Proofs.YtmimfopnhmmlbaaGreatDoor
