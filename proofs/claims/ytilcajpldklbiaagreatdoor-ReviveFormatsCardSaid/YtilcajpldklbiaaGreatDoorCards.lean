/-
  DERIVED. GIVEN WITH THE SEED: THE CARDS: each row of YtilcajpldklbiaaGreatDoorRows.lean that lists a variable, with what it lists TIED to the program's text (the seventh form; the later family's looks); each row that meets fmt, with fmt's text TOLD by the authors' own Lean function (tested against real Go, not proved from fmt's source: count such statements apart). THE CARD IS WHAT COUNTS. Prove the row's statement (the work); the ties are given (YtilcajpldklbiaaGreatDoorTie.lean); close each card by the builder's one call (the guide's Derived/Test/ToyasCard.lean, 'card_holds'). Laid BY PROGRAM, IN A SANDBOX (cutbox-door.mjs). By AI agents, Wed Nov 11 2026. No macro, syntax, notation, axiom, sorry.
-/
import Derived.Test.YtilcajpldklbiaaGreatDoorRows
import GoSem.ClaimSeven
namespace Go.Proofs.YtilcajpldklbiaaGreatDoor
namespace Rows

/-- THE TIED CARD OF 'steadfastlaw12.ReviveAny'. -/
def reviveAnyCard : Claim7 := { stood := { row := reviveAnyRow, standIns := [], harness := (true, "68e7c0b8b7c77e7509b6a7735bf964af5fddfdd003ede5c4540f6d6ac766cf43"), looks := false }, kinds := [], alts := [], laidByText := true, laidKinds := [.data], laidTests := true, laidLooks := .later }
def ReviveAnyCardSaid : Prop := Claim7.holds Tryz.pinned (.plain (OpenSpec.ofChange reviveAnySpec)) reviveAnyCard

/-- THE TIED CARD OF 'steadfastlaw12.ReviveFormats'. -/
def reviveFormatsCard : Claim7 := { stood := { row := reviveFormatsRow, standIns := [], harness := (true, "68e7c0b8b7c77e7509b6a7735bf964af5fddfdd003ede5c4540f6d6ac766cf43"), looks := false }, kinds := [], alts := [], laidByText := true, laidKinds := [.data], laidTests := true, laidLooks := .later }
def ReviveFormatsCardSaid : Prop := Claim7.holds Tryz.pinned (.plain (OpenSpec.ofChange reviveFormatsSpec)) reviveFormatsCard

/-- THE SECOND FORM's CARD OF 'steadfastlaw12.ReviveAny'. -/
def reviveAnyUptoCard : Claim7 := { stood := { row := reviveAnyUptoRow, standIns := [], harness := (true, "68e7c0b8b7c77e7509b6a7735bf964af5fddfdd003ede5c4540f6d6ac766cf43"), looks := false }, kinds := [], alts := [], laidByText := true, laidKinds := [.data], laidTests := true, laidLooks := .later }
def ReviveAnyUptoCardSaid : Prop := Claim7.holds Tryz.pinned (.plain (OpenSpec.upto reviveAnySpec)) reviveAnyUptoCard

/-- THE SECOND FORM's CARD OF 'steadfastlaw12.ReviveFormats'. -/
def reviveFormatsUptoCard : Claim7 := { stood := { row := reviveFormatsUptoRow, standIns := [], harness := (true, "68e7c0b8b7c77e7509b6a7735bf964af5fddfdd003ede5c4540f6d6ac766cf43"), looks := false }, kinds := [], alts := [], laidByText := true, laidKinds := [.data], laidTests := true, laidLooks := .later }
def ReviveFormatsUptoCardSaid : Prop := Claim7.holds Tryz.pinned (.plain (OpenSpec.upto reviveFormatsSpec)) reviveFormatsUptoCard
end Rows
end Go.Proofs.YtilcajpldklbiaaGreatDoor
