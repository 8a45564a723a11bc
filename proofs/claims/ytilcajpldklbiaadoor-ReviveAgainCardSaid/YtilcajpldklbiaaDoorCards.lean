/-
  DERIVED. GIVEN WITH THE SEED: THE CARDS: each row of YtilcajpldklbiaaDoorRows.lean that lists a variable, with what it lists TIED to the program's text (the seventh form; the later family's looks); each row that meets fmt, with fmt's text TOLD by the authors' own Lean function (tested against real Go, not proved from fmt's source: count such statements apart). THE CARD IS WHAT COUNTS. Prove the row's statement (the work); the ties are given (YtilcajpldklbiaaDoorTie.lean); close each card by the builder's one call (the guide's Derived/Test/ToyasCard.lean, 'card_holds'). Laid BY PROGRAM, IN A SANDBOX (cutbox-door.mjs). By AI agents, Wed Nov 11 2026. No macro, syntax, notation, axiom, sorry.
-/
import Derived.Test.YtilcajpldklbiaaDoorRows
import GoSem.ClaimSeven
namespace Go.Proofs.YtilcajpldklbiaaDoor
namespace Rows

/-- THE TIED CARD OF 'steadfastlaw12.ReviveRecords'. -/
def reviveRecordsCard : Claim7 := { stood := { row := reviveRecordsRow, standIns := [], harness := (true, "ea3b18b00a6fecb8a943f79ccce2bcc5a2337a1b6e0e1c5252fc0c1be734c2a4"), looks := false }, kinds := [], alts := [], laidByText := true, laidKinds := [.data], laidTests := true, laidLooks := .later }
def ReviveRecordsCardSaid : Prop := Claim7.holds Tryd.pinned (.plain (OpenSpec.ofChange reviveRecordsSpec)) reviveRecordsCard

/-- THE TIED CARD OF 'steadfastlaw12.ReviveAgain'. -/
def reviveAgainCard : Claim7 := { stood := { row := reviveAgainRow, standIns := [], harness := (true, "ea3b18b00a6fecb8a943f79ccce2bcc5a2337a1b6e0e1c5252fc0c1be734c2a4"), looks := false }, kinds := [], alts := [], laidByText := true, laidKinds := [.data], laidTests := true, laidLooks := .later }
def ReviveAgainCardSaid : Prop := Claim7.holds Tryd.pinned (.plain (OpenSpec.ofChange reviveAgainSpec)) reviveAgainCard

/-- THE SECOND FORM's CARD OF 'steadfastlaw12.ReviveRecords'. -/
def reviveRecordsUptoCard : Claim7 := { stood := { row := reviveRecordsUptoRow, standIns := [], harness := (true, "ea3b18b00a6fecb8a943f79ccce2bcc5a2337a1b6e0e1c5252fc0c1be734c2a4"), looks := false }, kinds := [], alts := [], laidByText := true, laidKinds := [.data], laidTests := true, laidLooks := .later }
def ReviveRecordsUptoCardSaid : Prop := Claim7.holds Tryd.pinned (.plain (OpenSpec.upto reviveRecordsSpec)) reviveRecordsUptoCard

/-- THE SECOND FORM's CARD OF 'steadfastlaw12.ReviveAgain'. -/
def reviveAgainUptoCard : Claim7 := { stood := { row := reviveAgainUptoRow, standIns := [], harness := (true, "ea3b18b00a6fecb8a943f79ccce2bcc5a2337a1b6e0e1c5252fc0c1be734c2a4"), looks := false }, kinds := [], alts := [], laidByText := true, laidKinds := [.data], laidTests := true, laidLooks := .later }
def ReviveAgainUptoCardSaid : Prop := Claim7.holds Tryd.pinned (.plain (OpenSpec.upto reviveAgainSpec)) reviveAgainUptoCard
end Rows
end Go.Proofs.YtilcajpldklbiaaDoor
