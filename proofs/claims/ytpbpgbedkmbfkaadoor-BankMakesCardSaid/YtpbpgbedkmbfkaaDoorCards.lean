/-
  DERIVED. GIVEN WITH THE SEED: THE CARDS: each row of YtpbpgbedkmbfkaaDoorRows.lean that lists a variable, with what it lists TIED to the program's text (the seventh form; the later family's looks); each row that meets fmt, with fmt's text TOLD by the authors' own Lean function (tested against real Go, not proved from fmt's source: count such statements apart). THE CARD IS WHAT COUNTS. Prove the row's statement (the work); the ties are given (YtpbpgbedkmbfkaaDoorTie.lean); close each card by the builder's one call (the guide's Derived/Test/ToyasCard.lean, 'card_holds'). Laid BY PROGRAM, IN A SANDBOX (cutbox-door.mjs). By AI agents, Wed Nov 11 2026. No macro, syntax, notation, axiom, sorry.
-/
import Derived.Test.YtpbpgbedkmbfkaaDoorRows
import GoSem.ClaimSeven
namespace Go.Proofs.YtpbpgbedkmbfkaaDoor
namespace Rows

/-- THE TIED CARD OF 'steadfastlaw18.BankMakes'. -/
def bankMakesCard : Claim7 := { stood := { row := bankMakesRow, standIns := [], harness := (true, "087a08a6ed48c9f1946500065c175f12d5ee59000456161acbd1d4257905b555"), looks := false }, kinds := [], alts := [], laidByText := true, laidKinds := [.data], laidTests := true, laidLooks := .later }
def BankMakesCardSaid : Prop := Claim7.holds Tryd.pinned (.plain (OpenSpec.ofChange bankMakesSpec)) bankMakesCard

/-- THE SECOND FORM's CARD OF 'steadfastlaw18.BankMakes'. -/
def bankMakesUptoCard : Claim7 := { stood := { row := bankMakesUptoRow, standIns := [], harness := (true, "087a08a6ed48c9f1946500065c175f12d5ee59000456161acbd1d4257905b555"), looks := false }, kinds := [], alts := [], laidByText := true, laidKinds := [.data], laidTests := true, laidLooks := .later }
def BankMakesUptoCardSaid : Prop := Claim7.holds Tryd.pinned (.plain (OpenSpec.upto bankMakesSpec)) bankMakesUptoCard
end Rows
end Go.Proofs.YtpbpgbedkmbfkaaDoor
