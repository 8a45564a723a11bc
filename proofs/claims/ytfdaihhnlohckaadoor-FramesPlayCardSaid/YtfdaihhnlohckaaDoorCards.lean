/-
  DERIVED. GIVEN WITH THE SEED: THE CARDS: each row of YtfdaihhnlohckaaDoorRows.lean that lists a variable, with what it lists TIED to the program's text (the seventh form; the later family's looks); each row that meets fmt, with fmt's text TOLD by the authors' own Lean function (tested against real Go, not proved from fmt's source: count such statements apart). THE CARD IS WHAT COUNTS. Prove the row's statement (the work); the ties are given (YtfdaihhnlohckaaDoorTie.lean); close each card by the builder's one call (the guide's Derived/Test/ToyasCard.lean, 'card_holds'). Laid BY PROGRAM, IN A SANDBOX (cutbox-door.mjs). By AI agents, Wed Nov 11 2026. No macro, syntax, notation, axiom, sorry.
-/
import Derived.Test.YtfdaihhnlohckaaDoorRows
import GoSem.ClaimSeven
namespace Go.Proofs.YtfdaihhnlohckaaDoor
namespace Rows

/-- THE TIED CARD OF 'steadfastlaw04.FramesOnce'. -/
def framesOnceCard : Claim7 := { stood := { row := framesOnceRow, standIns := [], harness := (true, "57047071442ea2b64e3c433c59ed108f1e16328e999b366957fb33e654576b4e"), looks := false }, kinds := [], alts := [], laidByText := true, laidKinds := [.data], laidTests := true, laidLooks := .later }
def FramesOnceCardSaid : Prop := Claim7.holds Tryd.pinned (.plain (OpenSpec.ofChange framesOnceSpec)) framesOnceCard

/-- THE TIED CARD OF 'steadfastlaw04.FramesSettled'. -/
def framesSettledCard : Claim7 := { stood := { row := framesSettledRow, standIns := [], harness := (true, "57047071442ea2b64e3c433c59ed108f1e16328e999b366957fb33e654576b4e"), looks := false }, kinds := [], alts := [], laidByText := true, laidKinds := [.data], laidTests := true, laidLooks := .later }
def FramesSettledCardSaid : Prop := Claim7.holds Tryd.pinned (.plain (OpenSpec.ofChange framesSettledSpec)) framesSettledCard

/-- THE TIED CARD OF 'steadfastlaw04.FramesLeft'. -/
def framesLeftCard : Claim7 := { stood := { row := framesLeftRow, standIns := [], harness := (true, "57047071442ea2b64e3c433c59ed108f1e16328e999b366957fb33e654576b4e"), looks := false }, kinds := [], alts := [], laidByText := true, laidKinds := [.data], laidTests := true, laidLooks := .later }
def FramesLeftCardSaid : Prop := Claim7.holds Tryd.pinned (.plain (OpenSpec.ofChange framesLeftSpec)) framesLeftCard

/-- THE TIED CARD OF 'steadfastlaw04.FramesFirst'. -/
def framesFirstCard : Claim7 := { stood := { row := framesFirstRow, standIns := [], harness := (true, "57047071442ea2b64e3c433c59ed108f1e16328e999b366957fb33e654576b4e"), looks := false }, kinds := [], alts := [], laidByText := true, laidKinds := [.data], laidTests := true, laidLooks := .later }
def FramesFirstCardSaid : Prop := Claim7.holds Tryd.pinned (.plain (OpenSpec.ofChange framesFirstSpec)) framesFirstCard

/-- THE TIED CARD OF 'steadfastlaw04.FramesPlay'. -/
def framesPlayCard : Claim7 := { stood := { row := framesPlayRow, standIns := [], harness := (true, "57047071442ea2b64e3c433c59ed108f1e16328e999b366957fb33e654576b4e"), looks := false }, kinds := [], alts := [], laidByText := true, laidKinds := [.data], laidTests := true, laidLooks := .later }
def FramesPlayCardSaid : Prop := Claim7.holds Tryd.pinned (.plain (OpenSpec.ofChange framesPlaySpec)) framesPlayCard

/-- THE SECOND FORM's CARD OF 'steadfastlaw04.FramesOnce'. -/
def framesOnceUptoCard : Claim7 := { stood := { row := framesOnceUptoRow, standIns := [], harness := (true, "57047071442ea2b64e3c433c59ed108f1e16328e999b366957fb33e654576b4e"), looks := false }, kinds := [], alts := [], laidByText := true, laidKinds := [.data], laidTests := true, laidLooks := .later }
def FramesOnceUptoCardSaid : Prop := Claim7.holds Tryd.pinned (.plain (OpenSpec.upto framesOnceSpec)) framesOnceUptoCard

/-- THE SECOND FORM's CARD OF 'steadfastlaw04.FramesSettled'. -/
def framesSettledUptoCard : Claim7 := { stood := { row := framesSettledUptoRow, standIns := [], harness := (true, "57047071442ea2b64e3c433c59ed108f1e16328e999b366957fb33e654576b4e"), looks := false }, kinds := [], alts := [], laidByText := true, laidKinds := [.data], laidTests := true, laidLooks := .later }
def FramesSettledUptoCardSaid : Prop := Claim7.holds Tryd.pinned (.plain (OpenSpec.upto framesSettledSpec)) framesSettledUptoCard

/-- THE SECOND FORM's CARD OF 'steadfastlaw04.FramesLeft'. -/
def framesLeftUptoCard : Claim7 := { stood := { row := framesLeftUptoRow, standIns := [], harness := (true, "57047071442ea2b64e3c433c59ed108f1e16328e999b366957fb33e654576b4e"), looks := false }, kinds := [], alts := [], laidByText := true, laidKinds := [.data], laidTests := true, laidLooks := .later }
def FramesLeftUptoCardSaid : Prop := Claim7.holds Tryd.pinned (.plain (OpenSpec.upto framesLeftSpec)) framesLeftUptoCard

/-- THE SECOND FORM's CARD OF 'steadfastlaw04.FramesFirst'. -/
def framesFirstUptoCard : Claim7 := { stood := { row := framesFirstUptoRow, standIns := [], harness := (true, "57047071442ea2b64e3c433c59ed108f1e16328e999b366957fb33e654576b4e"), looks := false }, kinds := [], alts := [], laidByText := true, laidKinds := [.data], laidTests := true, laidLooks := .later }
def FramesFirstUptoCardSaid : Prop := Claim7.holds Tryd.pinned (.plain (OpenSpec.upto framesFirstSpec)) framesFirstUptoCard

/-- THE SECOND FORM's CARD OF 'steadfastlaw04.FramesPlay'. -/
def framesPlayUptoCard : Claim7 := { stood := { row := framesPlayUptoRow, standIns := [], harness := (true, "57047071442ea2b64e3c433c59ed108f1e16328e999b366957fb33e654576b4e"), looks := false }, kinds := [], alts := [], laidByText := true, laidKinds := [.data], laidTests := true, laidLooks := .later }
def FramesPlayUptoCardSaid : Prop := Claim7.holds Tryd.pinned (.plain (OpenSpec.upto framesPlaySpec)) framesPlayUptoCard
end Rows
end Go.Proofs.YtfdaihhnlohckaaDoor
