/-
  DERIVED. GIVEN WITH THE SEED: THE CARDS: each row of YtnffmibpblibdaaDoorRows.lean that lists a variable, with what it lists TIED to the program's text (the seventh form; the later family's looks); each row that meets fmt, with fmt's text TOLD by the authors' own Lean function (tested against real Go, not proved from fmt's source: count such statements apart). THE CARD IS WHAT COUNTS. Prove the row's statement (the work); the ties are given (YtnffmibpblibdaaDoorTie.lean); close each card by the builder's one call (the guide's Derived/Test/ToyasCard.lean, 'card_holds'). Laid BY PROGRAM, IN A SANDBOX (cutbox-door.mjs). By AI agents, Wed Nov 11 2026. No macro, syntax, notation, axiom, sorry.
-/
import Derived.Test.YtnffmibpblibdaaDoorRows
import GoSem.ClaimSeven
namespace Go.Proofs.YtnffmibpblibdaaDoor
namespace Rows

/-- THE TIED CARD OF 'steadfastlaw10.ObjectsOf'. -/
def objectsOfCard : Claim7 := { stood := { row := objectsOfRow, standIns := [], harness := (true, "2e049fc85aaec40680d847ca68047be7a5311b42eb03fdfb40c0c5edd760064d"), looks := false }, kinds := [], alts := [], laidByText := true, laidKinds := [.data], laidTests := true, laidLooks := .later }
def ObjectsOfCardSaid : Prop := Claim7.holds Tryd.pinned (.plain (OpenSpec.ofChange objectsOfSpec)) objectsOfCard

/-- THE TIED CARD OF 'steadfastlaw10.ObjectsOnce'. -/
def objectsOnceCard : Claim7 := { stood := { row := objectsOnceRow, standIns := [], harness := (true, "2e049fc85aaec40680d847ca68047be7a5311b42eb03fdfb40c0c5edd760064d"), looks := false }, kinds := [], alts := [], laidByText := true, laidKinds := [.data], laidTests := true, laidLooks := .later }
def ObjectsOnceCardSaid : Prop := Claim7.holds Tryd.pinned (.plain (OpenSpec.ofChange objectsOnceSpec)) objectsOnceCard

/-- THE TIED CARD OF 'steadfastlaw10.ObjectsRoom'. -/
def objectsRoomCard : Claim7 := { stood := { row := objectsRoomRow, standIns := [], harness := (true, "2e049fc85aaec40680d847ca68047be7a5311b42eb03fdfb40c0c5edd760064d"), looks := false }, kinds := [], alts := [], laidByText := true, laidKinds := [.data], laidTests := true, laidLooks := .later }
def ObjectsRoomCardSaid : Prop := Claim7.holds Tryd.pinned (.plain (OpenSpec.ofChange objectsRoomSpec)) objectsRoomCard

/-- THE TIED CARD OF 'steadfastlaw10.ObjectsKeep'. -/
def objectsKeepCard : Claim7 := { stood := { row := objectsKeepRow, standIns := [], harness := (true, "2e049fc85aaec40680d847ca68047be7a5311b42eb03fdfb40c0c5edd760064d"), looks := false }, kinds := [], alts := [], laidByText := true, laidKinds := [.data], laidTests := true, laidLooks := .later }
def ObjectsKeepCardSaid : Prop := Claim7.holds Tryd.pinned (.plain (OpenSpec.ofChange objectsKeepSpec)) objectsKeepCard

/-- THE TIED CARD OF 'steadfastlaw10.ObjectsAgain'. -/
def objectsAgainCard : Claim7 := { stood := { row := objectsAgainRow, standIns := [], harness := (true, "2e049fc85aaec40680d847ca68047be7a5311b42eb03fdfb40c0c5edd760064d"), looks := false }, kinds := [], alts := [], laidByText := true, laidKinds := [.data], laidTests := true, laidLooks := .later }
def ObjectsAgainCardSaid : Prop := Claim7.holds Tryd.pinned (.plain (OpenSpec.ofChange objectsAgainSpec)) objectsAgainCard

/-- THE TIED CARD OF 'steadfastlaw10.ObjectsFree'. -/
def objectsFreeCard : Claim7 := { stood := { row := objectsFreeRow, standIns := [], harness := (true, "2e049fc85aaec40680d847ca68047be7a5311b42eb03fdfb40c0c5edd760064d"), looks := false }, kinds := [], alts := [], laidByText := true, laidKinds := [.data], laidTests := true, laidLooks := .later }
def ObjectsFreeCardSaid : Prop := Claim7.holds Tryd.pinned (.plain (OpenSpec.ofChange objectsFreeSpec)) objectsFreeCard

/-- THE SECOND FORM's CARD OF 'steadfastlaw10.ObjectsOf'. -/
def objectsOfUptoCard : Claim7 := { stood := { row := objectsOfUptoRow, standIns := [], harness := (true, "2e049fc85aaec40680d847ca68047be7a5311b42eb03fdfb40c0c5edd760064d"), looks := false }, kinds := [], alts := [], laidByText := true, laidKinds := [.data], laidTests := true, laidLooks := .later }
def ObjectsOfUptoCardSaid : Prop := Claim7.holds Tryd.pinned (.plain (OpenSpec.upto objectsOfSpec)) objectsOfUptoCard

/-- THE SECOND FORM's CARD OF 'steadfastlaw10.ObjectsOnce'. -/
def objectsOnceUptoCard : Claim7 := { stood := { row := objectsOnceUptoRow, standIns := [], harness := (true, "2e049fc85aaec40680d847ca68047be7a5311b42eb03fdfb40c0c5edd760064d"), looks := false }, kinds := [], alts := [], laidByText := true, laidKinds := [.data], laidTests := true, laidLooks := .later }
def ObjectsOnceUptoCardSaid : Prop := Claim7.holds Tryd.pinned (.plain (OpenSpec.upto objectsOnceSpec)) objectsOnceUptoCard

/-- THE SECOND FORM's CARD OF 'steadfastlaw10.ObjectsRoom'. -/
def objectsRoomUptoCard : Claim7 := { stood := { row := objectsRoomUptoRow, standIns := [], harness := (true, "2e049fc85aaec40680d847ca68047be7a5311b42eb03fdfb40c0c5edd760064d"), looks := false }, kinds := [], alts := [], laidByText := true, laidKinds := [.data], laidTests := true, laidLooks := .later }
def ObjectsRoomUptoCardSaid : Prop := Claim7.holds Tryd.pinned (.plain (OpenSpec.upto objectsRoomSpec)) objectsRoomUptoCard

/-- THE SECOND FORM's CARD OF 'steadfastlaw10.ObjectsKeep'. -/
def objectsKeepUptoCard : Claim7 := { stood := { row := objectsKeepUptoRow, standIns := [], harness := (true, "2e049fc85aaec40680d847ca68047be7a5311b42eb03fdfb40c0c5edd760064d"), looks := false }, kinds := [], alts := [], laidByText := true, laidKinds := [.data], laidTests := true, laidLooks := .later }
def ObjectsKeepUptoCardSaid : Prop := Claim7.holds Tryd.pinned (.plain (OpenSpec.upto objectsKeepSpec)) objectsKeepUptoCard

/-- THE SECOND FORM's CARD OF 'steadfastlaw10.ObjectsAgain'. -/
def objectsAgainUptoCard : Claim7 := { stood := { row := objectsAgainUptoRow, standIns := [], harness := (true, "2e049fc85aaec40680d847ca68047be7a5311b42eb03fdfb40c0c5edd760064d"), looks := false }, kinds := [], alts := [], laidByText := true, laidKinds := [.data], laidTests := true, laidLooks := .later }
def ObjectsAgainUptoCardSaid : Prop := Claim7.holds Tryd.pinned (.plain (OpenSpec.upto objectsAgainSpec)) objectsAgainUptoCard

/-- THE SECOND FORM's CARD OF 'steadfastlaw10.ObjectsFree'. -/
def objectsFreeUptoCard : Claim7 := { stood := { row := objectsFreeUptoRow, standIns := [], harness := (true, "2e049fc85aaec40680d847ca68047be7a5311b42eb03fdfb40c0c5edd760064d"), looks := false }, kinds := [], alts := [], laidByText := true, laidKinds := [.data], laidTests := true, laidLooks := .later }
def ObjectsFreeUptoCardSaid : Prop := Claim7.holds Tryd.pinned (.plain (OpenSpec.upto objectsFreeSpec)) objectsFreeUptoCard
end Rows
end Go.Proofs.YtnffmibpblibdaaDoor
