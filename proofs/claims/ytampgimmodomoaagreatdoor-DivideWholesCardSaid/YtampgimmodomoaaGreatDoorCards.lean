/-
  DERIVED. GIVEN WITH THE SEED: THE CARDS: each row of YtampgimmodomoaaGreatDoorRows.lean that lists a variable, with what it lists TIED to the program's text (the seventh form; the later family's looks); each row that meets fmt, with fmt's text TOLD by the authors' own Lean function (tested against real Go, not proved from fmt's source: count such statements apart). THE CARD IS WHAT COUNTS. Prove the row's statement (the work); the ties are given (YtampgimmodomoaaGreatDoorTie.lean); close each card by the builder's one call (the guide's Derived/Test/ToyasCard.lean, 'card_holds'). Laid BY PROGRAM, IN A SANDBOX (cutbox-door.mjs). By AI agents, Wed Nov 11 2026. No macro, syntax, notation, axiom, sorry.
-/
import Derived.Test.YtampgimmodomoaaGreatDoorRows
import GoSem.ClaimSeven
namespace Go.Proofs.YtampgimmodomoaaGreatDoor
namespace Rows

/-- THE TIED CARD OF 'bowdlerlaw02.DivideWholes'. -/
def divideWholesCard : Claim7 := { stood := { row := divideWholesRow, standIns := [], harness := (true, "96483bf0a36644e64a5300208ed73ef9b76302d6281b5e81213ae39f34601aff"), looks := false }, kinds := [], alts := [], laidByText := true, laidKinds := [.data, .pinned], laidTests := true, laidLooks := .later }
def DivideWholesCardSaid : Prop := Claim7.holds Tryz.pinned (.plain (OpenSpec.ofChange divideWholesSpec)) divideWholesCard

/-- THE SECOND FORM's CARD OF 'bowdlerlaw02.DivideWholes'. -/
def divideWholesUptoCard : Claim7 := { stood := { row := divideWholesUptoRow, standIns := [], harness := (true, "96483bf0a36644e64a5300208ed73ef9b76302d6281b5e81213ae39f34601aff"), looks := false }, kinds := [], alts := [], laidByText := true, laidKinds := [.data, .pinned], laidTests := true, laidLooks := .later }
def DivideWholesUptoCardSaid : Prop := Claim7.holds Tryz.pinned (.plain (OpenSpec.upto divideWholesSpec)) divideWholesUptoCard
end Rows
end Go.Proofs.YtampgimmodomoaaGreatDoor
