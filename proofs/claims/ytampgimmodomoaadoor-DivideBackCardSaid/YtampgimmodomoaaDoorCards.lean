/-
  DERIVED. GIVEN WITH THE SEED: THE CARDS: each row of YtampgimmodomoaaDoorRows.lean that lists a variable, with what it lists TIED to the program's text (the seventh form; the later family's looks); each row that meets fmt, with fmt's text TOLD by the authors' own Lean function (tested against real Go, not proved from fmt's source: count such statements apart). THE CARD IS WHAT COUNTS. Prove the row's statement (the work); the ties are given (YtampgimmodomoaaDoorTie.lean); close each card by the builder's one call (the guide's Derived/Test/ToyasCard.lean, 'card_holds'). Laid BY PROGRAM, IN A SANDBOX (cutbox-door.mjs). By AI agents, Wed Nov 11 2026. No macro, syntax, notation, axiom, sorry.
-/
import Derived.Test.YtampgimmodomoaaDoorRows
import GoSem.ClaimSeven
namespace Go.Proofs.YtampgimmodomoaaDoor
namespace Rows

/-- THE TIED CARD OF 'bowdlerlaw01.DecBack'. -/
def decBackCard : Claim7 := { stood := { row := decBackRow, standIns := [], harness := (true, "b6d9d4794f11c724aa17fefb951eb812c1883cf3679ee61fb1f95d52ff8c8518"), looks := false }, kinds := [], alts := [], laidByText := true, laidKinds := [.data, .pinned], laidTests := true, laidLooks := .later }
def DecBackCardSaid : Prop := Claim7.holds Tryd.pinned (.plain (OpenSpec.ofChange decBackSpec)) decBackCard

/-- THE TIED CARD OF 'bowdlerlaw01.DecPrints'. -/
def decPrintsCard : Claim7 := { stood := { row := decPrintsRow, standIns := [], harness := (true, "b6d9d4794f11c724aa17fefb951eb812c1883cf3679ee61fb1f95d52ff8c8518"), looks := false }, kinds := [], alts := [], laidByText := true, laidKinds := [.data, .pinned], laidTests := true, laidLooks := .later }
def DecPrintsCardSaid : Prop := Claim7.holds Tryd.pinned (.plain (OpenSpec.ofChange decPrintsSpec)) decPrintsCard

/-- THE TIED CARD OF 'bowdlerlaw01.DecWorks'. -/
def decWorksCard : Claim7 := { stood := { row := decWorksRow, standIns := [], harness := (true, "b6d9d4794f11c724aa17fefb951eb812c1883cf3679ee61fb1f95d52ff8c8518"), looks := false }, kinds := [], alts := [], laidByText := true, laidKinds := [.data, .pinned], laidTests := true, laidLooks := .later }
def DecWorksCardSaid : Prop := Claim7.holds Tryd.pinned (.plain (OpenSpec.ofChange decWorksSpec)) decWorksCard

/-- THE TIED CARD OF 'bowdlerlaw01.DecParses'. -/
def decParsesCard : Claim7 := { stood := { row := decParsesRow, standIns := [], harness := (true, "b6d9d4794f11c724aa17fefb951eb812c1883cf3679ee61fb1f95d52ff8c8518"), looks := false }, kinds := [], alts := [], laidByText := true, laidKinds := [.data, .pinned], laidTests := true, laidLooks := .later }
def DecParsesCardSaid : Prop := Claim7.holds Tryd.pinned (.plain (OpenSpec.ofChange decParsesSpec)) decParsesCard

/-- THE TIED CARD OF 'bowdlerlaw01.DecRules'. -/
def decRulesCard : Claim7 := { stood := { row := decRulesRow, standIns := [], harness := (true, "b6d9d4794f11c724aa17fefb951eb812c1883cf3679ee61fb1f95d52ff8c8518"), looks := false }, kinds := [], alts := [], laidByText := true, laidKinds := [.data, .pinned], laidTests := true, laidLooks := .later }
def DecRulesCardSaid : Prop := Claim7.holds Tryd.pinned (.plain (OpenSpec.ofChange decRulesSpec)) decRulesCard

/-- THE TIED CARD OF 'bowdlerlaw01.DecScale'. -/
def decScaleCard : Claim7 := { stood := { row := decScaleRow, standIns := [], harness := (true, "b6d9d4794f11c724aa17fefb951eb812c1883cf3679ee61fb1f95d52ff8c8518"), looks := false }, kinds := [], alts := [], laidByText := true, laidKinds := [.data, .pinned], laidTests := true, laidLooks := .later }
def DecScaleCardSaid : Prop := Claim7.holds Tryd.pinned (.plain (OpenSpec.ofChange decScaleSpec)) decScaleCard

/-- THE TIED CARD OF 'bowdlerlaw01.DecInts'. -/
def decIntsCard : Claim7 := { stood := { row := decIntsRow, standIns := [], harness := (true, "b6d9d4794f11c724aa17fefb951eb812c1883cf3679ee61fb1f95d52ff8c8518"), looks := false }, kinds := [], alts := [], laidByText := true, laidKinds := [.data, .pinned], laidTests := true, laidLooks := .later }
def DecIntsCardSaid : Prop := Claim7.holds Tryd.pinned (.plain (OpenSpec.ofChange decIntsSpec)) decIntsCard

/-- THE TIED CARD OF 'bowdlerlaw01.DecOrder'. -/
def decOrderCard : Claim7 := { stood := { row := decOrderRow, standIns := [], harness := (true, "b6d9d4794f11c724aa17fefb951eb812c1883cf3679ee61fb1f95d52ff8c8518"), looks := false }, kinds := [], alts := [], laidByText := true, laidKinds := [.data, .pinned], laidTests := true, laidLooks := .later }
def DecOrderCardSaid : Prop := Claim7.holds Tryd.pinned (.plain (OpenSpec.ofChange decOrderSpec)) decOrderCard

/-- THE TIED CARD OF 'bowdlerlaw02.DivideDivs'. -/
def divideDivsCard : Claim7 := { stood := { row := divideDivsRow, standIns := [], harness := (true, "b6d9d4794f11c724aa17fefb951eb812c1883cf3679ee61fb1f95d52ff8c8518"), looks := false }, kinds := [], alts := [], laidByText := true, laidKinds := [.data, .pinned], laidTests := true, laidLooks := .later }
def DivideDivsCardSaid : Prop := Claim7.holds Tryd.pinned (.plain (OpenSpec.ofChange divideDivsSpec)) divideDivsCard

/-- THE TIED CARD OF 'bowdlerlaw02.DivideBack'. -/
def divideBackCard : Claim7 := { stood := { row := divideBackRow, standIns := [], harness := (true, "b6d9d4794f11c724aa17fefb951eb812c1883cf3679ee61fb1f95d52ff8c8518"), looks := false }, kinds := [], alts := [], laidByText := true, laidKinds := [.data, .pinned], laidTests := true, laidLooks := .later }
def DivideBackCardSaid : Prop := Claim7.holds Tryd.pinned (.plain (OpenSpec.ofChange divideBackSpec)) divideBackCard

/-- THE TIED CARD OF 'bowdlerlaw02.DivideSteps'. -/
def divideStepsCard : Claim7 := { stood := { row := divideStepsRow, standIns := [], harness := (true, "b6d9d4794f11c724aa17fefb951eb812c1883cf3679ee61fb1f95d52ff8c8518"), looks := false }, kinds := [], alts := [], laidByText := true, laidKinds := [.data, .pinned], laidTests := true, laidLooks := .later }
def DivideStepsCardSaid : Prop := Claim7.holds Tryd.pinned (.plain (OpenSpec.ofChange divideStepsSpec)) divideStepsCard

/-- THE TIED CARD OF 'bowdlerlaw02.DivideNear'. -/
def divideNearCard : Claim7 := { stood := { row := divideNearRow, standIns := [], harness := (true, "b6d9d4794f11c724aa17fefb951eb812c1883cf3679ee61fb1f95d52ff8c8518"), looks := false }, kinds := [], alts := [], laidByText := true, laidKinds := [.data, .pinned], laidTests := true, laidLooks := .later }
def DivideNearCardSaid : Prop := Claim7.holds Tryd.pinned (.plain (OpenSpec.ofChange divideNearSpec)) divideNearCard

/-- THE TIED CARD OF 'bowdlerlaw02.DivideTurns'. -/
def divideTurnsCard : Claim7 := { stood := { row := divideTurnsRow, standIns := [], harness := (true, "b6d9d4794f11c724aa17fefb951eb812c1883cf3679ee61fb1f95d52ff8c8518"), looks := false }, kinds := [], alts := [], laidByText := true, laidKinds := [.data, .pinned], laidTests := true, laidLooks := .later }
def DivideTurnsCardSaid : Prop := Claim7.holds Tryd.pinned (.plain (OpenSpec.ofChange divideTurnsSpec)) divideTurnsCard

/-- THE TIED CARD OF 'bowdlerlaw02.DividePows'. -/
def dividePowsCard : Claim7 := { stood := { row := dividePowsRow, standIns := [], harness := (true, "b6d9d4794f11c724aa17fefb951eb812c1883cf3679ee61fb1f95d52ff8c8518"), looks := false }, kinds := [], alts := [], laidByText := true, laidKinds := [.data, .pinned], laidTests := true, laidLooks := .later }
def DividePowsCardSaid : Prop := Claim7.holds Tryd.pinned (.plain (OpenSpec.ofChange dividePowsSpec)) dividePowsCard

/-- THE SECOND FORM's CARD OF 'bowdlerlaw01.DecBack'. -/
def decBackUptoCard : Claim7 := { stood := { row := decBackUptoRow, standIns := [], harness := (true, "b6d9d4794f11c724aa17fefb951eb812c1883cf3679ee61fb1f95d52ff8c8518"), looks := false }, kinds := [], alts := [], laidByText := true, laidKinds := [.data, .pinned], laidTests := true, laidLooks := .later }
def DecBackUptoCardSaid : Prop := Claim7.holds Tryd.pinned (.plain (OpenSpec.upto decBackSpec)) decBackUptoCard

/-- THE SECOND FORM's CARD OF 'bowdlerlaw01.DecPrints'. -/
def decPrintsUptoCard : Claim7 := { stood := { row := decPrintsUptoRow, standIns := [], harness := (true, "b6d9d4794f11c724aa17fefb951eb812c1883cf3679ee61fb1f95d52ff8c8518"), looks := false }, kinds := [], alts := [], laidByText := true, laidKinds := [.data, .pinned], laidTests := true, laidLooks := .later }
def DecPrintsUptoCardSaid : Prop := Claim7.holds Tryd.pinned (.plain (OpenSpec.upto decPrintsSpec)) decPrintsUptoCard

/-- THE SECOND FORM's CARD OF 'bowdlerlaw01.DecWorks'. -/
def decWorksUptoCard : Claim7 := { stood := { row := decWorksUptoRow, standIns := [], harness := (true, "b6d9d4794f11c724aa17fefb951eb812c1883cf3679ee61fb1f95d52ff8c8518"), looks := false }, kinds := [], alts := [], laidByText := true, laidKinds := [.data, .pinned], laidTests := true, laidLooks := .later }
def DecWorksUptoCardSaid : Prop := Claim7.holds Tryd.pinned (.plain (OpenSpec.upto decWorksSpec)) decWorksUptoCard

/-- THE SECOND FORM's CARD OF 'bowdlerlaw01.DecParses'. -/
def decParsesUptoCard : Claim7 := { stood := { row := decParsesUptoRow, standIns := [], harness := (true, "b6d9d4794f11c724aa17fefb951eb812c1883cf3679ee61fb1f95d52ff8c8518"), looks := false }, kinds := [], alts := [], laidByText := true, laidKinds := [.data, .pinned], laidTests := true, laidLooks := .later }
def DecParsesUptoCardSaid : Prop := Claim7.holds Tryd.pinned (.plain (OpenSpec.upto decParsesSpec)) decParsesUptoCard

/-- THE SECOND FORM's CARD OF 'bowdlerlaw01.DecRules'. -/
def decRulesUptoCard : Claim7 := { stood := { row := decRulesUptoRow, standIns := [], harness := (true, "b6d9d4794f11c724aa17fefb951eb812c1883cf3679ee61fb1f95d52ff8c8518"), looks := false }, kinds := [], alts := [], laidByText := true, laidKinds := [.data, .pinned], laidTests := true, laidLooks := .later }
def DecRulesUptoCardSaid : Prop := Claim7.holds Tryd.pinned (.plain (OpenSpec.upto decRulesSpec)) decRulesUptoCard

/-- THE SECOND FORM's CARD OF 'bowdlerlaw01.DecScale'. -/
def decScaleUptoCard : Claim7 := { stood := { row := decScaleUptoRow, standIns := [], harness := (true, "b6d9d4794f11c724aa17fefb951eb812c1883cf3679ee61fb1f95d52ff8c8518"), looks := false }, kinds := [], alts := [], laidByText := true, laidKinds := [.data, .pinned], laidTests := true, laidLooks := .later }
def DecScaleUptoCardSaid : Prop := Claim7.holds Tryd.pinned (.plain (OpenSpec.upto decScaleSpec)) decScaleUptoCard

/-- THE SECOND FORM's CARD OF 'bowdlerlaw01.DecInts'. -/
def decIntsUptoCard : Claim7 := { stood := { row := decIntsUptoRow, standIns := [], harness := (true, "b6d9d4794f11c724aa17fefb951eb812c1883cf3679ee61fb1f95d52ff8c8518"), looks := false }, kinds := [], alts := [], laidByText := true, laidKinds := [.data, .pinned], laidTests := true, laidLooks := .later }
def DecIntsUptoCardSaid : Prop := Claim7.holds Tryd.pinned (.plain (OpenSpec.upto decIntsSpec)) decIntsUptoCard

/-- THE SECOND FORM's CARD OF 'bowdlerlaw01.DecOrder'. -/
def decOrderUptoCard : Claim7 := { stood := { row := decOrderUptoRow, standIns := [], harness := (true, "b6d9d4794f11c724aa17fefb951eb812c1883cf3679ee61fb1f95d52ff8c8518"), looks := false }, kinds := [], alts := [], laidByText := true, laidKinds := [.data, .pinned], laidTests := true, laidLooks := .later }
def DecOrderUptoCardSaid : Prop := Claim7.holds Tryd.pinned (.plain (OpenSpec.upto decOrderSpec)) decOrderUptoCard

/-- THE SECOND FORM's CARD OF 'bowdlerlaw02.DivideDivs'. -/
def divideDivsUptoCard : Claim7 := { stood := { row := divideDivsUptoRow, standIns := [], harness := (true, "b6d9d4794f11c724aa17fefb951eb812c1883cf3679ee61fb1f95d52ff8c8518"), looks := false }, kinds := [], alts := [], laidByText := true, laidKinds := [.data, .pinned], laidTests := true, laidLooks := .later }
def DivideDivsUptoCardSaid : Prop := Claim7.holds Tryd.pinned (.plain (OpenSpec.upto divideDivsSpec)) divideDivsUptoCard

/-- THE SECOND FORM's CARD OF 'bowdlerlaw02.DivideBack'. -/
def divideBackUptoCard : Claim7 := { stood := { row := divideBackUptoRow, standIns := [], harness := (true, "b6d9d4794f11c724aa17fefb951eb812c1883cf3679ee61fb1f95d52ff8c8518"), looks := false }, kinds := [], alts := [], laidByText := true, laidKinds := [.data, .pinned], laidTests := true, laidLooks := .later }
def DivideBackUptoCardSaid : Prop := Claim7.holds Tryd.pinned (.plain (OpenSpec.upto divideBackSpec)) divideBackUptoCard

/-- THE SECOND FORM's CARD OF 'bowdlerlaw02.DivideSteps'. -/
def divideStepsUptoCard : Claim7 := { stood := { row := divideStepsUptoRow, standIns := [], harness := (true, "b6d9d4794f11c724aa17fefb951eb812c1883cf3679ee61fb1f95d52ff8c8518"), looks := false }, kinds := [], alts := [], laidByText := true, laidKinds := [.data, .pinned], laidTests := true, laidLooks := .later }
def DivideStepsUptoCardSaid : Prop := Claim7.holds Tryd.pinned (.plain (OpenSpec.upto divideStepsSpec)) divideStepsUptoCard

/-- THE SECOND FORM's CARD OF 'bowdlerlaw02.DivideNear'. -/
def divideNearUptoCard : Claim7 := { stood := { row := divideNearUptoRow, standIns := [], harness := (true, "b6d9d4794f11c724aa17fefb951eb812c1883cf3679ee61fb1f95d52ff8c8518"), looks := false }, kinds := [], alts := [], laidByText := true, laidKinds := [.data, .pinned], laidTests := true, laidLooks := .later }
def DivideNearUptoCardSaid : Prop := Claim7.holds Tryd.pinned (.plain (OpenSpec.upto divideNearSpec)) divideNearUptoCard

/-- THE SECOND FORM's CARD OF 'bowdlerlaw02.DivideTurns'. -/
def divideTurnsUptoCard : Claim7 := { stood := { row := divideTurnsUptoRow, standIns := [], harness := (true, "b6d9d4794f11c724aa17fefb951eb812c1883cf3679ee61fb1f95d52ff8c8518"), looks := false }, kinds := [], alts := [], laidByText := true, laidKinds := [.data, .pinned], laidTests := true, laidLooks := .later }
def DivideTurnsUptoCardSaid : Prop := Claim7.holds Tryd.pinned (.plain (OpenSpec.upto divideTurnsSpec)) divideTurnsUptoCard

/-- THE SECOND FORM's CARD OF 'bowdlerlaw02.DividePows'. -/
def dividePowsUptoCard : Claim7 := { stood := { row := dividePowsUptoRow, standIns := [], harness := (true, "b6d9d4794f11c724aa17fefb951eb812c1883cf3679ee61fb1f95d52ff8c8518"), looks := false }, kinds := [], alts := [], laidByText := true, laidKinds := [.data, .pinned], laidTests := true, laidLooks := .later }
def DividePowsUptoCardSaid : Prop := Claim7.holds Tryd.pinned (.plain (OpenSpec.upto dividePowsSpec)) dividePowsUptoCard
end Rows
end Go.Proofs.YtampgimmodomoaaDoor
