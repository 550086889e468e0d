/-
  DERIVED. GIVEN WITH THE SEED: THE CARDS: each row of YtepeopfdenieeaaDoorRows.lean that lists a variable, with what it lists TIED to the program's text (the seventh form; the later family's looks); each row that meets fmt, with fmt's text TOLD by the authors' own Lean function (tested against real Go, not proved from fmt's source: count such statements apart). THE CARD IS WHAT COUNTS. Prove the row's statement (the work); the ties are given (YtepeopfdenieeaaDoorTie.lean); close each card by the builder's one call (the guide's Derived/Test/ToyasCard.lean, 'card_holds'). Laid BY PROGRAM, IN A SANDBOX (cutbox-door.mjs). By AI agents, Wed Nov 11 2026. No macro, syntax, notation, axiom, sorry.
-/
import Derived.Test.YtepeopfdenieeaaDoorRows
import GoSem.ClaimSeven
namespace Go.Proofs.YtepeopfdenieeaaDoor
namespace Rows

/-- THE TIED CARD OF 'bowdlerlaw17.FramePuts'. -/
def framePutsCard : Claim7 := { stood := { row := framePutsRow, standIns := [], harness := (true, "8c414850104704d2d8d652457c2350c448b9c7cca6a3c7f118bc26cc9a904ef4"), looks := false }, kinds := [], alts := [], laidByText := true, laidKinds := [.data, .pinned], laidTests := true, laidLooks := .later }
def FramePutsCardSaid : Prop := Claim7.holds Tryd.pinned (.plain (OpenSpec.ofChange framePutsSpec)) framePutsCard

/-- THE TIED CARD OF 'bowdlerlaw17.FrameApart'. -/
def frameApartCard : Claim7 := { stood := { row := frameApartRow, standIns := [], harness := (true, "8c414850104704d2d8d652457c2350c448b9c7cca6a3c7f118bc26cc9a904ef4"), looks := false }, kinds := [], alts := [], laidByText := true, laidKinds := [.data, .pinned], laidTests := true, laidLooks := .later }
def FrameApartCardSaid : Prop := Claim7.holds Tryd.pinned (.plain (OpenSpec.ofChange frameApartSpec)) frameApartCard

/-- THE TIED CARD OF 'bowdlerlaw17.FrameSums'. -/
def frameSumsCard : Claim7 := { stood := { row := frameSumsRow, standIns := [], harness := (true, "8c414850104704d2d8d652457c2350c448b9c7cca6a3c7f118bc26cc9a904ef4"), looks := false }, kinds := [], alts := [], laidByText := true, laidKinds := [.data, .pinned], laidTests := true, laidLooks := .later }
def FrameSumsCardSaid : Prop := Claim7.holds Tryd.pinned (.plain (OpenSpec.ofChange frameSumsSpec)) frameSumsCard

/-- THE TIED CARD OF 'bowdlerlaw17.FrameTurned'. -/
def frameTurnedCard : Claim7 := { stood := { row := frameTurnedRow, standIns := [], harness := (true, "8c414850104704d2d8d652457c2350c448b9c7cca6a3c7f118bc26cc9a904ef4"), looks := false }, kinds := [], alts := [], laidByText := true, laidKinds := [.data, .pinned], laidTests := true, laidLooks := .later }
def FrameTurnedCardSaid : Prop := Claim7.holds Tryd.pinned (.plain (OpenSpec.ofChange frameTurnedSpec)) frameTurnedCard

/-- THE TIED CARD OF 'bowdlerlaw17.FrameTakes'. -/
def frameTakesCard : Claim7 := { stood := { row := frameTakesRow, standIns := [], harness := (true, "8c414850104704d2d8d652457c2350c448b9c7cca6a3c7f118bc26cc9a904ef4"), looks := false }, kinds := [], alts := [], laidByText := true, laidKinds := [.data, .pinned], laidTests := true, laidLooks := .later }
def FrameTakesCardSaid : Prop := Claim7.holds Tryd.pinned (.plain (OpenSpec.ofChange frameTakesSpec)) frameTakesCard

/-- THE TIED CARD OF 'bowdlerlaw17.FrameRows'. -/
def frameRowsCard : Claim7 := { stood := { row := frameRowsRow, standIns := [], harness := (true, "8c414850104704d2d8d652457c2350c448b9c7cca6a3c7f118bc26cc9a904ef4"), looks := false }, kinds := [], alts := [], laidByText := true, laidKinds := [.data, .pinned], laidTests := true, laidLooks := .later }
def FrameRowsCardSaid : Prop := Claim7.holds Tryd.pinned (.plain (OpenSpec.ofChange frameRowsSpec)) frameRowsCard

/-- THE TIED CARD OF 'bowdlerlaw19.AuditPlays'. -/
def auditPlaysCard : Claim7 := { stood := { row := auditPlaysRow, standIns := [], harness := (true, "8c414850104704d2d8d652457c2350c448b9c7cca6a3c7f118bc26cc9a904ef4"), looks := false }, kinds := [], alts := [], laidByText := true, laidKinds := [.data, .pinned], laidTests := true, laidLooks := .later }
def AuditPlaysCardSaid : Prop := Claim7.holds Tryd.pinned (.plain (OpenSpec.ofChange auditPlaysSpec)) auditPlaysCard

/-- THE TIED CARD OF 'bowdlerlaw19.AuditProves'. -/
def auditProvesCard : Claim7 := { stood := { row := auditProvesRow, standIns := [], harness := (true, "8c414850104704d2d8d652457c2350c448b9c7cca6a3c7f118bc26cc9a904ef4"), looks := false }, kinds := [], alts := [], laidByText := true, laidKinds := [.data, .pinned], laidTests := true, laidLooks := .later }
def AuditProvesCardSaid : Prop := Claim7.holds Tryd.pinned (.plain (OpenSpec.ofChange auditProvesSpec)) auditProvesCard

/-- THE TIED CARD OF 'bowdlerlaw19.AuditRight'. -/
def auditRightCard : Claim7 := { stood := { row := auditRightRow, standIns := [], harness := (true, "8c414850104704d2d8d652457c2350c448b9c7cca6a3c7f118bc26cc9a904ef4"), looks := false }, kinds := [], alts := [], laidByText := true, laidKinds := [.data, .pinned], laidTests := true, laidLooks := .later }
def AuditRightCardSaid : Prop := Claim7.holds Tryd.pinned (.plain (OpenSpec.ofChange auditRightSpec)) auditRightCard

/-- THE TIED CARD OF 'bowdlerlaw19.AuditCut'. -/
def auditCutCard : Claim7 := { stood := { row := auditCutRow, standIns := [], harness := (true, "8c414850104704d2d8d652457c2350c448b9c7cca6a3c7f118bc26cc9a904ef4"), looks := false }, kinds := [], alts := [], laidByText := true, laidKinds := [.data, .pinned], laidTests := true, laidLooks := .later }
def AuditCutCardSaid : Prop := Claim7.holds Tryd.pinned (.plain (OpenSpec.ofChange auditCutSpec)) auditCutCard

/-- THE SECOND FORM's CARD OF 'bowdlerlaw17.FramePuts'. -/
def framePutsUptoCard : Claim7 := { stood := { row := framePutsUptoRow, standIns := [], harness := (true, "8c414850104704d2d8d652457c2350c448b9c7cca6a3c7f118bc26cc9a904ef4"), looks := false }, kinds := [], alts := [], laidByText := true, laidKinds := [.data, .pinned], laidTests := true, laidLooks := .later }
def FramePutsUptoCardSaid : Prop := Claim7.holds Tryd.pinned (.plain (OpenSpec.upto framePutsSpec)) framePutsUptoCard

/-- THE SECOND FORM's CARD OF 'bowdlerlaw17.FrameApart'. -/
def frameApartUptoCard : Claim7 := { stood := { row := frameApartUptoRow, standIns := [], harness := (true, "8c414850104704d2d8d652457c2350c448b9c7cca6a3c7f118bc26cc9a904ef4"), looks := false }, kinds := [], alts := [], laidByText := true, laidKinds := [.data, .pinned], laidTests := true, laidLooks := .later }
def FrameApartUptoCardSaid : Prop := Claim7.holds Tryd.pinned (.plain (OpenSpec.upto frameApartSpec)) frameApartUptoCard

/-- THE SECOND FORM's CARD OF 'bowdlerlaw17.FrameSums'. -/
def frameSumsUptoCard : Claim7 := { stood := { row := frameSumsUptoRow, standIns := [], harness := (true, "8c414850104704d2d8d652457c2350c448b9c7cca6a3c7f118bc26cc9a904ef4"), looks := false }, kinds := [], alts := [], laidByText := true, laidKinds := [.data, .pinned], laidTests := true, laidLooks := .later }
def FrameSumsUptoCardSaid : Prop := Claim7.holds Tryd.pinned (.plain (OpenSpec.upto frameSumsSpec)) frameSumsUptoCard

/-- THE SECOND FORM's CARD OF 'bowdlerlaw17.FrameTurned'. -/
def frameTurnedUptoCard : Claim7 := { stood := { row := frameTurnedUptoRow, standIns := [], harness := (true, "8c414850104704d2d8d652457c2350c448b9c7cca6a3c7f118bc26cc9a904ef4"), looks := false }, kinds := [], alts := [], laidByText := true, laidKinds := [.data, .pinned], laidTests := true, laidLooks := .later }
def FrameTurnedUptoCardSaid : Prop := Claim7.holds Tryd.pinned (.plain (OpenSpec.upto frameTurnedSpec)) frameTurnedUptoCard

/-- THE SECOND FORM's CARD OF 'bowdlerlaw17.FrameTakes'. -/
def frameTakesUptoCard : Claim7 := { stood := { row := frameTakesUptoRow, standIns := [], harness := (true, "8c414850104704d2d8d652457c2350c448b9c7cca6a3c7f118bc26cc9a904ef4"), looks := false }, kinds := [], alts := [], laidByText := true, laidKinds := [.data, .pinned], laidTests := true, laidLooks := .later }
def FrameTakesUptoCardSaid : Prop := Claim7.holds Tryd.pinned (.plain (OpenSpec.upto frameTakesSpec)) frameTakesUptoCard

/-- THE SECOND FORM's CARD OF 'bowdlerlaw17.FrameRows'. -/
def frameRowsUptoCard : Claim7 := { stood := { row := frameRowsUptoRow, standIns := [], harness := (true, "8c414850104704d2d8d652457c2350c448b9c7cca6a3c7f118bc26cc9a904ef4"), looks := false }, kinds := [], alts := [], laidByText := true, laidKinds := [.data, .pinned], laidTests := true, laidLooks := .later }
def FrameRowsUptoCardSaid : Prop := Claim7.holds Tryd.pinned (.plain (OpenSpec.upto frameRowsSpec)) frameRowsUptoCard

/-- THE SECOND FORM's CARD OF 'bowdlerlaw19.AuditPlays'. -/
def auditPlaysUptoCard : Claim7 := { stood := { row := auditPlaysUptoRow, standIns := [], harness := (true, "8c414850104704d2d8d652457c2350c448b9c7cca6a3c7f118bc26cc9a904ef4"), looks := false }, kinds := [], alts := [], laidByText := true, laidKinds := [.data, .pinned], laidTests := true, laidLooks := .later }
def AuditPlaysUptoCardSaid : Prop := Claim7.holds Tryd.pinned (.plain (OpenSpec.upto auditPlaysSpec)) auditPlaysUptoCard

/-- THE SECOND FORM's CARD OF 'bowdlerlaw19.AuditProves'. -/
def auditProvesUptoCard : Claim7 := { stood := { row := auditProvesUptoRow, standIns := [], harness := (true, "8c414850104704d2d8d652457c2350c448b9c7cca6a3c7f118bc26cc9a904ef4"), looks := false }, kinds := [], alts := [], laidByText := true, laidKinds := [.data, .pinned], laidTests := true, laidLooks := .later }
def AuditProvesUptoCardSaid : Prop := Claim7.holds Tryd.pinned (.plain (OpenSpec.upto auditProvesSpec)) auditProvesUptoCard

/-- THE SECOND FORM's CARD OF 'bowdlerlaw19.AuditRight'. -/
def auditRightUptoCard : Claim7 := { stood := { row := auditRightUptoRow, standIns := [], harness := (true, "8c414850104704d2d8d652457c2350c448b9c7cca6a3c7f118bc26cc9a904ef4"), looks := false }, kinds := [], alts := [], laidByText := true, laidKinds := [.data, .pinned], laidTests := true, laidLooks := .later }
def AuditRightUptoCardSaid : Prop := Claim7.holds Tryd.pinned (.plain (OpenSpec.upto auditRightSpec)) auditRightUptoCard

/-- THE SECOND FORM's CARD OF 'bowdlerlaw19.AuditCut'. -/
def auditCutUptoCard : Claim7 := { stood := { row := auditCutUptoRow, standIns := [], harness := (true, "8c414850104704d2d8d652457c2350c448b9c7cca6a3c7f118bc26cc9a904ef4"), looks := false }, kinds := [], alts := [], laidByText := true, laidKinds := [.data, .pinned], laidTests := true, laidLooks := .later }
def AuditCutUptoCardSaid : Prop := Claim7.holds Tryd.pinned (.plain (OpenSpec.upto auditCutSpec)) auditCutUptoCard
end Rows
end Go.Proofs.YtepeopfdenieeaaDoor
