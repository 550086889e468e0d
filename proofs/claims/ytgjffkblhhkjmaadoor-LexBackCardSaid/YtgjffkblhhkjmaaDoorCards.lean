/-
  DERIVED. GIVEN WITH THE SEED: THE CARDS: each row of YtgjffkblhhkjmaaDoorRows.lean that lists a variable, with what it lists TIED to the program's text (the seventh form; the later family's looks); each row that meets fmt, with fmt's text TOLD by the authors' own Lean function (tested against real Go, not proved from fmt's source: count such statements apart). THE CARD IS WHAT COUNTS. Prove the row's statement (the work); the ties are given (YtgjffkblhhkjmaaDoorTie.lean); close each card by the builder's one call (the guide's Derived/Test/ToyasCard.lean, 'card_holds'). Laid BY PROGRAM, IN A SANDBOX (cutbox-door.mjs). By AI agents, Wed Nov 11 2026. No macro, syntax, notation, axiom, sorry.
-/
import Derived.Test.YtgjffkblhhkjmaaDoorRows
import GoSem.ClaimSeven
namespace Go.Proofs.YtgjffkblhhkjmaaDoor
namespace Rows

/-- THE TIED CARD OF 'bowdlerlaw06.CatsMasks'. -/
def catsMasksCard : Claim7 := { stood := { row := catsMasksRow, standIns := [], harness := (true, "449d839ecadbb56ea601bbee725dd806dc8f47794402754ceb9152f8402eac6a"), looks := false }, kinds := [], alts := [], laidByText := true, laidKinds := [.data, .pinned], laidTests := true, laidLooks := .later }
def CatsMasksCardSaid : Prop := Claim7.holds Tryd.pinned (.plain (OpenSpec.ofChange catsMasksSpec)) catsMasksCard

/-- THE TIED CARD OF 'bowdlerlaw06.CatsMay'. -/
def catsMayCard : Claim7 := { stood := { row := catsMayRow, standIns := [], harness := (true, "449d839ecadbb56ea601bbee725dd806dc8f47794402754ceb9152f8402eac6a"), looks := false }, kinds := [], alts := [], laidByText := true, laidKinds := [.data, .pinned], laidTests := true, laidLooks := .later }
def CatsMayCardSaid : Prop := Claim7.holds Tryd.pinned (.plain (OpenSpec.ofChange catsMaySpec)) catsMayCard

/-- THE TIED CARD OF 'bowdlerlaw06.CatsWords'. -/
def catsWordsCard : Claim7 := { stood := { row := catsWordsRow, standIns := [], harness := (true, "449d839ecadbb56ea601bbee725dd806dc8f47794402754ceb9152f8402eac6a"), looks := false }, kinds := [], alts := [], laidByText := true, laidKinds := [.data, .pinned], laidTests := true, laidLooks := .later }
def CatsWordsCardSaid : Prop := Claim7.holds Tryd.pinned (.plain (OpenSpec.ofChange catsWordsSpec)) catsWordsCard

/-- THE TIED CARD OF 'bowdlerlaw06.CatsBack'. -/
def catsBackCard : Claim7 := { stood := { row := catsBackRow, standIns := [], harness := (true, "449d839ecadbb56ea601bbee725dd806dc8f47794402754ceb9152f8402eac6a"), looks := false }, kinds := [], alts := [], laidByText := true, laidKinds := [.data, .pinned], laidTests := true, laidLooks := .later }
def CatsBackCardSaid : Prop := Claim7.holds Tryd.pinned (.plain (OpenSpec.ofChange catsBackSpec)) catsBackCard

/-- THE TIED CARD OF 'bowdlerlaw06.CatsParts'. -/
def catsPartsCard : Claim7 := { stood := { row := catsPartsRow, standIns := [], harness := (true, "449d839ecadbb56ea601bbee725dd806dc8f47794402754ceb9152f8402eac6a"), looks := false }, kinds := [], alts := [], laidByText := true, laidKinds := [.data, .pinned], laidTests := true, laidLooks := .later }
def CatsPartsCardSaid : Prop := Claim7.holds Tryd.pinned (.plain (OpenSpec.ofChange catsPartsSpec)) catsPartsCard

/-- THE TIED CARD OF 'bowdlerlaw10.LexJoins'. -/
def lexJoinsCard : Claim7 := { stood := { row := lexJoinsRow, standIns := [], harness := (true, "449d839ecadbb56ea601bbee725dd806dc8f47794402754ceb9152f8402eac6a"), looks := false }, kinds := [], alts := [], laidByText := true, laidKinds := [.data, .pinned], laidTests := true, laidLooks := .later }
def LexJoinsCardSaid : Prop := Claim7.holds Tryd.pinned (.plain (OpenSpec.ofChange lexJoinsSpec)) lexJoinsCard

/-- THE TIED CARD OF 'bowdlerlaw10.LexPlaces'. -/
def lexPlacesCard : Claim7 := { stood := { row := lexPlacesRow, standIns := [], harness := (true, "449d839ecadbb56ea601bbee725dd806dc8f47794402754ceb9152f8402eac6a"), looks := false }, kinds := [], alts := [], laidByText := true, laidKinds := [.data, .pinned], laidTests := true, laidLooks := .later }
def LexPlacesCardSaid : Prop := Claim7.holds Tryd.pinned (.plain (OpenSpec.ofChange lexPlacesSpec)) lexPlacesCard

/-- THE TIED CARD OF 'bowdlerlaw10.LexNames'. -/
def lexNamesCard : Claim7 := { stood := { row := lexNamesRow, standIns := [], harness := (true, "449d839ecadbb56ea601bbee725dd806dc8f47794402754ceb9152f8402eac6a"), looks := false }, kinds := [], alts := [], laidByText := true, laidKinds := [.data, .pinned], laidTests := true, laidLooks := .later }
def LexNamesCardSaid : Prop := Claim7.holds Tryd.pinned (.plain (OpenSpec.ofChange lexNamesSpec)) lexNamesCard

/-- THE TIED CARD OF 'bowdlerlaw10.LexBack'. -/
def lexBackCard : Claim7 := { stood := { row := lexBackRow, standIns := [], harness := (true, "449d839ecadbb56ea601bbee725dd806dc8f47794402754ceb9152f8402eac6a"), looks := false }, kinds := [], alts := [], laidByText := true, laidKinds := [.data, .pinned], laidTests := true, laidLooks := .later }
def LexBackCardSaid : Prop := Claim7.holds Tryd.pinned (.plain (OpenSpec.ofChange lexBackSpec)) lexBackCard

/-- THE SECOND FORM's CARD OF 'bowdlerlaw06.CatsMasks'. -/
def catsMasksUptoCard : Claim7 := { stood := { row := catsMasksUptoRow, standIns := [], harness := (true, "449d839ecadbb56ea601bbee725dd806dc8f47794402754ceb9152f8402eac6a"), looks := false }, kinds := [], alts := [], laidByText := true, laidKinds := [.data, .pinned], laidTests := true, laidLooks := .later }
def CatsMasksUptoCardSaid : Prop := Claim7.holds Tryd.pinned (.plain (OpenSpec.upto catsMasksSpec)) catsMasksUptoCard

/-- THE SECOND FORM's CARD OF 'bowdlerlaw06.CatsMay'. -/
def catsMayUptoCard : Claim7 := { stood := { row := catsMayUptoRow, standIns := [], harness := (true, "449d839ecadbb56ea601bbee725dd806dc8f47794402754ceb9152f8402eac6a"), looks := false }, kinds := [], alts := [], laidByText := true, laidKinds := [.data, .pinned], laidTests := true, laidLooks := .later }
def CatsMayUptoCardSaid : Prop := Claim7.holds Tryd.pinned (.plain (OpenSpec.upto catsMaySpec)) catsMayUptoCard

/-- THE SECOND FORM's CARD OF 'bowdlerlaw06.CatsWords'. -/
def catsWordsUptoCard : Claim7 := { stood := { row := catsWordsUptoRow, standIns := [], harness := (true, "449d839ecadbb56ea601bbee725dd806dc8f47794402754ceb9152f8402eac6a"), looks := false }, kinds := [], alts := [], laidByText := true, laidKinds := [.data, .pinned], laidTests := true, laidLooks := .later }
def CatsWordsUptoCardSaid : Prop := Claim7.holds Tryd.pinned (.plain (OpenSpec.upto catsWordsSpec)) catsWordsUptoCard

/-- THE SECOND FORM's CARD OF 'bowdlerlaw06.CatsBack'. -/
def catsBackUptoCard : Claim7 := { stood := { row := catsBackUptoRow, standIns := [], harness := (true, "449d839ecadbb56ea601bbee725dd806dc8f47794402754ceb9152f8402eac6a"), looks := false }, kinds := [], alts := [], laidByText := true, laidKinds := [.data, .pinned], laidTests := true, laidLooks := .later }
def CatsBackUptoCardSaid : Prop := Claim7.holds Tryd.pinned (.plain (OpenSpec.upto catsBackSpec)) catsBackUptoCard

/-- THE SECOND FORM's CARD OF 'bowdlerlaw06.CatsParts'. -/
def catsPartsUptoCard : Claim7 := { stood := { row := catsPartsUptoRow, standIns := [], harness := (true, "449d839ecadbb56ea601bbee725dd806dc8f47794402754ceb9152f8402eac6a"), looks := false }, kinds := [], alts := [], laidByText := true, laidKinds := [.data, .pinned], laidTests := true, laidLooks := .later }
def CatsPartsUptoCardSaid : Prop := Claim7.holds Tryd.pinned (.plain (OpenSpec.upto catsPartsSpec)) catsPartsUptoCard

/-- THE SECOND FORM's CARD OF 'bowdlerlaw10.LexJoins'. -/
def lexJoinsUptoCard : Claim7 := { stood := { row := lexJoinsUptoRow, standIns := [], harness := (true, "449d839ecadbb56ea601bbee725dd806dc8f47794402754ceb9152f8402eac6a"), looks := false }, kinds := [], alts := [], laidByText := true, laidKinds := [.data, .pinned], laidTests := true, laidLooks := .later }
def LexJoinsUptoCardSaid : Prop := Claim7.holds Tryd.pinned (.plain (OpenSpec.upto lexJoinsSpec)) lexJoinsUptoCard

/-- THE SECOND FORM's CARD OF 'bowdlerlaw10.LexPlaces'. -/
def lexPlacesUptoCard : Claim7 := { stood := { row := lexPlacesUptoRow, standIns := [], harness := (true, "449d839ecadbb56ea601bbee725dd806dc8f47794402754ceb9152f8402eac6a"), looks := false }, kinds := [], alts := [], laidByText := true, laidKinds := [.data, .pinned], laidTests := true, laidLooks := .later }
def LexPlacesUptoCardSaid : Prop := Claim7.holds Tryd.pinned (.plain (OpenSpec.upto lexPlacesSpec)) lexPlacesUptoCard

/-- THE SECOND FORM's CARD OF 'bowdlerlaw10.LexNames'. -/
def lexNamesUptoCard : Claim7 := { stood := { row := lexNamesUptoRow, standIns := [], harness := (true, "449d839ecadbb56ea601bbee725dd806dc8f47794402754ceb9152f8402eac6a"), looks := false }, kinds := [], alts := [], laidByText := true, laidKinds := [.data, .pinned], laidTests := true, laidLooks := .later }
def LexNamesUptoCardSaid : Prop := Claim7.holds Tryd.pinned (.plain (OpenSpec.upto lexNamesSpec)) lexNamesUptoCard

/-- THE SECOND FORM's CARD OF 'bowdlerlaw10.LexBack'. -/
def lexBackUptoCard : Claim7 := { stood := { row := lexBackUptoRow, standIns := [], harness := (true, "449d839ecadbb56ea601bbee725dd806dc8f47794402754ceb9152f8402eac6a"), looks := false }, kinds := [], alts := [], laidByText := true, laidKinds := [.data, .pinned], laidTests := true, laidLooks := .later }
def LexBackUptoCardSaid : Prop := Claim7.holds Tryd.pinned (.plain (OpenSpec.upto lexBackSpec)) lexBackUptoCard
end Rows
end Go.Proofs.YtgjffkblhhkjmaaDoor
