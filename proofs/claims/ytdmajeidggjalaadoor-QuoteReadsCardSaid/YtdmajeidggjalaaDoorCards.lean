/-
  DERIVED. GIVEN WITH THE SEED: THE CARDS: each row of YtdmajeidggjalaaDoorRows.lean that lists a variable, with what it lists TIED to the program's text (the seventh form; the later family's looks); each row that meets fmt, with fmt's text TOLD by the authors' own Lean function (tested against real Go, not proved from fmt's source: count such statements apart). THE CARD IS WHAT COUNTS. Prove the row's statement (the work); the ties are given (YtdmajeidggjalaaDoorTie.lean); close each card by the builder's one call (the guide's Derived/Test/ToyasCard.lean, 'card_holds'). Laid BY PROGRAM, IN A SANDBOX (cutbox-door.mjs). By AI agents, Wed Nov 11 2026. No macro, syntax, notation, axiom, sorry.
-/
import Derived.Test.YtdmajeidggjalaaDoorRows
import GoSem.ClaimSeven
namespace Go.Proofs.YtdmajeidggjalaaDoor
namespace Rows

/-- THE TIED CARD OF 'bowdlerlaw03.QuoteReads'. -/
def quoteReadsCard : Claim7 := { stood := { row := quoteReadsRow, standIns := [], harness := (true, "f9428cc55bb196d96b80248d190862502dac39df8f664ca21977225e29856df0"), looks := false }, kinds := [], alts := [], laidByText := true, laidKinds := [.data, .pinned], laidTests := true, laidLooks := .later }
def QuoteReadsCardSaid : Prop := Claim7.holds Tryd.pinned (.plain (OpenSpec.ofChange quoteReadsSpec)) quoteReadsCard

/-- THE TIED CARD OF 'bowdlerlaw03.QuoteBack'. -/
def quoteBackCard : Claim7 := { stood := { row := quoteBackRow, standIns := [], harness := (true, "f9428cc55bb196d96b80248d190862502dac39df8f664ca21977225e29856df0"), looks := false }, kinds := [], alts := [], laidByText := true, laidKinds := [.data, .pinned], laidTests := true, laidLooks := .later }
def QuoteBackCardSaid : Prop := Claim7.holds Tryd.pinned (.plain (OpenSpec.ofChange quoteBackSpec)) quoteBackCard

/-- THE TIED CARD OF 'bowdlerlaw03.QuoteJoins'. -/
def quoteJoinsCard : Claim7 := { stood := { row := quoteJoinsRow, standIns := [], harness := (true, "f9428cc55bb196d96b80248d190862502dac39df8f664ca21977225e29856df0"), looks := false }, kinds := [], alts := [], laidByText := true, laidKinds := [.data, .pinned], laidTests := true, laidLooks := .later }
def QuoteJoinsCardSaid : Prop := Claim7.holds Tryd.pinned (.plain (OpenSpec.ofChange quoteJoinsSpec)) quoteJoinsCard

/-- THE TIED CARD OF 'bowdlerlaw03.QuoteBare'. -/
def quoteBareCard : Claim7 := { stood := { row := quoteBareRow, standIns := [], harness := (true, "f9428cc55bb196d96b80248d190862502dac39df8f664ca21977225e29856df0"), looks := false }, kinds := [], alts := [], laidByText := true, laidKinds := [.data, .pinned], laidTests := true, laidLooks := .later }
def QuoteBareCardSaid : Prop := Claim7.holds Tryd.pinned (.plain (OpenSpec.ofChange quoteBareSpec)) quoteBareCard

/-- THE TIED CARD OF 'bowdlerlaw03.QuoteRunes'. -/
def quoteRunesCard : Claim7 := { stood := { row := quoteRunesRow, standIns := [], harness := (true, "f9428cc55bb196d96b80248d190862502dac39df8f664ca21977225e29856df0"), looks := false }, kinds := [], alts := [], laidByText := true, laidKinds := [.data, .pinned], laidTests := true, laidLooks := .later }
def QuoteRunesCardSaid : Prop := Claim7.holds Tryd.pinned (.plain (OpenSpec.ofChange quoteRunesSpec)) quoteRunesCard

/-- THE TIED CARD OF 'bowdlerlaw03.QuoteCuts'. -/
def quoteCutsCard : Claim7 := { stood := { row := quoteCutsRow, standIns := [], harness := (true, "f9428cc55bb196d96b80248d190862502dac39df8f664ca21977225e29856df0"), looks := false }, kinds := [], alts := [], laidByText := true, laidKinds := [.data, .pinned], laidTests := true, laidLooks := .later }
def QuoteCutsCardSaid : Prop := Claim7.holds Tryd.pinned (.plain (OpenSpec.ofChange quoteCutsSpec)) quoteCutsCard

/-- THE SECOND FORM's CARD OF 'bowdlerlaw03.QuoteReads'. -/
def quoteReadsUptoCard : Claim7 := { stood := { row := quoteReadsUptoRow, standIns := [], harness := (true, "f9428cc55bb196d96b80248d190862502dac39df8f664ca21977225e29856df0"), looks := false }, kinds := [], alts := [], laidByText := true, laidKinds := [.data, .pinned], laidTests := true, laidLooks := .later }
def QuoteReadsUptoCardSaid : Prop := Claim7.holds Tryd.pinned (.plain (OpenSpec.upto quoteReadsSpec)) quoteReadsUptoCard

/-- THE SECOND FORM's CARD OF 'bowdlerlaw03.QuoteBack'. -/
def quoteBackUptoCard : Claim7 := { stood := { row := quoteBackUptoRow, standIns := [], harness := (true, "f9428cc55bb196d96b80248d190862502dac39df8f664ca21977225e29856df0"), looks := false }, kinds := [], alts := [], laidByText := true, laidKinds := [.data, .pinned], laidTests := true, laidLooks := .later }
def QuoteBackUptoCardSaid : Prop := Claim7.holds Tryd.pinned (.plain (OpenSpec.upto quoteBackSpec)) quoteBackUptoCard

/-- THE SECOND FORM's CARD OF 'bowdlerlaw03.QuoteJoins'. -/
def quoteJoinsUptoCard : Claim7 := { stood := { row := quoteJoinsUptoRow, standIns := [], harness := (true, "f9428cc55bb196d96b80248d190862502dac39df8f664ca21977225e29856df0"), looks := false }, kinds := [], alts := [], laidByText := true, laidKinds := [.data, .pinned], laidTests := true, laidLooks := .later }
def QuoteJoinsUptoCardSaid : Prop := Claim7.holds Tryd.pinned (.plain (OpenSpec.upto quoteJoinsSpec)) quoteJoinsUptoCard

/-- THE SECOND FORM's CARD OF 'bowdlerlaw03.QuoteBare'. -/
def quoteBareUptoCard : Claim7 := { stood := { row := quoteBareUptoRow, standIns := [], harness := (true, "f9428cc55bb196d96b80248d190862502dac39df8f664ca21977225e29856df0"), looks := false }, kinds := [], alts := [], laidByText := true, laidKinds := [.data, .pinned], laidTests := true, laidLooks := .later }
def QuoteBareUptoCardSaid : Prop := Claim7.holds Tryd.pinned (.plain (OpenSpec.upto quoteBareSpec)) quoteBareUptoCard

/-- THE SECOND FORM's CARD OF 'bowdlerlaw03.QuoteRunes'. -/
def quoteRunesUptoCard : Claim7 := { stood := { row := quoteRunesUptoRow, standIns := [], harness := (true, "f9428cc55bb196d96b80248d190862502dac39df8f664ca21977225e29856df0"), looks := false }, kinds := [], alts := [], laidByText := true, laidKinds := [.data, .pinned], laidTests := true, laidLooks := .later }
def QuoteRunesUptoCardSaid : Prop := Claim7.holds Tryd.pinned (.plain (OpenSpec.upto quoteRunesSpec)) quoteRunesUptoCard

/-- THE SECOND FORM's CARD OF 'bowdlerlaw03.QuoteCuts'. -/
def quoteCutsUptoCard : Claim7 := { stood := { row := quoteCutsUptoRow, standIns := [], harness := (true, "f9428cc55bb196d96b80248d190862502dac39df8f664ca21977225e29856df0"), looks := false }, kinds := [], alts := [], laidByText := true, laidKinds := [.data, .pinned], laidTests := true, laidLooks := .later }
def QuoteCutsUptoCardSaid : Prop := Claim7.holds Tryd.pinned (.plain (OpenSpec.upto quoteCutsSpec)) quoteCutsUptoCard
end Rows
end Go.Proofs.YtdmajeidggjalaaDoor
