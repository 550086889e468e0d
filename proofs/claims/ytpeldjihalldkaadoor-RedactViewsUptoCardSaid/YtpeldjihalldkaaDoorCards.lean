/-
  DERIVED. GIVEN WITH THE SEED: THE CARDS: each row of YtpeldjihalldkaaDoorRows.lean that lists a variable, with what it lists TIED to the program's text (the seventh form; the later family's looks); each row that meets fmt, with fmt's text TOLD by the authors' own Lean function (tested against real Go, not proved from fmt's source: count such statements apart). THE CARD IS WHAT COUNTS. Prove the row's statement (the work); the ties are given (YtpeldjihalldkaaDoorTie.lean); close each card by the builder's one call (the guide's Derived/Test/ToyasCard.lean, 'card_holds'). Laid BY PROGRAM, IN A SANDBOX (cutbox-door.mjs). By AI agents, Wed Nov 11 2026. No macro, syntax, notation, axiom, sorry.
-/
import Derived.Test.YtpeldjihalldkaaDoorRows
import GoSem.ClaimSeven
namespace Go.Proofs.YtpeldjihalldkaaDoor
namespace Rows

/-- THE TIED CARD OF 'bowdlerlaw09.RedactShows'. -/
def redactShowsCard : Claim7 := { stood := { row := redactShowsRow, standIns := [], harness := (true, "56fc9aea4fedc8fa624efbfae77b761f6b65d355fc2a012abe4afbb9345b4593"), looks := false }, kinds := [], alts := [], laidByText := true, laidKinds := [.data, .data, .data], laidTests := true, laidLooks := .later }
def RedactShowsCardSaid : Prop := Claim7.holds Tryd.pinned (.plain (OpenSpec.ofChange redactShowsSpec)) redactShowsCard

/-- THE TIED CARD OF 'bowdlerlaw09.RedactHoles'. -/
def redactHolesCard : Claim7 := { stood := { row := redactHolesRow, standIns := [], harness := (true, "56fc9aea4fedc8fa624efbfae77b761f6b65d355fc2a012abe4afbb9345b4593"), looks := false }, kinds := [], alts := [], laidByText := true, laidKinds := [.data, .data, .data], laidTests := true, laidLooks := .later }
def RedactHolesCardSaid : Prop := Claim7.holds Tryd.pinned (.plain (OpenSpec.ofChange redactHolesSpec)) redactHolesCard

/-- THE TIED CARD OF 'bowdlerlaw09.RedactAlike'. -/
def redactAlikeCard : Claim7 := { stood := { row := redactAlikeRow, standIns := [], harness := (true, "56fc9aea4fedc8fa624efbfae77b761f6b65d355fc2a012abe4afbb9345b4593"), looks := false }, kinds := [], alts := [], laidByText := true, laidKinds := [.data, .data, .data], laidTests := true, laidLooks := .later }
def RedactAlikeCardSaid : Prop := Claim7.holds Tryd.pinned (.plain (OpenSpec.ofChange redactAlikeSpec)) redactAlikeCard

/-- THE TIED CARD OF 'bowdlerlaw09.RedactTidy'. -/
def redactTidyCard : Claim7 := { stood := { row := redactTidyRow, standIns := [], harness := (true, "56fc9aea4fedc8fa624efbfae77b761f6b65d355fc2a012abe4afbb9345b4593"), looks := false }, kinds := [], alts := [], laidByText := true, laidKinds := [.data, .data, .data], laidTests := true, laidLooks := .later }
def RedactTidyCardSaid : Prop := Claim7.holds Tryd.pinned (.plain (OpenSpec.ofChange redactTidySpec)) redactTidyCard

/-- THE TIED CARD OF 'bowdlerlaw09.RedactMore'. -/
def redactMoreCard : Claim7 := { stood := { row := redactMoreRow, standIns := [], harness := (true, "56fc9aea4fedc8fa624efbfae77b761f6b65d355fc2a012abe4afbb9345b4593"), looks := false }, kinds := [], alts := [], laidByText := true, laidKinds := [.data, .data, .data], laidTests := true, laidLooks := .later }
def RedactMoreCardSaid : Prop := Claim7.holds Tryd.pinned (.plain (OpenSpec.ofChange redactMoreSpec)) redactMoreCard

/-- THE TIED CARD OF 'bowdlerlaw09.RedactViews'. -/
def redactViewsCard : Claim7 := { stood := { row := redactViewsRow, standIns := [], harness := (true, "56fc9aea4fedc8fa624efbfae77b761f6b65d355fc2a012abe4afbb9345b4593"), looks := false }, kinds := [], alts := [], laidByText := true, laidKinds := [.data, .data, .data], laidTests := true, laidLooks := .later }
def RedactViewsCardSaid : Prop := Claim7.holds Tryd.pinned (.plain (OpenSpec.ofChange redactViewsSpec)) redactViewsCard

/-- THE TIED CARD OF 'bowdlerlaw09.RedactSwap'. -/
def redactSwapCard : Claim7 := { stood := { row := redactSwapRow, standIns := [], harness := (true, "56fc9aea4fedc8fa624efbfae77b761f6b65d355fc2a012abe4afbb9345b4593"), looks := false }, kinds := [], alts := [], laidByText := true, laidKinds := [.data, .data, .data], laidTests := true, laidLooks := .later }
def RedactSwapCardSaid : Prop := Claim7.holds Tryd.pinned (.plain (OpenSpec.ofChange redactSwapSpec)) redactSwapCard

/-- THE TIED CARD OF 'bowdlerlaw09.RedactNone'. -/
def redactNoneCard : Claim7 := { stood := { row := redactNoneRow, standIns := [], harness := (true, "56fc9aea4fedc8fa624efbfae77b761f6b65d355fc2a012abe4afbb9345b4593"), looks := false }, kinds := [], alts := [], laidByText := true, laidKinds := [.data, .data, .data], laidTests := true, laidLooks := .later }
def RedactNoneCardSaid : Prop := Claim7.holds Tryd.pinned (.plain (OpenSpec.ofChange redactNoneSpec)) redactNoneCard

/-- THE SECOND FORM's CARD OF 'bowdlerlaw09.RedactShows'. -/
def redactShowsUptoCard : Claim7 := { stood := { row := redactShowsUptoRow, standIns := [], harness := (true, "56fc9aea4fedc8fa624efbfae77b761f6b65d355fc2a012abe4afbb9345b4593"), looks := false }, kinds := [], alts := [], laidByText := true, laidKinds := [.data, .data, .data], laidTests := true, laidLooks := .later }
def RedactShowsUptoCardSaid : Prop := Claim7.holds Tryd.pinned (.plain (OpenSpec.upto redactShowsSpec)) redactShowsUptoCard

/-- THE SECOND FORM's CARD OF 'bowdlerlaw09.RedactHoles'. -/
def redactHolesUptoCard : Claim7 := { stood := { row := redactHolesUptoRow, standIns := [], harness := (true, "56fc9aea4fedc8fa624efbfae77b761f6b65d355fc2a012abe4afbb9345b4593"), looks := false }, kinds := [], alts := [], laidByText := true, laidKinds := [.data, .data, .data], laidTests := true, laidLooks := .later }
def RedactHolesUptoCardSaid : Prop := Claim7.holds Tryd.pinned (.plain (OpenSpec.upto redactHolesSpec)) redactHolesUptoCard

/-- THE SECOND FORM's CARD OF 'bowdlerlaw09.RedactAlike'. -/
def redactAlikeUptoCard : Claim7 := { stood := { row := redactAlikeUptoRow, standIns := [], harness := (true, "56fc9aea4fedc8fa624efbfae77b761f6b65d355fc2a012abe4afbb9345b4593"), looks := false }, kinds := [], alts := [], laidByText := true, laidKinds := [.data, .data, .data], laidTests := true, laidLooks := .later }
def RedactAlikeUptoCardSaid : Prop := Claim7.holds Tryd.pinned (.plain (OpenSpec.upto redactAlikeSpec)) redactAlikeUptoCard

/-- THE SECOND FORM's CARD OF 'bowdlerlaw09.RedactTidy'. -/
def redactTidyUptoCard : Claim7 := { stood := { row := redactTidyUptoRow, standIns := [], harness := (true, "56fc9aea4fedc8fa624efbfae77b761f6b65d355fc2a012abe4afbb9345b4593"), looks := false }, kinds := [], alts := [], laidByText := true, laidKinds := [.data, .data, .data], laidTests := true, laidLooks := .later }
def RedactTidyUptoCardSaid : Prop := Claim7.holds Tryd.pinned (.plain (OpenSpec.upto redactTidySpec)) redactTidyUptoCard

/-- THE SECOND FORM's CARD OF 'bowdlerlaw09.RedactMore'. -/
def redactMoreUptoCard : Claim7 := { stood := { row := redactMoreUptoRow, standIns := [], harness := (true, "56fc9aea4fedc8fa624efbfae77b761f6b65d355fc2a012abe4afbb9345b4593"), looks := false }, kinds := [], alts := [], laidByText := true, laidKinds := [.data, .data, .data], laidTests := true, laidLooks := .later }
def RedactMoreUptoCardSaid : Prop := Claim7.holds Tryd.pinned (.plain (OpenSpec.upto redactMoreSpec)) redactMoreUptoCard

/-- THE SECOND FORM's CARD OF 'bowdlerlaw09.RedactViews'. -/
def redactViewsUptoCard : Claim7 := { stood := { row := redactViewsUptoRow, standIns := [], harness := (true, "56fc9aea4fedc8fa624efbfae77b761f6b65d355fc2a012abe4afbb9345b4593"), looks := false }, kinds := [], alts := [], laidByText := true, laidKinds := [.data, .data, .data], laidTests := true, laidLooks := .later }
def RedactViewsUptoCardSaid : Prop := Claim7.holds Tryd.pinned (.plain (OpenSpec.upto redactViewsSpec)) redactViewsUptoCard

/-- THE SECOND FORM's CARD OF 'bowdlerlaw09.RedactSwap'. -/
def redactSwapUptoCard : Claim7 := { stood := { row := redactSwapUptoRow, standIns := [], harness := (true, "56fc9aea4fedc8fa624efbfae77b761f6b65d355fc2a012abe4afbb9345b4593"), looks := false }, kinds := [], alts := [], laidByText := true, laidKinds := [.data, .data, .data], laidTests := true, laidLooks := .later }
def RedactSwapUptoCardSaid : Prop := Claim7.holds Tryd.pinned (.plain (OpenSpec.upto redactSwapSpec)) redactSwapUptoCard

/-- THE SECOND FORM's CARD OF 'bowdlerlaw09.RedactNone'. -/
def redactNoneUptoCard : Claim7 := { stood := { row := redactNoneUptoRow, standIns := [], harness := (true, "56fc9aea4fedc8fa624efbfae77b761f6b65d355fc2a012abe4afbb9345b4593"), looks := false }, kinds := [], alts := [], laidByText := true, laidKinds := [.data, .data, .data], laidTests := true, laidLooks := .later }
def RedactNoneUptoCardSaid : Prop := Claim7.holds Tryd.pinned (.plain (OpenSpec.upto redactNoneSpec)) redactNoneUptoCard
end Rows
end Go.Proofs.YtpeldjihalldkaaDoor
