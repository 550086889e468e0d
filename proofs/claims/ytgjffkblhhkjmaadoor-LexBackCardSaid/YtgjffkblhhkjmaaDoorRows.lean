/-
  NARROWER THAN 'FOR EVERY INPUT', by the rows' own cells (each row's printed sentence says how): CatsMasks: laid · CatsMay: laid · CatsWords: laid · CatsBack: laid · CatsParts: laid · LexJoins: laid · LexPlaces: laid · LexNames: laid · LexBack: laid.
  DERIVED. THE GIVEN ROWS OF THIS SEAT. 9 by the template 'for every input the law returns true; each argument reads behind the call as it read before'; 0 by the template 'total and deterministic' (their statements: YtgjffkblhhkjmaaDoorTotals.lean).
  GIVEN WITH THE SEED: the statements are not yours to turn. If you find one false, say at which input.
  Laid BY PROGRAM, IN A SANDBOX (cutbox-rows.mjs): the forced cells as the released guide's own fill.sh prints them over the translation 9e1fea99d5b76efc… (all of the seat's roots in one cut). By AI agents, Wed Nov 11 2026. No macro, syntax, notation, axiom, sorry.
-/
import Derived.Test.YtgjffkblhhkjmaaDoorChecked
import GoSem.PinnedTables
import GoSem.Claim
import GoSem.ClaimJoined
import GoSem.ClaimMapViews
import Derived.JoinedTies
import Derived.KernelRfl
namespace Go.Proofs.YtgjffkblhhkjmaaDoor
/- THE CELL 'sum', in the pinned program and in every row, IS THE sha256 OF THE DUMP (.gsa) THAT YtgjffkblhhkjmaaDoorProg.lean LOADS. Nothing in Lean hashes anything: it is a label: what it is worth is what the hold of that sum in a sandbox is worth. -/
noncomputable def Tryd.pinned : Pinned := { name := "ytgjffkblhhkjmaadoor", sum := "9e1fea99d5b76efc9e4d10d0abd6eefda62b54437dfc40240d217608b90bdfcb", checked := Tryd.checked }
namespace Rows
def none {H : Type} : Left H := { results := [], args := [] }

/- WHAT THE LISTED PACKAGE-LEVEL VARIABLES READ AS WHEN THE CALL BEGINS. Each datum BY PROGRAM (the guide's laid-datum.mjs) off the statement by which the dump's own 'gosem.cut.vars' lays the variable. In a bare row this is a premise. The card (YtgjffkblhhkjmaaDoorCards.lean) ties it to the program's text. -/
def laid_unicode_utf8_acceptRanges {H : Type} : DataW H := .agg [.agg [.lit (.int .u8 128), .lit (.int .u8 191)], .agg [.lit (.int .u8 160), .lit (.int .u8 191)], .agg [.lit (.int .u8 128), .lit (.int .u8 159)], .agg [.lit (.int .u8 144), .lit (.int .u8 191)], .agg [.lit (.int .u8 128), .lit (.int .u8 143)], .agg [.lit (.int .u8 0), .lit (.int .u8 0)], .agg [.lit (.int .u8 0), .lit (.int .u8 0)], .agg [.lit (.int .u8 0), .lit (.int .u8 0)], .agg [.lit (.int .u8 0), .lit (.int .u8 0)], .agg [.lit (.int .u8 0), .lit (.int .u8 0)], .agg [.lit (.int .u8 0), .lit (.int .u8 0)], .agg [.lit (.int .u8 0), .lit (.int .u8 0)], .agg [.lit (.int .u8 0), .lit (.int .u8 0)], .agg [.lit (.int .u8 0), .lit (.int .u8 0)], .agg [.lit (.int .u8 0), .lit (.int .u8 0)], .agg [.lit (.int .u8 0), .lit (.int .u8 0)]]
/-- One of Go's own tables, pinned by name: the form's constant. -/
def laid_unicode_utf8_first : DataW Unit := Go.Pinned.utf8First

/-- 'bowdlerlaw06.CatsMasks': WHATEVER THE INPUT: true; the input reads as it did. -/
def catsMasksSpec : ChangeSpec := { name := "catsMasks", fn := fun _ => fun
  | [d1, d2, d3] => { results := [.lit (.bool true)], args := [d1, d2, d3] }
  | _ => none }
def catsMasksRow : OpenClaim := { program := "ytgjffkblhhkjmaadoor", sum := "9e1fea99d5b76efc9e4d10d0abd6eefda62b54437dfc40240d217608b90bdfcb", func := "bowdler/bowdlerlaw06.CatsMasks", spec := "catsMasks", inPlace := ["internal/bytealg.CountString", "internal/bytealg.IndexByteString", "internal/bytealg.IndexString", "internal/abi.NoEscape", "internal/bytealg.MakeNoZero"], named := ["unicode/utf8.first", "unicode/utf8.acceptRanges", "internal/bytealg.MaxLen"], apart := false, laid := [("unicode/utf8.acceptRanges", laid_unicode_utf8_acceptRanges), ("unicode/utf8.first", laid_unicode_utf8_first)] }
def CatsMasksSaid : Prop := catsMasksRow.holds Tryd.pinned (OpenSpec.ofChange catsMasksSpec)

/-- ITS FALSE NEIGHBOUR: 'it returns false'. Refute it at one input. -/
def catsMasksWrong : ChangeSpec := { name := "catsMasks", fn := fun _ => fun
  | [d1, d2, d3] => { results := [.lit (.bool false)], args := [d1, d2, d3] }
  | _ => none }
def CatsMasksWrongFalsely : Prop := catsMasksRow.holds Tryd.pinned (OpenSpec.ofChange catsMasksWrong)

/-- 'bowdlerlaw06.CatsMay': WHATEVER THE INPUT: true; the input reads as it did. -/
def catsMaySpec : ChangeSpec := { name := "catsMay", fn := fun _ => fun
  | [d1, d2, d3] => { results := [.lit (.bool true)], args := [d1, d2, d3] }
  | _ => none }
def catsMayRow : OpenClaim := { program := "ytgjffkblhhkjmaadoor", sum := "9e1fea99d5b76efc9e4d10d0abd6eefda62b54437dfc40240d217608b90bdfcb", func := "bowdler/bowdlerlaw06.CatsMay", spec := "catsMay", inPlace := ["internal/bytealg.CountString", "internal/bytealg.IndexByteString", "internal/bytealg.IndexString"], named := ["unicode/utf8.first", "unicode/utf8.acceptRanges", "internal/bytealg.MaxLen"], apart := false, laid := [("unicode/utf8.acceptRanges", laid_unicode_utf8_acceptRanges), ("unicode/utf8.first", laid_unicode_utf8_first)] }
def CatsMaySaid : Prop := catsMayRow.holds Tryd.pinned (OpenSpec.ofChange catsMaySpec)

/-- ITS FALSE NEIGHBOUR: 'it returns false'. Refute it at one input. -/
def catsMayWrong : ChangeSpec := { name := "catsMay", fn := fun _ => fun
  | [d1, d2, d3] => { results := [.lit (.bool false)], args := [d1, d2, d3] }
  | _ => none }
def CatsMayWrongFalsely : Prop := catsMayRow.holds Tryd.pinned (OpenSpec.ofChange catsMayWrong)

/-- 'bowdlerlaw06.CatsWords': WHATEVER THE INPUT: true; the input reads as it did. -/
def catsWordsSpec : ChangeSpec := { name := "catsWords", fn := fun _ => fun
  | [d1, d2, d3] => { results := [.lit (.bool true)], args := [d1, d2, d3] }
  | _ => none }
def catsWordsRow : OpenClaim := { program := "ytgjffkblhhkjmaadoor", sum := "9e1fea99d5b76efc9e4d10d0abd6eefda62b54437dfc40240d217608b90bdfcb", func := "bowdler/bowdlerlaw06.CatsWords", spec := "catsWords", inPlace := ["internal/bytealg.CountString", "internal/bytealg.IndexByteString", "internal/bytealg.IndexString"], named := ["unicode/utf8.first", "unicode/utf8.acceptRanges", "internal/bytealg.MaxLen"], apart := false, laid := [("unicode/utf8.acceptRanges", laid_unicode_utf8_acceptRanges), ("unicode/utf8.first", laid_unicode_utf8_first)] }
def CatsWordsSaid : Prop := catsWordsRow.holds Tryd.pinned (OpenSpec.ofChange catsWordsSpec)

/-- ITS FALSE NEIGHBOUR: 'it returns false'. Refute it at one input. -/
def catsWordsWrong : ChangeSpec := { name := "catsWords", fn := fun _ => fun
  | [d1, d2, d3] => { results := [.lit (.bool false)], args := [d1, d2, d3] }
  | _ => none }
def CatsWordsWrongFalsely : Prop := catsWordsRow.holds Tryd.pinned (OpenSpec.ofChange catsWordsWrong)

/-- 'bowdlerlaw06.CatsBack': WHATEVER THE INPUT: true; the input reads as it did. -/
def catsBackSpec : ChangeSpec := { name := "catsBack", fn := fun _ => fun
  | [d1, d2] => { results := [.lit (.bool true)], args := [d1, d2] }
  | _ => none }
def catsBackRow : OpenClaim := { program := "ytgjffkblhhkjmaadoor", sum := "9e1fea99d5b76efc9e4d10d0abd6eefda62b54437dfc40240d217608b90bdfcb", func := "bowdler/bowdlerlaw06.CatsBack", spec := "catsBack", inPlace := ["internal/bytealg.CountString", "internal/bytealg.IndexByteString", "internal/bytealg.IndexString", "internal/abi.NoEscape", "internal/bytealg.MakeNoZero"], named := ["unicode/utf8.first", "unicode/utf8.acceptRanges", "internal/bytealg.MaxLen"], apart := false, laid := [("unicode/utf8.acceptRanges", laid_unicode_utf8_acceptRanges), ("unicode/utf8.first", laid_unicode_utf8_first)] }
def CatsBackSaid : Prop := catsBackRow.holds Tryd.pinned (OpenSpec.ofChange catsBackSpec)

/-- ITS FALSE NEIGHBOUR: 'it returns false'. Refute it at one input. -/
def catsBackWrong : ChangeSpec := { name := "catsBack", fn := fun _ => fun
  | [d1, d2] => { results := [.lit (.bool false)], args := [d1, d2] }
  | _ => none }
def CatsBackWrongFalsely : Prop := catsBackRow.holds Tryd.pinned (OpenSpec.ofChange catsBackWrong)

/-- 'bowdlerlaw06.CatsParts': WHATEVER THE INPUT: true; the input reads as it did. -/
def catsPartsSpec : ChangeSpec := { name := "catsParts", fn := fun _ => fun
  | [d1, d2, d3] => { results := [.lit (.bool true)], args := [d1, d2, d3] }
  | _ => none }
def catsPartsRow : OpenClaim := { program := "ytgjffkblhhkjmaadoor", sum := "9e1fea99d5b76efc9e4d10d0abd6eefda62b54437dfc40240d217608b90bdfcb", func := "bowdler/bowdlerlaw06.CatsParts", spec := "catsParts", inPlace := ["internal/bytealg.CountString", "internal/bytealg.IndexByteString", "internal/bytealg.IndexString", "internal/abi.NoEscape", "internal/bytealg.MakeNoZero"], named := ["unicode/utf8.first", "unicode/utf8.acceptRanges", "internal/bytealg.MaxLen"], apart := false, laid := [("unicode/utf8.acceptRanges", laid_unicode_utf8_acceptRanges), ("unicode/utf8.first", laid_unicode_utf8_first)] }
def CatsPartsSaid : Prop := catsPartsRow.holds Tryd.pinned (OpenSpec.ofChange catsPartsSpec)

/-- ITS FALSE NEIGHBOUR: 'it returns false'. Refute it at one input. -/
def catsPartsWrong : ChangeSpec := { name := "catsParts", fn := fun _ => fun
  | [d1, d2, d3] => { results := [.lit (.bool false)], args := [d1, d2, d3] }
  | _ => none }
def CatsPartsWrongFalsely : Prop := catsPartsRow.holds Tryd.pinned (OpenSpec.ofChange catsPartsWrong)

/-- 'bowdlerlaw10.LexJoins': WHATEVER THE INPUT: true; the input reads as it did. -/
def lexJoinsSpec : ChangeSpec := { name := "lexJoins", fn := fun _ => fun
  | [d1, d2] => { results := [.lit (.bool true)], args := [d1, d2] }
  | _ => none }
def lexJoinsRow : OpenClaim := { program := "ytgjffkblhhkjmaadoor", sum := "9e1fea99d5b76efc9e4d10d0abd6eefda62b54437dfc40240d217608b90bdfcb", func := "bowdler/bowdlerlaw10.LexJoins", spec := "lexJoins", inPlace := ["internal/bytealg.IndexByteString", "internal/bytealg.IndexString", "internal/abi.NoEscape", "internal/bytealg.MakeNoZero"], unfollowed := true, recurses := true, named := ["unicode/utf8.first", "unicode/utf8.acceptRanges", "internal/bytealg.MaxLen"], apart := false, laid := [("unicode/utf8.acceptRanges", laid_unicode_utf8_acceptRanges), ("unicode/utf8.first", laid_unicode_utf8_first)] }
def LexJoinsSaid : Prop := lexJoinsRow.holds Tryd.pinned (OpenSpec.ofChange lexJoinsSpec)

/-- ITS FALSE NEIGHBOUR: 'it returns false'. Refute it at one input. -/
def lexJoinsWrong : ChangeSpec := { name := "lexJoins", fn := fun _ => fun
  | [d1, d2] => { results := [.lit (.bool false)], args := [d1, d2] }
  | _ => none }
def LexJoinsWrongFalsely : Prop := lexJoinsRow.holds Tryd.pinned (OpenSpec.ofChange lexJoinsWrong)

/-- 'bowdlerlaw10.LexPlaces': WHATEVER THE INPUT: true; the input reads as it did. -/
def lexPlacesSpec : ChangeSpec := { name := "lexPlaces", fn := fun _ => fun
  | [d] => { results := [.lit (.bool true)], args := [d] }
  | _ => none }
def lexPlacesRow : OpenClaim := { program := "ytgjffkblhhkjmaadoor", sum := "9e1fea99d5b76efc9e4d10d0abd6eefda62b54437dfc40240d217608b90bdfcb", func := "bowdler/bowdlerlaw10.LexPlaces", spec := "lexPlaces", inPlace := ["internal/bytealg.IndexByteString", "internal/bytealg.IndexString", "internal/abi.NoEscape", "internal/bytealg.MakeNoZero"], unfollowed := true, recurses := true, named := ["unicode/utf8.first", "unicode/utf8.acceptRanges", "internal/bytealg.MaxLen"], apart := false, laid := [("unicode/utf8.acceptRanges", laid_unicode_utf8_acceptRanges), ("unicode/utf8.first", laid_unicode_utf8_first)] }
def LexPlacesSaid : Prop := lexPlacesRow.holds Tryd.pinned (OpenSpec.ofChange lexPlacesSpec)

/-- ITS FALSE NEIGHBOUR: 'it returns false'. Refute it at one input. -/
def lexPlacesWrong : ChangeSpec := { name := "lexPlaces", fn := fun _ => fun
  | [d] => { results := [.lit (.bool false)], args := [d] }
  | _ => none }
def LexPlacesWrongFalsely : Prop := lexPlacesRow.holds Tryd.pinned (OpenSpec.ofChange lexPlacesWrong)

/-- 'bowdlerlaw10.LexNames': WHATEVER THE INPUT: true; the input reads as it did. -/
def lexNamesSpec : ChangeSpec := { name := "lexNames", fn := fun _ => fun
  | [d1, d2] => { results := [.lit (.bool true)], args := [d1, d2] }
  | _ => none }
def lexNamesRow : OpenClaim := { program := "ytgjffkblhhkjmaadoor", sum := "9e1fea99d5b76efc9e4d10d0abd6eefda62b54437dfc40240d217608b90bdfcb", func := "bowdler/bowdlerlaw10.LexNames", spec := "lexNames", inPlace := ["internal/bytealg.IndexByteString", "internal/bytealg.IndexString", "internal/abi.NoEscape", "internal/bytealg.MakeNoZero"], unfollowed := true, recurses := true, named := ["unicode/utf8.first", "unicode/utf8.acceptRanges", "internal/bytealg.MaxLen"], apart := false, laid := [("unicode/utf8.acceptRanges", laid_unicode_utf8_acceptRanges), ("unicode/utf8.first", laid_unicode_utf8_first)] }
def LexNamesSaid : Prop := lexNamesRow.holds Tryd.pinned (OpenSpec.ofChange lexNamesSpec)

/-- ITS FALSE NEIGHBOUR: 'it returns false'. Refute it at one input. -/
def lexNamesWrong : ChangeSpec := { name := "lexNames", fn := fun _ => fun
  | [d1, d2] => { results := [.lit (.bool false)], args := [d1, d2] }
  | _ => none }
def LexNamesWrongFalsely : Prop := lexNamesRow.holds Tryd.pinned (OpenSpec.ofChange lexNamesWrong)

/-- 'bowdlerlaw10.LexBack': WHATEVER THE INPUT: true; the input reads as it did. -/
def lexBackSpec : ChangeSpec := { name := "lexBack", fn := fun _ => fun
  | [d] => { results := [.lit (.bool true)], args := [d] }
  | _ => none }
def lexBackRow : OpenClaim := { program := "ytgjffkblhhkjmaadoor", sum := "9e1fea99d5b76efc9e4d10d0abd6eefda62b54437dfc40240d217608b90bdfcb", func := "bowdler/bowdlerlaw10.LexBack", spec := "lexBack", inPlace := ["internal/bytealg.IndexByteString", "internal/bytealg.IndexString", "internal/abi.NoEscape", "internal/bytealg.MakeNoZero"], unfollowed := true, recurses := true, named := ["unicode/utf8.first", "unicode/utf8.acceptRanges", "internal/bytealg.MaxLen"], apart := false, laid := [("unicode/utf8.acceptRanges", laid_unicode_utf8_acceptRanges), ("unicode/utf8.first", laid_unicode_utf8_first)] }
def LexBackSaid : Prop := lexBackRow.holds Tryd.pinned (OpenSpec.ofChange lexBackSpec)

/-- ITS FALSE NEIGHBOUR: 'it returns false'. Refute it at one input. -/
def lexBackWrong : ChangeSpec := { name := "lexBack", fn := fun _ => fun
  | [d] => { results := [.lit (.bool false)], args := [d] }
  | _ => none }
def LexBackWrongFalsely : Prop := lexBackRow.holds Tryd.pinned (OpenSpec.ofChange lexBackWrong)

/- THE SECOND FORM. 'bulk': how many values and letters a reading holds, each counted each time it is reached (what is shared counts as often as it is met; a slice's spare places count too). A statement '..UptoSaid' is the law's where the arguments, and the package variables that the reading takes, are together of bulk at most 1048576: NARROWER than '..Said'. Prove '..Said' where nothing that the law and all that it calls make is longer than what came in: it says more and counts as full. Else prove '..UptoSaid'. A law counts once. -/
mutual
def uptoBulk {H : Type} : DataW H → Nat
  | .lit (.string bytes) => bytes.length + 1
  | .lit _ => 1
  | .nil => 1
  | .ptr d => uptoBulk d + 1
  | .slice elems spare => uptoBulkAll elems + uptoBulkAll spare + 1
  | .agg parts => uptoBulkAll parts + 1
  | .iface _ d => uptoBulk d + 1
  | .map entries => uptoBulkEntries entries + 1
  | .held _ => 1
def uptoBulkAll {H : Type} : List (DataW H) → Nat
  | [] => 0
  | d :: r => uptoBulk d + uptoBulkAll r
def uptoBulkEntries {H : Type} : List (Lit × DataW H) → Nat
  | [] => 0
  | x :: r => uptoBulkEntry x + uptoBulkEntries r
def uptoBulkEntry {H : Type} : Lit × DataW H → Nat
  | (.string bytes, d) => bytes.length + uptoBulk d + 1
  | (_, d) => uptoBulk d + 1
 end
def uptoSmall : (H : Type) → List (DataW H) → Bool := fun _ ds => decide (uptoBulkAll ds ≤ 1048576)
def OpenSpec.upto (s : _root_.Go.ChangeSpec) : _root_.Go.OpenSpec := { _root_.Go.OpenSpec.ofChange s with cond := some uptoSmall }

/-- 'bowdlerlaw06.CatsMasks', WHERE WHAT IT READS IS OF BULK AT MOST 1048576: true; the input reads as it did. -/
def catsMasksUptoRow : OpenClaim := { program := "ytgjffkblhhkjmaadoor", sum := "9e1fea99d5b76efc9e4d10d0abd6eefda62b54437dfc40240d217608b90bdfcb", func := "bowdler/bowdlerlaw06.CatsMasks", spec := "catsMasks", inPlace := ["internal/bytealg.CountString", "internal/bytealg.IndexByteString", "internal/bytealg.IndexString", "internal/abi.NoEscape", "internal/bytealg.MakeNoZero"], named := ["unicode/utf8.first", "unicode/utf8.acceptRanges", "internal/bytealg.MaxLen"], apart := false, laid := [("unicode/utf8.acceptRanges", laid_unicode_utf8_acceptRanges), ("unicode/utf8.first", laid_unicode_utf8_first)], narrowed := true }
def CatsMasksUptoSaid : Prop := catsMasksUptoRow.holds Tryd.pinned (OpenSpec.upto catsMasksSpec)

/-- 'bowdlerlaw06.CatsMay', WHERE WHAT IT READS IS OF BULK AT MOST 1048576: true; the input reads as it did. -/
def catsMayUptoRow : OpenClaim := { program := "ytgjffkblhhkjmaadoor", sum := "9e1fea99d5b76efc9e4d10d0abd6eefda62b54437dfc40240d217608b90bdfcb", func := "bowdler/bowdlerlaw06.CatsMay", spec := "catsMay", inPlace := ["internal/bytealg.CountString", "internal/bytealg.IndexByteString", "internal/bytealg.IndexString"], named := ["unicode/utf8.first", "unicode/utf8.acceptRanges", "internal/bytealg.MaxLen"], apart := false, laid := [("unicode/utf8.acceptRanges", laid_unicode_utf8_acceptRanges), ("unicode/utf8.first", laid_unicode_utf8_first)], narrowed := true }
def CatsMayUptoSaid : Prop := catsMayUptoRow.holds Tryd.pinned (OpenSpec.upto catsMaySpec)

/-- 'bowdlerlaw06.CatsWords', WHERE WHAT IT READS IS OF BULK AT MOST 1048576: true; the input reads as it did. -/
def catsWordsUptoRow : OpenClaim := { program := "ytgjffkblhhkjmaadoor", sum := "9e1fea99d5b76efc9e4d10d0abd6eefda62b54437dfc40240d217608b90bdfcb", func := "bowdler/bowdlerlaw06.CatsWords", spec := "catsWords", inPlace := ["internal/bytealg.CountString", "internal/bytealg.IndexByteString", "internal/bytealg.IndexString"], named := ["unicode/utf8.first", "unicode/utf8.acceptRanges", "internal/bytealg.MaxLen"], apart := false, laid := [("unicode/utf8.acceptRanges", laid_unicode_utf8_acceptRanges), ("unicode/utf8.first", laid_unicode_utf8_first)], narrowed := true }
def CatsWordsUptoSaid : Prop := catsWordsUptoRow.holds Tryd.pinned (OpenSpec.upto catsWordsSpec)

/-- 'bowdlerlaw06.CatsBack', WHERE WHAT IT READS IS OF BULK AT MOST 1048576: true; the input reads as it did. -/
def catsBackUptoRow : OpenClaim := { program := "ytgjffkblhhkjmaadoor", sum := "9e1fea99d5b76efc9e4d10d0abd6eefda62b54437dfc40240d217608b90bdfcb", func := "bowdler/bowdlerlaw06.CatsBack", spec := "catsBack", inPlace := ["internal/bytealg.CountString", "internal/bytealg.IndexByteString", "internal/bytealg.IndexString", "internal/abi.NoEscape", "internal/bytealg.MakeNoZero"], named := ["unicode/utf8.first", "unicode/utf8.acceptRanges", "internal/bytealg.MaxLen"], apart := false, laid := [("unicode/utf8.acceptRanges", laid_unicode_utf8_acceptRanges), ("unicode/utf8.first", laid_unicode_utf8_first)], narrowed := true }
def CatsBackUptoSaid : Prop := catsBackUptoRow.holds Tryd.pinned (OpenSpec.upto catsBackSpec)

/-- 'bowdlerlaw06.CatsParts', WHERE WHAT IT READS IS OF BULK AT MOST 1048576: true; the input reads as it did. -/
def catsPartsUptoRow : OpenClaim := { program := "ytgjffkblhhkjmaadoor", sum := "9e1fea99d5b76efc9e4d10d0abd6eefda62b54437dfc40240d217608b90bdfcb", func := "bowdler/bowdlerlaw06.CatsParts", spec := "catsParts", inPlace := ["internal/bytealg.CountString", "internal/bytealg.IndexByteString", "internal/bytealg.IndexString", "internal/abi.NoEscape", "internal/bytealg.MakeNoZero"], named := ["unicode/utf8.first", "unicode/utf8.acceptRanges", "internal/bytealg.MaxLen"], apart := false, laid := [("unicode/utf8.acceptRanges", laid_unicode_utf8_acceptRanges), ("unicode/utf8.first", laid_unicode_utf8_first)], narrowed := true }
def CatsPartsUptoSaid : Prop := catsPartsUptoRow.holds Tryd.pinned (OpenSpec.upto catsPartsSpec)

/-- 'bowdlerlaw10.LexJoins', WHERE WHAT IT READS IS OF BULK AT MOST 1048576: true; the input reads as it did. -/
def lexJoinsUptoRow : OpenClaim := { program := "ytgjffkblhhkjmaadoor", sum := "9e1fea99d5b76efc9e4d10d0abd6eefda62b54437dfc40240d217608b90bdfcb", func := "bowdler/bowdlerlaw10.LexJoins", spec := "lexJoins", inPlace := ["internal/bytealg.IndexByteString", "internal/bytealg.IndexString", "internal/abi.NoEscape", "internal/bytealg.MakeNoZero"], unfollowed := true, recurses := true, named := ["unicode/utf8.first", "unicode/utf8.acceptRanges", "internal/bytealg.MaxLen"], apart := false, laid := [("unicode/utf8.acceptRanges", laid_unicode_utf8_acceptRanges), ("unicode/utf8.first", laid_unicode_utf8_first)], narrowed := true }
def LexJoinsUptoSaid : Prop := lexJoinsUptoRow.holds Tryd.pinned (OpenSpec.upto lexJoinsSpec)

/-- 'bowdlerlaw10.LexPlaces', WHERE WHAT IT READS IS OF BULK AT MOST 1048576: true; the input reads as it did. -/
def lexPlacesUptoRow : OpenClaim := { program := "ytgjffkblhhkjmaadoor", sum := "9e1fea99d5b76efc9e4d10d0abd6eefda62b54437dfc40240d217608b90bdfcb", func := "bowdler/bowdlerlaw10.LexPlaces", spec := "lexPlaces", inPlace := ["internal/bytealg.IndexByteString", "internal/bytealg.IndexString", "internal/abi.NoEscape", "internal/bytealg.MakeNoZero"], unfollowed := true, recurses := true, named := ["unicode/utf8.first", "unicode/utf8.acceptRanges", "internal/bytealg.MaxLen"], apart := false, laid := [("unicode/utf8.acceptRanges", laid_unicode_utf8_acceptRanges), ("unicode/utf8.first", laid_unicode_utf8_first)], narrowed := true }
def LexPlacesUptoSaid : Prop := lexPlacesUptoRow.holds Tryd.pinned (OpenSpec.upto lexPlacesSpec)

/-- 'bowdlerlaw10.LexNames', WHERE WHAT IT READS IS OF BULK AT MOST 1048576: true; the input reads as it did. -/
def lexNamesUptoRow : OpenClaim := { program := "ytgjffkblhhkjmaadoor", sum := "9e1fea99d5b76efc9e4d10d0abd6eefda62b54437dfc40240d217608b90bdfcb", func := "bowdler/bowdlerlaw10.LexNames", spec := "lexNames", inPlace := ["internal/bytealg.IndexByteString", "internal/bytealg.IndexString", "internal/abi.NoEscape", "internal/bytealg.MakeNoZero"], unfollowed := true, recurses := true, named := ["unicode/utf8.first", "unicode/utf8.acceptRanges", "internal/bytealg.MaxLen"], apart := false, laid := [("unicode/utf8.acceptRanges", laid_unicode_utf8_acceptRanges), ("unicode/utf8.first", laid_unicode_utf8_first)], narrowed := true }
def LexNamesUptoSaid : Prop := lexNamesUptoRow.holds Tryd.pinned (OpenSpec.upto lexNamesSpec)

/-- 'bowdlerlaw10.LexBack', WHERE WHAT IT READS IS OF BULK AT MOST 1048576: true; the input reads as it did. -/
def lexBackUptoRow : OpenClaim := { program := "ytgjffkblhhkjmaadoor", sum := "9e1fea99d5b76efc9e4d10d0abd6eefda62b54437dfc40240d217608b90bdfcb", func := "bowdler/bowdlerlaw10.LexBack", spec := "lexBack", inPlace := ["internal/bytealg.IndexByteString", "internal/bytealg.IndexString", "internal/abi.NoEscape", "internal/bytealg.MakeNoZero"], unfollowed := true, recurses := true, named := ["unicode/utf8.first", "unicode/utf8.acceptRanges", "internal/bytealg.MaxLen"], apart := false, laid := [("unicode/utf8.acceptRanges", laid_unicode_utf8_acceptRanges), ("unicode/utf8.first", laid_unicode_utf8_first)], narrowed := true }
def LexBackUptoSaid : Prop := lexBackUptoRow.holds Tryd.pinned (OpenSpec.upto lexBackSpec)

end Rows
end Go.Proofs.YtgjffkblhhkjmaaDoor
