/-
  NARROWER THAN 'FOR EVERY INPUT', by the rows' own cells (each row's printed sentence says how): DecBack: laid · DecPrints: laid · DecWorks: laid · DecParses: laid · DecRules: laid · DecScale: laid · DecInts: laid · DecOrder: laid · DivideDivs: laid · DivideBack: laid · DivideSteps: laid · DivideNear: laid · DivideTurns: laid · DividePows: laid.
  DERIVED. THE GIVEN ROWS OF THIS SEAT. 14 by the template 'for every input the law returns true; each argument reads behind the call as it read before'; 0 by the template 'total and deterministic' (their statements: YtampgimmodomoaaDoorTotals.lean).
  GIVEN WITH THE SEED: the statements are not yours to turn. If you find one false, say at which input.
  Laid BY PROGRAM, IN A SANDBOX (cutbox-rows.mjs): the forced cells as the released guide's own fill.sh prints them over the translation 84fce895e29aaa6b… (all of the seat's roots in one cut). By AI agents, Wed Nov 11 2026. No macro, syntax, notation, axiom, sorry.
-/
import Derived.Test.YtampgimmodomoaaDoorChecked
import GoSem.PinnedTables
import GoSem.Claim
import GoSem.ClaimJoined
import GoSem.ClaimMapViews
import Derived.JoinedTies
import Derived.KernelRfl
namespace Go.Proofs.YtampgimmodomoaaDoor
/- THE CELL 'sum', in the pinned program and in every row, IS THE sha256 OF THE DUMP (.gsa) THAT YtampgimmodomoaaDoorProg.lean LOADS. Nothing in Lean hashes anything: it is a label: what it is worth is what the hold of that sum in a sandbox is worth. -/
noncomputable def Tryd.pinned : Pinned := { name := "ytampgimmodomoaadoor", sum := "84fce895e29aaa6be953254a2e733da1fb060d90899eb53545e9f17bd8dd25f2", checked := Tryd.checked }
namespace Rows
def none {H : Type} : Left H := { results := [], args := [] }

/- WHAT THE LISTED PACKAGE-LEVEL VARIABLES READ AS WHEN THE CALL BEGINS. Each datum BY PROGRAM (the guide's laid-datum.mjs) off the statement by which the dump's own 'gosem.cut.vars' lays the variable. In a bare row this is a premise. The card (YtampgimmodomoaaDoorCards.lean) ties it to the program's text. -/
def laid_unicode_utf8_acceptRanges {H : Type} : DataW H := .agg [.agg [.lit (.int .u8 128), .lit (.int .u8 191)], .agg [.lit (.int .u8 160), .lit (.int .u8 191)], .agg [.lit (.int .u8 128), .lit (.int .u8 159)], .agg [.lit (.int .u8 144), .lit (.int .u8 191)], .agg [.lit (.int .u8 128), .lit (.int .u8 143)], .agg [.lit (.int .u8 0), .lit (.int .u8 0)], .agg [.lit (.int .u8 0), .lit (.int .u8 0)], .agg [.lit (.int .u8 0), .lit (.int .u8 0)], .agg [.lit (.int .u8 0), .lit (.int .u8 0)], .agg [.lit (.int .u8 0), .lit (.int .u8 0)], .agg [.lit (.int .u8 0), .lit (.int .u8 0)], .agg [.lit (.int .u8 0), .lit (.int .u8 0)], .agg [.lit (.int .u8 0), .lit (.int .u8 0)], .agg [.lit (.int .u8 0), .lit (.int .u8 0)], .agg [.lit (.int .u8 0), .lit (.int .u8 0)], .agg [.lit (.int .u8 0), .lit (.int .u8 0)]]
/-- One of Go's own tables, pinned by name: the form's constant. -/
def laid_unicode_utf8_first : DataW Unit := Go.Pinned.utf8First

/-- 'bowdlerlaw01.DecBack': WHATEVER THE INPUT: true; the input reads as it did. -/
def decBackSpec : ChangeSpec := { name := "decBack", fn := fun _ => fun
  | [d1, d2] => { results := [.lit (.bool true)], args := [d1, d2] }
  | _ => none }
def decBackRow : OpenClaim := { program := "ytampgimmodomoaadoor", sum := "84fce895e29aaa6be953254a2e733da1fb060d90899eb53545e9f17bd8dd25f2", func := "bowdler/bowdlerlaw01.DecBack", spec := "decBack", inPlace := ["internal/abi.NoEscape", "internal/bytealg.MakeNoZero", "internal/bytealg.IndexByteString", "internal/bytealg.IndexString"], unfollowed := true, recurses := true, named := ["unicode/utf8.first", "unicode/utf8.acceptRanges", "internal/bytealg.MaxLen"], apart := false, laid := [("unicode/utf8.acceptRanges", laid_unicode_utf8_acceptRanges), ("unicode/utf8.first", laid_unicode_utf8_first)] }
def DecBackSaid : Prop := decBackRow.holds Tryd.pinned (OpenSpec.ofChange decBackSpec)

/-- ITS FALSE NEIGHBOUR: 'it returns false'. Refute it at one input. -/
def decBackWrong : ChangeSpec := { name := "decBack", fn := fun _ => fun
  | [d1, d2] => { results := [.lit (.bool false)], args := [d1, d2] }
  | _ => none }
def DecBackWrongFalsely : Prop := decBackRow.holds Tryd.pinned (OpenSpec.ofChange decBackWrong)

/-- 'bowdlerlaw01.DecPrints': WHATEVER THE INPUT: true; the input reads as it did. -/
def decPrintsSpec : ChangeSpec := { name := "decPrints", fn := fun _ => fun
  | [d1, d2] => { results := [.lit (.bool true)], args := [d1, d2] }
  | _ => none }
def decPrintsRow : OpenClaim := { program := "ytampgimmodomoaadoor", sum := "84fce895e29aaa6be953254a2e733da1fb060d90899eb53545e9f17bd8dd25f2", func := "bowdler/bowdlerlaw01.DecPrints", spec := "decPrints", inPlace := ["internal/abi.NoEscape", "internal/bytealg.MakeNoZero", "internal/bytealg.IndexByteString", "internal/bytealg.IndexString"], unfollowed := true, recurses := true, named := ["unicode/utf8.first", "unicode/utf8.acceptRanges", "internal/bytealg.MaxLen"], apart := false, laid := [("unicode/utf8.acceptRanges", laid_unicode_utf8_acceptRanges), ("unicode/utf8.first", laid_unicode_utf8_first)] }
def DecPrintsSaid : Prop := decPrintsRow.holds Tryd.pinned (OpenSpec.ofChange decPrintsSpec)

/-- ITS FALSE NEIGHBOUR: 'it returns false'. Refute it at one input. -/
def decPrintsWrong : ChangeSpec := { name := "decPrints", fn := fun _ => fun
  | [d1, d2] => { results := [.lit (.bool false)], args := [d1, d2] }
  | _ => none }
def DecPrintsWrongFalsely : Prop := decPrintsRow.holds Tryd.pinned (OpenSpec.ofChange decPrintsWrong)

/-- 'bowdlerlaw01.DecWorks': WHATEVER THE INPUT: true; the input reads as it did. -/
def decWorksSpec : ChangeSpec := { name := "decWorks", fn := fun _ => fun
  | [d1, d2] => { results := [.lit (.bool true)], args := [d1, d2] }
  | _ => none }
def decWorksRow : OpenClaim := { program := "ytampgimmodomoaadoor", sum := "84fce895e29aaa6be953254a2e733da1fb060d90899eb53545e9f17bd8dd25f2", func := "bowdler/bowdlerlaw01.DecWorks", spec := "decWorks", inPlace := ["internal/abi.NoEscape", "internal/bytealg.MakeNoZero", "internal/bytealg.IndexByteString", "internal/bytealg.IndexString"], unfollowed := true, recurses := true, named := ["unicode/utf8.first", "unicode/utf8.acceptRanges", "internal/bytealg.MaxLen"], apart := false, laid := [("unicode/utf8.acceptRanges", laid_unicode_utf8_acceptRanges), ("unicode/utf8.first", laid_unicode_utf8_first)] }
def DecWorksSaid : Prop := decWorksRow.holds Tryd.pinned (OpenSpec.ofChange decWorksSpec)

/-- ITS FALSE NEIGHBOUR: 'it returns false'. Refute it at one input. -/
def decWorksWrong : ChangeSpec := { name := "decWorks", fn := fun _ => fun
  | [d1, d2] => { results := [.lit (.bool false)], args := [d1, d2] }
  | _ => none }
def DecWorksWrongFalsely : Prop := decWorksRow.holds Tryd.pinned (OpenSpec.ofChange decWorksWrong)

/-- 'bowdlerlaw01.DecParses': WHATEVER THE INPUT: true; the input reads as it did. -/
def decParsesSpec : ChangeSpec := { name := "decParses", fn := fun _ => fun
  | [d1, d2, d3] => { results := [.lit (.bool true)], args := [d1, d2, d3] }
  | _ => none }
def decParsesRow : OpenClaim := { program := "ytampgimmodomoaadoor", sum := "84fce895e29aaa6be953254a2e733da1fb060d90899eb53545e9f17bd8dd25f2", func := "bowdler/bowdlerlaw01.DecParses", spec := "decParses", inPlace := ["internal/abi.NoEscape", "internal/bytealg.MakeNoZero", "internal/bytealg.IndexByteString", "internal/bytealg.IndexString"], unfollowed := true, recurses := true, named := ["unicode/utf8.first", "unicode/utf8.acceptRanges", "internal/bytealg.MaxLen"], apart := false, laid := [("unicode/utf8.acceptRanges", laid_unicode_utf8_acceptRanges), ("unicode/utf8.first", laid_unicode_utf8_first)] }
def DecParsesSaid : Prop := decParsesRow.holds Tryd.pinned (OpenSpec.ofChange decParsesSpec)

/-- ITS FALSE NEIGHBOUR: 'it returns false'. Refute it at one input. -/
def decParsesWrong : ChangeSpec := { name := "decParses", fn := fun _ => fun
  | [d1, d2, d3] => { results := [.lit (.bool false)], args := [d1, d2, d3] }
  | _ => none }
def DecParsesWrongFalsely : Prop := decParsesRow.holds Tryd.pinned (OpenSpec.ofChange decParsesWrong)

/-- 'bowdlerlaw01.DecRules': WHATEVER THE INPUT: true; the input reads as it did. -/
def decRulesSpec : ChangeSpec := { name := "decRules", fn := fun _ => fun
  | [d1, d2, d3] => { results := [.lit (.bool true)], args := [d1, d2, d3] }
  | _ => none }
def decRulesRow : OpenClaim := { program := "ytampgimmodomoaadoor", sum := "84fce895e29aaa6be953254a2e733da1fb060d90899eb53545e9f17bd8dd25f2", func := "bowdler/bowdlerlaw01.DecRules", spec := "decRules", inPlace := ["internal/abi.NoEscape", "internal/bytealg.MakeNoZero", "internal/bytealg.IndexByteString", "internal/bytealg.IndexString"], unfollowed := true, recurses := true, named := ["unicode/utf8.first", "unicode/utf8.acceptRanges", "internal/bytealg.MaxLen"], apart := false, laid := [("unicode/utf8.acceptRanges", laid_unicode_utf8_acceptRanges), ("unicode/utf8.first", laid_unicode_utf8_first)] }
def DecRulesSaid : Prop := decRulesRow.holds Tryd.pinned (OpenSpec.ofChange decRulesSpec)

/-- ITS FALSE NEIGHBOUR: 'it returns false'. Refute it at one input. -/
def decRulesWrong : ChangeSpec := { name := "decRules", fn := fun _ => fun
  | [d1, d2, d3] => { results := [.lit (.bool false)], args := [d1, d2, d3] }
  | _ => none }
def DecRulesWrongFalsely : Prop := decRulesRow.holds Tryd.pinned (OpenSpec.ofChange decRulesWrong)

/-- 'bowdlerlaw01.DecScale': WHATEVER THE INPUT: true; the input reads as it did. -/
def decScaleSpec : ChangeSpec := { name := "decScale", fn := fun _ => fun
  | [d1, d2] => { results := [.lit (.bool true)], args := [d1, d2] }
  | _ => none }
def decScaleRow : OpenClaim := { program := "ytampgimmodomoaadoor", sum := "84fce895e29aaa6be953254a2e733da1fb060d90899eb53545e9f17bd8dd25f2", func := "bowdler/bowdlerlaw01.DecScale", spec := "decScale", inPlace := ["internal/abi.NoEscape", "internal/bytealg.MakeNoZero", "internal/bytealg.IndexByteString", "internal/bytealg.IndexString"], unfollowed := true, recurses := true, named := ["unicode/utf8.first", "unicode/utf8.acceptRanges", "internal/bytealg.MaxLen"], apart := false, laid := [("unicode/utf8.acceptRanges", laid_unicode_utf8_acceptRanges), ("unicode/utf8.first", laid_unicode_utf8_first)] }
def DecScaleSaid : Prop := decScaleRow.holds Tryd.pinned (OpenSpec.ofChange decScaleSpec)

/-- ITS FALSE NEIGHBOUR: 'it returns false'. Refute it at one input. -/
def decScaleWrong : ChangeSpec := { name := "decScale", fn := fun _ => fun
  | [d1, d2] => { results := [.lit (.bool false)], args := [d1, d2] }
  | _ => none }
def DecScaleWrongFalsely : Prop := decScaleRow.holds Tryd.pinned (OpenSpec.ofChange decScaleWrong)

/-- 'bowdlerlaw01.DecInts': WHATEVER THE INPUT: true; the input reads as it did. -/
def decIntsSpec : ChangeSpec := { name := "decInts", fn := fun _ => fun
  | [d1, d2, d3] => { results := [.lit (.bool true)], args := [d1, d2, d3] }
  | _ => none }
def decIntsRow : OpenClaim := { program := "ytampgimmodomoaadoor", sum := "84fce895e29aaa6be953254a2e733da1fb060d90899eb53545e9f17bd8dd25f2", func := "bowdler/bowdlerlaw01.DecInts", spec := "decInts", inPlace := ["internal/abi.NoEscape", "internal/bytealg.MakeNoZero", "internal/bytealg.IndexByteString", "internal/bytealg.IndexString"], unfollowed := true, recurses := true, named := ["unicode/utf8.first", "unicode/utf8.acceptRanges", "internal/bytealg.MaxLen"], apart := false, laid := [("unicode/utf8.acceptRanges", laid_unicode_utf8_acceptRanges), ("unicode/utf8.first", laid_unicode_utf8_first)] }
def DecIntsSaid : Prop := decIntsRow.holds Tryd.pinned (OpenSpec.ofChange decIntsSpec)

/-- ITS FALSE NEIGHBOUR: 'it returns false'. Refute it at one input. -/
def decIntsWrong : ChangeSpec := { name := "decInts", fn := fun _ => fun
  | [d1, d2, d3] => { results := [.lit (.bool false)], args := [d1, d2, d3] }
  | _ => none }
def DecIntsWrongFalsely : Prop := decIntsRow.holds Tryd.pinned (OpenSpec.ofChange decIntsWrong)

/-- 'bowdlerlaw01.DecOrder': WHATEVER THE INPUT: true; the input reads as it did. -/
def decOrderSpec : ChangeSpec := { name := "decOrder", fn := fun _ => fun
  | [d1, d2, d3] => { results := [.lit (.bool true)], args := [d1, d2, d3] }
  | _ => none }
def decOrderRow : OpenClaim := { program := "ytampgimmodomoaadoor", sum := "84fce895e29aaa6be953254a2e733da1fb060d90899eb53545e9f17bd8dd25f2", func := "bowdler/bowdlerlaw01.DecOrder", spec := "decOrder", inPlace := ["internal/abi.NoEscape", "internal/bytealg.MakeNoZero", "internal/bytealg.IndexByteString", "internal/bytealg.IndexString"], unfollowed := true, recurses := true, named := ["unicode/utf8.first", "unicode/utf8.acceptRanges", "internal/bytealg.MaxLen"], apart := false, laid := [("unicode/utf8.acceptRanges", laid_unicode_utf8_acceptRanges), ("unicode/utf8.first", laid_unicode_utf8_first)] }
def DecOrderSaid : Prop := decOrderRow.holds Tryd.pinned (OpenSpec.ofChange decOrderSpec)

/-- ITS FALSE NEIGHBOUR: 'it returns false'. Refute it at one input. -/
def decOrderWrong : ChangeSpec := { name := "decOrder", fn := fun _ => fun
  | [d1, d2, d3] => { results := [.lit (.bool false)], args := [d1, d2, d3] }
  | _ => none }
def DecOrderWrongFalsely : Prop := decOrderRow.holds Tryd.pinned (OpenSpec.ofChange decOrderWrong)

/-- 'bowdlerlaw02.DivideDivs': WHATEVER THE INPUT: true; the input reads as it did. -/
def divideDivsSpec : ChangeSpec := { name := "divideDivs", fn := fun _ => fun
  | [d1, d2] => { results := [.lit (.bool true)], args := [d1, d2] }
  | _ => none }
def divideDivsRow : OpenClaim := { program := "ytampgimmodomoaadoor", sum := "84fce895e29aaa6be953254a2e733da1fb060d90899eb53545e9f17bd8dd25f2", func := "bowdler/bowdlerlaw02.DivideDivs", spec := "divideDivs", inPlace := ["internal/bytealg.IndexByteString", "internal/bytealg.IndexString", "internal/abi.NoEscape", "internal/bytealg.MakeNoZero"], unfollowed := true, recurses := true, named := ["unicode/utf8.first", "unicode/utf8.acceptRanges", "internal/bytealg.MaxLen"], apart := false, laid := [("unicode/utf8.acceptRanges", laid_unicode_utf8_acceptRanges), ("unicode/utf8.first", laid_unicode_utf8_first)] }
def DivideDivsSaid : Prop := divideDivsRow.holds Tryd.pinned (OpenSpec.ofChange divideDivsSpec)

/-- ITS FALSE NEIGHBOUR: 'it returns false'. Refute it at one input. -/
def divideDivsWrong : ChangeSpec := { name := "divideDivs", fn := fun _ => fun
  | [d1, d2] => { results := [.lit (.bool false)], args := [d1, d2] }
  | _ => none }
def DivideDivsWrongFalsely : Prop := divideDivsRow.holds Tryd.pinned (OpenSpec.ofChange divideDivsWrong)

/-- 'bowdlerlaw02.DivideBack': WHATEVER THE INPUT: true; the input reads as it did. -/
def divideBackSpec : ChangeSpec := { name := "divideBack", fn := fun _ => fun
  | [d1, d2] => { results := [.lit (.bool true)], args := [d1, d2] }
  | _ => none }
def divideBackRow : OpenClaim := { program := "ytampgimmodomoaadoor", sum := "84fce895e29aaa6be953254a2e733da1fb060d90899eb53545e9f17bd8dd25f2", func := "bowdler/bowdlerlaw02.DivideBack", spec := "divideBack", inPlace := ["internal/bytealg.IndexByteString", "internal/bytealg.IndexString", "internal/abi.NoEscape", "internal/bytealg.MakeNoZero"], unfollowed := true, recurses := true, named := ["unicode/utf8.first", "unicode/utf8.acceptRanges", "internal/bytealg.MaxLen"], apart := false, laid := [("unicode/utf8.acceptRanges", laid_unicode_utf8_acceptRanges), ("unicode/utf8.first", laid_unicode_utf8_first)] }
def DivideBackSaid : Prop := divideBackRow.holds Tryd.pinned (OpenSpec.ofChange divideBackSpec)

/-- ITS FALSE NEIGHBOUR: 'it returns false'. Refute it at one input. -/
def divideBackWrong : ChangeSpec := { name := "divideBack", fn := fun _ => fun
  | [d1, d2] => { results := [.lit (.bool false)], args := [d1, d2] }
  | _ => none }
def DivideBackWrongFalsely : Prop := divideBackRow.holds Tryd.pinned (OpenSpec.ofChange divideBackWrong)

/-- 'bowdlerlaw02.DivideSteps': WHATEVER THE INPUT: true; the input reads as it did. -/
def divideStepsSpec : ChangeSpec := { name := "divideSteps", fn := fun _ => fun
  | [d1, d2, d3] => { results := [.lit (.bool true)], args := [d1, d2, d3] }
  | _ => none }
def divideStepsRow : OpenClaim := { program := "ytampgimmodomoaadoor", sum := "84fce895e29aaa6be953254a2e733da1fb060d90899eb53545e9f17bd8dd25f2", func := "bowdler/bowdlerlaw02.DivideSteps", spec := "divideSteps", inPlace := ["internal/bytealg.IndexByteString", "internal/bytealg.IndexString", "internal/abi.NoEscape", "internal/bytealg.MakeNoZero"], unfollowed := true, recurses := true, named := ["unicode/utf8.first", "unicode/utf8.acceptRanges", "internal/bytealg.MaxLen"], apart := false, laid := [("unicode/utf8.acceptRanges", laid_unicode_utf8_acceptRanges), ("unicode/utf8.first", laid_unicode_utf8_first)] }
def DivideStepsSaid : Prop := divideStepsRow.holds Tryd.pinned (OpenSpec.ofChange divideStepsSpec)

/-- ITS FALSE NEIGHBOUR: 'it returns false'. Refute it at one input. -/
def divideStepsWrong : ChangeSpec := { name := "divideSteps", fn := fun _ => fun
  | [d1, d2, d3] => { results := [.lit (.bool false)], args := [d1, d2, d3] }
  | _ => none }
def DivideStepsWrongFalsely : Prop := divideStepsRow.holds Tryd.pinned (OpenSpec.ofChange divideStepsWrong)

/-- 'bowdlerlaw02.DivideNear': WHATEVER THE INPUT: true; the input reads as it did. -/
def divideNearSpec : ChangeSpec := { name := "divideNear", fn := fun _ => fun
  | [d] => { results := [.lit (.bool true)], args := [d] }
  | _ => none }
def divideNearRow : OpenClaim := { program := "ytampgimmodomoaadoor", sum := "84fce895e29aaa6be953254a2e733da1fb060d90899eb53545e9f17bd8dd25f2", func := "bowdler/bowdlerlaw02.DivideNear", spec := "divideNear", inPlace := ["internal/bytealg.IndexByteString", "internal/bytealg.IndexString", "internal/abi.NoEscape", "internal/bytealg.MakeNoZero"], unfollowed := true, recurses := true, named := ["unicode/utf8.first", "unicode/utf8.acceptRanges", "internal/bytealg.MaxLen"], apart := false, laid := [("unicode/utf8.acceptRanges", laid_unicode_utf8_acceptRanges), ("unicode/utf8.first", laid_unicode_utf8_first)] }
def DivideNearSaid : Prop := divideNearRow.holds Tryd.pinned (OpenSpec.ofChange divideNearSpec)

/-- ITS FALSE NEIGHBOUR: 'it returns false'. Refute it at one input. -/
def divideNearWrong : ChangeSpec := { name := "divideNear", fn := fun _ => fun
  | [d] => { results := [.lit (.bool false)], args := [d] }
  | _ => none }
def DivideNearWrongFalsely : Prop := divideNearRow.holds Tryd.pinned (OpenSpec.ofChange divideNearWrong)

/-- 'bowdlerlaw02.DivideTurns': WHATEVER THE INPUT: true; the input reads as it did. -/
def divideTurnsSpec : ChangeSpec := { name := "divideTurns", fn := fun _ => fun
  | [d1, d2] => { results := [.lit (.bool true)], args := [d1, d2] }
  | _ => none }
def divideTurnsRow : OpenClaim := { program := "ytampgimmodomoaadoor", sum := "84fce895e29aaa6be953254a2e733da1fb060d90899eb53545e9f17bd8dd25f2", func := "bowdler/bowdlerlaw02.DivideTurns", spec := "divideTurns", inPlace := ["internal/bytealg.IndexByteString", "internal/bytealg.IndexString", "internal/abi.NoEscape", "internal/bytealg.MakeNoZero"], unfollowed := true, recurses := true, named := ["unicode/utf8.first", "unicode/utf8.acceptRanges", "internal/bytealg.MaxLen"], apart := false, laid := [("unicode/utf8.acceptRanges", laid_unicode_utf8_acceptRanges), ("unicode/utf8.first", laid_unicode_utf8_first)] }
def DivideTurnsSaid : Prop := divideTurnsRow.holds Tryd.pinned (OpenSpec.ofChange divideTurnsSpec)

/-- ITS FALSE NEIGHBOUR: 'it returns false'. Refute it at one input. -/
def divideTurnsWrong : ChangeSpec := { name := "divideTurns", fn := fun _ => fun
  | [d1, d2] => { results := [.lit (.bool false)], args := [d1, d2] }
  | _ => none }
def DivideTurnsWrongFalsely : Prop := divideTurnsRow.holds Tryd.pinned (OpenSpec.ofChange divideTurnsWrong)

/-- 'bowdlerlaw02.DividePows': WHATEVER THE INPUT: true; the input reads as it did. -/
def dividePowsSpec : ChangeSpec := { name := "dividePows", fn := fun _ => fun
  | [d1, d2] => { results := [.lit (.bool true)], args := [d1, d2] }
  | _ => none }
def dividePowsRow : OpenClaim := { program := "ytampgimmodomoaadoor", sum := "84fce895e29aaa6be953254a2e733da1fb060d90899eb53545e9f17bd8dd25f2", func := "bowdler/bowdlerlaw02.DividePows", spec := "dividePows", inPlace := ["internal/bytealg.IndexByteString", "internal/bytealg.IndexString", "internal/abi.NoEscape", "internal/bytealg.MakeNoZero"], unfollowed := true, recurses := true, named := ["unicode/utf8.first", "unicode/utf8.acceptRanges", "internal/bytealg.MaxLen"], apart := false, laid := [("unicode/utf8.acceptRanges", laid_unicode_utf8_acceptRanges), ("unicode/utf8.first", laid_unicode_utf8_first)] }
def DividePowsSaid : Prop := dividePowsRow.holds Tryd.pinned (OpenSpec.ofChange dividePowsSpec)

/-- ITS FALSE NEIGHBOUR: 'it returns false'. Refute it at one input. -/
def dividePowsWrong : ChangeSpec := { name := "dividePows", fn := fun _ => fun
  | [d1, d2] => { results := [.lit (.bool false)], args := [d1, d2] }
  | _ => none }
def DividePowsWrongFalsely : Prop := dividePowsRow.holds Tryd.pinned (OpenSpec.ofChange dividePowsWrong)

/- THE SECOND FORM. 'bulk': how many values and letters a reading holds, each counted each time it is reached (what is shared counts as often as it is met; a slice's spare places count too). A statement '..UptoSaid' is the law's where the arguments, and the package variables that the reading takes, are together of bulk at most 1048576: NARROWER than '..Said'. Prove '..Said' where nothing that the law and all that it calls make is longer than what came in: it says more and counts as full. Else prove '..UptoSaid'. A law counts once. -/
mutual
def uptoBulk {H : Type} : DataW H → Nat
  | .lit (.string bytes) => bytes.length + 1
  | .lit _ => 1
  | .nil => 1
  | .ptr d => uptoBulk d + 1
  | .slice elems spare => uptoBulkAll elems + uptoBulkAll spare + 1
  | .agg parts => uptoBulkAll parts + 1
  | .iface _ d => uptoBulk d + 1
  | .map entries => uptoBulkEntries entries + 1
  | .held _ => 1
def uptoBulkAll {H : Type} : List (DataW H) → Nat
  | [] => 0
  | d :: r => uptoBulk d + uptoBulkAll r
def uptoBulkEntries {H : Type} : List (Lit × DataW H) → Nat
  | [] => 0
  | x :: r => uptoBulkEntry x + uptoBulkEntries r
def uptoBulkEntry {H : Type} : Lit × DataW H → Nat
  | (.string bytes, d) => bytes.length + uptoBulk d + 1
  | (_, d) => uptoBulk d + 1
 end
def uptoSmall : (H : Type) → List (DataW H) → Bool := fun _ ds => decide (uptoBulkAll ds ≤ 1048576)
def OpenSpec.upto (s : _root_.Go.ChangeSpec) : _root_.Go.OpenSpec := { _root_.Go.OpenSpec.ofChange s with cond := some uptoSmall }

/-- 'bowdlerlaw01.DecBack', WHERE WHAT IT READS IS OF BULK AT MOST 1048576: true; the input reads as it did. -/
def decBackUptoRow : OpenClaim := { program := "ytampgimmodomoaadoor", sum := "84fce895e29aaa6be953254a2e733da1fb060d90899eb53545e9f17bd8dd25f2", func := "bowdler/bowdlerlaw01.DecBack", spec := "decBack", inPlace := ["internal/abi.NoEscape", "internal/bytealg.MakeNoZero", "internal/bytealg.IndexByteString", "internal/bytealg.IndexString"], unfollowed := true, recurses := true, named := ["unicode/utf8.first", "unicode/utf8.acceptRanges", "internal/bytealg.MaxLen"], apart := false, laid := [("unicode/utf8.acceptRanges", laid_unicode_utf8_acceptRanges), ("unicode/utf8.first", laid_unicode_utf8_first)], narrowed := true }
def DecBackUptoSaid : Prop := decBackUptoRow.holds Tryd.pinned (OpenSpec.upto decBackSpec)

/-- 'bowdlerlaw01.DecPrints', WHERE WHAT IT READS IS OF BULK AT MOST 1048576: true; the input reads as it did. -/
def decPrintsUptoRow : OpenClaim := { program := "ytampgimmodomoaadoor", sum := "84fce895e29aaa6be953254a2e733da1fb060d90899eb53545e9f17bd8dd25f2", func := "bowdler/bowdlerlaw01.DecPrints", spec := "decPrints", inPlace := ["internal/abi.NoEscape", "internal/bytealg.MakeNoZero", "internal/bytealg.IndexByteString", "internal/bytealg.IndexString"], unfollowed := true, recurses := true, named := ["unicode/utf8.first", "unicode/utf8.acceptRanges", "internal/bytealg.MaxLen"], apart := false, laid := [("unicode/utf8.acceptRanges", laid_unicode_utf8_acceptRanges), ("unicode/utf8.first", laid_unicode_utf8_first)], narrowed := true }
def DecPrintsUptoSaid : Prop := decPrintsUptoRow.holds Tryd.pinned (OpenSpec.upto decPrintsSpec)

/-- 'bowdlerlaw01.DecWorks', WHERE WHAT IT READS IS OF BULK AT MOST 1048576: true; the input reads as it did. -/
def decWorksUptoRow : OpenClaim := { program := "ytampgimmodomoaadoor", sum := "84fce895e29aaa6be953254a2e733da1fb060d90899eb53545e9f17bd8dd25f2", func := "bowdler/bowdlerlaw01.DecWorks", spec := "decWorks", inPlace := ["internal/abi.NoEscape", "internal/bytealg.MakeNoZero", "internal/bytealg.IndexByteString", "internal/bytealg.IndexString"], unfollowed := true, recurses := true, named := ["unicode/utf8.first", "unicode/utf8.acceptRanges", "internal/bytealg.MaxLen"], apart := false, laid := [("unicode/utf8.acceptRanges", laid_unicode_utf8_acceptRanges), ("unicode/utf8.first", laid_unicode_utf8_first)], narrowed := true }
def DecWorksUptoSaid : Prop := decWorksUptoRow.holds Tryd.pinned (OpenSpec.upto decWorksSpec)

/-- 'bowdlerlaw01.DecParses', WHERE WHAT IT READS IS OF BULK AT MOST 1048576: true; the input reads as it did. -/
def decParsesUptoRow : OpenClaim := { program := "ytampgimmodomoaadoor", sum := "84fce895e29aaa6be953254a2e733da1fb060d90899eb53545e9f17bd8dd25f2", func := "bowdler/bowdlerlaw01.DecParses", spec := "decParses", inPlace := ["internal/abi.NoEscape", "internal/bytealg.MakeNoZero", "internal/bytealg.IndexByteString", "internal/bytealg.IndexString"], unfollowed := true, recurses := true, named := ["unicode/utf8.first", "unicode/utf8.acceptRanges", "internal/bytealg.MaxLen"], apart := false, laid := [("unicode/utf8.acceptRanges", laid_unicode_utf8_acceptRanges), ("unicode/utf8.first", laid_unicode_utf8_first)], narrowed := true }
def DecParsesUptoSaid : Prop := decParsesUptoRow.holds Tryd.pinned (OpenSpec.upto decParsesSpec)

/-- 'bowdlerlaw01.DecRules', WHERE WHAT IT READS IS OF BULK AT MOST 1048576: true; the input reads as it did. -/
def decRulesUptoRow : OpenClaim := { program := "ytampgimmodomoaadoor", sum := "84fce895e29aaa6be953254a2e733da1fb060d90899eb53545e9f17bd8dd25f2", func := "bowdler/bowdlerlaw01.DecRules", spec := "decRules", inPlace := ["internal/abi.NoEscape", "internal/bytealg.MakeNoZero", "internal/bytealg.IndexByteString", "internal/bytealg.IndexString"], unfollowed := true, recurses := true, named := ["unicode/utf8.first", "unicode/utf8.acceptRanges", "internal/bytealg.MaxLen"], apart := false, laid := [("unicode/utf8.acceptRanges", laid_unicode_utf8_acceptRanges), ("unicode/utf8.first", laid_unicode_utf8_first)], narrowed := true }
def DecRulesUptoSaid : Prop := decRulesUptoRow.holds Tryd.pinned (OpenSpec.upto decRulesSpec)

/-- 'bowdlerlaw01.DecScale', WHERE WHAT IT READS IS OF BULK AT MOST 1048576: true; the input reads as it did. -/
def decScaleUptoRow : OpenClaim := { program := "ytampgimmodomoaadoor", sum := "84fce895e29aaa6be953254a2e733da1fb060d90899eb53545e9f17bd8dd25f2", func := "bowdler/bowdlerlaw01.DecScale", spec := "decScale", inPlace := ["internal/abi.NoEscape", "internal/bytealg.MakeNoZero", "internal/bytealg.IndexByteString", "internal/bytealg.IndexString"], unfollowed := true, recurses := true, named := ["unicode/utf8.first", "unicode/utf8.acceptRanges", "internal/bytealg.MaxLen"], apart := false, laid := [("unicode/utf8.acceptRanges", laid_unicode_utf8_acceptRanges), ("unicode/utf8.first", laid_unicode_utf8_first)], narrowed := true }
def DecScaleUptoSaid : Prop := decScaleUptoRow.holds Tryd.pinned (OpenSpec.upto decScaleSpec)

/-- 'bowdlerlaw01.DecInts', WHERE WHAT IT READS IS OF BULK AT MOST 1048576: true; the input reads as it did. -/
def decIntsUptoRow : OpenClaim := { program := "ytampgimmodomoaadoor", sum := "84fce895e29aaa6be953254a2e733da1fb060d90899eb53545e9f17bd8dd25f2", func := "bowdler/bowdlerlaw01.DecInts", spec := "decInts", inPlace := ["internal/abi.NoEscape", "internal/bytealg.MakeNoZero", "internal/bytealg.IndexByteString", "internal/bytealg.IndexString"], unfollowed := true, recurses := true, named := ["unicode/utf8.first", "unicode/utf8.acceptRanges", "internal/bytealg.MaxLen"], apart := false, laid := [("unicode/utf8.acceptRanges", laid_unicode_utf8_acceptRanges), ("unicode/utf8.first", laid_unicode_utf8_first)], narrowed := true }
def DecIntsUptoSaid : Prop := decIntsUptoRow.holds Tryd.pinned (OpenSpec.upto decIntsSpec)

/-- 'bowdlerlaw01.DecOrder', WHERE WHAT IT READS IS OF BULK AT MOST 1048576: true; the input reads as it did. -/
def decOrderUptoRow : OpenClaim := { program := "ytampgimmodomoaadoor", sum := "84fce895e29aaa6be953254a2e733da1fb060d90899eb53545e9f17bd8dd25f2", func := "bowdler/bowdlerlaw01.DecOrder", spec := "decOrder", inPlace := ["internal/abi.NoEscape", "internal/bytealg.MakeNoZero", "internal/bytealg.IndexByteString", "internal/bytealg.IndexString"], unfollowed := true, recurses := true, named := ["unicode/utf8.first", "unicode/utf8.acceptRanges", "internal/bytealg.MaxLen"], apart := false, laid := [("unicode/utf8.acceptRanges", laid_unicode_utf8_acceptRanges), ("unicode/utf8.first", laid_unicode_utf8_first)], narrowed := true }
def DecOrderUptoSaid : Prop := decOrderUptoRow.holds Tryd.pinned (OpenSpec.upto decOrderSpec)

/-- 'bowdlerlaw02.DivideDivs', WHERE WHAT IT READS IS OF BULK AT MOST 1048576: true; the input reads as it did. -/
def divideDivsUptoRow : OpenClaim := { program := "ytampgimmodomoaadoor", sum := "84fce895e29aaa6be953254a2e733da1fb060d90899eb53545e9f17bd8dd25f2", func := "bowdler/bowdlerlaw02.DivideDivs", spec := "divideDivs", inPlace := ["internal/bytealg.IndexByteString", "internal/bytealg.IndexString", "internal/abi.NoEscape", "internal/bytealg.MakeNoZero"], unfollowed := true, recurses := true, named := ["unicode/utf8.first", "unicode/utf8.acceptRanges", "internal/bytealg.MaxLen"], apart := false, laid := [("unicode/utf8.acceptRanges", laid_unicode_utf8_acceptRanges), ("unicode/utf8.first", laid_unicode_utf8_first)], narrowed := true }
def DivideDivsUptoSaid : Prop := divideDivsUptoRow.holds Tryd.pinned (OpenSpec.upto divideDivsSpec)

/-- 'bowdlerlaw02.DivideBack', WHERE WHAT IT READS IS OF BULK AT MOST 1048576: true; the input reads as it did. -/
def divideBackUptoRow : OpenClaim := { program := "ytampgimmodomoaadoor", sum := "84fce895e29aaa6be953254a2e733da1fb060d90899eb53545e9f17bd8dd25f2", func := "bowdler/bowdlerlaw02.DivideBack", spec := "divideBack", inPlace := ["internal/bytealg.IndexByteString", "internal/bytealg.IndexString", "internal/abi.NoEscape", "internal/bytealg.MakeNoZero"], unfollowed := true, recurses := true, named := ["unicode/utf8.first", "unicode/utf8.acceptRanges", "internal/bytealg.MaxLen"], apart := false, laid := [("unicode/utf8.acceptRanges", laid_unicode_utf8_acceptRanges), ("unicode/utf8.first", laid_unicode_utf8_first)], narrowed := true }
def DivideBackUptoSaid : Prop := divideBackUptoRow.holds Tryd.pinned (OpenSpec.upto divideBackSpec)

/-- 'bowdlerlaw02.DivideSteps', WHERE WHAT IT READS IS OF BULK AT MOST 1048576: true; the input reads as it did. -/
def divideStepsUptoRow : OpenClaim := { program := "ytampgimmodomoaadoor", sum := "84fce895e29aaa6be953254a2e733da1fb060d90899eb53545e9f17bd8dd25f2", func := "bowdler/bowdlerlaw02.DivideSteps", spec := "divideSteps", inPlace := ["internal/bytealg.IndexByteString", "internal/bytealg.IndexString", "internal/abi.NoEscape", "internal/bytealg.MakeNoZero"], unfollowed := true, recurses := true, named := ["unicode/utf8.first", "unicode/utf8.acceptRanges", "internal/bytealg.MaxLen"], apart := false, laid := [("unicode/utf8.acceptRanges", laid_unicode_utf8_acceptRanges), ("unicode/utf8.first", laid_unicode_utf8_first)], narrowed := true }
def DivideStepsUptoSaid : Prop := divideStepsUptoRow.holds Tryd.pinned (OpenSpec.upto divideStepsSpec)

/-- 'bowdlerlaw02.DivideNear', WHERE WHAT IT READS IS OF BULK AT MOST 1048576: true; the input reads as it did. -/
def divideNearUptoRow : OpenClaim := { program := "ytampgimmodomoaadoor", sum := "84fce895e29aaa6be953254a2e733da1fb060d90899eb53545e9f17bd8dd25f2", func := "bowdler/bowdlerlaw02.DivideNear", spec := "divideNear", inPlace := ["internal/bytealg.IndexByteString", "internal/bytealg.IndexString", "internal/abi.NoEscape", "internal/bytealg.MakeNoZero"], unfollowed := true, recurses := true, named := ["unicode/utf8.first", "unicode/utf8.acceptRanges", "internal/bytealg.MaxLen"], apart := false, laid := [("unicode/utf8.acceptRanges", laid_unicode_utf8_acceptRanges), ("unicode/utf8.first", laid_unicode_utf8_first)], narrowed := true }
def DivideNearUptoSaid : Prop := divideNearUptoRow.holds Tryd.pinned (OpenSpec.upto divideNearSpec)

/-- 'bowdlerlaw02.DivideTurns', WHERE WHAT IT READS IS OF BULK AT MOST 1048576: true; the input reads as it did. -/
def divideTurnsUptoRow : OpenClaim := { program := "ytampgimmodomoaadoor", sum := "84fce895e29aaa6be953254a2e733da1fb060d90899eb53545e9f17bd8dd25f2", func := "bowdler/bowdlerlaw02.DivideTurns", spec := "divideTurns", inPlace := ["internal/bytealg.IndexByteString", "internal/bytealg.IndexString", "internal/abi.NoEscape", "internal/bytealg.MakeNoZero"], unfollowed := true, recurses := true, named := ["unicode/utf8.first", "unicode/utf8.acceptRanges", "internal/bytealg.MaxLen"], apart := false, laid := [("unicode/utf8.acceptRanges", laid_unicode_utf8_acceptRanges), ("unicode/utf8.first", laid_unicode_utf8_first)], narrowed := true }
def DivideTurnsUptoSaid : Prop := divideTurnsUptoRow.holds Tryd.pinned (OpenSpec.upto divideTurnsSpec)

/-- 'bowdlerlaw02.DividePows', WHERE WHAT IT READS IS OF BULK AT MOST 1048576: true; the input reads as it did. -/
def dividePowsUptoRow : OpenClaim := { program := "ytampgimmodomoaadoor", sum := "84fce895e29aaa6be953254a2e733da1fb060d90899eb53545e9f17bd8dd25f2", func := "bowdler/bowdlerlaw02.DividePows", spec := "dividePows", inPlace := ["internal/bytealg.IndexByteString", "internal/bytealg.IndexString", "internal/abi.NoEscape", "internal/bytealg.MakeNoZero"], unfollowed := true, recurses := true, named := ["unicode/utf8.first", "unicode/utf8.acceptRanges", "internal/bytealg.MaxLen"], apart := false, laid := [("unicode/utf8.acceptRanges", laid_unicode_utf8_acceptRanges), ("unicode/utf8.first", laid_unicode_utf8_first)], narrowed := true }
def DividePowsUptoSaid : Prop := dividePowsUptoRow.holds Tryd.pinned (OpenSpec.upto dividePowsSpec)

end Rows
end Go.Proofs.YtampgimmodomoaaDoor
