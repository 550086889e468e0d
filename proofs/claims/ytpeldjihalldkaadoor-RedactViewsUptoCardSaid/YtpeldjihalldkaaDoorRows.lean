/-
  NARROWER THAN 'FOR EVERY INPUT', by the rows' own cells (each row's printed sentence says how): RedactShows: laid · RedactHoles: laid · RedactAlike: laid · RedactTidy: laid · RedactMore: laid · RedactViews: laid · RedactSwap: laid · RedactNone: laid.
  DERIVED. THE GIVEN ROWS OF THIS SEAT. 8 by the template 'for every input the law returns true; each argument reads behind the call as it read before'; 0 by the template 'total and deterministic' (their statements: YtpeldjihalldkaaDoorTotals.lean).
  GIVEN WITH THE SEED: the statements are not yours to turn. If you find one false, say at which input.
  Laid BY PROGRAM, IN A SANDBOX (cutbox-rows.mjs): the forced cells as the released guide's own fill.sh prints them over the translation a0872a4e6fe51cd8… (all of the seat's roots in one cut). By AI agents, Wed Nov 11 2026. No macro, syntax, notation, axiom, sorry.
-/
import Derived.Test.YtpeldjihalldkaaDoorChecked
import GoSem.Claim
import GoSem.ClaimJoined
import GoSem.ClaimMapViews
import Derived.JoinedTies
import Derived.KernelRfl
namespace Go.Proofs.YtpeldjihalldkaaDoor
/- THE CELL 'sum', in the pinned program and in every row, IS THE sha256 OF THE DUMP (.gsa) THAT YtpeldjihalldkaaDoorProg.lean LOADS. Nothing in Lean hashes anything: it is a label: what it is worth is what the hold of that sum in a sandbox is worth. -/
noncomputable def Tryd.pinned : Pinned := { name := "ytpeldjihalldkaadoor", sum := "a0872a4e6fe51cd867e4ce040b14d30f1d05797ce90d539e8cbd7cafe48eb0d1", checked := Tryd.checked }
namespace Rows
def none {H : Type} : Left H := { results := [], args := [] }

/- WHAT THE LISTED PACKAGE-LEVEL VARIABLES READ AS WHEN THE CALL BEGINS. Each datum BY PROGRAM (the guide's laid-datum.mjs) off the statement by which the dump's own 'gosem.cut.vars' lays the variable. In a bare row this is a premise. The card (YtpeldjihalldkaaDoorCards.lean) ties it to the program's text. -/
def laid_math_bits_deBruijn32tab {H : Type} : DataW H := .agg [.lit (.int .u8 0), .lit (.int .u8 1), .lit (.int .u8 28), .lit (.int .u8 2), .lit (.int .u8 29), .lit (.int .u8 14), .lit (.int .u8 24), .lit (.int .u8 3), .lit (.int .u8 30), .lit (.int .u8 22), .lit (.int .u8 20), .lit (.int .u8 15), .lit (.int .u8 25), .lit (.int .u8 17), .lit (.int .u8 4), .lit (.int .u8 8), .lit (.int .u8 31), .lit (.int .u8 27), .lit (.int .u8 13), .lit (.int .u8 23), .lit (.int .u8 21), .lit (.int .u8 19), .lit (.int .u8 16), .lit (.int .u8 7), .lit (.int .u8 26), .lit (.int .u8 12), .lit (.int .u8 18), .lit (.int .u8 6), .lit (.int .u8 11), .lit (.int .u8 5), .lit (.int .u8 10), .lit (.int .u8 9)]
def laid_math_bits_deBruijn64tab {H : Type} : DataW H := .agg [.lit (.int .u8 0), .lit (.int .u8 1), .lit (.int .u8 56), .lit (.int .u8 2), .lit (.int .u8 57), .lit (.int .u8 49), .lit (.int .u8 28), .lit (.int .u8 3), .lit (.int .u8 61), .lit (.int .u8 58), .lit (.int .u8 42), .lit (.int .u8 50), .lit (.int .u8 38), .lit (.int .u8 29), .lit (.int .u8 17), .lit (.int .u8 4), .lit (.int .u8 62), .lit (.int .u8 47), .lit (.int .u8 59), .lit (.int .u8 36), .lit (.int .u8 45), .lit (.int .u8 43), .lit (.int .u8 51), .lit (.int .u8 22), .lit (.int .u8 53), .lit (.int .u8 39), .lit (.int .u8 33), .lit (.int .u8 30), .lit (.int .u8 24), .lit (.int .u8 18), .lit (.int .u8 12), .lit (.int .u8 5), .lit (.int .u8 63), .lit (.int .u8 55), .lit (.int .u8 48), .lit (.int .u8 27), .lit (.int .u8 60), .lit (.int .u8 41), .lit (.int .u8 37), .lit (.int .u8 16), .lit (.int .u8 46), .lit (.int .u8 35), .lit (.int .u8 44), .lit (.int .u8 21), .lit (.int .u8 52), .lit (.int .u8 32), .lit (.int .u8 23), .lit (.int .u8 11), .lit (.int .u8 54), .lit (.int .u8 26), .lit (.int .u8 40), .lit (.int .u8 15), .lit (.int .u8 34), .lit (.int .u8 20), .lit (.int .u8 31), .lit (.int .u8 10), .lit (.int .u8 25), .lit (.int .u8 14), .lit (.int .u8 19), .lit (.int .u8 9), .lit (.int .u8 13), .lit (.int .u8 8), .lit (.int .u8 7), .lit (.int .u8 6)]
def laid_internal_strconv_uint64pow10 {H : Type} : DataW H := .agg [.lit (.int .u64 1), .lit (.int .u64 10), .lit (.int .u64 100), .lit (.int .u64 1000), .lit (.int .u64 10000), .lit (.int .u64 100000), .lit (.int .u64 1000000), .lit (.int .u64 10000000), .lit (.int .u64 100000000), .lit (.int .u64 1000000000), .lit (.int .u64 10000000000), .lit (.int .u64 100000000000), .lit (.int .u64 1000000000000), .lit (.int .u64 10000000000000), .lit (.int .u64 100000000000000), .lit (.int .u64 1000000000000000), .lit (.int .u64 10000000000000000), .lit (.int .u64 100000000000000000), .lit (.int .u64 1000000000000000000), .lit (.int .u64 10000000000000000000)]

/-- 'bowdlerlaw09.RedactShows': WHATEVER THE INPUT: true; the input reads as it did. -/
def redactShowsSpec : ChangeSpec := { name := "redactShows", fn := fun _ => fun
  | [d1, d2, d3] => { results := [.lit (.bool true)], args := [d1, d2, d3] }
  | _ => none }
def redactShowsRow : OpenClaim := { program := "ytpeldjihalldkaadoor", sum := "a0872a4e6fe51cd867e4ce040b14d30f1d05797ce90d539e8cbd7cafe48eb0d1", func := "bowdler/bowdlerlaw09.RedactShows", spec := "redactShows", inPlace := ["internal/abi.NoEscape", "internal/bytealg.MakeNoZero"], unfollowed := true, recurses := true, named := ["internal/strconv.uint64pow10", "math/bits.deBruijn32tab", "math/bits.deBruijn64tab"], apart := false, laid := [("math/bits.deBruijn32tab", laid_math_bits_deBruijn32tab), ("math/bits.deBruijn64tab", laid_math_bits_deBruijn64tab), ("internal/strconv.uint64pow10", laid_internal_strconv_uint64pow10)] }
def RedactShowsSaid : Prop := redactShowsRow.holds Tryd.pinned (OpenSpec.ofChange redactShowsSpec)

/-- ITS FALSE NEIGHBOUR: 'it returns false'. Refute it at one input. -/
def redactShowsWrong : ChangeSpec := { name := "redactShows", fn := fun _ => fun
  | [d1, d2, d3] => { results := [.lit (.bool false)], args := [d1, d2, d3] }
  | _ => none }
def RedactShowsWrongFalsely : Prop := redactShowsRow.holds Tryd.pinned (OpenSpec.ofChange redactShowsWrong)

/-- 'bowdlerlaw09.RedactHoles': WHATEVER THE INPUT: true; the input reads as it did. -/
def redactHolesSpec : ChangeSpec := { name := "redactHoles", fn := fun _ => fun
  | [d1, d2] => { results := [.lit (.bool true)], args := [d1, d2] }
  | _ => none }
def redactHolesRow : OpenClaim := { program := "ytpeldjihalldkaadoor", sum := "a0872a4e6fe51cd867e4ce040b14d30f1d05797ce90d539e8cbd7cafe48eb0d1", func := "bowdler/bowdlerlaw09.RedactHoles", spec := "redactHoles", inPlace := ["internal/abi.NoEscape", "internal/bytealg.MakeNoZero"], unfollowed := true, recurses := true, named := ["internal/strconv.uint64pow10", "math/bits.deBruijn32tab", "math/bits.deBruijn64tab"], apart := false, laid := [("math/bits.deBruijn32tab", laid_math_bits_deBruijn32tab), ("math/bits.deBruijn64tab", laid_math_bits_deBruijn64tab), ("internal/strconv.uint64pow10", laid_internal_strconv_uint64pow10)] }
def RedactHolesSaid : Prop := redactHolesRow.holds Tryd.pinned (OpenSpec.ofChange redactHolesSpec)

/-- ITS FALSE NEIGHBOUR: 'it returns false'. Refute it at one input. -/
def redactHolesWrong : ChangeSpec := { name := "redactHoles", fn := fun _ => fun
  | [d1, d2] => { results := [.lit (.bool false)], args := [d1, d2] }
  | _ => none }
def RedactHolesWrongFalsely : Prop := redactHolesRow.holds Tryd.pinned (OpenSpec.ofChange redactHolesWrong)

/-- 'bowdlerlaw09.RedactAlike': WHATEVER THE INPUT: true; the input reads as it did. -/
def redactAlikeSpec : ChangeSpec := { name := "redactAlike", fn := fun _ => fun
  | [d1, d2, d3] => { results := [.lit (.bool true)], args := [d1, d2, d3] }
  | _ => none }
def redactAlikeRow : OpenClaim := { program := "ytpeldjihalldkaadoor", sum := "a0872a4e6fe51cd867e4ce040b14d30f1d05797ce90d539e8cbd7cafe48eb0d1", func := "bowdler/bowdlerlaw09.RedactAlike", spec := "redactAlike", inPlace := ["internal/abi.NoEscape", "internal/bytealg.MakeNoZero"], unfollowed := true, recurses := true, named := ["internal/strconv.uint64pow10", "math/bits.deBruijn32tab", "math/bits.deBruijn64tab"], apart := false, laid := [("math/bits.deBruijn32tab", laid_math_bits_deBruijn32tab), ("math/bits.deBruijn64tab", laid_math_bits_deBruijn64tab), ("internal/strconv.uint64pow10", laid_internal_strconv_uint64pow10)] }
def RedactAlikeSaid : Prop := redactAlikeRow.holds Tryd.pinned (OpenSpec.ofChange redactAlikeSpec)

/-- ITS FALSE NEIGHBOUR: 'it returns false'. Refute it at one input. -/
def redactAlikeWrong : ChangeSpec := { name := "redactAlike", fn := fun _ => fun
  | [d1, d2, d3] => { results := [.lit (.bool false)], args := [d1, d2, d3] }
  | _ => none }
def RedactAlikeWrongFalsely : Prop := redactAlikeRow.holds Tryd.pinned (OpenSpec.ofChange redactAlikeWrong)

/-- 'bowdlerlaw09.RedactTidy': WHATEVER THE INPUT: true; the input reads as it did. -/
def redactTidySpec : ChangeSpec := { name := "redactTidy", fn := fun _ => fun
  | [d1, d2, d3] => { results := [.lit (.bool true)], args := [d1, d2, d3] }
  | _ => none }
def redactTidyRow : OpenClaim := { program := "ytpeldjihalldkaadoor", sum := "a0872a4e6fe51cd867e4ce040b14d30f1d05797ce90d539e8cbd7cafe48eb0d1", func := "bowdler/bowdlerlaw09.RedactTidy", spec := "redactTidy", inPlace := ["internal/abi.NoEscape", "internal/bytealg.MakeNoZero"], unfollowed := true, recurses := true, named := ["internal/strconv.uint64pow10", "math/bits.deBruijn32tab", "math/bits.deBruijn64tab"], apart := false, laid := [("math/bits.deBruijn32tab", laid_math_bits_deBruijn32tab), ("math/bits.deBruijn64tab", laid_math_bits_deBruijn64tab), ("internal/strconv.uint64pow10", laid_internal_strconv_uint64pow10)] }
def RedactTidySaid : Prop := redactTidyRow.holds Tryd.pinned (OpenSpec.ofChange redactTidySpec)

/-- ITS FALSE NEIGHBOUR: 'it returns false'. Refute it at one input. -/
def redactTidyWrong : ChangeSpec := { name := "redactTidy", fn := fun _ => fun
  | [d1, d2, d3] => { results := [.lit (.bool false)], args := [d1, d2, d3] }
  | _ => none }
def RedactTidyWrongFalsely : Prop := redactTidyRow.holds Tryd.pinned (OpenSpec.ofChange redactTidyWrong)

/-- 'bowdlerlaw09.RedactMore': WHATEVER THE INPUT: true; the input reads as it did. -/
def redactMoreSpec : ChangeSpec := { name := "redactMore", fn := fun _ => fun
  | [d1, d2, d3] => { results := [.lit (.bool true)], args := [d1, d2, d3] }
  | _ => none }
def redactMoreRow : OpenClaim := { program := "ytpeldjihalldkaadoor", sum := "a0872a4e6fe51cd867e4ce040b14d30f1d05797ce90d539e8cbd7cafe48eb0d1", func := "bowdler/bowdlerlaw09.RedactMore", spec := "redactMore", inPlace := ["internal/abi.NoEscape", "internal/bytealg.MakeNoZero"], unfollowed := true, recurses := true, named := ["internal/strconv.uint64pow10", "math/bits.deBruijn32tab", "math/bits.deBruijn64tab"], apart := false, laid := [("math/bits.deBruijn32tab", laid_math_bits_deBruijn32tab), ("math/bits.deBruijn64tab", laid_math_bits_deBruijn64tab), ("internal/strconv.uint64pow10", laid_internal_strconv_uint64pow10)] }
def RedactMoreSaid : Prop := redactMoreRow.holds Tryd.pinned (OpenSpec.ofChange redactMoreSpec)

/-- ITS FALSE NEIGHBOUR: 'it returns false'. Refute it at one input. -/
def redactMoreWrong : ChangeSpec := { name := "redactMore", fn := fun _ => fun
  | [d1, d2, d3] => { results := [.lit (.bool false)], args := [d1, d2, d3] }
  | _ => none }
def RedactMoreWrongFalsely : Prop := redactMoreRow.holds Tryd.pinned (OpenSpec.ofChange redactMoreWrong)

/-- 'bowdlerlaw09.RedactViews': WHATEVER THE INPUT: true; the input reads as it did. -/
def redactViewsSpec : ChangeSpec := { name := "redactViews", fn := fun _ => fun
  | [d1, d2, d3] => { results := [.lit (.bool true)], args := [d1, d2, d3] }
  | _ => none }
def redactViewsRow : OpenClaim := { program := "ytpeldjihalldkaadoor", sum := "a0872a4e6fe51cd867e4ce040b14d30f1d05797ce90d539e8cbd7cafe48eb0d1", func := "bowdler/bowdlerlaw09.RedactViews", spec := "redactViews", inPlace := ["internal/abi.NoEscape", "internal/bytealg.MakeNoZero"], unfollowed := true, recurses := true, named := ["internal/strconv.uint64pow10", "math/bits.deBruijn32tab", "math/bits.deBruijn64tab"], apart := false, laid := [("math/bits.deBruijn32tab", laid_math_bits_deBruijn32tab), ("math/bits.deBruijn64tab", laid_math_bits_deBruijn64tab), ("internal/strconv.uint64pow10", laid_internal_strconv_uint64pow10)] }
def RedactViewsSaid : Prop := redactViewsRow.holds Tryd.pinned (OpenSpec.ofChange redactViewsSpec)

/-- ITS FALSE NEIGHBOUR: 'it returns false'. Refute it at one input. -/
def redactViewsWrong : ChangeSpec := { name := "redactViews", fn := fun _ => fun
  | [d1, d2, d3] => { results := [.lit (.bool false)], args := [d1, d2, d3] }
  | _ => none }
def RedactViewsWrongFalsely : Prop := redactViewsRow.holds Tryd.pinned (OpenSpec.ofChange redactViewsWrong)

/-- 'bowdlerlaw09.RedactSwap': WHATEVER THE INPUT: true; the input reads as it did. -/
def redactSwapSpec : ChangeSpec := { name := "redactSwap", fn := fun _ => fun
  | [d1, d2, d3] => { results := [.lit (.bool true)], args := [d1, d2, d3] }
  | _ => none }
def redactSwapRow : OpenClaim := { program := "ytpeldjihalldkaadoor", sum := "a0872a4e6fe51cd867e4ce040b14d30f1d05797ce90d539e8cbd7cafe48eb0d1", func := "bowdler/bowdlerlaw09.RedactSwap", spec := "redactSwap", inPlace := ["internal/abi.NoEscape", "internal/bytealg.MakeNoZero"], unfollowed := true, recurses := true, named := ["internal/strconv.uint64pow10", "math/bits.deBruijn32tab", "math/bits.deBruijn64tab"], apart := false, laid := [("math/bits.deBruijn32tab", laid_math_bits_deBruijn32tab), ("math/bits.deBruijn64tab", laid_math_bits_deBruijn64tab), ("internal/strconv.uint64pow10", laid_internal_strconv_uint64pow10)] }
def RedactSwapSaid : Prop := redactSwapRow.holds Tryd.pinned (OpenSpec.ofChange redactSwapSpec)

/-- ITS FALSE NEIGHBOUR: 'it returns false'. Refute it at one input. -/
def redactSwapWrong : ChangeSpec := { name := "redactSwap", fn := fun _ => fun
  | [d1, d2, d3] => { results := [.lit (.bool false)], args := [d1, d2, d3] }
  | _ => none }
def RedactSwapWrongFalsely : Prop := redactSwapRow.holds Tryd.pinned (OpenSpec.ofChange redactSwapWrong)

/-- 'bowdlerlaw09.RedactNone': WHATEVER THE INPUT: true; the input reads as it did. -/
def redactNoneSpec : ChangeSpec := { name := "redactNone", fn := fun _ => fun
  | [d1, d2, d3] => { results := [.lit (.bool true)], args := [d1, d2, d3] }
  | _ => none }
def redactNoneRow : OpenClaim := { program := "ytpeldjihalldkaadoor", sum := "a0872a4e6fe51cd867e4ce040b14d30f1d05797ce90d539e8cbd7cafe48eb0d1", func := "bowdler/bowdlerlaw09.RedactNone", spec := "redactNone", inPlace := ["internal/abi.NoEscape", "internal/bytealg.MakeNoZero"], unfollowed := true, recurses := true, named := ["internal/strconv.uint64pow10", "math/bits.deBruijn32tab", "math/bits.deBruijn64tab"], apart := false, laid := [("math/bits.deBruijn32tab", laid_math_bits_deBruijn32tab), ("math/bits.deBruijn64tab", laid_math_bits_deBruijn64tab), ("internal/strconv.uint64pow10", laid_internal_strconv_uint64pow10)] }
def RedactNoneSaid : Prop := redactNoneRow.holds Tryd.pinned (OpenSpec.ofChange redactNoneSpec)

/-- ITS FALSE NEIGHBOUR: 'it returns false'. Refute it at one input. -/
def redactNoneWrong : ChangeSpec := { name := "redactNone", fn := fun _ => fun
  | [d1, d2, d3] => { results := [.lit (.bool false)], args := [d1, d2, d3] }
  | _ => none }
def RedactNoneWrongFalsely : Prop := redactNoneRow.holds Tryd.pinned (OpenSpec.ofChange redactNoneWrong)

/- THE SECOND FORM. 'bulk': how many values and letters a reading holds, each counted each time it is reached (what is shared counts as often as it is met; a slice's spare places count too). A statement '..UptoSaid' is the law's where the arguments, and the package variables that the reading takes, are together of bulk at most 1048576: NARROWER than '..Said'. Prove '..Said' where nothing that the law and all that it calls make is longer than what came in: it says more and counts as full. Else prove '..UptoSaid'. A law counts once. -/
mutual
def uptoBulk {H : Type} : DataW H → Nat
  | .lit (.string bytes) => bytes.length + 1
  | .lit _ => 1
  | .nil => 1
  | .ptr d => uptoBulk d + 1
  | .slice elems spare => uptoBulkAll elems + uptoBulkAll spare + 1
  | .agg parts => uptoBulkAll parts + 1
  | .iface _ d => uptoBulk d + 1
  | .map entries => uptoBulkEntries entries + 1
  | .held _ => 1
def uptoBulkAll {H : Type} : List (DataW H) → Nat
  | [] => 0
  | d :: r => uptoBulk d + uptoBulkAll r
def uptoBulkEntries {H : Type} : List (Lit × DataW H) → Nat
  | [] => 0
  | x :: r => uptoBulkEntry x + uptoBulkEntries r
def uptoBulkEntry {H : Type} : Lit × DataW H → Nat
  | (.string bytes, d) => bytes.length + uptoBulk d + 1
  | (_, d) => uptoBulk d + 1
 end
def uptoSmall : (H : Type) → List (DataW H) → Bool := fun _ ds => decide (uptoBulkAll ds ≤ 1048576)
def OpenSpec.upto (s : _root_.Go.ChangeSpec) : _root_.Go.OpenSpec := { _root_.Go.OpenSpec.ofChange s with cond := some uptoSmall }

/-- 'bowdlerlaw09.RedactShows', WHERE WHAT IT READS IS OF BULK AT MOST 1048576: true; the input reads as it did. -/
def redactShowsUptoRow : OpenClaim := { program := "ytpeldjihalldkaadoor", sum := "a0872a4e6fe51cd867e4ce040b14d30f1d05797ce90d539e8cbd7cafe48eb0d1", func := "bowdler/bowdlerlaw09.RedactShows", spec := "redactShows", inPlace := ["internal/abi.NoEscape", "internal/bytealg.MakeNoZero"], unfollowed := true, recurses := true, named := ["internal/strconv.uint64pow10", "math/bits.deBruijn32tab", "math/bits.deBruijn64tab"], apart := false, laid := [("math/bits.deBruijn32tab", laid_math_bits_deBruijn32tab), ("math/bits.deBruijn64tab", laid_math_bits_deBruijn64tab), ("internal/strconv.uint64pow10", laid_internal_strconv_uint64pow10)], narrowed := true }
def RedactShowsUptoSaid : Prop := redactShowsUptoRow.holds Tryd.pinned (OpenSpec.upto redactShowsSpec)

/-- 'bowdlerlaw09.RedactHoles', WHERE WHAT IT READS IS OF BULK AT MOST 1048576: true; the input reads as it did. -/
def redactHolesUptoRow : OpenClaim := { program := "ytpeldjihalldkaadoor", sum := "a0872a4e6fe51cd867e4ce040b14d30f1d05797ce90d539e8cbd7cafe48eb0d1", func := "bowdler/bowdlerlaw09.RedactHoles", spec := "redactHoles", inPlace := ["internal/abi.NoEscape", "internal/bytealg.MakeNoZero"], unfollowed := true, recurses := true, named := ["internal/strconv.uint64pow10", "math/bits.deBruijn32tab", "math/bits.deBruijn64tab"], apart := false, laid := [("math/bits.deBruijn32tab", laid_math_bits_deBruijn32tab), ("math/bits.deBruijn64tab", laid_math_bits_deBruijn64tab), ("internal/strconv.uint64pow10", laid_internal_strconv_uint64pow10)], narrowed := true }
def RedactHolesUptoSaid : Prop := redactHolesUptoRow.holds Tryd.pinned (OpenSpec.upto redactHolesSpec)

/-- 'bowdlerlaw09.RedactAlike', WHERE WHAT IT READS IS OF BULK AT MOST 1048576: true; the input reads as it did. -/
def redactAlikeUptoRow : OpenClaim := { program := "ytpeldjihalldkaadoor", sum := "a0872a4e6fe51cd867e4ce040b14d30f1d05797ce90d539e8cbd7cafe48eb0d1", func := "bowdler/bowdlerlaw09.RedactAlike", spec := "redactAlike", inPlace := ["internal/abi.NoEscape", "internal/bytealg.MakeNoZero"], unfollowed := true, recurses := true, named := ["internal/strconv.uint64pow10", "math/bits.deBruijn32tab", "math/bits.deBruijn64tab"], apart := false, laid := [("math/bits.deBruijn32tab", laid_math_bits_deBruijn32tab), ("math/bits.deBruijn64tab", laid_math_bits_deBruijn64tab), ("internal/strconv.uint64pow10", laid_internal_strconv_uint64pow10)], narrowed := true }
def RedactAlikeUptoSaid : Prop := redactAlikeUptoRow.holds Tryd.pinned (OpenSpec.upto redactAlikeSpec)

/-- 'bowdlerlaw09.RedactTidy', WHERE WHAT IT READS IS OF BULK AT MOST 1048576: true; the input reads as it did. -/
def redactTidyUptoRow : OpenClaim := { program := "ytpeldjihalldkaadoor", sum := "a0872a4e6fe51cd867e4ce040b14d30f1d05797ce90d539e8cbd7cafe48eb0d1", func := "bowdler/bowdlerlaw09.RedactTidy", spec := "redactTidy", inPlace := ["internal/abi.NoEscape", "internal/bytealg.MakeNoZero"], unfollowed := true, recurses := true, named := ["internal/strconv.uint64pow10", "math/bits.deBruijn32tab", "math/bits.deBruijn64tab"], apart := false, laid := [("math/bits.deBruijn32tab", laid_math_bits_deBruijn32tab), ("math/bits.deBruijn64tab", laid_math_bits_deBruijn64tab), ("internal/strconv.uint64pow10", laid_internal_strconv_uint64pow10)], narrowed := true }
def RedactTidyUptoSaid : Prop := redactTidyUptoRow.holds Tryd.pinned (OpenSpec.upto redactTidySpec)

/-- 'bowdlerlaw09.RedactMore', WHERE WHAT IT READS IS OF BULK AT MOST 1048576: true; the input reads as it did. -/
def redactMoreUptoRow : OpenClaim := { program := "ytpeldjihalldkaadoor", sum := "a0872a4e6fe51cd867e4ce040b14d30f1d05797ce90d539e8cbd7cafe48eb0d1", func := "bowdler/bowdlerlaw09.RedactMore", spec := "redactMore", inPlace := ["internal/abi.NoEscape", "internal/bytealg.MakeNoZero"], unfollowed := true, recurses := true, named := ["internal/strconv.uint64pow10", "math/bits.deBruijn32tab", "math/bits.deBruijn64tab"], apart := false, laid := [("math/bits.deBruijn32tab", laid_math_bits_deBruijn32tab), ("math/bits.deBruijn64tab", laid_math_bits_deBruijn64tab), ("internal/strconv.uint64pow10", laid_internal_strconv_uint64pow10)], narrowed := true }
def RedactMoreUptoSaid : Prop := redactMoreUptoRow.holds Tryd.pinned (OpenSpec.upto redactMoreSpec)

/-- 'bowdlerlaw09.RedactViews', WHERE WHAT IT READS IS OF BULK AT MOST 1048576: true; the input reads as it did. -/
def redactViewsUptoRow : OpenClaim := { program := "ytpeldjihalldkaadoor", sum := "a0872a4e6fe51cd867e4ce040b14d30f1d05797ce90d539e8cbd7cafe48eb0d1", func := "bowdler/bowdlerlaw09.RedactViews", spec := "redactViews", inPlace := ["internal/abi.NoEscape", "internal/bytealg.MakeNoZero"], unfollowed := true, recurses := true, named := ["internal/strconv.uint64pow10", "math/bits.deBruijn32tab", "math/bits.deBruijn64tab"], apart := false, laid := [("math/bits.deBruijn32tab", laid_math_bits_deBruijn32tab), ("math/bits.deBruijn64tab", laid_math_bits_deBruijn64tab), ("internal/strconv.uint64pow10", laid_internal_strconv_uint64pow10)], narrowed := true }
def RedactViewsUptoSaid : Prop := redactViewsUptoRow.holds Tryd.pinned (OpenSpec.upto redactViewsSpec)

/-- 'bowdlerlaw09.RedactSwap', WHERE WHAT IT READS IS OF BULK AT MOST 1048576: true; the input reads as it did. -/
def redactSwapUptoRow : OpenClaim := { program := "ytpeldjihalldkaadoor", sum := "a0872a4e6fe51cd867e4ce040b14d30f1d05797ce90d539e8cbd7cafe48eb0d1", func := "bowdler/bowdlerlaw09.RedactSwap", spec := "redactSwap", inPlace := ["internal/abi.NoEscape", "internal/bytealg.MakeNoZero"], unfollowed := true, recurses := true, named := ["internal/strconv.uint64pow10", "math/bits.deBruijn32tab", "math/bits.deBruijn64tab"], apart := false, laid := [("math/bits.deBruijn32tab", laid_math_bits_deBruijn32tab), ("math/bits.deBruijn64tab", laid_math_bits_deBruijn64tab), ("internal/strconv.uint64pow10", laid_internal_strconv_uint64pow10)], narrowed := true }
def RedactSwapUptoSaid : Prop := redactSwapUptoRow.holds Tryd.pinned (OpenSpec.upto redactSwapSpec)

/-- 'bowdlerlaw09.RedactNone', WHERE WHAT IT READS IS OF BULK AT MOST 1048576: true; the input reads as it did. -/
def redactNoneUptoRow : OpenClaim := { program := "ytpeldjihalldkaadoor", sum := "a0872a4e6fe51cd867e4ce040b14d30f1d05797ce90d539e8cbd7cafe48eb0d1", func := "bowdler/bowdlerlaw09.RedactNone", spec := "redactNone", inPlace := ["internal/abi.NoEscape", "internal/bytealg.MakeNoZero"], unfollowed := true, recurses := true, named := ["internal/strconv.uint64pow10", "math/bits.deBruijn32tab", "math/bits.deBruijn64tab"], apart := false, laid := [("math/bits.deBruijn32tab", laid_math_bits_deBruijn32tab), ("math/bits.deBruijn64tab", laid_math_bits_deBruijn64tab), ("internal/strconv.uint64pow10", laid_internal_strconv_uint64pow10)], narrowed := true }
def RedactNoneUptoSaid : Prop := redactNoneUptoRow.holds Tryd.pinned (OpenSpec.upto redactNoneSpec)

end Rows
end Go.Proofs.YtpeldjihalldkaaDoor
