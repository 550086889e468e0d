/-
  NARROWER THAN 'FOR EVERY INPUT', by the rows' own cells (each row's printed sentence says how): FramePuts: laid · FrameApart: laid · FrameSums: laid · FrameTurned: laid · FrameTakes: laid · FrameRows: laid · AuditPlays: laid · AuditProves: laid · AuditRight: laid · AuditCut: laid.
  DERIVED. THE GIVEN ROWS OF THIS SEAT. 10 by the template 'for every input the law returns true; each argument reads behind the call as it read before'; 0 by the template 'total and deterministic' (their statements: YtepeopfdenieeaaDoorTotals.lean).
  GIVEN WITH THE SEED: the statements are not yours to turn. If you find one false, say at which input.
  Laid BY PROGRAM, IN A SANDBOX (cutbox-rows.mjs): the forced cells as the released guide's own fill.sh prints them over the translation c06e937abae14457… (all of the seat's roots in one cut). By AI agents, Wed Nov 11 2026. No macro, syntax, notation, axiom, sorry.
-/
import Derived.Test.YtepeopfdenieeaaDoorChecked
import GoSem.PinnedTables
import GoSem.Claim
import GoSem.ClaimJoined
import GoSem.ClaimMapViews
import Derived.JoinedTies
import Derived.KernelRfl
namespace Go.Proofs.YtepeopfdenieeaaDoor
/- THE CELL 'sum', in the pinned program and in every row, IS THE sha256 OF THE DUMP (.gsa) THAT YtepeopfdenieeaaDoorProg.lean LOADS. Nothing in Lean hashes anything: it is a label: what it is worth is what the hold of that sum in a sandbox is worth. -/
noncomputable def Tryd.pinned : Pinned := { name := "ytepeopfdenieeaadoor", sum := "c06e937abae14457e0233eb6851b4f76fa7bf243756b7897d370bad7bac78c48", checked := Tryd.checked }
namespace Rows
def none {H : Type} : Left H := { results := [], args := [] }

/- WHAT THE LISTED PACKAGE-LEVEL VARIABLES READ AS WHEN THE CALL BEGINS. Each datum BY PROGRAM (the guide's laid-datum.mjs) off the statement by which the dump's own 'gosem.cut.vars' lays the variable. In a bare row this is a premise. The card (YtepeopfdenieeaaDoorCards.lean) ties it to the program's text. -/
def laid_unicode_utf8_acceptRanges {H : Type} : DataW H := .agg [.agg [.lit (.int .u8 128), .lit (.int .u8 191)], .agg [.lit (.int .u8 160), .lit (.int .u8 191)], .agg [.lit (.int .u8 128), .lit (.int .u8 159)], .agg [.lit (.int .u8 144), .lit (.int .u8 191)], .agg [.lit (.int .u8 128), .lit (.int .u8 143)], .agg [.lit (.int .u8 0), .lit (.int .u8 0)], .agg [.lit (.int .u8 0), .lit (.int .u8 0)], .agg [.lit (.int .u8 0), .lit (.int .u8 0)], .agg [.lit (.int .u8 0), .lit (.int .u8 0)], .agg [.lit (.int .u8 0), .lit (.int .u8 0)], .agg [.lit (.int .u8 0), .lit (.int .u8 0)], .agg [.lit (.int .u8 0), .lit (.int .u8 0)], .agg [.lit (.int .u8 0), .lit (.int .u8 0)], .agg [.lit (.int .u8 0), .lit (.int .u8 0)], .agg [.lit (.int .u8 0), .lit (.int .u8 0)], .agg [.lit (.int .u8 0), .lit (.int .u8 0)]]
/-- One of Go's own tables, pinned by name: the form's constant. -/
def laid_unicode_utf8_first : DataW Unit := Go.Pinned.utf8First

/-- 'bowdlerlaw17.FramePuts': WHATEVER THE INPUT: true; the input reads as it did. -/
def framePutsSpec : ChangeSpec := { name := "framePuts", fn := fun _ => fun
  | [d1, d2] => { results := [.lit (.bool true)], args := [d1, d2] }
  | _ => none }
def framePutsRow : OpenClaim := { program := "ytepeopfdenieeaadoor", sum := "c06e937abae14457e0233eb6851b4f76fa7bf243756b7897d370bad7bac78c48", func := "bowdler/bowdlerlaw17.FramePuts", spec := "framePuts", named := ["unicode/utf8.first", "unicode/utf8.acceptRanges"], apart := false, laid := [("unicode/utf8.acceptRanges", laid_unicode_utf8_acceptRanges), ("unicode/utf8.first", laid_unicode_utf8_first)] }
def FramePutsSaid : Prop := framePutsRow.holds Tryd.pinned (OpenSpec.ofChange framePutsSpec)

/-- ITS FALSE NEIGHBOUR: 'it returns false'. Refute it at one input. -/
def framePutsWrong : ChangeSpec := { name := "framePuts", fn := fun _ => fun
  | [d1, d2] => { results := [.lit (.bool false)], args := [d1, d2] }
  | _ => none }
def FramePutsWrongFalsely : Prop := framePutsRow.holds Tryd.pinned (OpenSpec.ofChange framePutsWrong)

/-- 'bowdlerlaw17.FrameApart': WHATEVER THE INPUT: true; the input reads as it did. -/
def frameApartSpec : ChangeSpec := { name := "frameApart", fn := fun _ => fun
  | [d1, d2] => { results := [.lit (.bool true)], args := [d1, d2] }
  | _ => none }
def frameApartRow : OpenClaim := { program := "ytepeopfdenieeaadoor", sum := "c06e937abae14457e0233eb6851b4f76fa7bf243756b7897d370bad7bac78c48", func := "bowdler/bowdlerlaw17.FrameApart", spec := "frameApart", named := ["unicode/utf8.first", "unicode/utf8.acceptRanges"], apart := false, laid := [("unicode/utf8.acceptRanges", laid_unicode_utf8_acceptRanges), ("unicode/utf8.first", laid_unicode_utf8_first)] }
def FrameApartSaid : Prop := frameApartRow.holds Tryd.pinned (OpenSpec.ofChange frameApartSpec)

/-- ITS FALSE NEIGHBOUR: 'it returns false'. Refute it at one input. -/
def frameApartWrong : ChangeSpec := { name := "frameApart", fn := fun _ => fun
  | [d1, d2] => { results := [.lit (.bool false)], args := [d1, d2] }
  | _ => none }
def FrameApartWrongFalsely : Prop := frameApartRow.holds Tryd.pinned (OpenSpec.ofChange frameApartWrong)

/-- 'bowdlerlaw17.FrameSums': WHATEVER THE INPUT: true; the input reads as it did. -/
def frameSumsSpec : ChangeSpec := { name := "frameSums", fn := fun _ => fun
  | [d1, d2, d3] => { results := [.lit (.bool true)], args := [d1, d2, d3] }
  | _ => none }
def frameSumsRow : OpenClaim := { program := "ytepeopfdenieeaadoor", sum := "c06e937abae14457e0233eb6851b4f76fa7bf243756b7897d370bad7bac78c48", func := "bowdler/bowdlerlaw17.FrameSums", spec := "frameSums", named := ["unicode/utf8.first", "unicode/utf8.acceptRanges"], apart := false, laid := [("unicode/utf8.acceptRanges", laid_unicode_utf8_acceptRanges), ("unicode/utf8.first", laid_unicode_utf8_first)] }
def FrameSumsSaid : Prop := frameSumsRow.holds Tryd.pinned (OpenSpec.ofChange frameSumsSpec)

/-- ITS FALSE NEIGHBOUR: 'it returns false'. Refute it at one input. -/
def frameSumsWrong : ChangeSpec := { name := "frameSums", fn := fun _ => fun
  | [d1, d2, d3] => { results := [.lit (.bool false)], args := [d1, d2, d3] }
  | _ => none }
def FrameSumsWrongFalsely : Prop := frameSumsRow.holds Tryd.pinned (OpenSpec.ofChange frameSumsWrong)

/-- 'bowdlerlaw17.FrameTurned': WHATEVER THE INPUT: true; the input reads as it did. -/
def frameTurnedSpec : ChangeSpec := { name := "frameTurned", fn := fun _ => fun
  | [d1, d2, d3] => { results := [.lit (.bool true)], args := [d1, d2, d3] }
  | _ => none }
def frameTurnedRow : OpenClaim := { program := "ytepeopfdenieeaadoor", sum := "c06e937abae14457e0233eb6851b4f76fa7bf243756b7897d370bad7bac78c48", func := "bowdler/bowdlerlaw17.FrameTurned", spec := "frameTurned", named := ["unicode/utf8.first", "unicode/utf8.acceptRanges"], apart := false, laid := [("unicode/utf8.acceptRanges", laid_unicode_utf8_acceptRanges), ("unicode/utf8.first", laid_unicode_utf8_first)] }
def FrameTurnedSaid : Prop := frameTurnedRow.holds Tryd.pinned (OpenSpec.ofChange frameTurnedSpec)

/-- ITS FALSE NEIGHBOUR: 'it returns false'. Refute it at one input. -/
def frameTurnedWrong : ChangeSpec := { name := "frameTurned", fn := fun _ => fun
  | [d1, d2, d3] => { results := [.lit (.bool false)], args := [d1, d2, d3] }
  | _ => none }
def FrameTurnedWrongFalsely : Prop := frameTurnedRow.holds Tryd.pinned (OpenSpec.ofChange frameTurnedWrong)

/-- 'bowdlerlaw17.FrameTakes': WHATEVER THE INPUT: true; the input reads as it did. -/
def frameTakesSpec : ChangeSpec := { name := "frameTakes", fn := fun _ => fun
  | [d1, d2] => { results := [.lit (.bool true)], args := [d1, d2] }
  | _ => none }
def frameTakesRow : OpenClaim := { program := "ytepeopfdenieeaadoor", sum := "c06e937abae14457e0233eb6851b4f76fa7bf243756b7897d370bad7bac78c48", func := "bowdler/bowdlerlaw17.FrameTakes", spec := "frameTakes", named := ["unicode/utf8.first", "unicode/utf8.acceptRanges"], apart := false, laid := [("unicode/utf8.acceptRanges", laid_unicode_utf8_acceptRanges), ("unicode/utf8.first", laid_unicode_utf8_first)] }
def FrameTakesSaid : Prop := frameTakesRow.holds Tryd.pinned (OpenSpec.ofChange frameTakesSpec)

/-- ITS FALSE NEIGHBOUR: 'it returns false'. Refute it at one input. -/
def frameTakesWrong : ChangeSpec := { name := "frameTakes", fn := fun _ => fun
  | [d1, d2] => { results := [.lit (.bool false)], args := [d1, d2] }
  | _ => none }
def FrameTakesWrongFalsely : Prop := frameTakesRow.holds Tryd.pinned (OpenSpec.ofChange frameTakesWrong)

/-- 'bowdlerlaw17.FrameRows': WHATEVER THE INPUT: true; the input reads as it did. -/
def frameRowsSpec : ChangeSpec := { name := "frameRows", fn := fun _ => fun
  | [d1, d2] => { results := [.lit (.bool true)], args := [d1, d2] }
  | _ => none }
def frameRowsRow : OpenClaim := { program := "ytepeopfdenieeaadoor", sum := "c06e937abae14457e0233eb6851b4f76fa7bf243756b7897d370bad7bac78c48", func := "bowdler/bowdlerlaw17.FrameRows", spec := "frameRows", named := ["unicode/utf8.first", "unicode/utf8.acceptRanges"], apart := false, laid := [("unicode/utf8.acceptRanges", laid_unicode_utf8_acceptRanges), ("unicode/utf8.first", laid_unicode_utf8_first)] }
def FrameRowsSaid : Prop := frameRowsRow.holds Tryd.pinned (OpenSpec.ofChange frameRowsSpec)

/-- ITS FALSE NEIGHBOUR: 'it returns false'. Refute it at one input. -/
def frameRowsWrong : ChangeSpec := { name := "frameRows", fn := fun _ => fun
  | [d1, d2] => { results := [.lit (.bool false)], args := [d1, d2] }
  | _ => none }
def FrameRowsWrongFalsely : Prop := frameRowsRow.holds Tryd.pinned (OpenSpec.ofChange frameRowsWrong)

/-- 'bowdlerlaw19.AuditPlays': WHATEVER THE INPUT: true; the input reads as it did. -/
def auditPlaysSpec : ChangeSpec := { name := "auditPlays", fn := fun _ => fun
  | [d1, d2] => { results := [.lit (.bool true)], args := [d1, d2] }
  | _ => none }
def auditPlaysRow : OpenClaim := { program := "ytepeopfdenieeaadoor", sum := "c06e937abae14457e0233eb6851b4f76fa7bf243756b7897d370bad7bac78c48", func := "bowdler/bowdlerlaw19.AuditPlays", spec := "auditPlays", named := ["unicode/utf8.first", "unicode/utf8.acceptRanges"], apart := false, laid := [("unicode/utf8.acceptRanges", laid_unicode_utf8_acceptRanges), ("unicode/utf8.first", laid_unicode_utf8_first)] }
def AuditPlaysSaid : Prop := auditPlaysRow.holds Tryd.pinned (OpenSpec.ofChange auditPlaysSpec)

/-- ITS FALSE NEIGHBOUR: 'it returns false'. Refute it at one input. -/
def auditPlaysWrong : ChangeSpec := { name := "auditPlays", fn := fun _ => fun
  | [d1, d2] => { results := [.lit (.bool false)], args := [d1, d2] }
  | _ => none }
def AuditPlaysWrongFalsely : Prop := auditPlaysRow.holds Tryd.pinned (OpenSpec.ofChange auditPlaysWrong)

/-- 'bowdlerlaw19.AuditProves': WHATEVER THE INPUT: true; the input reads as it did. -/
def auditProvesSpec : ChangeSpec := { name := "auditProves", fn := fun _ => fun
  | [d1, d2] => { results := [.lit (.bool true)], args := [d1, d2] }
  | _ => none }
def auditProvesRow : OpenClaim := { program := "ytepeopfdenieeaadoor", sum := "c06e937abae14457e0233eb6851b4f76fa7bf243756b7897d370bad7bac78c48", func := "bowdler/bowdlerlaw19.AuditProves", spec := "auditProves", named := ["unicode/utf8.first", "unicode/utf8.acceptRanges"], apart := false, laid := [("unicode/utf8.acceptRanges", laid_unicode_utf8_acceptRanges), ("unicode/utf8.first", laid_unicode_utf8_first)] }
def AuditProvesSaid : Prop := auditProvesRow.holds Tryd.pinned (OpenSpec.ofChange auditProvesSpec)

/-- ITS FALSE NEIGHBOUR: 'it returns false'. Refute it at one input. -/
def auditProvesWrong : ChangeSpec := { name := "auditProves", fn := fun _ => fun
  | [d1, d2] => { results := [.lit (.bool false)], args := [d1, d2] }
  | _ => none }
def AuditProvesWrongFalsely : Prop := auditProvesRow.holds Tryd.pinned (OpenSpec.ofChange auditProvesWrong)

/-- 'bowdlerlaw19.AuditRight': WHATEVER THE INPUT: true; the input reads as it did. -/
def auditRightSpec : ChangeSpec := { name := "auditRight", fn := fun _ => fun
  | [d] => { results := [.lit (.bool true)], args := [d] }
  | _ => none }
def auditRightRow : OpenClaim := { program := "ytepeopfdenieeaadoor", sum := "c06e937abae14457e0233eb6851b4f76fa7bf243756b7897d370bad7bac78c48", func := "bowdler/bowdlerlaw19.AuditRight", spec := "auditRight", named := ["unicode/utf8.first", "unicode/utf8.acceptRanges"], apart := false, laid := [("unicode/utf8.acceptRanges", laid_unicode_utf8_acceptRanges), ("unicode/utf8.first", laid_unicode_utf8_first)] }
def AuditRightSaid : Prop := auditRightRow.holds Tryd.pinned (OpenSpec.ofChange auditRightSpec)

/-- ITS FALSE NEIGHBOUR: 'it returns false'. Refute it at one input. -/
def auditRightWrong : ChangeSpec := { name := "auditRight", fn := fun _ => fun
  | [d] => { results := [.lit (.bool false)], args := [d] }
  | _ => none }
def AuditRightWrongFalsely : Prop := auditRightRow.holds Tryd.pinned (OpenSpec.ofChange auditRightWrong)

/-- 'bowdlerlaw19.AuditCut': WHATEVER THE INPUT: true; the input reads as it did. -/
def auditCutSpec : ChangeSpec := { name := "auditCut", fn := fun _ => fun
  | [d1, d2] => { results := [.lit (.bool true)], args := [d1, d2] }
  | _ => none }
def auditCutRow : OpenClaim := { program := "ytepeopfdenieeaadoor", sum := "c06e937abae14457e0233eb6851b4f76fa7bf243756b7897d370bad7bac78c48", func := "bowdler/bowdlerlaw19.AuditCut", spec := "auditCut", named := ["unicode/utf8.first", "unicode/utf8.acceptRanges"], apart := false, laid := [("unicode/utf8.acceptRanges", laid_unicode_utf8_acceptRanges), ("unicode/utf8.first", laid_unicode_utf8_first)] }
def AuditCutSaid : Prop := auditCutRow.holds Tryd.pinned (OpenSpec.ofChange auditCutSpec)

/-- ITS FALSE NEIGHBOUR: 'it returns false'. Refute it at one input. -/
def auditCutWrong : ChangeSpec := { name := "auditCut", fn := fun _ => fun
  | [d1, d2] => { results := [.lit (.bool false)], args := [d1, d2] }
  | _ => none }
def AuditCutWrongFalsely : Prop := auditCutRow.holds Tryd.pinned (OpenSpec.ofChange auditCutWrong)

/- THE SECOND FORM. 'bulk': how many values and letters a reading holds, each counted each time it is reached (what is shared counts as often as it is met; a slice's spare places count too). A statement '..UptoSaid' is the law's where the arguments, and the package variables that the reading takes, are together of bulk at most 1048576: NARROWER than '..Said'. Prove '..Said' where nothing that the law and all that it calls make is longer than what came in: it says more and counts as full. Else prove '..UptoSaid'. A law counts once. -/
mutual
def uptoBulk {H : Type} : DataW H → Nat
  | .lit (.string bytes) => bytes.length + 1
  | .lit _ => 1
  | .nil => 1
  | .ptr d => uptoBulk d + 1
  | .slice elems spare => uptoBulkAll elems + uptoBulkAll spare + 1
  | .agg parts => uptoBulkAll parts + 1
  | .iface _ d => uptoBulk d + 1
  | .map entries => uptoBulkEntries entries + 1
  | .held _ => 1
def uptoBulkAll {H : Type} : List (DataW H) → Nat
  | [] => 0
  | d :: r => uptoBulk d + uptoBulkAll r
def uptoBulkEntries {H : Type} : List (Lit × DataW H) → Nat
  | [] => 0
  | x :: r => uptoBulkEntry x + uptoBulkEntries r
def uptoBulkEntry {H : Type} : Lit × DataW H → Nat
  | (.string bytes, d) => bytes.length + uptoBulk d + 1
  | (_, d) => uptoBulk d + 1
 end
def uptoSmall : (H : Type) → List (DataW H) → Bool := fun _ ds => decide (uptoBulkAll ds ≤ 1048576)
def OpenSpec.upto (s : _root_.Go.ChangeSpec) : _root_.Go.OpenSpec := { _root_.Go.OpenSpec.ofChange s with cond := some uptoSmall }

/-- 'bowdlerlaw17.FramePuts', WHERE WHAT IT READS IS OF BULK AT MOST 1048576: true; the input reads as it did. -/
def framePutsUptoRow : OpenClaim := { program := "ytepeopfdenieeaadoor", sum := "c06e937abae14457e0233eb6851b4f76fa7bf243756b7897d370bad7bac78c48", func := "bowdler/bowdlerlaw17.FramePuts", spec := "framePuts", named := ["unicode/utf8.first", "unicode/utf8.acceptRanges"], apart := false, laid := [("unicode/utf8.acceptRanges", laid_unicode_utf8_acceptRanges), ("unicode/utf8.first", laid_unicode_utf8_first)], narrowed := true }
def FramePutsUptoSaid : Prop := framePutsUptoRow.holds Tryd.pinned (OpenSpec.upto framePutsSpec)

/-- 'bowdlerlaw17.FrameApart', WHERE WHAT IT READS IS OF BULK AT MOST 1048576: true; the input reads as it did. -/
def frameApartUptoRow : OpenClaim := { program := "ytepeopfdenieeaadoor", sum := "c06e937abae14457e0233eb6851b4f76fa7bf243756b7897d370bad7bac78c48", func := "bowdler/bowdlerlaw17.FrameApart", spec := "frameApart", named := ["unicode/utf8.first", "unicode/utf8.acceptRanges"], apart := false, laid := [("unicode/utf8.acceptRanges", laid_unicode_utf8_acceptRanges), ("unicode/utf8.first", laid_unicode_utf8_first)], narrowed := true }
def FrameApartUptoSaid : Prop := frameApartUptoRow.holds Tryd.pinned (OpenSpec.upto frameApartSpec)

/-- 'bowdlerlaw17.FrameSums', WHERE WHAT IT READS IS OF BULK AT MOST 1048576: true; the input reads as it did. -/
def frameSumsUptoRow : OpenClaim := { program := "ytepeopfdenieeaadoor", sum := "c06e937abae14457e0233eb6851b4f76fa7bf243756b7897d370bad7bac78c48", func := "bowdler/bowdlerlaw17.FrameSums", spec := "frameSums", named := ["unicode/utf8.first", "unicode/utf8.acceptRanges"], apart := false, laid := [("unicode/utf8.acceptRanges", laid_unicode_utf8_acceptRanges), ("unicode/utf8.first", laid_unicode_utf8_first)], narrowed := true }
def FrameSumsUptoSaid : Prop := frameSumsUptoRow.holds Tryd.pinned (OpenSpec.upto frameSumsSpec)

/-- 'bowdlerlaw17.FrameTurned', WHERE WHAT IT READS IS OF BULK AT MOST 1048576: true; the input reads as it did. -/
def frameTurnedUptoRow : OpenClaim := { program := "ytepeopfdenieeaadoor", sum := "c06e937abae14457e0233eb6851b4f76fa7bf243756b7897d370bad7bac78c48", func := "bowdler/bowdlerlaw17.FrameTurned", spec := "frameTurned", named := ["unicode/utf8.first", "unicode/utf8.acceptRanges"], apart := false, laid := [("unicode/utf8.acceptRanges", laid_unicode_utf8_acceptRanges), ("unicode/utf8.first", laid_unicode_utf8_first)], narrowed := true }
def FrameTurnedUptoSaid : Prop := frameTurnedUptoRow.holds Tryd.pinned (OpenSpec.upto frameTurnedSpec)

/-- 'bowdlerlaw17.FrameTakes', WHERE WHAT IT READS IS OF BULK AT MOST 1048576: true; the input reads as it did. -/
def frameTakesUptoRow : OpenClaim := { program := "ytepeopfdenieeaadoor", sum := "c06e937abae14457e0233eb6851b4f76fa7bf243756b7897d370bad7bac78c48", func := "bowdler/bowdlerlaw17.FrameTakes", spec := "frameTakes", named := ["unicode/utf8.first", "unicode/utf8.acceptRanges"], apart := false, laid := [("unicode/utf8.acceptRanges", laid_unicode_utf8_acceptRanges), ("unicode/utf8.first", laid_unicode_utf8_first)], narrowed := true }
def FrameTakesUptoSaid : Prop := frameTakesUptoRow.holds Tryd.pinned (OpenSpec.upto frameTakesSpec)

/-- 'bowdlerlaw17.FrameRows', WHERE WHAT IT READS IS OF BULK AT MOST 1048576: true; the input reads as it did. -/
def frameRowsUptoRow : OpenClaim := { program := "ytepeopfdenieeaadoor", sum := "c06e937abae14457e0233eb6851b4f76fa7bf243756b7897d370bad7bac78c48", func := "bowdler/bowdlerlaw17.FrameRows", spec := "frameRows", named := ["unicode/utf8.first", "unicode/utf8.acceptRanges"], apart := false, laid := [("unicode/utf8.acceptRanges", laid_unicode_utf8_acceptRanges), ("unicode/utf8.first", laid_unicode_utf8_first)], narrowed := true }
def FrameRowsUptoSaid : Prop := frameRowsUptoRow.holds Tryd.pinned (OpenSpec.upto frameRowsSpec)

/-- 'bowdlerlaw19.AuditPlays', WHERE WHAT IT READS IS OF BULK AT MOST 1048576: true; the input reads as it did. -/
def auditPlaysUptoRow : OpenClaim := { program := "ytepeopfdenieeaadoor", sum := "c06e937abae14457e0233eb6851b4f76fa7bf243756b7897d370bad7bac78c48", func := "bowdler/bowdlerlaw19.AuditPlays", spec := "auditPlays", named := ["unicode/utf8.first", "unicode/utf8.acceptRanges"], apart := false, laid := [("unicode/utf8.acceptRanges", laid_unicode_utf8_acceptRanges), ("unicode/utf8.first", laid_unicode_utf8_first)], narrowed := true }
def AuditPlaysUptoSaid : Prop := auditPlaysUptoRow.holds Tryd.pinned (OpenSpec.upto auditPlaysSpec)

/-- 'bowdlerlaw19.AuditProves', WHERE WHAT IT READS IS OF BULK AT MOST 1048576: true; the input reads as it did. -/
def auditProvesUptoRow : OpenClaim := { program := "ytepeopfdenieeaadoor", sum := "c06e937abae14457e0233eb6851b4f76fa7bf243756b7897d370bad7bac78c48", func := "bowdler/bowdlerlaw19.AuditProves", spec := "auditProves", named := ["unicode/utf8.first", "unicode/utf8.acceptRanges"], apart := false, laid := [("unicode/utf8.acceptRanges", laid_unicode_utf8_acceptRanges), ("unicode/utf8.first", laid_unicode_utf8_first)], narrowed := true }
def AuditProvesUptoSaid : Prop := auditProvesUptoRow.holds Tryd.pinned (OpenSpec.upto auditProvesSpec)

/-- 'bowdlerlaw19.AuditRight', WHERE WHAT IT READS IS OF BULK AT MOST 1048576: true; the input reads as it did. -/
def auditRightUptoRow : OpenClaim := { program := "ytepeopfdenieeaadoor", sum := "c06e937abae14457e0233eb6851b4f76fa7bf243756b7897d370bad7bac78c48", func := "bowdler/bowdlerlaw19.AuditRight", spec := "auditRight", named := ["unicode/utf8.first", "unicode/utf8.acceptRanges"], apart := false, laid := [("unicode/utf8.acceptRanges", laid_unicode_utf8_acceptRanges), ("unicode/utf8.first", laid_unicode_utf8_first)], narrowed := true }
def AuditRightUptoSaid : Prop := auditRightUptoRow.holds Tryd.pinned (OpenSpec.upto auditRightSpec)

/-- 'bowdlerlaw19.AuditCut', WHERE WHAT IT READS IS OF BULK AT MOST 1048576: true; the input reads as it did. -/
def auditCutUptoRow : OpenClaim := { program := "ytepeopfdenieeaadoor", sum := "c06e937abae14457e0233eb6851b4f76fa7bf243756b7897d370bad7bac78c48", func := "bowdler/bowdlerlaw19.AuditCut", spec := "auditCut", named := ["unicode/utf8.first", "unicode/utf8.acceptRanges"], apart := false, laid := [("unicode/utf8.acceptRanges", laid_unicode_utf8_acceptRanges), ("unicode/utf8.first", laid_unicode_utf8_first)], narrowed := true }
def AuditCutUptoSaid : Prop := auditCutUptoRow.holds Tryd.pinned (OpenSpec.upto auditCutSpec)

end Rows
end Go.Proofs.YtepeopfdenieeaaDoor
