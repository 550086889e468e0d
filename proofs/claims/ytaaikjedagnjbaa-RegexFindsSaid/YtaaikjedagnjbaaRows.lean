/-
  No cell of these rows narrows 'for every input' (looked for: loops, veiled, ifaces, maps, wideKeys, modest, calm, conditions, laid).
  DERIVED. THE GIVEN ROWS OF THIS SEAT. 6 by the template 'for every input the law returns true; each argument reads behind the call as it read before'; 0 by the template 'total and deterministic' (their statements: YtaaikjedagnjbaaTotals.lean).
  GIVEN WITH THE SEED: the statements are not yours to turn. If you find one false, say at which input.
  Laid BY PROGRAM, IN A SANDBOX (cutbox-rows.mjs): the forced cells as the released guide's own fill.sh prints them over the translation b103e51c4736f6fc… (all of the seat's roots in one cut). By AI agents, Wed Nov 11 2026. No macro, syntax, notation, axiom, sorry.
-/
import Derived.Test.YtaaikjedagnjbaaChecked
import GoSem.Claim
import GoSem.ClaimJoined
import GoSem.ClaimMapViews
import Derived.JoinedTies
import Derived.KernelRfl
namespace Go.Proofs.Ytaaikjedagnjbaa
/- THE CELL 'sum', in the pinned program and in every row, IS THE sha256 OF THE DUMP (.gsa) THAT YtaaikjedagnjbaaProg.lean LOADS. Nothing in Lean hashes anything: it is a label: what it is worth is what the hold of that sum in a sandbox is worth. -/
noncomputable def Try.pinned : Pinned := { name := "ytaaikjedagnjbaa", sum := "b103e51c4736f6fc4701a40f4ae13a803bab5a0571ce5a0691ea34c052a638a9", checked := Try.checked }
namespace Rows
def none {H : Type} : Left H := { results := [], args := [] }

/-- 'bowdlerlaw12.RegexFinds': WHATEVER THE INPUT: true; the input reads as it did. -/
def regexFindsSpec : ChangeSpec := { name := "regexFinds", fn := fun _ => fun
  | [d1, d2] => { results := [.lit (.bool true)], args := [d1, d2] }
  | _ => none }
def regexFindsRow : OpenClaim := { program := "ytaaikjedagnjbaa", sum := "b103e51c4736f6fc4701a40f4ae13a803bab5a0571ce5a0691ea34c052a638a9", func := "bowdler/bowdlerlaw12.RegexFinds", spec := "regexFinds", inPlace := ["internal/bytealg.IndexByteString", "internal/bytealg.IndexString"], unfollowed := true, recurses := true, named := ["internal/bytealg.MaxLen"], apart := false }
def RegexFindsSaid : Prop := regexFindsRow.holds Try.pinned (OpenSpec.ofChange regexFindsSpec)

/-- ITS FALSE NEIGHBOUR: 'it returns false'. Refute it at one input. -/
def regexFindsWrong : ChangeSpec := { name := "regexFinds", fn := fun _ => fun
  | [d1, d2] => { results := [.lit (.bool false)], args := [d1, d2] }
  | _ => none }
def RegexFindsWrongFalsely : Prop := regexFindsRow.holds Try.pinned (OpenSpec.ofChange regexFindsWrong)

/-- 'bowdlerlaw12.RegexParts': WHATEVER THE INPUT: true; the input reads as it did. -/
def regexPartsSpec : ChangeSpec := { name := "regexParts", fn := fun _ => fun
  | [d1, d2, d3] => { results := [.lit (.bool true)], args := [d1, d2, d3] }
  | _ => none }
def regexPartsRow : OpenClaim := { program := "ytaaikjedagnjbaa", sum := "b103e51c4736f6fc4701a40f4ae13a803bab5a0571ce5a0691ea34c052a638a9", func := "bowdler/bowdlerlaw12.RegexParts", spec := "regexParts", inPlace := ["internal/bytealg.IndexByteString", "internal/bytealg.IndexString"], unfollowed := true, recurses := true, named := ["internal/bytealg.MaxLen"], apart := false }
def RegexPartsSaid : Prop := regexPartsRow.holds Try.pinned (OpenSpec.ofChange regexPartsSpec)

/-- ITS FALSE NEIGHBOUR: 'it returns false'. Refute it at one input. -/
def regexPartsWrong : ChangeSpec := { name := "regexParts", fn := fun _ => fun
  | [d1, d2, d3] => { results := [.lit (.bool false)], args := [d1, d2, d3] }
  | _ => none }
def RegexPartsWrongFalsely : Prop := regexPartsRow.holds Try.pinned (OpenSpec.ofChange regexPartsWrong)

/-- 'bowdlerlaw12.RegexPlain': WHATEVER THE INPUT: true; the input reads as it did. -/
def regexPlainSpec : ChangeSpec := { name := "regexPlain", fn := fun _ => fun
  | [d1, d2] => { results := [.lit (.bool true)], args := [d1, d2] }
  | _ => none }
def regexPlainRow : OpenClaim := { program := "ytaaikjedagnjbaa", sum := "b103e51c4736f6fc4701a40f4ae13a803bab5a0571ce5a0691ea34c052a638a9", func := "bowdler/bowdlerlaw12.RegexPlain", spec := "regexPlain", inPlace := ["internal/bytealg.IndexByteString", "internal/bytealg.IndexString"], unfollowed := true, recurses := true, named := ["internal/bytealg.MaxLen"], apart := false }
def RegexPlainSaid : Prop := regexPlainRow.holds Try.pinned (OpenSpec.ofChange regexPlainSpec)

/-- ITS FALSE NEIGHBOUR: 'it returns false'. Refute it at one input. -/
def regexPlainWrong : ChangeSpec := { name := "regexPlain", fn := fun _ => fun
  | [d1, d2] => { results := [.lit (.bool false)], args := [d1, d2] }
  | _ => none }
def RegexPlainWrongFalsely : Prop := regexPlainRow.holds Try.pinned (OpenSpec.ofChange regexPlainWrong)

/-- 'bowdlerlaw12.RegexClasses': WHATEVER THE INPUT: true; the input reads as it did. -/
def regexClassesSpec : ChangeSpec := { name := "regexClasses", fn := fun _ => fun
  | [d1, d2] => { results := [.lit (.bool true)], args := [d1, d2] }
  | _ => none }
def regexClassesRow : OpenClaim := { program := "ytaaikjedagnjbaa", sum := "b103e51c4736f6fc4701a40f4ae13a803bab5a0571ce5a0691ea34c052a638a9", func := "bowdler/bowdlerlaw12.RegexClasses", spec := "regexClasses", inPlace := ["internal/bytealg.IndexByteString", "internal/bytealg.IndexString"], unfollowed := true, recurses := true, named := ["internal/bytealg.MaxLen"], apart := false }
def RegexClassesSaid : Prop := regexClassesRow.holds Try.pinned (OpenSpec.ofChange regexClassesSpec)

/-- ITS FALSE NEIGHBOUR: 'it returns false'. Refute it at one input. -/
def regexClassesWrong : ChangeSpec := { name := "regexClasses", fn := fun _ => fun
  | [d1, d2] => { results := [.lit (.bool false)], args := [d1, d2] }
  | _ => none }
def RegexClassesWrongFalsely : Prop := regexClassesRow.holds Try.pinned (OpenSpec.ofChange regexClassesWrong)

/-- 'bowdlerlaw12.RegexRows': WHATEVER THE INPUT: true; the input reads as it did. -/
def regexRowsSpec : ChangeSpec := { name := "regexRows", fn := fun _ => fun
  | [d1, d2] => { results := [.lit (.bool true)], args := [d1, d2] }
  | _ => none }
def regexRowsRow : OpenClaim := { program := "ytaaikjedagnjbaa", sum := "b103e51c4736f6fc4701a40f4ae13a803bab5a0571ce5a0691ea34c052a638a9", func := "bowdler/bowdlerlaw12.RegexRows", spec := "regexRows", inPlace := ["internal/bytealg.IndexByteString", "internal/bytealg.IndexString"], unfollowed := true, recurses := true, named := ["internal/bytealg.MaxLen"], apart := false }
def RegexRowsSaid : Prop := regexRowsRow.holds Try.pinned (OpenSpec.ofChange regexRowsSpec)

/-- ITS FALSE NEIGHBOUR: 'it returns false'. Refute it at one input. -/
def regexRowsWrong : ChangeSpec := { name := "regexRows", fn := fun _ => fun
  | [d1, d2] => { results := [.lit (.bool false)], args := [d1, d2] }
  | _ => none }
def RegexRowsWrongFalsely : Prop := regexRowsRow.holds Try.pinned (OpenSpec.ofChange regexRowsWrong)

/-- 'bowdlerlaw12.RegexWords': WHATEVER THE INPUT: true; the input reads as it did. -/
def regexWordsSpec : ChangeSpec := { name := "regexWords", fn := fun _ => fun
  | [d1, d2, d3] => { results := [.lit (.bool true)], args := [d1, d2, d3] }
  | _ => none }
def regexWordsRow : OpenClaim := { program := "ytaaikjedagnjbaa", sum := "b103e51c4736f6fc4701a40f4ae13a803bab5a0571ce5a0691ea34c052a638a9", func := "bowdler/bowdlerlaw12.RegexWords", spec := "regexWords", inPlace := ["internal/bytealg.IndexByteString", "internal/bytealg.IndexString"], unfollowed := true, recurses := true, named := ["internal/bytealg.MaxLen"], apart := false }
def RegexWordsSaid : Prop := regexWordsRow.holds Try.pinned (OpenSpec.ofChange regexWordsSpec)

/-- ITS FALSE NEIGHBOUR: 'it returns false'. Refute it at one input. -/
def regexWordsWrong : ChangeSpec := { name := "regexWords", fn := fun _ => fun
  | [d1, d2, d3] => { results := [.lit (.bool false)], args := [d1, d2, d3] }
  | _ => none }
def RegexWordsWrongFalsely : Prop := regexWordsRow.holds Try.pinned (OpenSpec.ofChange regexWordsWrong)

/- THE SECOND FORM. 'bulk': how many values and letters a reading holds, each counted each time it is reached (what is shared counts as often as it is met; a slice's spare places count too). A statement '..UptoSaid' is the law's where the arguments, and the package variables that the reading takes, are together of bulk at most 1048576: NARROWER than '..Said'. Prove '..Said' where nothing that the law and all that it calls make is longer than what came in: it says more and counts as full. Else prove '..UptoSaid'. A law counts once. -/
mutual
def uptoBulk {H : Type} : DataW H → Nat
  | .lit (.string bytes) => bytes.length + 1
  | .lit _ => 1
  | .nil => 1
  | .ptr d => uptoBulk d + 1
  | .slice elems spare => uptoBulkAll elems + uptoBulkAll spare + 1
  | .agg parts => uptoBulkAll parts + 1
  | .iface _ d => uptoBulk d + 1
  | .map entries => uptoBulkEntries entries + 1
  | .held _ => 1
def uptoBulkAll {H : Type} : List (DataW H) → Nat
  | [] => 0
  | d :: r => uptoBulk d + uptoBulkAll r
def uptoBulkEntries {H : Type} : List (Lit × DataW H) → Nat
  | [] => 0
  | x :: r => uptoBulkEntry x + uptoBulkEntries r
def uptoBulkEntry {H : Type} : Lit × DataW H → Nat
  | (.string bytes, d) => bytes.length + uptoBulk d + 1
  | (_, d) => uptoBulk d + 1
 end
def uptoSmall : (H : Type) → List (DataW H) → Bool := fun _ ds => decide (uptoBulkAll ds ≤ 1048576)
def OpenSpec.upto (s : _root_.Go.ChangeSpec) : _root_.Go.OpenSpec := { _root_.Go.OpenSpec.ofChange s with cond := some uptoSmall }

/-- 'bowdlerlaw12.RegexFinds', WHERE WHAT IT READS IS OF BULK AT MOST 1048576: true; the input reads as it did. -/
def regexFindsUptoRow : OpenClaim := { program := "ytaaikjedagnjbaa", sum := "b103e51c4736f6fc4701a40f4ae13a803bab5a0571ce5a0691ea34c052a638a9", func := "bowdler/bowdlerlaw12.RegexFinds", spec := "regexFinds", inPlace := ["internal/bytealg.IndexByteString", "internal/bytealg.IndexString"], unfollowed := true, recurses := true, named := ["internal/bytealg.MaxLen"], apart := false, narrowed := true }
def RegexFindsUptoSaid : Prop := regexFindsUptoRow.holds Try.pinned (OpenSpec.upto regexFindsSpec)

/-- 'bowdlerlaw12.RegexParts', WHERE WHAT IT READS IS OF BULK AT MOST 1048576: true; the input reads as it did. -/
def regexPartsUptoRow : OpenClaim := { program := "ytaaikjedagnjbaa", sum := "b103e51c4736f6fc4701a40f4ae13a803bab5a0571ce5a0691ea34c052a638a9", func := "bowdler/bowdlerlaw12.RegexParts", spec := "regexParts", inPlace := ["internal/bytealg.IndexByteString", "internal/bytealg.IndexString"], unfollowed := true, recurses := true, named := ["internal/bytealg.MaxLen"], apart := false, narrowed := true }
def RegexPartsUptoSaid : Prop := regexPartsUptoRow.holds Try.pinned (OpenSpec.upto regexPartsSpec)

/-- 'bowdlerlaw12.RegexPlain', WHERE WHAT IT READS IS OF BULK AT MOST 1048576: true; the input reads as it did. -/
def regexPlainUptoRow : OpenClaim := { program := "ytaaikjedagnjbaa", sum := "b103e51c4736f6fc4701a40f4ae13a803bab5a0571ce5a0691ea34c052a638a9", func := "bowdler/bowdlerlaw12.RegexPlain", spec := "regexPlain", inPlace := ["internal/bytealg.IndexByteString", "internal/bytealg.IndexString"], unfollowed := true, recurses := true, named := ["internal/bytealg.MaxLen"], apart := false, narrowed := true }
def RegexPlainUptoSaid : Prop := regexPlainUptoRow.holds Try.pinned (OpenSpec.upto regexPlainSpec)

/-- 'bowdlerlaw12.RegexClasses', WHERE WHAT IT READS IS OF BULK AT MOST 1048576: true; the input reads as it did. -/
def regexClassesUptoRow : OpenClaim := { program := "ytaaikjedagnjbaa", sum := "b103e51c4736f6fc4701a40f4ae13a803bab5a0571ce5a0691ea34c052a638a9", func := "bowdler/bowdlerlaw12.RegexClasses", spec := "regexClasses", inPlace := ["internal/bytealg.IndexByteString", "internal/bytealg.IndexString"], unfollowed := true, recurses := true, named := ["internal/bytealg.MaxLen"], apart := false, narrowed := true }
def RegexClassesUptoSaid : Prop := regexClassesUptoRow.holds Try.pinned (OpenSpec.upto regexClassesSpec)

/-- 'bowdlerlaw12.RegexRows', WHERE WHAT IT READS IS OF BULK AT MOST 1048576: true; the input reads as it did. -/
def regexRowsUptoRow : OpenClaim := { program := "ytaaikjedagnjbaa", sum := "b103e51c4736f6fc4701a40f4ae13a803bab5a0571ce5a0691ea34c052a638a9", func := "bowdler/bowdlerlaw12.RegexRows", spec := "regexRows", inPlace := ["internal/bytealg.IndexByteString", "internal/bytealg.IndexString"], unfollowed := true, recurses := true, named := ["internal/bytealg.MaxLen"], apart := false, narrowed := true }
def RegexRowsUptoSaid : Prop := regexRowsUptoRow.holds Try.pinned (OpenSpec.upto regexRowsSpec)

/-- 'bowdlerlaw12.RegexWords', WHERE WHAT IT READS IS OF BULK AT MOST 1048576: true; the input reads as it did. -/
def regexWordsUptoRow : OpenClaim := { program := "ytaaikjedagnjbaa", sum := "b103e51c4736f6fc4701a40f4ae13a803bab5a0571ce5a0691ea34c052a638a9", func := "bowdler/bowdlerlaw12.RegexWords", spec := "regexWords", inPlace := ["internal/bytealg.IndexByteString", "internal/bytealg.IndexString"], unfollowed := true, recurses := true, named := ["internal/bytealg.MaxLen"], apart := false, narrowed := true }
def RegexWordsUptoSaid : Prop := regexWordsUptoRow.holds Try.pinned (OpenSpec.upto regexWordsSpec)

end Rows
end Go.Proofs.Ytaaikjedagnjbaa
