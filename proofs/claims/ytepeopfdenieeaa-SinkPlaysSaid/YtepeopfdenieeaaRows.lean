/-
  No cell of these rows narrows 'for every input' (looked for: loops, veiled, ifaces, maps, wideKeys, modest, calm, conditions, laid).
  DERIVED. THE GIVEN ROWS OF THIS SEAT. 3 by the template 'for every input the law returns true; each argument reads behind the call as it read before'; 0 by the template 'total and deterministic' (their statements: YtepeopfdenieeaaTotals.lean).
  GIVEN WITH THE SEED: the statements are not yours to turn. If you find one false, say at which input.
  Laid BY PROGRAM, IN A SANDBOX (cutbox-rows.mjs): the forced cells as the released guide's own fill.sh prints them over the translation 91654afde063c23d… (all of the seat's roots in one cut). By AI agents, Wed Nov 11 2026. No macro, syntax, notation, axiom, sorry.
-/
import Derived.Test.YtepeopfdenieeaaChecked
import GoSem.Claim
import GoSem.ClaimJoined
import GoSem.ClaimMapViews
import Derived.JoinedTies
import Derived.KernelRfl
namespace Go.Proofs.Ytepeopfdenieeaa
/- THE CELL 'sum', in the pinned program and in every row, IS THE sha256 OF THE DUMP (.gsa) THAT YtepeopfdenieeaaProg.lean LOADS. Nothing in Lean hashes anything: it is a label: what it is worth is what the hold of that sum in a sandbox is worth. -/
noncomputable def Try.pinned : Pinned := { name := "ytepeopfdenieeaa", sum := "91654afde063c23d97d79792b30507b881075011d4eb25354cb381bd63062818", checked := Try.checked }
namespace Rows
def none {H : Type} : Left H := { results := [], args := [] }

/-- 'bowdlerlaw18.SinkRooms': WHATEVER THE INPUT: true; the input reads as it did. -/
def sinkRoomsSpec : ChangeSpec := { name := "sinkRooms", fn := fun _ => fun
  | [d1, d2, d3] => { results := [.lit (.bool true)], args := [d1, d2, d3] }
  | _ => none }
def sinkRoomsRow : OpenClaim := { program := "ytepeopfdenieeaa", sum := "91654afde063c23d97d79792b30507b881075011d4eb25354cb381bd63062818", func := "bowdler/bowdlerlaw18.SinkRooms", spec := "sinkRooms", apart := false }
def SinkRoomsSaid : Prop := sinkRoomsRow.holds Try.pinned (OpenSpec.ofChange sinkRoomsSpec)

/-- ITS FALSE NEIGHBOUR: 'it returns false'. Refute it at one input. -/
def sinkRoomsWrong : ChangeSpec := { name := "sinkRooms", fn := fun _ => fun
  | [d1, d2, d3] => { results := [.lit (.bool false)], args := [d1, d2, d3] }
  | _ => none }
def SinkRoomsWrongFalsely : Prop := sinkRoomsRow.holds Try.pinned (OpenSpec.ofChange sinkRoomsWrong)

/-- 'bowdlerlaw18.SinkPrefix': WHATEVER THE INPUT: true; the input reads as it did. -/
def sinkPrefixSpec : ChangeSpec := { name := "sinkPrefix", fn := fun _ => fun
  | [d1, d2, d3] => { results := [.lit (.bool true)], args := [d1, d2, d3] }
  | _ => none }
def sinkPrefixRow : OpenClaim := { program := "ytepeopfdenieeaa", sum := "91654afde063c23d97d79792b30507b881075011d4eb25354cb381bd63062818", func := "bowdler/bowdlerlaw18.SinkPrefix", spec := "sinkPrefix", apart := false }
def SinkPrefixSaid : Prop := sinkPrefixRow.holds Try.pinned (OpenSpec.ofChange sinkPrefixSpec)

/-- ITS FALSE NEIGHBOUR: 'it returns false'. Refute it at one input. -/
def sinkPrefixWrong : ChangeSpec := { name := "sinkPrefix", fn := fun _ => fun
  | [d1, d2, d3] => { results := [.lit (.bool false)], args := [d1, d2, d3] }
  | _ => none }
def SinkPrefixWrongFalsely : Prop := sinkPrefixRow.holds Try.pinned (OpenSpec.ofChange sinkPrefixWrong)

/-- 'bowdlerlaw18.SinkPlays': WHATEVER THE INPUT: true; the input reads as it did. -/
def sinkPlaysSpec : ChangeSpec := { name := "sinkPlays", fn := fun _ => fun
  | [d1, d2, d3] => { results := [.lit (.bool true)], args := [d1, d2, d3] }
  | _ => none }
def sinkPlaysRow : OpenClaim := { program := "ytepeopfdenieeaa", sum := "91654afde063c23d97d79792b30507b881075011d4eb25354cb381bd63062818", func := "bowdler/bowdlerlaw18.SinkPlays", spec := "sinkPlays", apart := false }
def SinkPlaysSaid : Prop := sinkPlaysRow.holds Try.pinned (OpenSpec.ofChange sinkPlaysSpec)

/-- ITS FALSE NEIGHBOUR: 'it returns false'. Refute it at one input. -/
def sinkPlaysWrong : ChangeSpec := { name := "sinkPlays", fn := fun _ => fun
  | [d1, d2, d3] => { results := [.lit (.bool false)], args := [d1, d2, d3] }
  | _ => none }
def SinkPlaysWrongFalsely : Prop := sinkPlaysRow.holds Try.pinned (OpenSpec.ofChange sinkPlaysWrong)

/- THE SECOND FORM. 'bulk': how many values and letters a reading holds, each counted each time it is reached (what is shared counts as often as it is met; a slice's spare places count too). A statement '..UptoSaid' is the law's where the arguments, and the package variables that the reading takes, are together of bulk at most 1048576: NARROWER than '..Said'. Prove '..Said' where nothing that the law and all that it calls make is longer than what came in: it says more and counts as full. Else prove '..UptoSaid'. A law counts once. -/
mutual
def uptoBulk {H : Type} : DataW H → Nat
  | .lit (.string bytes) => bytes.length + 1
  | .lit _ => 1
  | .nil => 1
  | .ptr d => uptoBulk d + 1
  | .slice elems spare => uptoBulkAll elems + uptoBulkAll spare + 1
  | .agg parts => uptoBulkAll parts + 1
  | .iface _ d => uptoBulk d + 1
  | .map entries => uptoBulkEntries entries + 1
  | .held _ => 1
def uptoBulkAll {H : Type} : List (DataW H) → Nat
  | [] => 0
  | d :: r => uptoBulk d + uptoBulkAll r
def uptoBulkEntries {H : Type} : List (Lit × DataW H) → Nat
  | [] => 0
  | x :: r => uptoBulkEntry x + uptoBulkEntries r
def uptoBulkEntry {H : Type} : Lit × DataW H → Nat
  | (.string bytes, d) => bytes.length + uptoBulk d + 1
  | (_, d) => uptoBulk d + 1
 end
def uptoSmall : (H : Type) → List (DataW H) → Bool := fun _ ds => decide (uptoBulkAll ds ≤ 1048576)
def OpenSpec.upto (s : _root_.Go.ChangeSpec) : _root_.Go.OpenSpec := { _root_.Go.OpenSpec.ofChange s with cond := some uptoSmall }

/-- 'bowdlerlaw18.SinkRooms', WHERE WHAT IT READS IS OF BULK AT MOST 1048576: true; the input reads as it did. -/
def sinkRoomsUptoRow : OpenClaim := { program := "ytepeopfdenieeaa", sum := "91654afde063c23d97d79792b30507b881075011d4eb25354cb381bd63062818", func := "bowdler/bowdlerlaw18.SinkRooms", spec := "sinkRooms", apart := false, narrowed := true }
def SinkRoomsUptoSaid : Prop := sinkRoomsUptoRow.holds Try.pinned (OpenSpec.upto sinkRoomsSpec)

/-- 'bowdlerlaw18.SinkPrefix', WHERE WHAT IT READS IS OF BULK AT MOST 1048576: true; the input reads as it did. -/
def sinkPrefixUptoRow : OpenClaim := { program := "ytepeopfdenieeaa", sum := "91654afde063c23d97d79792b30507b881075011d4eb25354cb381bd63062818", func := "bowdler/bowdlerlaw18.SinkPrefix", spec := "sinkPrefix", apart := false, narrowed := true }
def SinkPrefixUptoSaid : Prop := sinkPrefixUptoRow.holds Try.pinned (OpenSpec.upto sinkPrefixSpec)

/-- 'bowdlerlaw18.SinkPlays', WHERE WHAT IT READS IS OF BULK AT MOST 1048576: true; the input reads as it did. -/
def sinkPlaysUptoRow : OpenClaim := { program := "ytepeopfdenieeaa", sum := "91654afde063c23d97d79792b30507b881075011d4eb25354cb381bd63062818", func := "bowdler/bowdlerlaw18.SinkPlays", spec := "sinkPlays", apart := false, narrowed := true }
def SinkPlaysUptoSaid : Prop := sinkPlaysUptoRow.holds Try.pinned (OpenSpec.upto sinkPlaysSpec)

end Rows
end Go.Proofs.Ytepeopfdenieeaa
