/- What the rows of layer 9 list, as the cards want it: three tables; a world that holds them. -/
import Derived.Test.YtpeldjihalldkaaDoorRows
import Derived.Test.YtpeldjihalldkaaDoorTOpen
import Derived.Lib.LaidIn
import Derived.Deep.DeepHandedRow
import Derived.Deep.DeepWitnessRowRef
import Derived.ProofKit
import Derived.SizedLaws
namespace Go.Proofs.YtpeldjihalldkaaDoor
open Go Go.ChangeShapes Go.WideShapes Go.ChangeAt Go.RowKit Go.Lib

theorem own : ownKnob Tryd.prog.godebug = none := by kernel_rfl
theorem laidOut : laidOutB Tryd.prog = true := by kernel_rfl
def laidList : List (String × DataW Unit) := [("math/bits.deBruijn32tab", Rows.laid_math_bits_deBruijn32tab), ("math/bits.deBruijn64tab", Rows.laid_math_bits_deBruijn64tab), ("internal/strconv.uint64pow10", Rows.laid_internal_strconv_uint64pow10)]
/-- Nothing is asked of the tables. -/
def Tabs (_ : World) : Prop := True
theorem tabs_of {W : World} (_ : laidMet Tryd.prog laidList W) : Tabs W := trivial
/-- A table's cells. -/
def tabCells (d : DataW Unit) : Array Value :=
  match d with
  | .agg l => (l.map fun x => match x with | .lit (.int k n) => Value.int k n | _ => undef).toArray
  | _ => #[]
/-- A world for the witness: the settled one, the tables as their initialisers lay them. -/
noncomputable def laidWorld (os : Os) : World :=
  let w0 := World.holding Tryd.prog os ⟨#[], #[], []⟩
  let put (h : Array Obj) (g : Nat) (cs : Array Value) : Array Obj := h.modify g fun
    | .cells _ t frozen => .cells cs t frozen
    | o => o
  let h1 := put w0.heap 2 (tabCells Rows.laid_math_bits_deBruijn32tab)
  let h2 := put h1 3 (tabCells Rows.laid_math_bits_deBruijn64tab)
  let h3 := put h2 1 (tabCells Rows.laid_internal_strconv_uint64pow10)
  { w0 with heap := h3 }
theorem laid_met (os : Os) (args : Array Value) : laidMet Tryd.prog laidList ((laidWorld os).forCall (fun _ _ => 0) ⟨#[], args, []⟩).memory :=
  (LaidIn.of_run (l := laidList) [2, 3, 1] 8 (by kernel_rfl) (by kernel_rfl) (by kernel_rfl) (by kernel_rfl)).met
end Go.Proofs.YtpeldjihalldkaaDoor
