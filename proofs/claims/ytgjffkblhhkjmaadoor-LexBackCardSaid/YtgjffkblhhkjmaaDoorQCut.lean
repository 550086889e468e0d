/- quote.Cut. -/
import Derived.Test.YtgjffkblhhkjmaaDoorQValid
import Derived.Deep.Cut
import Derived.Lib.OthersKept
namespace Go.Proofs.YtgjffkblhhkjmaaDoor
open Go Go.RowKit

theorem fromN_eq (n : Nat) (f : Int) : min (max f 0) (n : Int) = ((fromN n f : Nat) : Int) := by unfold fromN; omega
theorem toN_eq (n : Nat) (f t : Int) : min (max t ((fromN n f : Nat) : Int)) (n : Int) = ((toN n f t : Nat) : Int) := by unfold toN; omega
theorem extract_list (s : ByteArray) (i j : Nat) : s.extract i j = ⟨((s.data.toList.take j).drop i).toArray⟩ := by
  apply ByteArray.ext
  rw [ByteArray.data_extract]
  apply Array.toList_inj.1
  rw [Array.toList_extract]
  simp [List.extract, List.drop_take]
end Go.Proofs.YtgjffkblhhkjmaaDoor
