/- Layer 3's functions, of texts given as lists of bytes. -/
import Derived.Test.YtdmajeidggjalaaDoorQShown
import Derived.Test.YtdmajeidggjalaaDoorQCut
import Derived.Test.YtdmajeidggjalaaDoorQCutsLaw
import Derived.Test.YtdmajeidggjalaaDoorText
import Derived.Deep.DeepCutAuto
namespace Go.Proofs.YtdmajeidggjalaaDoor
open Go Go.RowKit

def txt (l : List UInt8) : Value := .string ⟨l.toArray⟩
theorem size_mk (l : List UInt8) : (⟨l.toArray⟩ : ByteArray).size = l.length := by simp [ByteArray.size]
theorem bytes_list (s : ByteArray) : s = ⟨s.data.toList.toArray⟩ := by cases s; simp
theorem valid_l (w : World) (l : List UInt8) (h : l.length ≤ 1000000) (hT : Tabs w) : Calls Tryd.prog 13 #[.string ⟨l.toArray⟩] w fun e w' => e = .returned (.bool (Lib.validD l)) ∧ Kp [] w w' :=
  qvalid_any w ⟨l.toArray⟩ (by rw [size_mk]; omega) hT
theorem runes_l (w : World) (l : List UInt8) (h : l.length ≤ 1000000) : Calls Tryd.prog 15 #[.string ⟨l.toArray⟩] w fun e w' => e = .returned (.int .i64 ((partsL l).length : Int)) ∧ Kp [] w w' :=
  qrunes_any w ⟨l.toArray⟩ (by rw [size_mk]; omega)
theorem cut_l (w : World) (l : List UInt8) (f t : Int) (h : l.length ≤ 1000000) : Calls Tryd.prog 18 #[.string ⟨l.toArray⟩, .int .i64 f, .int .i64 t] w fun e w' => e = .returned (.string ⟨(cutL l f t).toArray⟩) ∧ Kp [] w w' :=
  qcut_any w ⟨l.toArray⟩ f t (by rw [size_mk]; omega)
theorem quote_l (w : World) (l : List UInt8) (h : l.length ≤ 1000000) (hv : Lib.validD l = true) : Calls Tryd.prog 14 #[.string ⟨l.toArray⟩] w fun e w' => e = .returned (.string ⟨(quoteL l).toArray⟩) ∧ Kp [] w w' :=
  qquote_any w ⟨l.toArray⟩ (by rw [size_mk]; omega) hv
theorem unq_l (w : World) (l : List UInt8) (h : l.length ≤ 1000000) (hT : Tabs w) : Calls Tryd.prog 10 #[.string ⟨l.toArray⟩] w (UnqPost w l) :=
  qunq_any w ⟨l.toArray⟩ (by rw [size_mk]; omega) hT
theorem mk_toList (l : List UInt8) : (⟨l.toArray⟩ : ByteArray).toList = l := by rw [ByteArray.toList_eq]
/-- A text of at most so many bytes, as a list. -/
theorem few_list (n : Nat) (s : ByteArray) : ∃ l : List UInt8, l.length ≤ n ∧ l.length ≤ s.size ∧ (fewL n s) = ⟨l.toArray⟩ := by
  refine ⟨(fewL n s).data.toList, ?_, ?_, bytes_list _⟩
  · rw [Array.length_toList]
    exact fewL_size n s
  · rw [Array.length_toList]
    show (fewL n s).size ≤ s.size
    unfold fewL
    split
    · rw [ByteArray.size_extract]; omega
    · omega
theorem cutL_len (l : List UInt8) (f t : Int) : (cutL l f t).length ≤ l.length := by
  unfold cutL cutN
  rw [List.length_drop, List.length_take]
  omega
end Go.Proofs.YtdmajeidggjalaaDoor
