/- A text turned into bytes, in the words of memory. -/
import Derived.Test.YtgjffkblhhkjmaaDoorChecked
import Derived.Test.YtgjffkblhhkjmaaDoorLaws
import Derived.Lib.ConvBytes
namespace Go.Proofs.YtgjffkblhhkjmaaDoor
open Go Go.RowKit

theorem kp_bytes (w : World) (s : ByteArray) : Kp [] w (Lib.bytesWorld w 5 s) := by
  refine ⟨rfl, rfl, rfl, by rw [Lib.bytesWorld_size]; omega, fun k hk _ => Lib.bytesWorld_at_old w 5 s k hk⟩
theorem bytes_cell (w : World) (l : List UInt8) (j : Nat) (h : j < l.length) : (Lib.bytesWorld w 5 ⟨l.toArray⟩).cell? ⟨w.heap.size, j, none⟩ = some (.int .u8 (l[j].toNat : Int)) := by
  have h2 := Lib.bytesWorld_cell w 5 ⟨l.toArray⟩ j (by simpa [ByteArray.size] using h)
  rw [h2, List.getD_eq_getElem?_getD]
  simp [h]
theorem conv_bytes (w : World) (l : List UInt8) (n : Nat) (hn : n = l.length) : (convert 9 67 (.string ⟨l.toArray⟩)).run Tryd.prog w = .ok (.slice (some ⟨w.heap.size, 0, none⟩) n (grownCap w n 0 5)) (Lib.bytesWorld w 5 ⟨l.toArray⟩) := by
  subst hn
  have h := Lib.run_convert_string_bytes (P := Tryd.prog) w 9 67 5 ⟨l.toArray⟩ Tryd.underlying9 Tryd.underlying67 Tryd.underlying5
  have e : (⟨l.toArray⟩ : ByteArray).size = l.length := by simp [ByteArray.size]
  rw [e] at h
  exact h
theorem size_mk (l : List UInt8) : (⟨l.toArray⟩ : ByteArray).size = l.length := by simp [ByteArray.size]
theorem extract_mk (l : List UInt8) (i j : Nat) : (⟨l.toArray⟩ : ByteArray).extract i j = ⟨((l.take j).drop i).toArray⟩ := by
  apply ByteArray.ext
  rw [ByteArray.data_extract]
  apply Array.toList_inj.1
  rw [Array.toList_extract]
  simp [List.extract, List.drop_take]
end Go.Proofs.YtgjffkblhhkjmaaDoor
