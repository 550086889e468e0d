/- The document's answer: the number of so many bytes at a place. -/
import Derived.Test.YtepeopfdenieeaaDoorRead
namespace Go.Proofs.YtepeopfdenieeaaDoor
open Go Go.RowKit

set_option maxHeartbeats 400000 in
theorem at_any (w : World) (A : Option Addr) (n c : Nat) (l : List UInt8) (hs : Span w A (u8s l)) (hn : l.length = n) (hc2 : n ≤ 9223372036854775807) (k wide : Nat) (hw : wide ≤ 4) (hk : k + wide ≤ n) :
    Calls Tryd.prog 46 #[.slice A n c, .int .i64 (k : Int), .int .i64 (wide : Int)] w fun e w' => e = .returned (.int .i64 (readB ((l.drop k).take wide) : Nat)) ∧ w' = w := by
  obtain ⟨m, hm⟩ : ∃ m, m = (l.drop k).take wide := ⟨_, rfl⟩
  rw [← hm]
  have hml : m.length = wide := by rw [hm, List.length_take, List.length_drop, hn]; omega
  have hget : ∀ i, i < wide → m[i]? = l[k + i]? := by
    intro i h
    rw [hm, List.getElem?_take, if_pos h, List.getElem?_drop]
  have Hn := hid hn
  have Hml := hid hml
  have Hget := hid hget
  clear hn hm hml hget
  go_enter Tryd.func46, Tryd.ntmps46
  go_wp2_with fail
  go_loopw [7, 8] (fun r i wr => ∃ j : Nat, j ≤ wide ∧ i = .int .i64 j ∧ r = .int .i64 (readB (m.take j) : Nat) ∧ wr = w) (fun _ i _ => wide - (intOf i).toNat)
  case atStart => exact ⟨0, by omega, rfl, rfl, rfl⟩
  case round =>
    obtain ⟨j, hj, rfl, rfl, rfl⟩ := hrel
    by_cases hlt : j < wide
    · have hkl : k + j < l.length := by rw [Hn.out]; omega
      obtain ⟨ad, rfl, hcl⟩ := span_byte hs hkl
      have h1 : readB (m.take j) < 16777216 := by
        have := readB_lt (m.take j)
        rw [List.length_take, Nat.min_eq_left (by have := Hml.out; omega)] at this
        have h2 : 256 ^ j ≤ 256 ^ 3 := Nat.pow_le_pow_right (by omega) (by omega)
        omega
      have h2 : readB (m.take (j + 1)) = 256 * readB (m.take j) + (l[k + j]).toNat := by
        rw [List.take_add_one, Hget.out j hlt, List.getElem?_eq_getElem hkl]
        exact readB_append _ _
      have h3 := (l[k + j]).toNat_lt
      generalize l[k + j] = x at *
      obtain ⟨R, hR⟩ : ∃ R, R = readB (m.take j) := ⟨_, rfl⟩
      rw [← hR] at h1 h2 ⊢
      have H2 := hid h2
      have h4 : k + j < n := by omega
      clear hR h2
      go_wp2_with fail
      go_roundw
      case rel => exact ⟨j + 1, by omega, by go_num, by rw [H2.out]; go_num, trivial⟩
      case measure => simp [intOf]; omega
    · go_wp2_with fail
      go_ret
      obtain rfl : j = wide := by omega
      exact ⟨by rw [List.take_of_length_le (by have := Hml.out; omega)]; rfl, rfl⟩
end Go.Proofs.YtepeopfdenieeaaDoor
