/- The letters of a text. -/
import Derived.Test.YtaaikjedagnjbaaGWordLaw
import Derived.Test.YtaaikjedagnjbaaGRefParts
namespace Go.Proofs.Ytaaikjedagnjbaa
open Go Go.RowKit Go.Lib

theorem snoc_byte (X : List UInt8) (s : ByteArray) (i : Nat) (h : i < s.size) : (⟨X.toArray⟩ : ByteArray) ++ s.extract i (i + 1) = ⟨(X ++ [s[i]]).toArray⟩ := by
  have hl : i < s.data.toList.length := h
  have e : s.extract i (i + 1) = ⟨[s[i]].toArray⟩ := by
    rw [extract_list]
    congr 2
    rw [List.take_add_one, List.drop_append_of_le_length (by rw [List.length_take]; omega), List.drop_eq_nil_of_le (by rw [List.length_take]; omega), List.getElem?_eq_getElem hl]
    rfl
  rw [e]
  refine ByteArray.ext ?_
  rw [ByteArray.data_append]
  simp
set_option maxRecDepth 100000 in
set_option maxHeartbeats 3200000 in
theorem word_any (w : World) (s : ByteArray) (_ : s.size ≤ 9223372036854775807) :
    Calls Try.prog 21 #[.string s] w fun e w' => (∃ X : List UInt8, e = .returned (.string ⟨X.toArray⟩) ∧ X.length ≤ 12 ∧ ∀ b ∈ X, 97 ≤ b.toNat ∧ b.toNat ≤ 122) ∧ w' = w := by
  go_enter Try.func21, Try.ntmps21
  go_wp2_with fail
  go_loopg [3, 4] 13 (fun gg v3 v4 wx => wx = w ∧ ∃ (i : Nat) (X : List UInt8), v4 = .int .i64 (i : Int) ∧ v3 = .string ⟨X.toArray⟩ ∧ X.length ≤ i ∧ i ≤ 12 ∧ 13 - i ≤ gg ∧ ∀ b ∈ X, 97 ≤ b.toNat ∧ b.toNat ≤ 122)
  case atStart => exact ⟨rfl, 0, [], rfl, rfl, Nat.le_refl _, by omega, by omega, by simp⟩
  case round =>
    obtain ⟨hw, i, X, rfl, rfl, hXi, hi, hg, hX⟩ := hrel
    have hw2 := hw.symm
    subst hw2
    have HX := hid hX
    clear hX hw
    by_cases h1 : i < s.size
    · have b0 : decide ((i : Int) < (s.size : Int)) = true := decide_eq_true (by omega)
      have b1 : (i : Int) < (s.size : Int) := by omega
      by_cases h2 : i < 12
      · have b2 : decide ((i : Int) < 12) = true := decide_eq_true (by omega)
        have b3 : (i : Int) < 12 := by omega
        obtain ⟨y, hy⟩ : ∃ y, y = (s[i]'h1).toNat := ⟨_, rfl⟩
        have hsn := snoc_byte X s i h1
        have HS := hid (And.intro hsn hy)
        by_cases ha : 97 ≤ y
        · by_cases hb : y ≤ 122
          · have c0 : decide ((97 : Int) ≤ ((s[i]'h1).toNat : Int)) = true := decide_eq_true (by omega)
            have c1 : decide (((s[i]'h1).toNat : Int) ≤ 122) = true := decide_eq_true (by omega)
            have HY := hid (And.intro ha hb)
            clear hsn hy ha hb
            go_wp2_with fail
            go_roundg (gk - 1)
            case measure => omega
            case rel =>
              refine ⟨rfl, i + 1, X ++ [s[i]'h1], rfl, by rw [HS.out.1], by rw [List.length_append, List.length_singleton]; omega, by omega, by omega, fun b hb => ?_⟩
              rcases List.mem_append.1 hb with h | h
              · exact HX.out b h
              · rw [List.mem_singleton.1 h, ← HS.out.2]
                exact HY.out
          · have c0 : decide ((97 : Int) ≤ ((s[i]'h1).toNat : Int)) = true := decide_eq_true (by omega)
            have c1 : decide (((s[i]'h1).toNat : Int) ≤ 122) = false := decide_eq_false (by omega)
            clear hsn hy ha hb
            go_wp2_with fail
            go_roundg (gk - 1)
            case measure => omega
            case rel => exact ⟨rfl, i + 1, X, rfl, rfl, by omega, by omega, by omega, HX.out⟩
        · have c0 : decide ((97 : Int) ≤ ((s[i]'h1).toNat : Int)) = false := decide_eq_false (by omega)
          clear hsn hy ha
          go_wp2_with fail
          go_roundg (gk - 1)
          case measure => omega
          case rel => exact ⟨rfl, i + 1, X, rfl, rfl, by omega, by omega, by omega, HX.out⟩
      · have b2 : decide ((i : Int) < 12) = false := decide_eq_false (by omega)
        have b3 : ¬ (i : Int) < 12 := by omega
        go_wp2_with fail
        go_ret
        exact ⟨⟨X, rfl, by omega, HX.out⟩, rfl⟩
    · have b0 : decide ((i : Int) < (s.size : Int)) = false := decide_eq_false (by omega)
      have b1 : ¬ (i : Int) < (s.size : Int) := by omega
      go_wp2_with fail
      go_ret
      exact ⟨⟨X, rfl, by omega, HX.out⟩, rfl⟩
end Go.Proofs.Ytaaikjedagnjbaa
