/- frame.Sum: the sum of any bytes, as plain arithmetic has it. -/
import Derived.Test.YtepeopfdenieeaaDoorProg
import Derived.Test.YtepeopfdenieeaaDoorLaws
import Derived.Test.YtepeopfdenieeaaDoorCrc
import Derived.Laws.BitsAllLaws
namespace Go.Proofs.YtepeopfdenieeaaDoor
open Go Go.RowKit

theorem crcRow_step (r : Nat) (l : List UInt8) (k : Nat) (h : k < l.length) : crcRow r (l.take (k + 1)) = crcByte (crcRow r (l.take k)) (l[k]).toNat := by
  rw [List.take_add_one, List.getElem?_eq_getElem h, crcRow_append]
  rfl
theorem bit_walk {m : Nat} (h : m < 4294967296) : bits .xor .u32 ((m : Int) / 2) (bits .and .u32 (m : Int) 1 * 3988292384 % 4294967296) = (crcBit m : Nat) := by
  have h1 := u32_and_nat m 1 h (by omega)
  rw [nat_mask1] at h1
  have h2 : (bits .and .u32 (m : Int) 1) = ((m % 2 : Nat) : Int) := by exact_mod_cast h1
  rw [h2]
  have h3 : ((m % 2 : Nat) : Int) * 3988292384 % 4294967296 = ((m % 2 * 3988292384 : Nat) : Int) := by omega
  have h4 : (m : Int) / 2 = ((m / 2 : Nat) : Int) := by omega
  rw [h3, h4, u32_xor_nat _ _ (by omega) (by omega)]
  rfl
theorem not_walk {m : Nat} (h : m < 4294967296) : bits .xor .u32 IntKind.u32.max (m : Int) = ((m ^^^ 4294967295 : Nat) : Int) := by
  have h1 := u32_xor_nat 4294967295 m (by omega) h
  rw [Nat.xor_comm] at h1
  exact h1
set_option maxHeartbeats 400000 in
theorem sum_any (w : World) (A : Option Addr) (n c : Nat) (l : List UInt8) (hs : Span w A (u8s l)) (hn : l.length = n) (hc : n ≤ c) (hm : n ≤ 9223372036854775807) :
    Calls Tryd.prog 17 #[.slice A n c] w fun e w' => e = .returned (.int .u32 (crcSum l : Nat)) ∧ w' = w := by
  have Hn := hid hn
  clear hn
  go_enter Tryd.func17, Tryd.ntmps17
  go_wp2_with fail
  go_loopw [3, 8] (fun r i wr => ∃ k : Nat, k ≤ n ∧ i = .int .i64 k ∧ r = .int .u32 (crcRow 4294967295 (l.take k) : Nat) ∧ wr = w) (fun _ i _ => n - (intOf i).toNat)
  case atStart => exact ⟨0, by omega, rfl, rfl, rfl⟩
  case round =>
    obtain ⟨k, hk, rfl, rfl, rfl⟩ := hrel
    by_cases hlt : k < n
    · have hkl : k < l.length := by rw [Hn.out]; exact hlt
      obtain ⟨ad, rfl, hcl⟩ := hs.get (j := k) (by rw [length_u8s]; exact hkl)
      have hcl' : wr.cell? (ad.add k) = some (.int .u8 (l[k].toNat : Int)) := by simpa [u8s, u8] using hcl
      have h1 := crcRow_lt (l.take k) (r := 4294967295) (by omega)
      have h2 := crcRow_step 4294967295 l k hkl
      have h3 := (l[k]).toNat_lt
      generalize l[k] = x at *
      generalize crcRow 4294967295 (l.take k) = R at *
      obtain ⟨R', hR'⟩ : ∃ R', R' = crcRow 4294967295 (l.take (k + 1)) := ⟨_, rfl⟩
      rw [← hR'] at h2
      have HR' := hid hR'
      clear hR'
      clear hcl
      obtain ⟨wq, hwq⟩ : ∃ wq : World, wq = wr := ⟨_, rfl⟩
      go_wp2_with fail
      go_loopw [3, 16] (fun r i wr => ∃ (j m : Nat), j ≤ 8 ∧ i = .int .i64 j ∧ r = .int .u32 (m : Nat) ∧ m < 4294967296 ∧ crcBits (8 - j) m = R' ∧ wr = wq) (fun _ i _ => 8 - (intOf i).toNat)
      case atStart =>
        refine ⟨0, R ^^^ x.toNat, by omega, rfl, ?_, xor_lt32 h1 (by omega), ?_, hwq.symm⟩
        · rw [u32_xor_nat _ _ h1 (by omega)]
        · rw [h2]; rfl
      case round =>
        obtain ⟨j, m, hj, rfl, rfl, hm1, hm2, rfl⟩ := hrel
        by_cases hj8 : j < 8
        · go_wp2_with fail
          go_roundw
          case rel =>
            refine ⟨j + 1, crcBit m, by omega, by go_num, by rw [bit_walk hm1], crcBit_lt hm1, ?_, hwq.symm⟩
            rw [← hm2, show 8 - j = (8 - (j + 1)) + 1 from by omega]
            rfl
          case measure => simp [intOf]; omega
        · obtain rfl : j = 8 := by omega
          obtain rfl : m = R' := hm2
          go_wp2_with fail
          go_roundw
          case rel => exact ⟨k + 1, by omega, by go_num, by rw [← HR'.out], trivial⟩
          case measure => simp [intOf]; omega
    · go_wp2_with fail
      go_ret
      obtain rfl : k = n := by omega
      rw [not_walk (crcRow_lt _ (by omega)), List.take_of_length_le (by have := Hn.out; omega)]
      exact ⟨rfl, rfl⟩
end Go.Proofs.YtepeopfdenieeaaDoor
