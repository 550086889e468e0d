/- frame.read: the number that bytes are; bytes.Equal. -/
import Derived.Test.YtepeopfdenieeaaDoorFrameLaw
import Derived.Test.YtepeopfdenieeaaDoorRef17
namespace Go.Proofs.YtepeopfdenieeaaDoor
open Go Go.RowKit

theorem i64_or_nat (a b : Nat) (ha : a < 9223372036854775808) (hb : b < 9223372036854775808) : bits .or .i64 (a : Int) (b : Int) = ((a ||| b : Nat) : Int) := by
  have hx : a ||| b < 2 ^ 63 := Nat.or_lt_two_pow (by omega) (by omega)
  show IntKind.i64.wrap ((BitVec.ofInt 64 (a : Int) ||| BitVec.ofInt 64 (b : Int)).toNat : Int) = _
  rw [BitVec.toNat_or, ofInt_u64 a (by omega), ofInt_u64 b (by omega), IntKind.wrap_i64]
  omega
theorem join_walk (r c : Nat) (hr : r < 16777216) (hc : c < 256) : bits .or .i64 ((r : Int) * 256) (c : Int) = ((256 * r + c : Nat) : Int) := by
  have h := i64_or_nat (r * 256) c (by omega) (by omega)
  rw [nat_join 8 (r * 256) c (by simp) (by simpa using hc)] at h
  have e : ((r * 256 : Nat) : Int) = (r : Int) * 256 := by simp
  rw [e] at h
  rw [h, Nat.mul_comm]
theorem foldB_lt : ∀ (l : List UInt8) (x : Nat), l.foldl (fun x c => 256 * x + c.toNat) x < (x + 1) * 256 ^ l.length
  | [], x => by simp
  | c :: l, x => by
    have h := foldB_lt l (256 * x + c.toNat)
    have hc := c.toNat_lt
    have h2 : (256 * x + c.toNat + 1) * 256 ^ l.length ≤ (256 * (x + 1)) * 256 ^ l.length := Nat.mul_le_mul_right _ (by omega)
    have h3 : (256 * (x + 1)) * 256 ^ l.length = (x + 1) * 256 ^ (l.length + 1) := by rw [Nat.pow_succ, Nat.mul_comm 256 (x + 1), Nat.mul_assoc, Nat.mul_comm 256]
    rw [List.foldl_cons, List.length_cons]
    omega
theorem readB_lt (l : List UInt8) : readB l < 256 ^ l.length := by
  have := foldB_lt l 0
  simpa [readB] using this
set_option maxHeartbeats 400000 in
theorem read_any (w : World) (A : Option Addr) (n c : Nat) (l : List UInt8) (hs : Span w A (u8s l)) (hn : l.length = n) (hc : n ≤ c) (hm : n ≤ 4) :
    Calls Tryd.prog 43 #[.slice A n c] w fun e w' => e = .returned (.int .i64 (readB l : Nat)) ∧ w' = w := by
  have Hn := hid hn
  clear hn
  go_enter Tryd.func43, Tryd.ntmps43
  go_wp2_with fail
  go_loopw [3, 8] (fun r i wr => ∃ k : Nat, k ≤ n ∧ i = .int .i64 k ∧ r = .int .i64 (readB (l.take k) : Nat) ∧ wr = w) (fun _ i _ => n - (intOf i).toNat)
  case atStart => exact ⟨0, by omega, rfl, rfl, rfl⟩
  case round =>
    obtain ⟨k, hk, rfl, rfl, rfl⟩ := hrel
    by_cases hlt : k < n
    · have hkl : k < l.length := by rw [Hn.out]; exact hlt
      obtain ⟨ad, rfl, hcl⟩ := span_byte hs hkl
      have h1 : readB (l.take k) < 16777216 := by
        have := readB_lt (l.take k)
        rw [List.length_take, Nat.min_eq_left (by omega)] at this
        have h2 : 256 ^ k ≤ 256 ^ 3 := Nat.pow_le_pow_right (by omega) (by omega)
        omega
      have h2 : readB (l.take (k + 1)) = 256 * readB (l.take k) + (l[k]).toNat := by
        rw [List.take_add_one, List.getElem?_eq_getElem hkl]
        exact readB_append _ _
      have h3 := (l[k]).toNat_lt
      generalize l[k] = x at *
      obtain ⟨R, hR⟩ : ∃ R, R = readB (l.take k) := ⟨_, rfl⟩
      rw [← hR] at h1 h2 ⊢
      have H2 := hid h2
      clear hR h2
      go_wp2_with fail
      go_roundw
      case rel => exact ⟨k + 1, by omega, by go_num, by rw [H2.out, join_walk R x.toNat h1 h3], trivial⟩
      case measure => simp [intOf]; omega
    · go_wp2_with fail
      go_ret
      obtain rfl : k = n := by omega
      exact ⟨by rw [List.take_of_length_le (by have := Hn.out; omega)]; rfl, rfl⟩

theorem equal_any (w : World) (A : Option Addr) (n c : Nat) (l : List UInt8) (hs : Span w A (u8s l)) (hn : l.length = n) (B : Option Addr) (m d : Nat) (k : List UInt8) (hk : Span w B (u8s k)) (hm : k.length = m) :
    Calls Tryd.prog 45 #[.slice A n c, .slice B m d] w fun e w' => e = .returned (.bool (l == k)) ∧ w' = w := by
  have c1 := run_text (P := Tryd.prog) Tryd.underlying25 Tryd.underlying5 Tryd.underlying9 hs n c hn
  have c2 := run_text (P := Tryd.prog) Tryd.underlying25 Tryd.underlying5 Tryd.underlying9 hk m d hm
  go_enter Tryd.func45, Tryd.ntmps45
  go_wp2_with fail
  go_ret
  exact ⟨rfl, rfl⟩
end Go.Proofs.YtepeopfdenieeaaDoor
