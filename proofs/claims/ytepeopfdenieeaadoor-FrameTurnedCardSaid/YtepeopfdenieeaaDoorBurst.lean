/- Plain: a whole frame leaves one and the same state; up to four bytes side by side that are turned leave another one. -/
import Derived.Test.YtepeopfdenieeaaDoorCrc
import Derived.Laws.BitsAllLaws
namespace Go.Proofs.YtepeopfdenieeaaDoor

theorem xor_join (i x y : Nat) (hy : y < 2 ^ i) : x * 2 ^ i ^^^ y = x * 2 ^ i + y := by
  have h := Nat.two_pow_add_eq_or_of_lt hy x
  rw [Nat.mul_comm x, h]
  apply Nat.eq_of_testBit_eq
  intro j
  rw [Nat.testBit_xor, Nat.testBit_or, Nat.testBit_two_pow_mul]
  by_cases hj : i ≤ j
  · rw [Nat.testBit_lt_two_pow (Nat.lt_of_lt_of_le hy (Nat.pow_le_pow_right (by omega) hj))]
    simp
  · simp [hj]
/-- Four bytes, the lowest first, fed into a state. -/
theorem crcRow_four (r s : Nat) (hs : s < 4294967296) : crcRow r [UInt8.ofNat s, UInt8.ofNat (s / 256), UInt8.ofNat (s / 65536), UInt8.ofNat (s / 16777216)] = crcBits 32 (r ^^^ s) := by
  have e0 : crcByte r (UInt8.ofNat s).toNat = crcBits 8 (r ^^^ (UInt8.ofNat s).toNat) := rfl
  simp only [crcRow, List.foldl_cons, List.foldl_nil]
  rw [e0, crcByte_le4, crcByte_le4, crcByte_le4]
  congr 1
  have t0 : (UInt8.ofNat s).toNat = s % 256 := by simp
  have t1 : (UInt8.ofNat (s / 256)).toNat = s / 256 % 256 := by simp
  have t2 : (UInt8.ofNat (s / 65536)).toNat = s / 65536 % 256 := by simp
  have t3 : (UInt8.ofNat (s / 16777216)).toNat = s / 16777216 := by simp; omega
  rw [t0, t1, t2, t3]
  have j1 := xor_join 8 (s / 256 % 256) (s % 256) (by omega)
  have j2 := xor_join 16 (s / 65536 % 256) (s / 256 % 256 * 2 ^ 8 + s % 256) (by omega)
  have j3 := xor_join 24 (s / 16777216) (s / 65536 % 256 * 2 ^ 16 + (s / 256 % 256 * 2 ^ 8 + s % 256)) (by omega)
  have e : s % 256 ^^^ (s / 256 % 256 * 2 ^ 8) ^^^ (s / 65536 % 256 * 2 ^ 16) ^^^ (s / 16777216 * 2 ^ 24) = s := by
    rw [Nat.xor_comm (s % 256), j1, Nat.xor_comm, Nat.xor_comm (_ + _), j2, j3]
    omega
  rw [Nat.xor_assoc, Nat.xor_assoc, Nat.xor_assoc]
  congr 1
  rw [← Nat.xor_assoc, ← Nat.xor_assoc]
  exact e
theorem residue (m : List UInt8) : crcRow 4294967295 (m ++ [UInt8.ofNat (crcSum m), UInt8.ofNat (crcSum m / 256), UInt8.ofNat (crcSum m / 65536), UInt8.ofNat (crcSum m / 16777216)]) = 3736805603 := by
  rw [crcRow_append, crcRow_four _ _ (crcSum_lt m)]
  unfold crcSum
  rw [← Nat.xor_assoc, Nat.xor_self, Nat.zero_xor]
  decide +kernel
theorem burst_four (a b c d : UInt8) (h : ¬ (a = 0 ∧ b = 0 ∧ c = 0 ∧ d = 0)) : crcRow 0 [a, b, c, d] ≠ 0 := by
  have ha := a.toNat_lt
  have hb := b.toNat_lt
  have hc := c.toNat_lt
  have hd := d.toNat_lt
  obtain ⟨s, hs⟩ : ∃ s, s = a.toNat + 256 * b.toNat + 65536 * c.toNat + 16777216 * d.toNat := ⟨_, rfl⟩
  have hlt : s < 4294967296 := by omega
  have f := crcRow_four 0 s hlt
  have e0 : UInt8.ofNat s = a := UInt8.toNat_inj.1 (by simp; omega)
  have e1 : UInt8.ofNat (s / 256) = b := UInt8.toNat_inj.1 (by simp; omega)
  have e2 : UInt8.ofNat (s / 65536) = c := UInt8.toNat_inj.1 (by simp; omega)
  have e3 : UInt8.ofNat (s / 16777216) = d := UInt8.toNat_inj.1 (by simp; omega)
  rw [e0, e1, e2, e3, Nat.zero_xor] at f
  rw [f]
  intro h0
  have hz := crcBits_ne 32 hlt h0
  exact h ⟨UInt8.toNat_inj.1 (by simp; omega), UInt8.toNat_inj.1 (by simp; omega), UInt8.toNat_inj.1 (by simp; omega), UInt8.toNat_inj.1 (by simp; omega)⟩
/-- Four bytes anywhere among noughts. -/
theorem burst (x y : List UInt8) (hx : ∀ c ∈ x, c = 0) (hy : ∀ c ∈ y, c = 0) (a b c d : UInt8) (h : ¬ (a = 0 ∧ b = 0 ∧ c = 0 ∧ d = 0)) : crcRow 0 (x ++ [a, b, c, d] ++ y) ≠ 0 := by
  rw [crcRow_append, crcRow_append, (crcRow_noughts x (by omega) hx).2 rfl, ne_eq, crcRow_noughts y (crcRow_lt _ (by omega)) hy]
  exact burst_four a b c d h
end Go.Proofs.YtepeopfdenieeaaDoor
