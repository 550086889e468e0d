/- Plain: the rune at a place of a text, as the document's answer reads it, against the model's own decoding. No program in sight. -/
import Derived.WalkKit
import Derived.Lib.ValidU
import Derived.Lib.DecodeN
namespace Go.Proofs.Ytaaikjedagnjbaa
open Go

/-- What the document's answer says of the rune at the head of n bytes that begin b0 b1 b2 b3: (0, 0) if there is none. -/
def runeN (m b0 b1 b2 b3 : Nat) : Nat × Nat := if Lib.decodeN m b0 b1 b2 b3 = (65533, 1) then (0, 0) else Lib.decodeN m b0 b1 b2 b3
/-- How many bytes a rune has by its first one, the least that these may stand for, and what the first one brings. -/
def Lead (b0 k least x0 : Nat) : Prop :=
  (k = 0 ∧ ((128 ≤ b0 ∧ b0 < 194) ∨ 245 ≤ b0)) ∨ (k = 2 ∧ least = 128 ∧ (194 ≤ b0 ∧ b0 < 224) ∧ x0 + 192 = b0) ∨
  (k = 3 ∧ least = 2048 ∧ (224 ≤ b0 ∧ b0 < 240) ∧ x0 + 224 = b0) ∨ (k = 4 ∧ least = 65536 ∧ (240 ≤ b0 ∧ b0 < 245) ∧ x0 + 240 = b0)
def accR (x0 : Nat) (B : Nat → Nat) : Nat → Nat
  | 0 => x0
  | j + 1 => 64 * accR x0 B j + B (j + 1) % 64
def Tail (c : Nat) : Prop := 128 ≤ c ∧ c < 192

section
variable {m b0 k least x0 : Nat} {B : Nat → Nat}
theorem runeN_plain (b1 b2 b3 : Nat) (h : b0 < 128) : runeN m b0 b1 b2 b3 = (b0, 1) := by
  unfold runeN Lib.decodeN
  rw [if_pos h, if_neg]
  intro e
  injection e with e _
  omega
theorem runeN_none {b1 b2 b3 : Nat} (h : Lib.decodeN m b0 b1 b2 b3 = (65533, 1)) : runeN m b0 b1 b2 b3 = (0, 0) := if_pos h
set_option maxHeartbeats 1000000 in
theorem runeN_short (h0 : b0 < 256) (h : Lead b0 k least x0) (hk : k = 0 ∨ m < k) (hm : 1 ≤ m) : runeN m b0 (B 1) (B 2) (B 3) = (0, 0) := by
  apply runeN_none
  unfold Lead at h
  unfold Lib.decodeN
  rw [if_neg (by omega)]
  repeat' split
  all_goals first | rfl | (exfalso; omega)
set_option maxHeartbeats 1000000 in
theorem runeN_bad (hB : ∀ j, B j < 256) (h : Lead b0 k least x0) {j : Nat} (h1 : 1 ≤ j) (hj : j < k) (hb : ¬ Tail (B j)) : runeN m b0 (B 1) (B 2) (B 3) = (0, 0) := by
  apply runeN_none
  unfold Lead at h
  unfold Tail at hb
  have hb' : B j / 64 ≠ 2 := by have := hB j; omega
  unfold Lib.decodeN
  rw [if_neg (by omega)]
  rcases (show j = 1 ∨ j = 2 ∨ j = 3 from by omega) with rfl | rfl | rfl
  all_goals
    repeat' split
    all_goals first | rfl | (exfalso; omega)
set_option maxHeartbeats 1000000 in
theorem runeN_end (hB : ∀ j, B j < 256) (h : Lead b0 k least x0) (hk : k ≠ 0) (hm : k ≤ m) (hb : ∀ j, 1 ≤ j → j < k → Tail (B j)) :
    runeN m b0 (B 1) (B 2) (B 3) = if accR x0 B (k - 1) < least ∨ 1114111 < accR x0 B (k - 1) ∨ (55296 ≤ accR x0 B (k - 1) ∧ accR x0 B (k - 1) < 57344) then (0, 0) else (accR x0 B (k - 1), k) := by
  have c1 := hB 1
  have c2 := hB 2
  have c3 := hB 3
  have a1 : accR x0 B 1 = 64 * x0 + B 1 % 64 := rfl
  have a2 : accR x0 B 2 = 64 * (64 * x0 + B 1 % 64) + B 2 % 64 := rfl
  have a3 : accR x0 B 3 = 64 * (64 * (64 * x0 + B 1 % 64) + B 2 % 64) + B 3 % 64 := rfl
  have t1 : 1 < k → Tail (B 1) := hb 1 (by omega)
  have t2 : 2 < k → Tail (B 2) := hb 2 (by omega)
  have t3 : 3 < k → Tail (B 3) := hb 3 (by omega)
  clear hb hB
  unfold Tail at t1 t2 t3
  rcases h with ⟨h1, _⟩ | ⟨rfl, rfl, h3, h4⟩ | ⟨rfl, rfl, h3, h4⟩ | ⟨rfl, rfl, h3, h4⟩
  · exact absurd h1 hk
  · rw [show (2 - 1 : Nat) = 1 from rfl, a1]
    clear a1 a2 a3
    generalize B 1 = b1 at *
    generalize B 2 = b2 at *
    generalize B 3 = b3 at *
    have t1 := t1 (by omega)
    have hD : Lib.decodeN m b0 b1 b2 b3 = if 64 * x0 + b1 % 64 ≥ 128 then (64 * x0 + b1 % 64, 2) else (65533, 1) := by
      unfold Lib.decodeN
      rw [if_neg (by omega), if_pos (by omega), show b0 % 32 * 64 + b1 % 64 = 64 * x0 + b1 % 64 from by omega]
    unfold runeN
    rw [hD]
    clear hD
    repeat' split
    all_goals first | rfl | (exfalso; omega) | (simp only [Prod.mk.injEq] at *; omega)
  · rw [show (3 - 1 : Nat) = 2 from rfl, a2]
    clear a1 a2 a3
    generalize B 1 = b1 at *
    generalize B 2 = b2 at *
    generalize B 3 = b3 at *
    have t1 := t1 (by omega)
    have t2 := t2 (by omega)
    have hD : Lib.decodeN m b0 b1 b2 b3 = if 64 * (64 * x0 + b1 % 64) + b2 % 64 ≥ 2048 ∧ (64 * (64 * x0 + b1 % 64) + b2 % 64 < 55296 ∨ (57344 ≤ 64 * (64 * x0 + b1 % 64) + b2 % 64 ∧ 64 * (64 * x0 + b1 % 64) + b2 % 64 ≤ 1114111)) then (64 * (64 * x0 + b1 % 64) + b2 % 64, 3) else (65533, 1) := by
      unfold Lib.decodeN
      rw [if_neg (by omega), if_neg (by omega), if_pos (by omega), show b0 % 16 * 4096 + b1 % 64 * 64 + b2 % 64 = 64 * (64 * x0 + b1 % 64) + b2 % 64 from by omega]
    unfold runeN
    generalize 64 * (64 * x0 + b1 % 64) + b2 % 64 = v at *
    by_cases hv : v < 2048 ∨ 1114111 < v ∨ (55296 ≤ v ∧ v < 57344)
    · rw [if_neg (by omega)] at hD
      rw [if_pos hv, hD, if_pos rfl]
    · rw [if_pos (by omega)] at hD
      rw [if_neg hv, hD, if_neg (by intro e; injection e with _ e; omega)]
  · rw [show (4 - 1 : Nat) = 3 from rfl, a3]
    clear a1 a2 a3
    generalize B 1 = b1 at *
    generalize B 2 = b2 at *
    generalize B 3 = b3 at *
    have t1 := t1 (by omega)
    have t2 := t2 (by omega)
    have t3 := t3 (by omega)
    have hD : Lib.decodeN m b0 b1 b2 b3 = if 64 * (64 * (64 * x0 + b1 % 64) + b2 % 64) + b3 % 64 ≥ 65536 ∧ (64 * (64 * (64 * x0 + b1 % 64) + b2 % 64) + b3 % 64 < 55296 ∨ (57344 ≤ 64 * (64 * (64 * x0 + b1 % 64) + b2 % 64) + b3 % 64 ∧ 64 * (64 * (64 * x0 + b1 % 64) + b2 % 64) + b3 % 64 ≤ 1114111)) then (64 * (64 * (64 * x0 + b1 % 64) + b2 % 64) + b3 % 64, 4) else (65533, 1) := by
      unfold Lib.decodeN
      rw [if_neg (by omega), if_neg (by omega), if_neg (by omega), if_pos (by omega), show b0 % 8 * 262144 + b1 % 64 * 4096 + b2 % 64 * 64 + b3 % 64 = 64 * (64 * (64 * x0 + b1 % 64) + b2 % 64) + b3 % 64 from by omega]
    unfold runeN
    generalize 64 * (64 * (64 * x0 + b1 % 64) + b2 % 64) + b3 % 64 = v at *
    by_cases hv : v < 65536 ∨ 1114111 < v ∨ (55296 ≤ v ∧ v < 57344)
    · rw [if_neg (by omega)] at hD
      rw [if_pos hv, hD, if_pos rfl]
    · rw [if_pos (by omega)] at hD
      rw [if_neg hv, hD, if_neg (by intro e; injection e with _ e; omega)]
end

/-- The rune at a place of a text; (0, 0): there is none. -/
def runeAt (s : ByteArray) (i : Nat) : Nat × Nat := runeN (s.size - i) (s.get! i).toNat (s.get! (i + 1)).toNat (s.get! (i + 2)).toNat (s.get! (i + 3)).toNat
theorem runeAt_decode (s : ByteArray) (i : Nat) : runeAt s i = if Utf8.decode s i = (65533, 1) then (0, 0) else Utf8.decode s i := by
  rw [Lib.decode_at]
  rfl
end Go.Proofs.Ytaaikjedagnjbaa
