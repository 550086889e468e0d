/- The sum of a frame as plain arithmetic, no program in sight: it is linear, and a nought row alone keeps a nought. -/
import Derived.WalkKit
namespace Go.Proofs.YtepeopfdenieeaaDoor
/-- One bit of the sum. -/
def crcBit (r : Nat) : Nat := (r / 2) ^^^ (r % 2 * 3988292384)
def crcBits : Nat → Nat → Nat
  | 0, r => r
  | n + 1, r => crcBits n (crcBit r)
def crcByte (r c : Nat) : Nat := crcBits 8 (r ^^^ c)
def crcRow (r : Nat) (l : List UInt8) : Nat := l.foldl (fun r c => crcByte r c.toNat) r
def crcSum (l : List UInt8) : Nat := crcRow 4294967295 l ^^^ 4294967295

theorem xor_div2 (a b : Nat) : (a ^^^ b) / 2 = a / 2 ^^^ b / 2 := by
  have := Nat.shiftRight_xor_distrib (a := a) (b := b) (i := 1)
  simpa [Nat.shiftRight_eq_div_pow] using this
theorem xor_lt32 {a b : Nat} (ha : a < 4294967296) (hb : b < 4294967296) : a ^^^ b < 4294967296 := Nat.xor_lt_two_pow (n := 32) ha hb
theorem xor_swap (a b c d : Nat) : (a ^^^ b) ^^^ (c ^^^ d) = (a ^^^ c) ^^^ (b ^^^ d) := by
  rw [Nat.xor_assoc, Nat.xor_assoc, ← Nat.xor_assoc b c d, ← Nat.xor_assoc c b d, Nat.xor_comm b c]
theorem crcBit_lt {r : Nat} (h : r < 4294967296) : crcBit r < 4294967296 := by
  unfold crcBit
  refine xor_lt32 (by omega) ?_
  have : r % 2 < 2 := Nat.mod_lt _ (by omega)
  omega
theorem crcBit_xor (a b : Nat) : crcBit (a ^^^ b) = crcBit a ^^^ crcBit b := by
  unfold crcBit
  rw [xor_swap, xor_div2]
  congr 1
  have e : (a ^^^ b) % 2 = a % 2 ^^^ b % 2 := by
    have := Nat.xor_mod_two_pow (a := a) (b := b) (n := 1)
    simpa using this
  rw [e]
  rcases Nat.mod_two_eq_zero_or_one a with ha | ha <;> rcases Nat.mod_two_eq_zero_or_one b with hb | hb <;> rw [ha, hb] <;> decide
theorem crcBit_zero : crcBit 0 = 0 := by decide
theorem crcBit_ne {d : Nat} (h : d < 4294967296) (h0 : crcBit d = 0) : d = 0 := by
  unfold crcBit at h0
  have e : d / 2 = d % 2 * 3988292384 := by
    have := congrArg (· ^^^ (d % 2 * 3988292384)) h0
    simpa [Nat.xor_assoc, Nat.xor_self] using this
  rcases Nat.mod_two_eq_zero_or_one d with hd | hd <;> rw [hd] at e <;> omega
theorem crcBits_lt : ∀ (n : Nat) {r : Nat}, r < 4294967296 → crcBits n r < 4294967296
  | 0, _, h => h
  | n + 1, _, h => crcBits_lt n (crcBit_lt h)
theorem crcBits_xor : ∀ (n a b : Nat), crcBits n (a ^^^ b) = crcBits n a ^^^ crcBits n b
  | 0, _, _ => rfl
  | n + 1, a, b => by rw [crcBits, crcBit_xor, crcBits_xor n]; rfl
theorem crcBits_zero : ∀ n, crcBits n 0 = 0
  | 0 => rfl
  | n + 1 => by rw [crcBits, crcBit_zero, crcBits_zero n]
theorem crcBits_ne : ∀ (n : Nat) {d : Nat}, d < 4294967296 → crcBits n d = 0 → d = 0
  | 0, _, _, h => h
  | n + 1, _, h, h0 => crcBit_ne h (crcBits_ne n (crcBit_lt h) h0)
theorem byte_lt32 (c : UInt8) : c.toNat < 4294967296 := by have := c.toNat_lt; omega
theorem crcByte_lt {r c : Nat} (h : r < 4294967296) (hc : c < 4294967296) : crcByte r c < 4294967296 := crcBits_lt 8 (xor_lt32 h hc)
theorem crcByte_xor (r s c d : Nat) : crcByte (r ^^^ s) (c ^^^ d) = crcByte r c ^^^ crcByte s d := by
  unfold crcByte
  rw [xor_swap r s c d, crcBits_xor]
theorem crcRow_lt : ∀ (l : List UInt8) {r : Nat}, r < 4294967296 → crcRow r l < 4294967296
  | [], _, h => h
  | c :: l, _, h => crcRow_lt l (crcByte_lt h (byte_lt32 c))
theorem crcSum_lt (l : List UInt8) : crcSum l < 4294967296 := xor_lt32 (crcRow_lt l (by omega)) (by omega)
theorem crcRow_append (r : Nat) (l m : List UInt8) : crcRow r (l ++ m) = crcRow (crcRow r l) m := by simp [crcRow]
/-- THE SUM IS LINEAR. -/
theorem crcRow_xor : ∀ (l m : List UInt8) (r s : Nat), l.length = m.length → crcRow (r ^^^ s) (List.zipWith (· ^^^ ·) l m) = crcRow r l ^^^ crcRow s m
  | [], [], _, _, _ => rfl
  | c :: l, d :: m, r, s, h => by
    simp only [List.zipWith_cons_cons, crcRow, List.foldl_cons]
    have := crcRow_xor l m (crcByte r c.toNat) (crcByte s d.toNat) (by simpa using h)
    rw [UInt8.toNat_xor, crcByte_xor]
    exact this
/-- A state that is not nought stays so over noughts. -/
theorem crcRow_noughts : ∀ (l : List UInt8) {r : Nat}, r < 4294967296 → (∀ c ∈ l, c = 0) → (crcRow r l = 0 ↔ r = 0)
  | [], _, _, _ => Iff.rfl
  | c :: l, r, hr, h => by
    obtain rfl : c = 0 := h c (by simp)
    have hb := crcByte_lt hr (c := 0) (by omega)
    show crcRow (crcByte r 0) l = 0 ↔ r = 0
    rw [crcRow_noughts l hb (fun d hd => h d (by simp [hd]))]
    constructor
    · intro h0
      exact crcBits_ne 8 (by simpa using hr) (by simpa [crcByte] using h0)
    · rintro rfl
      decide
/-- How many bytes are not nought. -/
def turned (l : List UInt8) : Nat := (l.filter fun c => c != 0).length
theorem turned_zero {l : List UInt8} (h : turned l = 0) : ∀ c ∈ l, c = 0 := by
  intro c hc
  by_cases h0 : c = 0
  · exact h0
  · have : c ∈ l.filter fun c => c != 0 := List.mem_filter.2 ⟨hc, by simpa using h0⟩
    rw [List.eq_nil_of_length_eq_zero h] at this
    cases this
theorem crcRow_one : ∀ (l : List UInt8), turned l = 1 → crcRow 0 l ≠ 0
  | [], h => by simp [turned] at h
  | c :: l, h => by
    show crcRow (crcByte 0 c.toNat) l ≠ 0
    by_cases h0 : c = 0
    · subst h0
      have : crcByte 0 (0 : UInt8).toNat = 0 := by decide
      rw [this]
      exact crcRow_one l (by simpa [turned] using h)
    · have hl : turned l = 0 := by
        have : turned (c :: l) = turned l + 1 := by simp [turned, h0]
        omega
      rw [ne_eq, crcRow_noughts l (crcByte_lt (by omega) (byte_lt32 c)) (turned_zero hl)]
      intro hz
      have := crcBits_ne 8 (by simpa using byte_lt32 c) hz
      exact h0 (UInt8.toNat_inj.1 (by simpa using this))
theorem xor_cancel (F a b : Nat) : (a ^^^ F) ^^^ (b ^^^ F) = a ^^^ b := by rw [xor_swap, Nat.xor_self, Nat.xor_zero]
/-- What two rows of one length differ in, the sums do. -/
theorem crcSum_turned {a by' : List UInt8} (h : a.length = by'.length) : crcSum a ^^^ crcSum (List.zipWith (· ^^^ ·) a by') = crcRow 0 by' := by
  unfold crcSum
  rw [xor_cancel]
  have := crcRow_xor a by' 4294967295 0 h
  rw [Nat.xor_zero] at this
  rw [this, ← Nat.xor_assoc, Nat.xor_self, Nat.zero_xor]

/-- Four bytes, the lowest first, as one number. -/
theorem crcBits_add : ∀ (m n r : Nat), crcBits (m + n) r = crcBits n (crcBits m r)
  | 0, n, r => by simp [crcBits]
  | m + 1, n, r => by rw [Nat.succ_add]; exact crcBits_add m n (crcBit r)
theorem crcBits_shift : ∀ (n x : Nat), crcBits n (x * 2 ^ n) = x
  | 0, x => by simp [crcBits]
  | n + 1, x => by
    have : crcBit (x * 2 ^ (n + 1)) = x * 2 ^ n := by
      unfold crcBit
      have h2 : x * 2 ^ (n + 1) = (x * 2 ^ n) * 2 := by rw [Nat.pow_succ, Nat.mul_assoc]
      rw [h2, Nat.mul_mod_left, Nat.zero_mul, Nat.xor_zero, Nat.mul_div_cancel _ (by omega)]
    rw [crcBits, this, crcBits_shift n x]
/-- Of up to four bytes side by side, not all nought, the sum is not nought. -/
theorem crcByte_le4 (r s c : Nat) : crcByte (crcBits s r) c = crcBits (s + 8) (r ^^^ c * 2 ^ s) := by
  unfold crcByte
  rw [crcBits_add, crcBits_xor s, crcBits_shift]
end Go.Proofs.YtepeopfdenieeaaDoor
