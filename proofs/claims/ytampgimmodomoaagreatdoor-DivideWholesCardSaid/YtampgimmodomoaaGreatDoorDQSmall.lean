/- The document's answer for layer 2: zeros, wide, nought, first, step, long. -/
import Derived.Test.YtampgimmodomoaaGreatDoorDRPlus
import Derived.Test.YtampgimmodomoaaGreatDoorDPlain
namespace Go.Proofs.YtampgimmodomoaaGreatDoor
open Go Go.RowKit Go.Lib

theorem one_char (m : Nat) (c : UInt8) (hm : m = c.toNat) (W : World) : (convert 43 9 (.slice (some ⟨W.heap.size, 0, none⟩) 1 1)).run Tryz.prog (W.alloc (.cells #[.int .u8 (m : Int)] 5)) = .ok (.string ⟨#[c]⟩) (W.alloc (.cells #[.int .u8 (m : Int)] 5)) := by
  subst hm
  exact run_text (P := Tryz.prog) (src := 43) (e := 5) (dst := 9) (l := [c]) Tryz.underlying43 Tryz.underlying5 Tryz.underlying9 (Span.of_new _ _ _ _) 1 1 rfl
theorem qzeros_any (w : World) (n : Nat) (hn : n ≤ 1000000) : Calls Tryz.prog 64 #[.int .i64 (n : Int)] w fun e w' => e = .returned (.string ⟨(List.replicate n 48).toArray⟩) ∧ w' = w := by
  go_enter Tryz.func64, Tryz.ntmps64
  go_wp2_with fail
  go_loopw [3, 4] (fun vs vi wr => wr = w ∧ ∃ i : Nat, vs = .string ⟨(List.replicate i 48).toArray⟩ ∧ vi = .int .i64 (i : Int) ∧ i ≤ n) (fun _ vi _ => n - (intOf vi).toNat)
  case atStart => exact ⟨rfl, 0, rfl, rfl, Nat.zero_le _⟩
  case round =>
    obtain ⟨hwr, i, rfl, rfl, hi⟩ := hrel
    have hwr2 := hwr.symm
    subst hwr2
    by_cases hlt : i < n
    · have ha : ∀ X, (Op.stringOp .add ⟨(List.replicate i 48).toArray⟩ ⟨#[48]⟩).run Tryz.prog X = .ok (.string ⟨(List.replicate (i + 1) 48).toArray⟩) X := fun X => run_add_text (P := Tryz.prog) (List.replicate i 48) [48] (List.replicate (i + 1) 48) (by rw [List.replicate_succ']) (by simp; omega) X
      obtain ⟨R, hR⟩ : ∃ R : List UInt8, R = List.replicate i 48 := ⟨_, rfl⟩
      obtain ⟨R2, hR2⟩ : ∃ R2 : List UInt8, R2 = List.replicate (i + 1) 48 := ⟨_, rfl⟩
      simp only [← hR, ← hR2] at ha ⊢
      have H2 := hid hR2
      clear hR hR2
      go_wp2_with fail
      go_roundw
      case rel => exact ⟨trivial, i + 1, by rw [H2.out], by go_num, by omega⟩
      case measure => simp [intOf]; omega
    · have e : i = n := by omega
      subst e
      go_wp2_with fail
      go_ret
      exact ⟨rfl, rfl⟩
theorem qwide_any (w : World) (D : List UInt8) (n : Nat) (hD : D.length ≤ n) (hn : n ≤ 1000000) : Calls Tryz.prog 36 #[.string ⟨D.toArray⟩, .int .i64 (n : Int)] w fun e w' => e = .returned (.string ⟨(List.replicate (n - D.length) 48 ++ D).toArray⟩) ∧ w' = w := by
  have hDs : (⟨D.toArray⟩ : ByteArray).size = D.length := size_mk _
  obtain ⟨k, hk⟩ : ∃ k, k = n - D.length := ⟨_, rfl⟩
  rw [← hk]
  have w1 : IntKind.i64.wrap ((n : Int) - (D.length : Int)) = (k : Int) := by rw [IntWalk.i64_in _ (by omega)]; omega
  have qz := fun W => qzeros_any W k (by omega)
  have hadd := fun W => run_add_text (P := Tryz.prog) (List.replicate k 48) D (List.replicate k 48 ++ D) rfl (by rw [List.length_replicate]; omega) W
  obtain ⟨Z, hZ⟩ : ∃ Z : List UInt8, Z = List.replicate k 48 := ⟨_, rfl⟩
  simp only [← hZ] at qz hadd ⊢
  obtain ⟨R, hR⟩ : ∃ R : List UInt8, R = Z ++ D := ⟨_, rfl⟩
  simp only [← hR] at hadd ⊢
  clear hk hZ hR
  go_enter Tryz.func36, Tryz.ntmps36
  go_wp2_with fail
  (with_reducible refine (qz _).mono ?_)
  rintro e w1 ⟨rfl, rfl⟩
  clear qz
  go_wp2_with fail
  go_ret
  exact ⟨rfl, rfl⟩
theorem wide_digN {D : List UInt8} (hD : Digs D) {T : Nat} (h : D.length ≤ T) : List.replicate (T - D.length) 48 ++ D = digN T (val D) := by
  have := digN_val T (List.replicate (T - D.length) 48 ++ D) ((Digs.zeros _).append hD) (by simp; omega)
  rw [val_pad] at this
  exact this.symm
theorem dw_step {L : List UInt8} {i : Nat} (h : i < L.length) (h48 : L[i].toNat = 48) : (L.drop i).dropWhile (· == 48) = (L.drop (i + 1)).dropWhile (· == 48) := by
  rw [List.drop_eq_getElem_cons h, byte_48 h48]
  rfl
theorem dw_stop {L : List UInt8} {i : Nat} (h : i < L.length) (h48 : L[i].toNat ≠ 48) : (L.drop i).dropWhile (· == 48) = L.drop i := by
  rw [List.drop_eq_getElem_cons h, drop_stop _ h48]
/-- A row that is too long begins with a nought. -/
theorem head_nought {Q : List UInt8} (hQ : Digs Q) {T : Nat} (hv : val Q < 10 ^ T) (hl : T < Q.length) : Digs (Q.drop 1) ∧ val (Q.drop 1) = val Q := by
  cases Q with
  | nil => simp at hl
  | cons c t =>
    have hc := hQ c (by simp)
    unfold Dig at hc
    have h1 := val_cons c t
    have h2 : 10 ^ T ≤ 10 ^ t.length := Nat.pow_le_pow_right (by decide) (by simp at hl; omega)
    have h3 : c.toNat - 48 = 0 := by
      rcases Nat.eq_zero_or_pos (c.toNat - 48) with h | h
      · exact h
      · have : 1 * 10 ^ t.length ≤ (c.toNat - 48) * 10 ^ t.length := Nat.mul_le_mul_right _ h
        omega
    rw [h3, Nat.zero_mul, Nat.zero_add] at h1
    exact ⟨fun x hx => hQ x (by simp at hx; simp [hx]), h1.symm⟩
def StepPost (w : World) (T y X : Nat) (e : Ending) (w' : World) : Prop := e = .returned (.tuple #[.int .u8 ((48 + X / y : Nat) : Int), .string ⟨(digN T (X % y)).toArray⟩]) ∧ Kp [] w w'
/-- The whole quotient's digits, and what is left. -/
def LongPost (w : World) (D : List UInt8) (T y : Nat) (e : Ending) (w' : World) : Prop := ∃ (O R : List UInt8) (x : Nat), e = .returned (.tuple #[.string ⟨O.toArray⟩, .string ⟨R.toArray⟩]) ∧ LongI y D O x ∧ Digs R ∧ val R = x ∧ R.length ≤ T ∧ Kp [] w w'
end Go.Proofs.YtampgimmodomoaaGreatDoor
