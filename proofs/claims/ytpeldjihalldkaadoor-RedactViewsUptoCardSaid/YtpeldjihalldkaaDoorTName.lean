/- Names: the document's answer. -/
import Derived.Test.YtpeldjihalldkaaDoorTBuilt
import Derived.Test.YtpeldjihalldkaaDoorRD
namespace Go.Proofs.YtpeldjihalldkaaDoor
open Go Go.RowKit Go.Lib

theorem cbyte_in (L : List UInt8) (k m : Nat) (hk : k < L.length) (hm : m = (L[k]'hk).toNat) : ∀ g : k < (⟨L.toArray⟩ : ByteArray).size, ((⟨L.toArray⟩ : ByteArray)[k]'g).toNat = m := fun g => by rw [hm]; rfl
def isLet (c : UInt8) : Bool := decide (97 ≤ c.toNat) && decide (c.toNat ≤ 122)
def isOth (c : UInt8) : Bool := (decide (48 ≤ c.toNat) && decide (c.toNat ≤ 57)) || decide (c.toNat = 95)
def headLet : Txt → Bool
  | c :: _ => isLet c
  | [] => false
/-- Which text is a name. -/
def nameL (L : Txt) : Bool := L.all (fun c => isLet c || isOth c) && (headLet L && decide (L.length ≤ 24))
/-- The document's word for it, byte by byte. -/
def okAt (L : Txt) (j : Nat) (h : j < L.length) : Bool := isLet (L[j]'h) || (isOth (L[j]'h) && decide (j ≠ 0))
theorem name_bytes (L : Txt) : nameL L = true ↔ (1 ≤ L.length ∧ L.length ≤ 24) ∧ ∀ j (h : j < L.length), okAt L j h = true := by
  unfold nameL
  simp only [Bool.and_eq_true, List.all_eq_true, decide_eq_true_eq, okAt]
  constructor
  · rintro ⟨h1, h2, h3⟩
    refine ⟨⟨?_, h3⟩, fun j h => ?_⟩
    · cases L with
      | nil => cases h2
      | cons _ _ => simp
    · cases j with
      | zero =>
        cases L with
        | nil => cases h2
        | cons c t => simp only [headLet] at h2; simp [h2]
      | succ j => have := h1 _ (List.getElem_mem h); simpa using this
  · rintro ⟨⟨h1, h3⟩, h2⟩
    refine ⟨fun x hx => ?_, ?_, h3⟩
    · obtain ⟨j, hj, rfl⟩ := List.getElem_of_mem hx
      have := h2 j hj
      revert this
      cases isLet L[j] <;> simp
      intro h _
      exact h
    · cases L with
      | nil => simp at h1
      | cons c t =>
        have := h2 0 (by simp)
        simpa [headLet] using this
set_option maxRecDepth 100000 in
set_option maxHeartbeats 6400000 in
theorem rname_any (w : World) (L : Txt) (hL : L.length ≤ 9223372036854775807) :
    Calls Tryd.prog 76 #[.string ⟨L.toArray⟩] w fun e w' => e = .returned (.bool (nameL L)) ∧ w' = w := by
  have hsz : (⟨L.toArray⟩ : ByteArray).size = L.length := size_mk _
  have HB := hid (name_bytes L)
  obtain ⟨r, hr⟩ : ∃ r, r = nameL L := ⟨_, rfl⟩
  rw [← hr]
  have HR := hid hr
  clear hr
  go_enter Tryd.func76, Tryd.ntmps76
  go_wp2_with fail
  go_loopw [3] (fun vi wr => wr = w ∧ ∃ n : Nat, vi = .int .i64 (n : Int) ∧ n ≤ L.length ∧ ∀ j (h : j < L.length), j < n → okAt L j h = true) (fun vi _ => L.length - (intOf vi).toNat)
  case atStart => exact ⟨rfl, 0, rfl, Nat.zero_le _, fun j _ h => absurd h (Nat.not_lt_zero _)⟩
  case round =>
    obtain ⟨hwr, n, rfl, hn, hD⟩ := hrel
    have hwr2 := hwr.symm
    subst hwr2
    have HD := hid hD
    clear hD
    by_cases hlt : n < L.length
    · obtain ⟨m, hm⟩ : ∃ m, m = (L[n]'hlt).toNat := ⟨_, rfl⟩
      have i0 := cbyte_in L n m hlt hm
      have hm9 : m < 256 := by rw [hm]; exact UInt8.toNat_lt _
      have i1 : (n : Int) < (L.length : Int) := by omega
      have HM := hid hm
      clear hm
      have good : (97 ≤ m ∧ m ≤ 122) ∨ (((48 ≤ m ∧ m ≤ 57) ∨ m = 95) ∧ n ≠ 0) → ∀ j (h : j < L.length), j < n + 1 → okAt L j h = true := by
        intro h1 j h h2
        by_cases hj : j < n
        · exact HD.out j h hj
        · obtain rfl : j = n := by omega
          unfold okAt isLet isOth
          rw [← HM.out]
          simp only [Bool.or_eq_true, Bool.and_eq_true, decide_eq_true_eq]
          omega
      have bad : ¬ ((97 ≤ m ∧ m ≤ 122) ∨ (((48 ≤ m ∧ m ≤ 57) ∨ m = 95) ∧ n ≠ 0)) → r = false := by
        intro h1
        rw [HR.out, ← Bool.not_eq_true, HB.out]
        rintro ⟨_, h2⟩
        have := h2 n hlt
        unfold okAt isLet isOth at this
        rw [← HM.out] at this
        simp only [Bool.or_eq_true, Bool.and_eq_true, decide_eq_true_eq] at this
        omega
      have HG := hid good
      have HF := hid bad
      clear good bad
      rcases (show m < 48 ∨ (48 ≤ m ∧ m ≤ 57) ∨ (58 ≤ m ∧ m ≤ 94) ∨ m = 95 ∨ m = 96 ∨ (97 ≤ m ∧ m ≤ 122) ∨ 123 ≤ m by omega) with h | h | h | h | h | h | h
      · have t1 : decide ((97 : Int) ≤ (m : Int)) = false := decide_eq_false (by omega)
        have t2 : decide ((m : Int) ≤ 122) = true := decide_eq_true (by omega)
        have t3 : decide ((48 : Int) ≤ (m : Int)) = false := decide_eq_false (by omega)
        have t4 : decide ((m : Int) ≤ 57) = true := decide_eq_true (by omega)
        have t5 : ((m : Int) == 95) = false := by rw [beq_eq_false_iff_ne]; omega
        have hr := HF.out (by omega)
        go_wp2_with fail
        go_ret
        exact ⟨by first | rfl | rw [hr], rfl⟩
      · have t1 : decide ((97 : Int) ≤ (m : Int)) = false := decide_eq_false (by omega)
        have t2 : decide ((m : Int) ≤ 122) = true := decide_eq_true (by omega)
        have t3 : decide ((48 : Int) ≤ (m : Int)) = true := decide_eq_true (by omega)
        have t4 : decide ((m : Int) ≤ 57) = true := decide_eq_true (by omega)
        have t5 : ((m : Int) == 95) = false := by rw [beq_eq_false_iff_ne]; omega
        by_cases h0 : n = 0
        · have b0 : ((n : Int) == 0) = true := by rw [beq_iff_eq]; omega
          have hr := HF.out (by omega)
          clear h0
          go_wp2_with fail
          go_ret
          exact ⟨by first | rfl | rw [hr], rfl⟩
        · have b0 : ((n : Int) == 0) = false := by rw [beq_eq_false_iff_ne]; omega
          have Hn := hid (HG.out (by omega))
          clear h0
          go_wp2_with fail
          go_roundw
          case rel => exact ⟨trivial, n + 1, by go_num, hlt, Hn.out⟩
          case measure => simp [intOf]; omega
      · have t1 : decide ((97 : Int) ≤ (m : Int)) = false := decide_eq_false (by omega)
        have t2 : decide ((m : Int) ≤ 122) = true := decide_eq_true (by omega)
        have t3 : decide ((48 : Int) ≤ (m : Int)) = true := decide_eq_true (by omega)
        have t4 : decide ((m : Int) ≤ 57) = false := decide_eq_false (by omega)
        have t5 : ((m : Int) == 95) = false := by rw [beq_eq_false_iff_ne]; omega
        have hr := HF.out (by omega)
        go_wp2_with fail
        go_ret
        exact ⟨by first | rfl | rw [hr], rfl⟩
      · have t1 : decide ((97 : Int) ≤ (m : Int)) = false := decide_eq_false (by omega)
        have t2 : decide ((m : Int) ≤ 122) = true := decide_eq_true (by omega)
        have t3 : decide ((48 : Int) ≤ (m : Int)) = true := decide_eq_true (by omega)
        have t4 : decide ((m : Int) ≤ 57) = false := decide_eq_false (by omega)
        have t5 : ((m : Int) == 95) = true := by rw [beq_iff_eq]; omega
        by_cases h0 : n = 0
        · have b0 : ((n : Int) == 0) = true := by rw [beq_iff_eq]; omega
          have hr := HF.out (by omega)
          clear h0
          go_wp2_with fail
          go_ret
          exact ⟨by first | rfl | rw [hr], rfl⟩
        · have b0 : ((n : Int) == 0) = false := by rw [beq_eq_false_iff_ne]; omega
          have Hn := hid (HG.out (by omega))
          clear h0
          go_wp2_with fail
          go_roundw
          case rel => exact ⟨trivial, n + 1, by go_num, hlt, Hn.out⟩
          case measure => simp [intOf]; omega
      · have t1 : decide ((97 : Int) ≤ (m : Int)) = false := decide_eq_false (by omega)
        have t2 : decide ((m : Int) ≤ 122) = true := decide_eq_true (by omega)
        have t3 : decide ((48 : Int) ≤ (m : Int)) = true := decide_eq_true (by omega)
        have t4 : decide ((m : Int) ≤ 57) = false := decide_eq_false (by omega)
        have t5 : ((m : Int) == 95) = false := by rw [beq_eq_false_iff_ne]; omega
        have hr := HF.out (by omega)
        go_wp2_with fail
        go_ret
        exact ⟨by first | rfl | rw [hr], rfl⟩
      · have t1 : decide ((97 : Int) ≤ (m : Int)) = true := decide_eq_true (by omega)
        have t2 : decide ((m : Int) ≤ 122) = true := decide_eq_true (by omega)
        have t3 : decide ((48 : Int) ≤ (m : Int)) = true := decide_eq_true (by omega)
        have t4 : decide ((m : Int) ≤ 57) = false := decide_eq_false (by omega)
        have t5 : ((m : Int) == 95) = false := by rw [beq_eq_false_iff_ne]; omega
        have Hn := hid (HG.out (by omega))
        go_wp2_with fail
        go_roundw
        case rel => exact ⟨trivial, n + 1, by go_num, hlt, Hn.out⟩
        case measure => simp [intOf]; omega
      · have t1 : decide ((97 : Int) ≤ (m : Int)) = true := decide_eq_true (by omega)
        have t2 : decide ((m : Int) ≤ 122) = false := decide_eq_false (by omega)
        have t3 : decide ((48 : Int) ≤ (m : Int)) = true := decide_eq_true (by omega)
        have t4 : decide ((m : Int) ≤ 57) = false := decide_eq_false (by omega)
        have t5 : ((m : Int) == 95) = false := by rw [beq_eq_false_iff_ne]; omega
        have hr := HF.out (by omega)
        go_wp2_with fail
        go_ret
        exact ⟨by first | rfl | rw [hr], rfl⟩
    · have hnl : n = L.length := by omega
      have hc : r = decide (1 ≤ n ∧ n ≤ 24) := by
        rw [HR.out, Bool.eq_iff_iff, HB.out, decide_eq_true_eq, hnl]
        exact ⟨fun h => h.1, fun h => ⟨h, fun j hj => HD.out j hj (by omega)⟩⟩
      subst hnl
      have HC := hid hc
      clear hc
      rcases (show L.length < 1 ∨ (1 ≤ L.length ∧ L.length ≤ 24) ∨ 24 < L.length by omega) with h | h | h
      · have hr : r = false := by rw [HC.out]; exact decide_eq_false (by omega)
        have t1 : decide ((1 : Int) ≤ (L.length : Int)) = false := decide_eq_false (by omega)
        clear h
        go_wp2_with fail
        go_ret
        exact ⟨by first | rfl | rw [hr], rfl⟩
      · have hr : r = true := by rw [HC.out]; exact decide_eq_true h
        have t1 : decide ((1 : Int) ≤ (L.length : Int)) = true := decide_eq_true (by omega)
        have t2 : decide ((L.length : Int) ≤ 24) = true := decide_eq_true (by omega)
        clear h
        go_wp2_with fail
        go_ret
        exact ⟨by first | rfl | rw [hr], rfl⟩
      · have hr : r = false := by rw [HC.out]; exact decide_eq_false (by omega)
        have t1 : decide ((1 : Int) ≤ (L.length : Int)) = true := decide_eq_true (by omega)
        have t2 : decide ((L.length : Int) ≤ 24) = false := decide_eq_false (by omega)
        clear h
        go_wp2_with fail
        go_ret
        exact ⟨by first | rfl | rw [hr], rfl⟩

end Go.Proofs.YtpeldjihalldkaaDoor
