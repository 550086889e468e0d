/- Layer 6: which text is a name: the program's MayName, the document's. -/
import Derived.Test.YtgjffkblhhkjmaaDoorCMap
import Derived.Test.YtgjffkblhhkjmaaDoorDBytes
import Derived.Test.YtgjffkblhhkjmaaDoorText
import Derived.Test.YtgjffkblhhkjmaaDoorShelf
import Derived.Shelf.Strings.SlTrimAscii
import Derived.Deep.Cut
import Derived.IntWalk
namespace Go.Proofs.YtgjffkblhhkjmaaDoor
open Go Go.RowKit Go.Lib

theorem cbyte_in (L : List UInt8) (k m : Nat) (hk : k < L.length) (hm : m = (L[k]'hk).toNat) : ∀ g : k < (⟨L.toArray⟩ : ByteArray).size, ((⟨L.toArray⟩ : ByteArray)[k]'g).toNat = m := fun g => by rw [hm]; rfl
def letCs : List UInt8 := [97, 98, 99, 100, 101, 102, 103, 104, 105, 106, 107, 108, 109, 110, 111, 112, 113, 114, 115, 116, 117, 118, 119, 120, 121, 122]
def nameCs : List UInt8 := [97, 98, 99, 100, 101, 102, 103, 104, 105, 106, 107, 108, 109, 110, 111, 112, 113, 114, 115, 116, 117, 118, 119, 120, 121, 122, 48, 49, 50, 51, 52, 53, 54, 55, 56, 57, 95]
theorem in_name (c : UInt8) : nameCs.contains c = (isLet c || isOth c) := by
  have : ∀ m : Fin 256, nameCs.contains (UInt8.ofNat m.val) = (isLet (UInt8.ofNat m.val) || isOth (UInt8.ofNat m.val)) := by decide +kernel
  have h := this ⟨c.toNat, c.toNat_lt⟩
  simpa using h
theorem idx_let (c : UInt8) : decide (0 ≤ Lib.indexByte letCs ((c.toNat : Int).toNat.toUInt8)) = isLet c := by
  have : ∀ m : Fin 256, decide (0 ≤ Lib.indexByte letCs ((m.val : Int).toNat.toUInt8)) = isLet (UInt8.ofNat m.val) := by decide +kernel
  have h := this ⟨c.toNat, c.toNat_lt⟩
  simpa using h
theorem drop_none {α : Type} (p : α → Bool) : ∀ l : List α, l.dropWhile p = [] ↔ ∀ x ∈ l, p x = true
  | [] => by simp
  | x :: r => by
    by_cases h : p x = true
    · rw [List.dropWhile_cons_of_pos h, drop_none p r]
      simp [h]
    · rw [List.dropWhile_cons_of_neg h]
      simp [h]
theorem trim_nil (L : Txt) : Lib.trimS L nameCs = [] ↔ L.all (fun c => isLet c || isOth c) = true := by
  unfold Lib.trimS Lib.trimLeftS Lib.trimRightS
  rw [drop_none, List.all_eq_true]
  have e : ∀ c, nameCs.contains c = (isLet c || isOth c) := in_name
  simp only [e]
  constructor
  · intro h
    have h2 : L.reverse.dropWhile (fun c => isLet c || isOth c) = [] := by
      cases hd : L.reverse.dropWhile (fun c => isLet c || isOth c) with
      | nil => rfl
      | cons a r =>
        have h3 := List.head_dropWhile_not (fun c => isLet c || isOth c) (l := L.reverse) (by rw [hd]; simp)
        rw [hd] at h
        have h4 := h a (by simp)
        simp only [hd, List.head_cons] at h3
        rw [h4] at h3
        cases h3
    rw [drop_none] at h2
    exact fun x hx => h2 x (by simpa using hx)
  · intro h x hx
    have : x ∈ L.reverse := (List.dropWhile_sublist _).mem (by simpa using hx)
    exact h x (by simpa using this)
theorem zero116 : ∀ w, (zeroValue (Tryd.lays160_ren.t 116)).run Tryd.prog w = .ok (.agg (Array.replicate 256 (.bool false))) w := by intro w; kernel_rfl
theorem trim_any (w : World) (L : Txt) (hL : L.length ≤ 9223372036854775807) :
    Calls Tryd.prog 35 #[.string ⟨L.toArray⟩, .string ⟨#[97, 98, 99, 100, 101, 102, 103, 104, 105, 106, 107, 108, 109, 110, 111, 112, 113, 114, 115, 116, 117, 118, 119, 120, 121, 122, 48, 49, 50, 51, 52, 53, 54, 55, 56, 57, 95]⟩] w fun e w' => e = .returned (.string ⟨(Lib.trimS L nameCs).toArray⟩) ∧ Kp [] w w' :=
  (Any.strings_Trim_ascii Tryd.lays160 zero116 (by kernel_rfl) ⟨L.toArray⟩ ⟨#[97, 98, 99, 100, 101, 102, 103, 104, 105, 106, 107, 108, 109, 110, 111, 112, 113, 114, 115, 116, 117, 118, 119, 120, 121, 122, 48, 49, 50, 51, 52, 53, 54, 55, 56, 57, 95]⟩ w (by rw [size_mk]; exact hL) (by decide) (ascii_of_all (by decide))).mono fun e w' ⟨h1, h2⟩ => ⟨h1, Kp.of_below h2⟩
theorem idx_any (w : World) (m : Nat) : Calls Tryd.prog 36 #[.string ⟨#[97, 98, 99, 100, 101, 102, 103, 104, 105, 106, 107, 108, 109, 110, 111, 112, 113, 114, 115, 116, 117, 118, 119, 120, 121, 122]⟩, .int .u8 (m : Int)] w fun e w' => e = .returned (.int .i64 (Lib.indexByte letCs ((m : Int).toNat.toUInt8))) ∧ w' = w :=
  Tryd.strings_IndexByte ⟨#[97, 98, 99, 100, 101, 102, 103, 104, 105, 106, 107, 108, 109, 110, 111, 112, 113, 114, 115, 116, 117, 118, 119, 120, 121, 122]⟩ (m : Int) w

set_option maxRecDepth 100000 in
set_option maxHeartbeats 6400000 in
theorem cname_any (w : World) (L : Txt) (hL : L.length ≤ 9223372036854775807) :
    Calls Tryd.prog 19 #[.string ⟨L.toArray⟩] w fun e w' => e = .returned (.bool (nameL L)) ∧ Kp [] w w' := by
  have hsz : (⟨L.toArray⟩ : ByteArray).size = L.length := size_mk _
  have ht := trim_nil L
  have qt := fun W => trim_any W L hL
  obtain ⟨T, hT⟩ : ∃ T, T = Lib.trimS L nameCs := ⟨_, rfl⟩
  rw [← hT] at ht
  simp only [← hT] at qt
  clear hT
  by_cases hn : T = []
  · have bT : T.isEmpty = true := by rw [hn]; rfl
    have hall := ht.1 hn
    rcases (show L = [] ∨ ∃ c t, L = c :: t by cases L <;> simp) with hl | ⟨c, t, hl⟩
    · have eL : List.isEmpty L = true := by rw [hl]; rfl
      have hr : nameL L = false := by rw [hl]; rfl
      rw [hr]
      clear hr hl hall ht hn
      go_enter Tryd.func19, Tryd.ntmps19
      go_wp2_with fail
      (with_reducible refine (qt _).mono ?_)
      rintro e w1 ⟨rfl, k1⟩
      have Hk := hid k1
      clear k1
      go_wp2_with fail
      go_ret
      exact ⟨rfl, Hk.out⟩
    · have eL : List.isEmpty L = false := by rw [hl]; rfl
      have hl0 : 0 < L.length := by rw [hl]; simp
      obtain ⟨m, hm⟩ : ∃ m, m = c.toNat := ⟨_, rfl⟩
      have i0 := cbyte_in L 0 m hl0 (by rw [hm]; simp only [hl]; rfl)
      have hi := idx_let c
      rw [← hm] at hi
      have hr : nameL L = (isLet c && decide (L.length ≤ 24)) := by
        unfold nameL
        rw [hall, Bool.true_and]
        congr 1
        rw [hl]
        rfl
      have qi := fun W => idx_any W m
      obtain ⟨x, hx⟩ : ∃ x, x = Lib.indexByte letCs ((m : Int).toNat.toUInt8) := ⟨_, rfl⟩
      rw [← hx] at hi
      simp only [← hx] at qi
      rw [hr, ← hi]
      have hm9 : m < 256 := by rw [hm]; exact UInt8.toNat_lt _
      have hp0 : (0 : Int) < (L.length : Int) := by omega
      clear hr hl hall ht hn hi hx hm
      by_cases h24 : L.length ≤ 24
      · have b24 : decide (L.length ≤ 24) = true := decide_eq_true h24
        rw [b24, Bool.and_true]
        go_enter Tryd.func19, Tryd.ntmps19
        go_wp2_with fail
        (with_reducible refine (qt _).mono ?_)
        rintro e w1 ⟨rfl, k1⟩
        have Hk := hid k1
        clear k1
        go_wp2_with fail
        (with_reducible refine (qi _).mono ?_)
        rintro e w2 ⟨rfl, rfl⟩
        go_wp2_with fail
        go_ret
        exact ⟨rfl, Hk.out⟩
      · have b24 : decide (L.length ≤ 24) = false := decide_eq_false h24
        rw [b24, Bool.and_false]
        go_enter Tryd.func19, Tryd.ntmps19
        go_wp2_with fail
        (with_reducible refine (qt _).mono ?_)
        rintro e w1 ⟨rfl, k1⟩
        have Hk := hid k1
        clear k1
        go_wp2_with fail
        go_ret
        exact ⟨rfl, Hk.out⟩
  · have bT : T.isEmpty = false := by cases T with | nil => exact absurd rfl hn | cons _ _ => rfl
    have hr : nameL L = false := by
      unfold nameL
      have : L.all (fun c => isLet c || isOth c) = false := by rw [← Bool.not_eq_true]; exact fun h => hn (ht.2 h)
      rw [this]; rfl
    rw [hr]
    clear hr ht hn
    go_enter Tryd.func19, Tryd.ntmps19
    go_wp2_with fail
    (with_reducible refine (qt _).mono ?_)
    rintro e w1 ⟨rfl, k1⟩
    have Hk := hid k1
    clear k1
    go_wp2_with fail
    go_ret
    exact ⟨rfl, Hk.out⟩
/-- The document's word for it, byte by byte. -/
def okAt (L : Txt) (j : Nat) (h : j < L.length) : Bool := isLet (L[j]'h) || (isOth (L[j]'h) && decide (j ≠ 0))
theorem name_bytes (L : Txt) : nameL L = true ↔ (1 ≤ L.length ∧ L.length ≤ 24) ∧ ∀ j (h : j < L.length), okAt L j h = true := by
  unfold nameL
  simp only [Bool.and_eq_true, List.all_eq_true, decide_eq_true_eq, okAt]
  constructor
  · rintro ⟨h1, h2, h3⟩
    refine ⟨⟨?_, h3⟩, fun j h => ?_⟩
    · cases L with
      | nil => cases h2
      | cons _ _ => simp
    · cases j with
      | zero =>
        cases L with
        | nil => cases h2
        | cons c t => simp only [headLet] at h2; simp [h2]
      | succ j => have := h1 _ (List.getElem_mem h); simpa using this
  · rintro ⟨⟨h1, h3⟩, h2⟩
    refine ⟨fun x hx => ?_, ?_, h3⟩
    · obtain ⟨j, hj, rfl⟩ := List.getElem_of_mem hx
      have := h2 j hj
      revert this
      cases isLet L[j] <;> simp
      intro h _
      exact h
    · cases L with
      | nil => simp at h1
      | cons c t =>
        have := h2 0 (by simp)
        simpa [headLet] using this
set_option maxRecDepth 100000 in
set_option maxHeartbeats 6400000 in
theorem rname_any (w : World) (L : Txt) (hL : L.length ≤ 9223372036854775807) :
    Calls Tryd.prog 21 #[.string ⟨L.toArray⟩] w fun e w' => e = .returned (.bool (nameL L)) ∧ w' = w := by
  have hsz : (⟨L.toArray⟩ : ByteArray).size = L.length := size_mk _
  have HB := hid (name_bytes L)
  obtain ⟨r, hr⟩ : ∃ r, r = nameL L := ⟨_, rfl⟩
  rw [← hr]
  have HR := hid hr
  clear hr
  go_enter Tryd.func21, Tryd.ntmps21
  go_wp2_with fail
  go_loopw [3] (fun vi wr => wr = w ∧ ∃ n : Nat, vi = .int .i64 (n : Int) ∧ n ≤ L.length ∧ ∀ j (h : j < L.length), j < n → okAt L j h = true) (fun vi _ => L.length - (intOf vi).toNat)
  case atStart => exact ⟨rfl, 0, rfl, Nat.zero_le _, fun j _ h => absurd h (Nat.not_lt_zero _)⟩
  case round =>
    obtain ⟨hwr, n, rfl, hn, hD⟩ := hrel
    have hwr2 := hwr.symm
    subst hwr2
    have HD := hid hD
    clear hD
    by_cases hlt : n < L.length
    · obtain ⟨m, hm⟩ : ∃ m, m = (L[n]'hlt).toNat := ⟨_, rfl⟩
      have i0 := cbyte_in L n m hlt hm
      have hm9 : m < 256 := by rw [hm]; exact UInt8.toNat_lt _
      have i1 : (n : Int) < (L.length : Int) := by omega
      have HM := hid hm
      clear hm
      have good : (97 ≤ m ∧ m ≤ 122) ∨ (((48 ≤ m ∧ m ≤ 57) ∨ m = 95) ∧ n ≠ 0) → ∀ j (h : j < L.length), j < n + 1 → okAt L j h = true := by
        intro h1 j h h2
        by_cases hj : j < n
        · exact HD.out j h hj
        · obtain rfl : j = n := by omega
          unfold okAt isLet isOth
          rw [← HM.out]
          simp only [Bool.or_eq_true, Bool.and_eq_true, decide_eq_true_eq]
          omega
      have bad : ¬ ((97 ≤ m ∧ m ≤ 122) ∨ (((48 ≤ m ∧ m ≤ 57) ∨ m = 95) ∧ n ≠ 0)) → r = false := by
        intro h1
        rw [HR.out, ← Bool.not_eq_true, HB.out]
        rintro ⟨_, h2⟩
        have := h2 n hlt
        unfold okAt isLet isOth at this
        rw [← HM.out] at this
        simp only [Bool.or_eq_true, Bool.and_eq_true, decide_eq_true_eq] at this
        omega
      have HG := hid good
      have HF := hid bad
      clear good bad
      rcases (show m < 48 ∨ (48 ≤ m ∧ m ≤ 57) ∨ (58 ≤ m ∧ m ≤ 94) ∨ m = 95 ∨ m = 96 ∨ (97 ≤ m ∧ m ≤ 122) ∨ 123 ≤ m by omega) with h | h | h | h | h | h | h
      · have t1 : decide ((97 : Int) ≤ (m : Int)) = false := decide_eq_false (by omega)
        have t2 : decide ((m : Int) ≤ 122) = true := decide_eq_true (by omega)
        have t3 : decide ((48 : Int) ≤ (m : Int)) = false := decide_eq_false (by omega)
        have t4 : decide ((m : Int) ≤ 57) = true := decide_eq_true (by omega)
        have t5 : ((m : Int) == 95) = false := by rw [beq_eq_false_iff_ne]; omega
        have hr := HF.out (by omega)
        go_wp2_with fail
        go_ret
        exact ⟨by first | rfl | rw [hr], rfl⟩
      · have t1 : decide ((97 : Int) ≤ (m : Int)) = false := decide_eq_false (by omega)
        have t2 : decide ((m : Int) ≤ 122) = true := decide_eq_true (by omega)
        have t3 : decide ((48 : Int) ≤ (m : Int)) = true := decide_eq_true (by omega)
        have t4 : decide ((m : Int) ≤ 57) = true := decide_eq_true (by omega)
        have t5 : ((m : Int) == 95) = false := by rw [beq_eq_false_iff_ne]; omega
        by_cases h0 : n = 0
        · have b0 : ((n : Int) == 0) = true := by rw [beq_iff_eq]; omega
          have hr := HF.out (by omega)
          clear h0
          go_wp2_with fail
          go_ret
          exact ⟨by first | rfl | rw [hr], rfl⟩
        · have b0 : ((n : Int) == 0) = false := by rw [beq_eq_false_iff_ne]; omega
          have Hn := hid (HG.out (by omega))
          clear h0
          go_wp2_with fail
          go_roundw
          case rel => exact ⟨trivial, n + 1, by go_num, hlt, Hn.out⟩
          case measure => simp [intOf]; omega
      · have t1 : decide ((97 : Int) ≤ (m : Int)) = false := decide_eq_false (by omega)
        have t2 : decide ((m : Int) ≤ 122) = true := decide_eq_true (by omega)
        have t3 : decide ((48 : Int) ≤ (m : Int)) = true := decide_eq_true (by omega)
        have t4 : decide ((m : Int) ≤ 57) = false := decide_eq_false (by omega)
        have t5 : ((m : Int) == 95) = false := by rw [beq_eq_false_iff_ne]; omega
        have hr := HF.out (by omega)
        go_wp2_with fail
        go_ret
        exact ⟨by first | rfl | rw [hr], rfl⟩
      · have t1 : decide ((97 : Int) ≤ (m : Int)) = false := decide_eq_false (by omega)
        have t2 : decide ((m : Int) ≤ 122) = true := decide_eq_true (by omega)
        have t3 : decide ((48 : Int) ≤ (m : Int)) = true := decide_eq_true (by omega)
        have t4 : decide ((m : Int) ≤ 57) = false := decide_eq_false (by omega)
        have t5 : ((m : Int) == 95) = true := by rw [beq_iff_eq]; omega
        by_cases h0 : n = 0
        · have b0 : ((n : Int) == 0) = true := by rw [beq_iff_eq]; omega
          have hr := HF.out (by omega)
          clear h0
          go_wp2_with fail
          go_ret
          exact ⟨by first | rfl | rw [hr], rfl⟩
        · have b0 : ((n : Int) == 0) = false := by rw [beq_eq_false_iff_ne]; omega
          have Hn := hid (HG.out (by omega))
          clear h0
          go_wp2_with fail
          go_roundw
          case rel => exact ⟨trivial, n + 1, by go_num, hlt, Hn.out⟩
          case measure => simp [intOf]; omega
      · have t1 : decide ((97 : Int) ≤ (m : Int)) = false := decide_eq_false (by omega)
        have t2 : decide ((m : Int) ≤ 122) = true := decide_eq_true (by omega)
        have t3 : decide ((48 : Int) ≤ (m : Int)) = true := decide_eq_true (by omega)
        have t4 : decide ((m : Int) ≤ 57) = false := decide_eq_false (by omega)
        have t5 : ((m : Int) == 95) = false := by rw [beq_eq_false_iff_ne]; omega
        have hr := HF.out (by omega)
        go_wp2_with fail
        go_ret
        exact ⟨by first | rfl | rw [hr], rfl⟩
      · have t1 : decide ((97 : Int) ≤ (m : Int)) = true := decide_eq_true (by omega)
        have t2 : decide ((m : Int) ≤ 122) = true := decide_eq_true (by omega)
        have t3 : decide ((48 : Int) ≤ (m : Int)) = true := decide_eq_true (by omega)
        have t4 : decide ((m : Int) ≤ 57) = false := decide_eq_false (by omega)
        have t5 : ((m : Int) == 95) = false := by rw [beq_eq_false_iff_ne]; omega
        have Hn := hid (HG.out (by omega))
        go_wp2_with fail
        go_roundw
        case rel => exact ⟨trivial, n + 1, by go_num, hlt, Hn.out⟩
        case measure => simp [intOf]; omega
      · have t1 : decide ((97 : Int) ≤ (m : Int)) = true := decide_eq_true (by omega)
        have t2 : decide ((m : Int) ≤ 122) = false := decide_eq_false (by omega)
        have t3 : decide ((48 : Int) ≤ (m : Int)) = true := decide_eq_true (by omega)
        have t4 : decide ((m : Int) ≤ 57) = false := decide_eq_false (by omega)
        have t5 : ((m : Int) == 95) = false := by rw [beq_eq_false_iff_ne]; omega
        have hr := HF.out (by omega)
        go_wp2_with fail
        go_ret
        exact ⟨by first | rfl | rw [hr], rfl⟩
    · have hnl : n = L.length := by omega
      have hc : r = decide (1 ≤ n ∧ n ≤ 24) := by
        rw [HR.out, Bool.eq_iff_iff, HB.out, decide_eq_true_eq, hnl]
        exact ⟨fun h => h.1, fun h => ⟨h, fun j hj => HD.out j hj (by omega)⟩⟩
      subst hnl
      have HC := hid hc
      clear hc
      rcases (show L.length < 1 ∨ (1 ≤ L.length ∧ L.length ≤ 24) ∨ 24 < L.length by omega) with h | h | h
      · have hr : r = false := by rw [HC.out]; exact decide_eq_false (by omega)
        have t1 : decide ((1 : Int) ≤ (L.length : Int)) = false := decide_eq_false (by omega)
        clear h
        go_wp2_with fail
        go_ret
        exact ⟨by first | rfl | rw [hr], rfl⟩
      · have hr : r = true := by rw [HC.out]; exact decide_eq_true h
        have t1 : decide ((1 : Int) ≤ (L.length : Int)) = true := decide_eq_true (by omega)
        have t2 : decide ((L.length : Int) ≤ 24) = true := decide_eq_true (by omega)
        clear h
        go_wp2_with fail
        go_ret
        exact ⟨by first | rfl | rw [hr], rfl⟩
      · have hr : r = false := by rw [HC.out]; exact decide_eq_false (by omega)
        have t1 : decide ((1 : Int) ≤ (L.length : Int)) = true := decide_eq_true (by omega)
        have t2 : decide ((L.length : Int) ≤ 24) = false := decide_eq_false (by omega)
        clear h
        go_wp2_with fail
        go_ret
        exact ⟨by first | rfl | rw [hr], rfl⟩
end Go.Proofs.YtgjffkblhhkjmaaDoor
