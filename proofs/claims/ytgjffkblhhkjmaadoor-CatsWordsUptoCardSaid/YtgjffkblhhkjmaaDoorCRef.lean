/- Layer 6, the document's answer: a name's place, which categories may be, the words of a text, names read as a mask, a mask written as names. -/
import Derived.Test.YtgjffkblhhkjmaaDoorCNames
namespace Go.Proofs.YtgjffkblhhkjmaaDoor
open Go Go.RowKit Go.Maps

def placeL (C : List Txt) (X : Txt) : Int := match C.findIdx? (· == X) with | some i => (i : Int) | none => -1
theorem place_hit {C : List Txt} {X : Txt} {k : Nat} (h : k < C.length) (hx : C[k] = X) (hb : ∀ j (h : j < C.length), j < k → C[j] ≠ X) : placeL C X = (k : Int) := by
  unfold placeL
  have : C.findIdx? (· == X) = some k := by
    rw [List.findIdx?_eq_some_iff_getElem]
    exact ⟨h, by simp [hx], fun j hj => by simp [hb j (by omega) hj]⟩
  rw [this]
theorem place_miss {C : List Txt} {X : Txt} (hb : ∀ j (h : j < C.length), C[j] ≠ X) : placeL C X = -1 := by
  unfold placeL
  rw [idx_none]
  intro hm
  obtain ⟨j, hj, e⟩ := List.getElem_of_mem hm
  exact hb j hj e
theorem place_bounds (C : List Txt) (X : Txt) : -1 ≤ placeL C X ∧ placeL C X ≤ C.length := by
  unfold placeL
  cases h : C.findIdx? (· == X) with
  | none => exact ⟨by decide, by show (-1 : Int) ≤ _; omega⟩
  | some i =>
    have := (List.findIdx?_eq_some_iff_getElem.1 h).1
    exact ⟨by show (-1 : Int) ≤ (i : Int); omega, by show (i : Int) ≤ _; omega⟩
theorem place_self {C : List Txt} (k : Nat) (h : k < C.length) : placeL C C[k] = (k : Int) ↔ ∀ j (hj : j < C.length), j < k → C[j] ≠ C[k] := by
  constructor
  · intro e j hj hjk heq
    unfold placeL at e
    cases hi : C.findIdx? (· == C[k]) with
    | none => rw [hi] at e; have : (-1 : Int) = k := e; omega
    | some i =>
      rw [hi] at e
      have e2 : (i : Int) = k := e
      have h2 := (List.findIdx?_eq_some_iff_getElem.1 hi).2.2 j (by omega)
      simp [heq] at h2
  · exact fun hb => place_hit h rfl hb

set_option maxRecDepth 100000 in
set_option maxHeartbeats 6400000 in
theorem place_any (w : World) (A : Option Addr) (c : Nat) (C : List Txt) (hC : Strs w A c C) (X : Txt) :
    Calls Tryd.prog 31 #[.slice A C.length c, .string ⟨X.toArray⟩] w fun e w' => e = .returned (.int .i64 (placeL C X)) ∧ w' = w := by
  obtain ⟨n, hn⟩ : ∃ n, n = C.length := ⟨_, rfl⟩
  have hcap := hC.cap
  have hcap2 := hC.cap2
  rw [← hn] at hcap ⊢
  obtain ⟨r, hr⟩ : ∃ r, r = placeL C X := ⟨_, rfl⟩
  rw [← hr]
  have HR := hid (And.intro hr hn)
  clear hr hn
  go_enter Tryd.func31, Tryd.ntmps31
  go_wp2_with fail
  go_loopw [5] (fun vi wr => wr = w ∧ ∃ k : Nat, k ≤ n ∧ vi = .int .i64 (k : Int) ∧ ∀ j (h : j < C.length), j < k → C[j] ≠ X) (fun vi _ => n - (intOf vi).toNat)
  case atStart => exact ⟨rfl, 0, Nat.zero_le _, rfl, fun j _ h => absurd h (Nat.not_lt_zero _)⟩
  case round =>
    obtain ⟨hwr, k, hk, rfl, hb⟩ := hrel
    have hwr2 := hwr.symm
    subst hwr2
    have HB := hid hb
    clear hb
    by_cases hlt : k < n
    · have hkl : k < C.length := by rw [← HR.out.2]; exact hlt
      obtain ⟨ad, hA, hcl, hx9⟩ := hC.at k hkl
      subst hA
      obtain ⟨x, hx⟩ : ∃ x, x = C[k]'hkl := ⟨_, rfl⟩
      rw [← hx] at hcl hx9
      by_cases he : x = X
      · have hbe : (x == X) = true := by rw [he]; simp
        have hr : r = (k : Int) := by rw [HR.out.1]; exact place_hit hkl (by rw [← hx]; exact he) HB.out
        have Hr := hid hr
        clear he hx hr
        go_wp2_with fail
        go_ret
        exact ⟨by rw [Hr.out]; rfl, rfl⟩
      · have hbe : (x == X) = false := by rw [beq_eq_false_iff_ne]; exact he
        have hnx : ∀ j (h : j < C.length), j < k + 1 → C[j] ≠ X := by
          intro j h hj
          by_cases hjk : j < k
          · exact HB.out j h hjk
          · obtain rfl : j = k := by omega
            rw [← hx]; exact he
        have Hn := hid hnx
        clear he hx hnx
        go_wp2_with fail
        go_roundw
        case rel => exact ⟨trivial, k + 1, by omega, by go_num, Hn.out⟩
        case measure => simp [intOf]; omega
    · have hkn : k = n := by omega
      have hr : r = -1 := by rw [HR.out.1]; exact place_miss fun j h => HB.out j h (by rw [hkn, HR.out.2]; exact h)
      have Hr := hid hr
      clear hr
      go_wp2_with fail
      go_ret
      exact ⟨by rw [Hr.out]; rfl, rfl⟩

/-- What the first names say. -/
def fineK (C : List Txt) (k : Nat) : Prop := ∀ j (h : j < C.length), j < k → nameL C[j] = true ∧ placeL C C[j] = (j : Int)
theorem fine_all (C : List Txt) (h : fineK C C.length) (h64 : C.length ≤ 64) : mayC C = 0 := by
  unfold mayC
  rw [if_neg (by omega), if_pos]
  constructor
  · rw [List.nodup_iff_pairwise_ne, List.pairwise_iff_getElem]
    intro i j hi hj hij
    exact (place_self j hj).1 (h j hj hj).2 i hi hij
  · intro x hx
    obtain ⟨j, hj, rfl⟩ := List.getElem_of_mem hx
    exact (h j hj hj).1
theorem fine_not (C : List Txt) (k : Nat) (hk : k < C.length) (h : ¬ (nameL C[k] = true ∧ placeL C C[k] = (k : Int))) (h64 : C.length ≤ 64) : mayC C = 20 := by
  unfold mayC
  rw [if_neg (by omega), if_neg]
  rintro ⟨h1, h2⟩
  refine h ⟨h2 _ (List.getElem_mem hk), (place_self k hk).2 fun j hj hjk => ?_⟩
  rw [List.nodup_iff_pairwise_ne, List.pairwise_iff_getElem] at h1
  exact h1 j k hj hk hjk

set_option maxRecDepth 100000 in
set_option maxHeartbeats 6400000 in
theorem rmay6_any (w : World) (A : Option Addr) (c : Nat) (C : List Txt) (hC : Strs w A c C) :
    Calls Tryd.prog 14 #[.slice A C.length c] w fun e w' => e = .returned (.int .i64 (mayC C)) ∧ w' = w := by
  obtain ⟨n, hn⟩ : ∃ n, n = C.length := ⟨_, rfl⟩
  have hcap := hC.cap
  have hcap2 := hC.cap2
  have qp := fun X => place_any w A c C hC X
  rw [← hn] at hcap qp ⊢
  obtain ⟨r, hr⟩ : ∃ r, r = mayC C := ⟨_, rfl⟩
  rw [← hr]
  have HR := hid (And.intro hr hn)
  clear hr hn
  by_cases h64 : 64 < n
  · have hr3 : r = 3 := by rw [HR.out.1]; unfold mayC; rw [if_pos (by rw [← HR.out.2]; exact h64)]
    have Hr := hid hr3
    clear hr3
    go_enter Tryd.func14, Tryd.ntmps14
    go_wp2_with fail
    go_ret
    exact ⟨by rw [Hr.out]; rfl, rfl⟩
  go_enter Tryd.func14, Tryd.ntmps14
  go_wp2_with fail
  go_loopw [3] (fun vi wr => wr = w ∧ ∃ k : Nat, k ≤ n ∧ vi = .int .i64 (k : Int) ∧ fineK C k) (fun vi _ => n - (intOf vi).toNat)
  case atStart => exact ⟨rfl, 0, Nat.zero_le _, rfl, fun j _ h => absurd h (Nat.not_lt_zero _)⟩
  case round =>
    obtain ⟨hwr, k, hk, rfl, hb⟩ := hrel
    have hwr2 := hwr.symm
    subst hwr2
    have HB := hid hb
    clear hb
    by_cases hlt : k < n
    · have hkl : k < C.length := by rw [← HR.out.2]; exact hlt
      obtain ⟨ad, hA, hcl, hx9⟩ := hC.at k hkl
      subst hA
      have hbad := fine_not C k hkl
      have hgood : nameL C[k] = true ∧ placeL C C[k] = (k : Int) → fineK C (k + 1) := by
        intro h j hj hjk
        by_cases hj2 : j < k
        · exact HB.out j hj hj2
        · obtain rfl : j = k := by omega
          exact h
      obtain ⟨x, hx⟩ : ∃ x, x = C[k]'hkl := ⟨_, rfl⟩
      rw [← hx] at hcl hx9 hbad hgood
      have qn := fun W => rname_any W x (by omega)
      obtain ⟨bn, hbn⟩ : ∃ b, b = nameL x := ⟨_, rfl⟩
      simp only [← hbn] at qn hbad hgood
      obtain ⟨p, hp⟩ : ∃ p, p = placeL C x := ⟨_, rfl⟩
      have qx := qp x
      rw [← hp] at qx hbad hgood
      have HG := hid hgood
      have HF := hid hbad
      clear hx hbn hp hgood hbad
      cases bn
      · have Hr := hid (show r = 20 by rw [HR.out.1]; exact HF.out (by simp) (by rw [← HR.out.2]; omega))
        go_wp2_with fail
        (with_reducible refine (qn _).mono ?_)
        rintro e w1 ⟨rfl, rfl⟩
        go_wp2_with fail
        go_ret
        exact ⟨by rw [Hr.out]; rfl, rfl⟩
      · by_cases hpk : p = (k : Int)
        · have hne : (p != (k : Int)) = false := by rw [hpk]; simp
          have Hg := hid (HG.out ⟨rfl, hpk⟩)
          clear hpk
          go_wp2_with fail
          (with_reducible refine (qn _).mono ?_)
          rintro e w1 ⟨rfl, rfl⟩
          go_wp2_with fail
          (with_reducible refine qx.mono ?_)
          rintro e w1 ⟨rfl, rfl⟩
          go_wp2_with fail
          go_roundw
          case rel => exact ⟨trivial, k + 1, by omega, by go_num, Hg.out⟩
          case measure => simp [intOf]; omega
        · have hne : (p != (k : Int)) = true := by rw [bne_iff_ne]; exact hpk
          have Hr := hid (show r = 20 by rw [HR.out.1]; exact HF.out (fun h => hpk h.2) (by rw [← HR.out.2]; omega))
          clear hpk
          go_wp2_with fail
          (with_reducible refine (qn _).mono ?_)
          rintro e w1 ⟨rfl, rfl⟩
          go_wp2_with fail
          (with_reducible refine qx.mono ?_)
          rintro e w1 ⟨rfl, rfl⟩
          go_wp2_with fail
          go_ret
          exact ⟨by rw [Hr.out]; rfl, rfl⟩
    · have hkn : k = n := by omega
      have Hr := hid (show r = 0 by rw [HR.out.1]; exact fine_all C (by rw [← HR.out.2, ← hkn]; exact HB.out) (by rw [← HR.out.2]; omega))
      go_wp2_with fail
      go_ret
      exact ⟨by rw [Hr.out]; rfl, rfl⟩
end Go.Proofs.YtgjffkblhhkjmaaDoor
