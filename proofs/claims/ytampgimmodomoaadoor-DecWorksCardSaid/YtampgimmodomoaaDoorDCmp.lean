/- cmp of layer 1. -/
import Derived.Test.YtampgimmodomoaaDoorDVal
import Derived.BigQuiet
import Derived.Deep.QuietTactic
namespace Go.Proofs.YtampgimmodomoaaDoor
open Go Go.RowKit

theorem cmpN_len {a b : Nat} (h : limLen a ≠ limLen b) : cmpN a b = (limLen a : Int) - limLen b := if_pos h
theorem cmpN_lt {a b : Nat} (h : limLen a = limLen b) (k : Nat) (hk : k < limLen a) (hs : ∀ j, k < j → lim (limbs a) j = lim (limbs b) j) (hlt : lim (limbs a) k < lim (limbs b) k) : cmpN a b = -1 := by
  have := lval_cmp (lims_limbs a) h k hk hs hlt
  rw [lval_limbs, lval_limbs] at this
  unfold cmpN
  rw [if_neg (fun h2 => h2 h), if_pos this]
theorem cmpN_gt {a b : Nat} (h : limLen a = limLen b) (k : Nat) (hk : k < limLen a) (hs : ∀ j, k < j → lim (limbs a) j = lim (limbs b) j) (hlt : lim (limbs b) k < lim (limbs a) k) : cmpN a b = 1 := by
  have := lval_cmp (lims_limbs b) h.symm k (by unfold limLen at *; omega) (fun j hj => (hs j hj).symm) hlt
  rw [lval_limbs, lval_limbs] at this
  unfold cmpN
  rw [if_neg (fun h2 => h2 h), if_neg (by omega), if_pos this]
theorem cmpN_eq {a b : Nat} (h : limLen a = limLen b) (hs : ∀ j, 0 ≤ j → lim (limbs a) j = lim (limbs b) j) : cmpN a b = 0 := by
  have e : limbs a = limbs b := lim_ext h (fun j => hs j (Nat.zero_le _))
  have e2 := congrArg lval e
  rw [lval_limbs, lval_limbs] at e2
  unfold cmpN
  rw [if_neg (fun h2 => h2 h), if_neg (by omega), if_neg (by omega)]
theorem lim_small (n i : Nat) : lim (limbs n) i < 1000000000 := lim_lt (lims_limbs n) i
set_option maxRecDepth 100000 in
set_option maxHeartbeats 3200000 in
theorem cmp_any (w : World) (A B : Option Addr) (c d a b : Nat) (hA : NatA w A c a) (hB : NatA w B d b) (h1 : limLen a ≤ 10000) (h2 : limLen b ≤ 10000) :
    Calls Tryd.prog 59 #[.slice A (limLen a) c, .slice B (limLen b) d] w fun e w' => e = .returned (.int .i64 (cmpN a b)) ∧ Kp [] w w' := by
  have ha9 : limLen a ≤ c := hA.2.1
  have hb9 : limLen b ≤ d := hB.2.1
  have HA := hid hA
  have HB := hid hB
  clear hA hB
  obtain ⟨n, hn⟩ : ∃ n, n = limLen a := ⟨_, rfl⟩
  obtain ⟨k, hk⟩ : ∃ k, k = limLen b := ⟨_, rfl⟩
  obtain ⟨R, hR⟩ : ∃ R, R = cmpN a b := ⟨_, rfl⟩
  rw [← hR]
  rw [← hn] at h1 ha9 ⊢
  rw [← hk] at h2 hb9 ⊢
  by_cases hne : n ≠ k
  · have hr : R = (n : Int) - (k : Int) := by rw [hR, cmpN_len (by rw [← hn, ← hk]; exact hne), hn, hk]
    have Hr := hid hr
    have hb : ((n : Int) != (k : Int)) = true := by rw [bne_iff_ne]; omega
    clear hr hR hn hk hne
    go_enter Tryd.func59, Tryd.ntmps59
    go_wp2_with fail
    go_ret
    exact ⟨by rw [Hr.out]; rfl, Kp.refl _ _⟩
  · have hnk : n = k := by omega
    subst hnk
    have hb : ((n : Int) != (n : Int)) = false := by rw [bne_eq_false_iff_eq]
    have HR := hid (And.intro hR (And.intro hn hk))
    clear hR hn hk hne
    go_enter Tryd.func59, Tryd.ntmps59
    go_wp2_with fail
    go_loopw [5] (fun v wr => Kp [] w wr ∧ ∃ j : Nat, v = .int .i64 ((j : Int) - 1) ∧ j ≤ n ∧ ∀ t, j ≤ t → lim (limbs a) t = lim (limbs b) t) (fun v _ => (intOf v + 1).toNat)
    case atStart =>
      refine ⟨Kp.refl _ _, n, rfl, Nat.le_refl _, fun t ht => ?_⟩
      have e1 : limLen a ≤ t := by rw [← HR.out.2.1]; exact ht
      have e2 : limLen b ≤ t := by rw [← HR.out.2.2]; exact ht
      unfold lim
      rw [List.getD_eq_getElem?_getD, List.getD_eq_getElem?_getD, List.getElem?_eq_none e1, List.getElem?_eq_none e2]
    case round =>
      obtain ⟨hk, j, rfl, hj, hs⟩ := hrel
      rcases Nat.eq_zero_or_pos j with rfl | hj0
      · have hr := cmpN_eq (by rw [← HR.out.2.1, ← HR.out.2.2]) hs
        have Hr := hid hr
        have Hk := hid hk
        clear hr hs hk
        go_wp2_with fail
        go_ret
        exact ⟨by rw [HR.out.1, Hr.out]; rfl, Hk.out⟩
      · obtain ⟨i, rfl⟩ : ∃ i, j = i + 1 := ⟨j - 1, by omega⟩
        obtain ⟨ad, hAe, hca⟩ := (HA.out.kept hk).get (j := i) (by have := HR.out.2.1; unfold limLen at this; omega)
        obtain ⟨bd, hBe, hcb⟩ := (HB.out.kept hk).get (j := i) (by have := HR.out.2.2; unfold limLen at this; omega)
        rw [lim_get] at hca hcb
        subst hAe hBe
        have hxl := lim_small a i
        have hyl := lim_small b i
        have hlt := fun h => cmpN_lt (a := a) (b := b) (by rw [← HR.out.2.1, ← HR.out.2.2]) i (by have := HR.out.2.1; omega) (fun t ht => hs t ht) h
        have hgt := fun h => cmpN_gt (a := a) (b := b) (by rw [← HR.out.2.1, ← HR.out.2.2]) i (by have := HR.out.2.1; omega) (fun t ht => hs t ht) h
        obtain ⟨x, hx⟩ : ∃ x, x = lim (limbs a) i := ⟨_, rfl⟩
        obtain ⟨y, hy⟩ : ∃ y, y = lim (limbs b) i := ⟨_, rfl⟩
        rw [← hx] at hca hxl
        rw [← hy] at hcb hyl
        simp only [← hx, ← hy] at hlt hgt
        have hei : ((i + 1 : Nat) : Int) - 1 = (i : Int) := by omega
        rw [hei]
        have i1 : (i : Int) < (n : Int) := by omega
        have i2 : (0 : Int) ≤ (i : Int) := by omega
        have Hs := hid (And.intro hs (And.intro hx hy))
        have Hk := hid hk
        have Hlt := hid hlt
        have Hgt := hid hgt
        clear hs hx hy hk hlt hgt hei
        rcases (show x < y ∨ x = y ∨ y < x from by omega) with h | h | h
        · have b1 : ((x : Int) != (y : Int)) = true := by rw [bne_iff_ne]; omega
          have b2 : decide ((x : Int) < (y : Int)) = true := decide_eq_true (by omega)
          have b3 : decide (x < y) = true := decide_eq_true h
          have Hr := hid (Hlt.out h)
          go_wp2_with fail
          go_quiet (fail)
          go_wp2_with fail
          go_quiet (fail)
          go_wp2_with fail
          go_ret
          exact ⟨by rw [HR.out.1, Hr.out]; rfl, (Hk.out.drewN _).drewN _⟩
        · subst h
          have b1 : ((x : Int) != (x : Int)) = false := by rw [bne_eq_false_iff_eq]
          go_wp2_with fail
          go_quiet (fail)
          go_wp2_with fail
          go_roundw
          case rel =>
            refine ⟨Hk.out.drewN _, i, by go_num, by omega, fun t ht => ?_⟩
            rcases (show t = i ∨ i + 1 ≤ t from by omega) with rfl | h
            · rw [← Hs.out.2.1, ← Hs.out.2.2]
            · exact Hs.out.1 t h
          case measure => simp [intOf]
        · have b1 : ((x : Int) != (y : Int)) = true := by rw [bne_iff_ne]; omega
          have b2 : decide ((x : Int) < (y : Int)) = false := decide_eq_false (by omega)
          have b3 : decide (x < y) = false := decide_eq_false (by omega)
          have Hr := hid (Hgt.out h)
          go_wp2_with fail
          go_quiet (fail)
          go_wp2_with fail
          go_quiet (fail)
          go_wp2_with fail
          go_ret
          exact ⟨by rw [HR.out.1, Hr.out]; rfl, (Hk.out.drewN _).drewN _⟩
end Go.Proofs.YtampgimmodomoaaDoor
