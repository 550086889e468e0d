/- slices.Reverse of any bytes. -/
import Derived.Test.YtampgimmodomoaaDoorDVals
namespace Go.Proofs.YtampgimmodomoaaDoor
open Go Go.RowKit

/-- A list of which k at each end are turned. -/
def revAt {α : Type} [Inhabited α] (L : List α) (k : Nat) : List α := (List.range L.length).map fun i => if i < k ∨ L.length - k ≤ i then L.getD (L.length - 1 - i) default else L.getD i default
theorem length_revAt {α : Type} [Inhabited α] (L : List α) (k : Nat) : (revAt L k).length = L.length := by simp [revAt]
theorem revAt_get {α : Type} [Inhabited α] (L : List α) (k i : Nat) (h : i < L.length) : (revAt L k)[i]? = some (if i < k ∨ L.length - k ≤ i then L.getD (L.length - 1 - i) default else L.getD i default) := by
  unfold revAt
  rw [List.getElem?_map, List.getElem?_range h]
  rfl
theorem revAt_zero {α : Type} [Inhabited α] (L : List α) : revAt L 0 = L := by
  apply List.ext_getElem?
  intro i
  by_cases h : i < L.length
  · rw [revAt_get L 0 i h, if_neg (by omega), List.getD_eq_getElem?_getD, List.getElem?_eq_getElem h]
    rfl
  · rw [List.getElem?_eq_none (by rw [length_revAt]; omega), List.getElem?_eq_none (by omega)]
theorem revAt_end {α : Type} [Inhabited α] (L : List α) (k : Nat) (hk : L.length ≤ 2 * k + 1) : revAt L k = L.reverse := by
  apply List.ext_getElem?
  intro i
  by_cases h : i < L.length
  · rw [revAt_get L k i h, List.getElem?_reverse h]
    by_cases h2 : i < k ∨ L.length - k ≤ i
    · rw [if_pos h2, List.getD_eq_getElem?_getD, List.getElem?_eq_getElem (by omega)]
      rfl
    · rw [if_neg h2, List.getD_eq_getElem?_getD, List.getElem?_eq_getElem (by omega)]
      have e : L.length - 1 - i = i := by omega
      rw [e, List.getElem?_eq_getElem h]
      rfl
  · rw [List.getElem?_eq_none (by rw [length_revAt]; omega), List.getElem?_eq_none (by rw [List.length_reverse]; omega)]
theorem revAt_lo {α : Type} [Inhabited α] (L : List α) (k : Nat) (h : 2 * k + 1 < L.length) : (revAt L k)[k]? = some (L.getD k default) := by
  rw [revAt_get L k k (by omega), if_neg (by omega)]
theorem revAt_hi {α : Type} [Inhabited α] (L : List α) (k : Nat) (h : 2 * k + 1 < L.length) : (revAt L k)[L.length - 1 - k]? = some (L.getD (L.length - 1 - k) default) := by
  rw [revAt_get L k _ (by omega), if_neg (by omega)]
theorem revAt_step {α : Type} [Inhabited α] (L : List α) (k : Nat) (h : 2 * k + 1 < L.length) : ((revAt L k).set k (L.getD (L.length - 1 - k) default)).set (L.length - 1 - k) (L.getD k default) = revAt L (k + 1) := by
  apply List.ext_getElem?
  intro i
  by_cases hi : i < L.length
  · rw [revAt_get L (k + 1) i hi, List.getElem?_set, List.getElem?_set]
    simp only [List.length_set, length_revAt]
    by_cases e1 : L.length - 1 - k = i
    · rw [if_pos e1, if_pos (by omega), if_pos (by omega)]
      have : L.length - 1 - i = k := by omega
      rw [this]
    · rw [if_neg e1]
      by_cases e2 : k = i
      · rw [if_pos e2, if_pos (by omega), if_pos (by omega), e2]
      · rw [if_neg e2, revAt_get L k i hi]
        by_cases e3 : i < k ∨ L.length - k ≤ i
        · rw [if_pos e3, if_pos (by omega)]
        · rw [if_neg e3, if_neg (by omega)]
  · rw [List.getElem?_eq_none (by simp [length_revAt]; omega), List.getElem?_eq_none (by rw [length_revAt]; omega)]

theorem u8s_getD (l : List UInt8) (j : Nat) (h : j < l.length) : (u8s l)[j]? = some (.int .u8 ((l.getD j default).toNat : Int)) := by
  rw [u8s_get l j h, List.getD_eq_getElem?_getD, List.getElem?_eq_getElem h]
  rfl
set_option maxRecDepth 100000 in
set_option maxHeartbeats 1600000 in
theorem reverse_any (w : World) (A : Option Addr) (n c : Nat) (L : List UInt8) (hn : n = L.length) (hs : n ≤ 1000000) (hown : Own w 5 (.slice A n c) n (u8s L)) :
    Calls Tryd.prog 67 #[.slice A n c] w fun e w' => e = .returned (.tuple #[]) ∧ Own w' 5 (.slice A n c) n (u8s L.reverse) ∧ Kp (Value.slice A n c).ownBlock.toList w w' := by
  rcases Nat.eq_zero_or_pos n with h0 | h0
  · subst h0
    have hL : L = [] := List.eq_nil_of_length_eq_zero hn.symm
    subst hL
    have Ho := hid hown
    clear hown hn
    go_enter Tryd.func67, Tryd.ntmps67
    go_wp2_with fail
    go_loopw [2, 3] (fun i j wr => wr = w ∧ i = .int .i64 0 ∧ j = .int .i64 (-1)) (fun _ _ _ => 0)
    case atStart => exact ⟨rfl, rfl, rfl⟩
    case round =>
      obtain ⟨rfl, rfl, rfl⟩ := hrel
      go_wp2_with fail
      go_end0
      exact ⟨rfl, Ho.out, Kp.refl _ _⟩
  · obtain ⟨g, rfl, -⟩ := hown.at h0
    have hown0 := revAt_zero L
    have Ho : Hid (Own w 5 (.slice (some ⟨g, 0, none⟩) n c) n (u8s (revAt L 0))) := by rw [hown0]; exact hown
    have Hn := hid hn
    clear hown hown0 hn
    go_enter Tryd.func67, Tryd.ntmps67
    go_wp2_with fail
    go_loopw [2, 3] (fun i j wr => ∃ k : Nat, i = .int .i64 (k : Int) ∧ j = .int .i64 ((n : Int) - 1 - (k : Int)) ∧ 2 * k ≤ n ∧ Own wr 5 (.slice (some ⟨g, 0, none⟩) n c) n (u8s (revAt L k)) ∧ Kp [g] w wr) (fun i _ _ => n - (intOf i).toNat)
    case atStart => exact ⟨0, rfl, by go_num, by omega, Ho.out, Kp.refl _ _⟩
    case round =>
      obtain ⟨k, rfl, rfl, hk, ho, hkp⟩ := hrel
      by_cases hlt : 2 * k + 1 < n
      · obtain ⟨m, hm⟩ : ∃ m, m = n - 1 - k := ⟨_, rfl⟩
        have hmi : (n : Int) - 1 - (k : Int) = (m : Int) := by omega
        have hkm : k < m := by omega
        have hmn : m < n := by omega
        obtain ⟨g', e, hg, hcell, hfree, -⟩ := ho.at h0
        injection e with e
        injection e with e
        subst e
        have hnL := Hn.out
        have hlk : (revAt L k).length = n := by rw [length_revAt]; exact hnL.symm
        have c1 := hcell k (by omega)
        have c2 := hcell m hmn
        have r1 := revAt_lo L k (by omega)
        have r2 := revAt_hi L k (by omega)
        have r3 := revAt_step L k (by omega)
        rw [← hnL, ← hm] at r2 r3
        rw [show (u8s (revAt L k))[k]? = some (.int .u8 ((L.getD k default).toNat : Int)) from by unfold u8s; rw [List.getElem?_map, r1]; rfl] at c1
        rw [show (u8s (revAt L k))[m]? = some (.int .u8 ((L.getD m default).toNat : Int)) from by unfold u8s; rw [List.getElem?_map, r2]; rfl] at c2
        have f1 := hfree k (by omega)
        have f2 := hfree m hmn
        have hput := (ho.put (j := k) (by omega) (.int .u8 ((L.getD m default).toNat : Int))).put (j := m) hmn (.int .u8 ((L.getD k default).toNat : Int))
        have hset : ((u8s (revAt L k)).set k (.int .u8 ((L.getD m default).toNat : Int))).set m (.int .u8 ((L.getD k default).toNat : Int)) = u8s (revAt L (k + 1)) := by
          rw [← r3, u8s_set, u8s_set]
          rfl
        rw [hset] at hput
        have hk2 := (hkp.setCell (p := ⟨g, k, none⟩) (fun _ => by simp) (.int .u8 ((L.getD m default).toNat : Int))).setCell (p := ⟨g, m, none⟩) (fun _ => by simp) (.int .u8 ((L.getD k default).toNat : Int))
        obtain ⟨x, hx⟩ : ∃ x, x = (L.getD k default).toNat := ⟨_, rfl⟩
        obtain ⟨y, hy⟩ : ∃ y, y = (L.getD m default).toNat := ⟨_, rfl⟩
        rw [← hx] at c1 hput hk2
        rw [← hy] at c2 hput hk2
        have HP := hid (And.intro hput hk2)
        have hm2 : (m : Int) - 1 = (n : Int) - 1 - ((k + 1 : Nat) : Int) := by omega
        have Hm2 := hid hm2
        rw [hmi]
        clear hput hk2 hset r1 r2 r3 hx hy ho hkp hcell hfree hlk hnL hm hmi hm2
        go_wp2_with fail
        go_region
        go_wp2_with fail
        go_roundw
        case rel => exact ⟨k + 1, by go_num, by rw [← Hm2.out], by omega, HP.out.1, HP.out.2.drew⟩
        case measure => simp [intOf]; omega
      · have hb : decide ((k : Int) < (n : Int) - 1 - (k : Int)) = false := decide_eq_false (by omega)
        have hr := revAt_end L k (by rw [← Hn.out]; omega)
        rw [hr] at ho
        have HF := hid (And.intro ho hkp)
        clear ho hkp hr hlt
        go_wp2_with fail
        go_end0
        exact ⟨rfl, HF.out.1, by simpa [Value.ownBlock] using HF.out.2⟩
end Go.Proofs.YtampgimmodomoaaDoor
