/- Proved, of the audit and of the document: whether so many bytes are noted. -/
import Derived.Test.YtepeopfdenieeaaDoorAudit
import Derived.Test.YtepeopfdenieeaaDoorRefAll
namespace Go.Proofs.YtepeopfdenieeaaDoor
open Go Go.RowKit

def sumLen (rs : List Rec) : Int := rs.foldl (fun z r => z + r.len) 0
theorem sumLen_snoc (rs : List Rec) (r : Rec) : sumLen (rs ++ [r]) = sumLen rs + r.len := by simp [sumLen]
theorem sumLen_bound : ∀ (rs : List Rec), (∀ r ∈ rs, mayOf r = 0) → 0 ≤ sumLen rs ∧ sumLen rs ≤ 1073741824 * rs.length := by
  intro rs
  suffices h : ∀ (qs : List Rec) (z : Int), (∀ r ∈ qs, mayOf r = 0) → z ≤ qs.foldl (fun z r => z + r.len) z ∧ qs.foldl (fun z r => z + r.len) z ≤ z + 1073741824 * qs.length by
    intro hm
    have := h rs 0 hm
    unfold sumLen
    omega
  intro qs
  induction qs with
  | nil => intro z _; simp
  | cons q qs ih =>
    intro z hm
    obtain ⟨_, _, ⟨h1, h2⟩, _⟩ := may_zero (hm q (by simp))
    have := ih (z + q.len) (fun r hr => hm r (by simp [hr]))
    simp only [List.foldl_cons, List.length_cons]
    omega
def ProvedPost (w : World) (l : List UInt8) (m : Nat) (e : Ending) (w' : World) : Prop :=
  ∃ rs rest, Rows l rs rest ∧ e = .returned (.bool (decide ((m : Int) ≤ sumLen rs))) ∧ Kp [] w w'

set_option maxRecDepth 100000 in
set_option maxHeartbeats 1000000 in
theorem proved_any (w : World) (hT : Tabs w) (A : Option Addr) (n c : Nat) (l : List UInt8) (hs : Span w A (u8s l)) (hn : l.length = n) (hc : n ≤ c) (hc2 : c ≤ 9223372036854775807) (hm : n ≤ 10000000) (B : Option Addr) (m d : Nat) (hmm : m ≤ 9223372036854775807) :
    Calls Tryd.prog 34 #[.slice A n c, .slice B m d] w (ProvedPost w l m) := by
  go_enter Tryd.func34, Tryd.ntmps34
  go_wp2_with fail
  refine (recover_any w hT A n c l hs hn hc hc2 (by omega)).mono ?_
  rintro e w1 ⟨rs, rest, v, hrows, rfl, hro, hk, -⟩
  obtain ⟨R, cr, rfl, hR, hcr, hcr2⟩ := hro.shape
  have hcnt : 22 * rs.length ≤ n := by
    have h1 := putAll_len rs
    have h2 := congrArg List.length hrows.2.1
    rw [List.length_append] at h2
    omega
  obtain ⟨M, hM⟩ : ∃ M, M = rs.length := ⟨_, rfl⟩
  rw [← hM] at hcr hcnt ⊢
  have HM := hid hM
  have Hrows := hid hrows
  clear hM hrows hro
  go_wp2_with fail
  go_loopw [7, 19] (fun z i wr => ∃ k : Nat, k ≤ M ∧ i = .int .i64 k ∧ z = .int .i64 ((m : Int) - sumLen (rs.take k)) ∧ Kp [] w1 wr) (fun _ i _ => M - (intOf i).toNat)
  case atStart => exact ⟨0, by omega, rfl, by simp [sumLen], Kp.refl _ _⟩
  case round =>
    obtain ⟨k, hk', rfl, rfl, kr⟩ := hrel
    have hb := sumLen_bound (rs.take k) (fun r hr => Hrows.out.1 r (List.mem_of_mem_take hr))
    rw [List.length_take, Nat.min_eq_left (by have := HM.out; omega)] at hb
    obtain ⟨z, hz⟩ : ∃ z, z = sumLen (rs.take k) := ⟨_, rfl⟩
    rw [← hz] at hb ⊢
    by_cases hlt : k < M
    · have hkl : k < rs.length := by rw [← HM.out]; exact hlt
      obtain ⟨ad, hA, Ar, c', a0, a1, a2, a3, a4, a5, a6⟩ := (hR.kept kr) k _ (List.getElem?_eq_getElem hkl)
      subst hA
      have hsn : sumLen (rs.take (k + 1)) = z + (rs[k]).len := by
        rw [List.take_add_one, List.getElem?_eq_getElem hkl, hz]
        exact sumLen_snoc _ _
      have hlen : 0 ≤ (rs[k]).len ∧ (rs[k]).len ≤ 1073741824 := by
        obtain ⟨_, _, h, _⟩ := may_zero (Hrows.out.1 rs[k] (List.getElem_mem hkl))
        exact h
      obtain ⟨r, hr⟩ : ∃ r, r = rs[k] := ⟨_, rfl⟩
      rw [← hr] at a0 a1 a2 a3 hsn hlen
      have Hsn := hid hsn
      clear hr hsn hz a4
      go_wp2_with fail
      go_roundw
      case rel => exact ⟨k + 1, by omega, by go_num, by rw [Hsn.out]; go_num, kr.alloc _⟩
      case measure => simp [intOf]; omega
    · have hfull : rs.take k = rs := List.take_of_length_le (by have := HM.out; omega)
      rw [hfull] at hz
      have Hz := hid hz
      clear hz hfull
      go_wp2_with fail
      go_ret
      refine ⟨rs, rest, Hrows.out, ?_, hk.nil kr⟩
      rw [← Hz.out]
      show Ending.returned (.bool (decide _)) = _
      congr 2
      simp only [decide_eq_decide]
      omega
set_option maxRecDepth 100000 in
set_option maxHeartbeats 1000000 in
theorem rproved_any (w : World) (A : Option Addr) (n c : Nat) (l : List UInt8) (hs : Span w A (u8s l)) (hn : l.length = n) (hc : n ≤ c) (hc2 : c ≤ 9223372036854775807) (hm : n ≤ 10000000) (B : Option Addr) (m d : Nat) :
    Calls Tryd.prog 35 #[.slice A n c, .slice B m d] w (ProvedPost w l m) := by
  go_enter Tryd.func35, Tryd.ntmps35
  go_wp2_with fail
  refine (rall_any w A n c l hs hn hc hc2 (by omega)).mono ?_
  rintro e w1 ⟨rs, rest, v, hrows, rfl, hro, hk, -⟩
  obtain ⟨R, cr, rfl, hR, hcr, hcr2⟩ := hro.shape
  have hcnt : 22 * rs.length ≤ n := by
    have h1 := putAll_len rs
    have h2 := congrArg List.length hrows.2.1
    rw [List.length_append] at h2
    omega
  obtain ⟨M, hM⟩ : ∃ M, M = rs.length := ⟨_, rfl⟩
  rw [← hM] at hcr hcnt ⊢
  have HM := hid hM
  have Hrows := hid hrows
  clear hM hrows hro
  go_wp2_with fail
  go_loopw [7, 8] (fun z i wr => ∃ k : Nat, k ≤ M ∧ i = .int .i64 k ∧ z = .int .i64 (sumLen (rs.take k)) ∧ wr = w1) (fun _ i _ => M - (intOf i).toNat)
  case atStart => exact ⟨0, by omega, rfl, rfl, rfl⟩
  case round =>
    obtain ⟨k, hk', rfl, rfl, hwr⟩ := hrel
    subst wr
    have hb := sumLen_bound (rs.take k) (fun r hr => Hrows.out.1 r (List.mem_of_mem_take hr))
    rw [List.length_take, Nat.min_eq_left (by have := HM.out; omega)] at hb
    obtain ⟨z, hz⟩ : ∃ z, z = sumLen (rs.take k) := ⟨_, rfl⟩
    rw [← hz] at hb ⊢
    by_cases hlt : k < M
    · have hkl : k < rs.length := by rw [← HM.out]; exact hlt
      obtain ⟨ad, hA, Ar, c', a0, a1, a2, a3, a4, a5, a6⟩ := hR k _ (List.getElem?_eq_getElem hkl)
      subst hA
      have hsn : sumLen (rs.take (k + 1)) = z + (rs[k]).len := by
        rw [List.take_add_one, List.getElem?_eq_getElem hkl, hz]
        exact sumLen_snoc _ _
      have hlen : 0 ≤ (rs[k]).len ∧ (rs[k]).len ≤ 1073741824 := by
        obtain ⟨_, _, h, _⟩ := may_zero (Hrows.out.1 rs[k] (List.getElem_mem hkl))
        exact h
      obtain ⟨r, hr⟩ : ∃ r, r = rs[k] := ⟨_, rfl⟩
      rw [← hr] at a0 a1 a2 a3 hsn hlen
      have Hsn := hid hsn
      clear hr hsn hz a4
      go_wp2_with fail
      go_roundw
      case rel => exact ⟨k + 1, by omega, by go_num, by rw [Hsn.out], trivial⟩
      case measure => simp [intOf]; omega
    · have hfull : rs.take k = rs := List.take_of_length_le (by have := HM.out; omega)
      rw [hfull] at hz
      have Hz := hid hz
      clear hz hfull
      go_wp2_with fail
      go_ret
      exact ⟨rs, rest, Hrows.out, by rw [← Hz.out]; rfl, hk⟩
end Go.Proofs.YtepeopfdenieeaaDoor
