/- slices.Clone on bytes, the law's 'short', Bytes. -/
import Derived.Test.YtepeopfdenieeaaSink
namespace Go.Proofs.Ytepeopfdenieeaa
open Go Go.RowKit

/-- The result is a new slice that reads as these bytes. -/
def BytesPost (w : World) (xs : List UInt8) (e : Ending) (w' : World) : Prop :=
  ∃ A c, e = .returned (.slice A xs.length c) ∧ Span w' A (u8s xs) ∧ Kp [] w w' ∧ ∀ ad, A = some ad → w.heap.size ≤ ad.block

theorem cloneB_any (w : World) (A : Option Addr) (n c : Nat) (xs : List UInt8) (hs : Span w A (u8s xs)) (hn : xs.length = n) (hm : n ≤ 100000000) :
    Calls Try.prog 17 #[.slice A n c] w (BytesPost w xs) := by
  have Hn := hid hn
  clear hn
  cases A with
  | none =>
    have he := Lib.run_eql_slice_nil (P := Try.prog) w 22 5 none n c 0 0 Try.underlying22
    go_enter Try.func17, Try.ntmps17
    go_wp2_with fail
    go_ret
    have : xs = [] := by
      cases xs with
      | nil => rfl
      | cons u l => obtain ⟨ad, e, _⟩ := hs 0 _ rfl; cases e
    subst this
    exact ⟨none, 0, rfl, Span.nil _ _, Kp.refl _ _, by simp⟩
  | some ad =>
    have he := Lib.run_eql_slice_nil (P := Try.prog) w 22 5 (some ad) n c 0 0 Try.underlying22
    have ho := Own.of_cells (Cells.fresh w 5 []) (by simp)
    have hq : (u8s xs).length = n := by rw [length_u8s, Hn.out]
    have Hq := hid hq
    clear hq
    go_enter Try.func17, Try.ntmps17
    go_wp2_with (at_builtin; go_must (refine wpList_append1 rfl _ _ 22 rfl 5 (.int .u8 0) 1 Try.underlying22 info5 rfl _ 0 _ rfl ho _ n _ (u8s xs) rfl (hs.alloc _) Hq.out (u8s_one _) ?_ ?_ ?_))
    · omega
    · omega
    intro v' w1 hown hk hb
    go_wp2_with fail
    go_ret
    obtain ⟨A', c', rfl, hsp, _, _, hA'⟩ := hown.shape
    refine ⟨A', c', by rw [Hn.out]; simp, by simpa using hsp, ?_, ?_⟩
    · exact ((Kp.refl [] w).alloc _).trans hk (by intro x hx hl; simp [Value.ownBlock] at hx; omega)
    · intro ad' h
      obtain ⟨_, h2⟩ := hA' ad' h
      rw [h2] at hb
      rcases hb with hb | hb
      · simp [Value.ownBlock] at hb; omega
      · simp at hb; omega

theorem bytes_any (w : World) (a : Nat) (s : SK) (hs : SinkAt w a s) (h1 : s.xs.length ≤ 10000000) :
    Calls Try.prog 9 #[.pointer (some ⟨a, 0, none⟩)] w (BytesPost w s.xs) := by
  obtain ⟨R, hc, hsp0⟩ := hs
  have hsp := hsp0.span
  have hc0 : w.cell? ⟨a, 0, none⟩ = _ := hc.cell 0
  simp only [List.getElem?_cons_zero] at hc0
  go_enter Try.func9, Try.ntmps9
  go_wp2_with fail
  refine (cloneB_any _ R _ _ s.xs hsp rfl (by omega)).mono ?_
  rintro e w' ⟨A, c, rfl, h1, h2, h3⟩
  go_wp2_with fail
  go_ret
  exact ⟨A, c, rfl, h1, h2, h3⟩

/-- short: at most 100 bytes, the same memory. -/
theorem short_any (w : World) (A : Option Addr) (n c : Nat) (hc : n ≤ c) (hm : n ≤ 9223372036854775807) :
    Calls Try.prog 11 #[.slice A n c] w fun e w' => e = .returned (.slice A (min n 100) c) ∧ w = w' := by
  by_cases h : 100 < n
  all_goals
    go_enter Try.func11, Try.ntmps11
    go_wp2_with fail
    go_ret
  · exact ⟨by rw [Nat.min_eq_right (by omega)]; rfl, rfl⟩
  · exact ⟨by rw [Nat.min_eq_left (by omega)]; rfl, rfl⟩
end Go.Proofs.Ytepeopfdenieeaa
