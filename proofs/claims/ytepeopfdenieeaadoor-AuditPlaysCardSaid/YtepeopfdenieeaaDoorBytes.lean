/- slices.Clone on bytes, the law's 'short', Bytes. -/
import Derived.Test.YtepeopfdenieeaaDoorSink
namespace Go.Proofs.YtepeopfdenieeaaDoor
open Go Go.RowKit

/-- The result is a new slice that reads as these bytes. -/
def BytesPost (w : World) (xs : List UInt8) (e : Ending) (w' : World) : Prop :=
  ∃ A c, e = .returned (.slice A xs.length c) ∧ Span w' A (u8s xs) ∧ Kp [] w w' ∧ ∀ ad, A = some ad → w.heap.size ≤ ad.block

/-- The same, and how great its capacity is. -/
def BytesFull (w : World) (xs : List UInt8) (e : Ending) (w' : World) : Prop :=
  ∃ A c, e = .returned (.slice A xs.length c) ∧ Span w' A (u8s xs) ∧ Kp [] w w' ∧ (∀ ad, A = some ad → w.heap.size ≤ ad.block) ∧ xs.length ≤ c ∧ c ≤ 9223372036854775807
theorem BytesFull.post {w w' : World} {xs : List UInt8} {e : Ending} (h : BytesFull w xs e w') : BytesPost w xs e w' := by
  obtain ⟨A, c, h1, h2, h3, h4, _⟩ := h
  exact ⟨A, c, h1, h2, h3, h4⟩
theorem cloneB_full (w : World) (A : Option Addr) (n c : Nat) (xs : List UInt8) (hs : Span w A (u8s xs)) (hn : xs.length = n) (hm : n ≤ 100000000) :
    Calls Tryd.prog 50 #[.slice A n c] w (BytesFull w xs) := by
  have Hn := hid hn
  clear hn
  cases A with
  | none =>
    have he := Lib.run_eql_slice_nil (P := Tryd.prog) w 25 5 none n c 0 0 Tryd.underlying25
    go_enter Tryd.func50, Tryd.ntmps50
    go_wp2_with fail
    go_ret
    have : xs = [] := by
      cases xs with
      | nil => rfl
      | cons u l => obtain ⟨ad, e, _⟩ := hs 0 _ rfl; cases e
    subst this
    exact ⟨none, 0, rfl, Span.nil _ _, Kp.refl _ _, by simp, by simp, by omega⟩
  | some ad =>
    have he := Lib.run_eql_slice_nil (P := Tryd.prog) w 25 5 (some ad) n c 0 0 Tryd.underlying25
    have ho := Own.of_cells (Cells.fresh w 5 []) (by simp)
    have hq : (u8s xs).length = n := by rw [length_u8s, Hn.out]
    have Hq := hid hq
    clear hq
    go_enter Tryd.func50, Tryd.ntmps50
    go_wp2_with (at_builtin; go_must (refine wpList_append1 rfl _ _ 25 rfl 5 (.int .u8 0) 1 Tryd.underlying25 info5 rfl _ 0 _ rfl ho _ n _ (u8s xs) rfl (hs.alloc _) Hq.out (u8s_one _) ?_ ?_ ?_))
    · omega
    · omega
    intro v' w1 hown hk hb
    go_wp2_with fail
    go_ret
    obtain ⟨A', c', rfl, hsp, hle, _, hA'⟩ := hown.shape
    have hc9 : c' ≤ 9223372036854775807 := by
      obtain ⟨-, h2⟩ := hown
      rcases h2 with ⟨h2, -⟩ | ⟨g, cap, cur, h2, -, -, -, h3, -⟩
      · injection h2 with _ _ h2; omega
      · injection h2 with _ _ h2; simp only [maxLen] at h3; omega
    refine ⟨A', c', by rw [Hn.out]; simp, by simpa using hsp, ?_, ?_, by rw [Hn.out]; omega, hc9⟩
    · exact ((Kp.refl [] w).alloc _).trans hk (by intro x hx hl; simp [Value.ownBlock] at hx; omega)
    · intro ad' h
      obtain ⟨_, h2⟩ := hA' ad' h
      rw [h2] at hb
      rcases hb with hb | hb
      · simp [Value.ownBlock] at hb; omega
      · simp at hb; omega

theorem cloneB_any (w : World) (A : Option Addr) (n c : Nat) (xs : List UInt8) (hs : Span w A (u8s xs)) (hn : xs.length = n) (hm : n ≤ 100000000) :
    Calls Tryd.prog 50 #[.slice A n c] w (BytesPost w xs) := (cloneB_full w A n c xs hs hn hm).mono fun _ _ h => h.post
theorem bytes_full (w : World) (a : Nat) (s : SK) (hs : SinkAt w a s) (h1 : s.xs.length ≤ 10000000) :
    Calls Tryd.prog 32 #[.pointer (some ⟨a, 0, none⟩)] w (BytesFull w s.xs) := by
  obtain ⟨R, hc, hsp0⟩ := hs
  have hsp := hsp0.span
  have hc0 : w.cell? ⟨a, 0, none⟩ = _ := hc.cell 0
  simp only [List.getElem?_cons_zero] at hc0
  go_enter Tryd.func32, Tryd.ntmps32
  go_wp2_with fail
  refine (cloneB_full _ R _ _ s.xs hsp rfl (by omega)).mono ?_
  rintro e w' ⟨A, c, rfl, h1, h2, h3⟩
  go_wp2_with fail
  go_ret
  exact ⟨A, c, rfl, h1, h2, h3⟩

theorem bytes_any (w : World) (a : Nat) (s : SK) (hs : SinkAt w a s) (h1 : s.xs.length ≤ 10000000) :
    Calls Tryd.prog 32 #[.pointer (some ⟨a, 0, none⟩)] w (BytesPost w s.xs) := (bytes_full w a s hs h1).mono fun _ _ h => h.post
end Go.Proofs.YtepeopfdenieeaaDoor
