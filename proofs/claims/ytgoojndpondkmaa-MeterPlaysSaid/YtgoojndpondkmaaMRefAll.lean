/- The reference's All. -/
import Derived.Test.YtgoojndpondkmaaMRef
namespace Go.Proofs.Ytgoojndpondkmaa
open Go Go.RowKit

def RAllPost (w : World) (ds : List Dl) (e : Ending) (w' : World) : Prop := ∃ v, e = .returned v ∧ RowsPost w ds v w' ∧ Kp [] w w'
set_option maxHeartbeats 800000 in
theorem rall_any (w : World) (B y : Nat) (ls : List (List Int)) (h : RMAt w B y ls) (hs : Small ls) (hn : ls.length ≤ 32) :
    Calls Try.prog 17 #[.pointer (some ⟨y, 0, none⟩)] w (RAllPost w (ls.map dOf)) := by
  obtain ⟨ds, hds⟩ : ∃ ds, ds = ls.map dOf := ⟨_, rfl⟩
  rw [← hds]
  obtain ⟨A, c, x0⟩ := rm_len h
  obtain ⟨n, hn0⟩ : ∃ n, n = ls.length := ⟨_, rfl⟩
  have hnd : n = ds.length := by rw [hds, List.length_map, hn0]
  rw [← hn0] at x0
  have hn1 : n ≤ 32 := by omega
  have Hds := hid hds
  have Hn := hid hnd
  have X0 := hid x0
  have k0 : Kp [] w (w.alloc (.cells #[] 39)) := (Kp.refl _ _).alloc _
  have o0 : OwnN (w.alloc (.cells #[] 39)) 39 3 (.slice (some ⟨w.heap.size, 0, none⟩) 0 0) 0 [] := OwnN.of_cells (Cells.fresh w 39 []) rfl (by omega)
  clear hds hnd hn0
  go_enter Try.func17, Try.ntmps17
  go_wp2_with fail
  go_loopw [3, 4] (fun v i wr => ∃ k : Nat, k ≤ n ∧ i = .int .i64 k ∧ OwnN wr 39 3 v k (rowsOf (ds.take k)) ∧ (∀ g, v.ownBlock = some g → w.heap.size ≤ g) ∧ Kp [] w wr) (fun _ i _ => n - (intOf i).toNat)
  case atStart => exact ⟨0, by omega, rfl, o0, fun g hg => by simp [Value.ownBlock] at hg; omega, k0⟩
  case round =>
    clear o0 k0 x0
    obtain ⟨k, hk, rfl, ho, hvb, kp⟩ := hrel
    have x0 := kp.cell X0.out (by simp)
    by_cases hlt : k < n
    · have hs9 := rowsOf_snoc ds k (by rw [← Hn.out]; exact hlt)
      have Hs := hid hs9
      have Hvb := hid hvb
      clear hs9 hvb
      go_wp2_with fail
      refine (rof_any wr B y ls k (h.kept kp) hs hn).mono ?_
      rintro e w1 ⟨d, hd, rfl, hk2⟩
      rw [← Hds.out] at hd
      rw [← hd] at Hs
      clear hd
      have ho1 := ho.kept hk2
      have kB : Kp [] w1 (w1.alloc (.cells #[.int .i64 d.c, .int .i64 d.t, .int .i64 d.m] 39)) := (Kp.refl _ _).alloc _
      have hoB := ho1.kept kB
      have hsS : Span (w1.alloc (.cells #[.int .i64 d.c, .int .i64 d.t, .int .i64 d.m] 39)) (some ⟨w1.heap.size, 0, none⟩) d.cells := Span.of_new w1 39 (0, 0) d.cells
      have kw1 : Kp [] w w1 := kp.nil hk2
      go_wp2_with (at_builtin; go_must (refine wpList_appendN rfl _ _ 31 rfl 39 (.agg #[.int .i64 0, .int .i64 0, .int .i64 0]) 3 24 Try.underlying31 info3 rfl (by omega) _ k _ rfl hoB ⟨w1.heap.size, 0, none⟩ 1 1 d.cells rfl hsS rfl (one_cells d) ?_ ?_ ?_))
      · omega
      · omega
      intro v1 w2 ho2 k2 b2
      go_wp2_with fail
      go_roundw
      case rel =>
        have hvb2 : ∀ g, v1.ownBlock = some g → w.heap.size ≤ g := by
          intro g hg
          rcases b2 with hb | hb
          · exact Hvb.out g (by rw [← hb]; exact hg)
          · rw [hb] at hg
            injection hg with hg
            have h1 := (kw1.nil kB).size
            have h2 := kw1.size
            simp only [World.size_alloc] at hg h1
            omega
        exact ⟨k + 1, by omega, by go_num, by rw [Hs.out]; exact ho2, hvb2, (kw1.nil kB).trans k2 (fun y hy hl => by simp only [Option.mem_toList] at hy; have := Hvb.out _ hy; omega)⟩
      case measure => simp [intOf]; omega
    · have hkn : k = ds.length := by have := Hn.out; omega
      subst hkn
      rw [List.take_length] at ho
      go_wp2_with fail
      go_ret
      exact ⟨_, rfl, ⟨ho, hvb⟩, kp⟩
end Go.Proofs.Ytgoojndpondkmaa
