/- What the function that is handed to Once.Do makes: the row of dials, all noughts. -/
import Derived.Test.YtgoojndpondkmaaMAt
namespace Go.Proofs.Ytgoojndpondkmaa
open Go Go.RowKit

def All1Post (w : World) (a n : Nat) (d s : Int) (e : Ending) (w' : World) : Prop :=
  e = .returned (.tuple #[]) ∧ ∃ v gs, Cells w' a 56 (mcells n d s v) ∧ Own w' 63 v n (gs.map ptr) ∧ Dials w' gs (List.replicate n Dl.zero) ∧ Kp [a] w w' ∧ ∀ g ∈ gs, w.heap.size ≤ g

theorem dials_snoc {w w' : World} {gs : List Nat} {k : Nat} (hlt : ∀ g ∈ gs, g < w.heap.size) (kp : Dials w' gs (List.replicate k Dl.zero)) (hc : Cells w' w.heap.size 62 Dl.zero.cells) :
    Dials w' (gs ++ [w.heap.size]) (List.replicate (k + 1) Dl.zero) := by
  obtain ⟨h1, h2, h3⟩ := kp
  rw [List.length_replicate] at h2
  refine ⟨?_, by simp [h2], ?_⟩
  · rw [List.nodup_append]
    refine ⟨h1, by simp, ?_⟩
    intro x hx y hy
    rw [List.mem_singleton.1 hy]
    exact Nat.ne_of_lt (hlt x hx)
  · intro i g d hg hd
    have hd' : d = Dl.zero := List.eq_of_mem_replicate (List.mem_of_getElem? hd)
    rw [hd']
    rcases Nat.lt_or_ge i gs.length with hi | hi
    · rw [List.getElem?_append_left hi] at hg
      exact h3 i g _ hg (by rw [List.getElem?_replicate, if_pos (by omega)])
    · rw [List.getElem?_append_right hi] at hg
      obtain ⟨_, hg⟩ := List.getElem?_eq_some_iff.1 hg
      simp only [List.getElem_singleton] at hg
      rw [← hg]
      exact hc

set_option maxRecDepth 100000 in
set_option maxHeartbeats 800000 in
theorem all1_any (w : World) (a n pb : Nat) (d s : Int) (hn : n ≤ 32) (hp : w.cell? ⟨pb, 0, none⟩ = some (.pointer (some ⟨a, 0, none⟩))) (hpa : pb ≠ a) (hc : Cells w a 56 (mcells n d s (.slice none 0 0))) :
    Calls Try.prog 22 #[.pointer (some ⟨pb, 0, none⟩)] w (All1Post w a n d s) := by
  have hla := hc.lt
  have c0 := hc.cell 0
  simp only [mcells, List.getElem?_cons_zero] at c0
  go_enter Try.func22, Try.ntmps22
  go_wp2_with fail
  go_loopw [5] (fun i wr => ∃ k v gs, k ≤ n ∧ i = .int .i64 (k : Nat) ∧ Cells wr a 56 (mcells n d s v) ∧ Own wr 63 v k (gs.map ptr) ∧ Dials wr gs (List.replicate k Dl.zero) ∧ Kp [a] w wr ∧ (∀ g ∈ gs, w.heap.size ≤ g) ∧ ∀ g, v.ownBlock = some g → w.heap.size ≤ g) (fun i _ => n - (intOf i).toNat)
  case atStart => exact ⟨0, _, [], by omega, rfl, hc, Own.nil _ _, ⟨by simp, by simp, by simp⟩, Kp.refl _ _, by simp, by simp [Value.ownBlock]⟩
  case round =>
    obtain ⟨k, v, gs, hk, rfl, hC, ho, hd, kp, hgs, hvb⟩ := hrel
    by_cases hlt : k < n
    · have hlaR := hC.lt
      have hgl : ∀ g ∈ gs, g < wr.heap.size := fun g hg => by obtain ⟨x, hx⟩ := hd.mem hg; exact hx.lt
      have p0 := kp.cell hp (by simpa using hpa)
      have c4 := hC.cell 4
      have f4 := hC.free 4
      simp only [mcells, List.getElem?_cons_zero, List.getElem?_cons_succ] at c4
      have kB := ((Kp.refl [] wr).drew.alloc (.cells #[.int .i64 0, .int .i64 0, .int .i64 0] 62)).alloc (.cells #[ptr wr.heap.size] 63)
      have hoB := ho.kept kB
      have hCB := hC.keep kB (by simp)
      have hdB := hd.keep kB (by simp)
      have hDB : Cells ((wr.drew.alloc (.cells #[.int .i64 0, .int .i64 0, .int .i64 0] 62)).alloc (.cells #[ptr wr.heap.size] 63)) wr.heap.size 62 Dl.zero.cells := (Cells.fresh wr.drew 62 Dl.zero.cells).alloc _
      have hsS : Span ((wr.drew.alloc (.cells #[.int .i64 0, .int .i64 0, .int .i64 0] 62)).alloc (.cells #[ptr wr.heap.size] 63)) (some ⟨wr.heap.size + 1, 0, none⟩) [ptr wr.heap.size] := by
        have := Span.of_new (wr.drew.alloc (.cells #[.int .i64 0, .int .i64 0, .int .i64 0] 62)) 63 (0, 0) [ptr wr.heap.size]
        simpa using this
      have hne : ∀ g, v.ownBlock = some g → g ≠ a := fun g hg he => by subst he; exact ho.ne_cells hC (by decide) hg
      have hpb := World.block_lt_of_cell? w _ hp
      have hpv : ∀ g, v.ownBlock = some g → pb ≠ g := fun g hg he => by have := hvb g hg; simp only at hpb; omega
      have Hne := hid (And.intro hne hpv)
      have Hvb := hid hvb
      clear hne hpv hvb
      go_wp2_with fail
      have k1 : Kp [] wr (wr.alloc (.cells #[.int .i64 0, .int .i64 0, .int .i64 0] 62)) := (Kp.refl [] wr).alloc _
      have k2 : Kp [] wr ((wr.alloc (.cells #[.int .i64 0, .int .i64 0, .int .i64 0] 62)).alloc (.cells #[ptr wr.heap.size] 63)) := k1.alloc _
      have p1 := k1.cell p0 (by simp)
      have p2 := k2.cell p0 (by simp)
      have c41 := k1.cell c4 (by simp)
      have c42 := k2.cell c4 (by simp)
      go_region_law (refine step_append1 rfl (.tmp 11) (.tmp 14) 54 rfl 63 (.pointer none) 8 Try.underlying54 infoDial rfl v k (gs.map ptr) (by rfl) hoB _ 1 1 [ptr wr.heap.size] (by rfl) hsS rfl (one_ptr _) (by omega) (by omega) ?_; intro v7 w7 ho7 k7 b7; have C7 := hCB.keep k7 (fun hm => by simp only [Option.mem_toList] at hm; exact Hne.out.1 _ hm rfl); have F7 := C7.free 4; have E7 := C7.cell 4; simp only [mcells, List.getElem?_cons_zero, List.getElem?_cons_succ] at E7; have P7 := k7.cell (kB.cell p0 (by simp)) (fun hm => by simp only [Option.mem_toList] at hm; exact Hne.out.2 _ hm rfl); obtain ⟨A7, c7, rfl, sp7, hc7, -, -⟩ := ho7.shape)
      all_goals
        clear p1 p2 c41 c42
        go_wp2_with fail
        go_roundw
        case rel =>
          have KS : Kp [a] w7 (w7.setCell ⟨a, 4, none⟩ (.slice A7 (k + 1) c7)) := (Kp.refl _ _).setCell (fun _ => by simp) _
          have hn7 : ∀ g, (Value.slice A7 (k + 1) c7).ownBlock = some g → g ∉ [a] := fun g hg hm => by
            rw [List.mem_singleton] at hm
            subst hm
            exact ho7.ne_cells C7 (by decide) hg
          have hd7 := hdB.keep k7 (fun g hg hm => by
            simp only [Option.mem_toList] at hm
            obtain ⟨x, hx⟩ := hdB.mem hg
            exact hoB.ne_cells hx (by decide) hm)
          have hD7 := hDB.keep k7 (fun hm => by
            simp only [Option.mem_toList] at hm
            exact hoB.ne_cells hDB (by decide) hm)
          have hd8 := dials_snoc (w := wr) hgl hd7 hD7
          have k9 : Kp [a] w w7 := (kp.nil kB).trans k7 (fun y hy hl => by simp only [Option.mem_toList] at hy; have := Hvb.out _ hy; omega)
          refine ⟨k + 1, _, gs ++ [wr.heap.size], by omega, by go_num, C7.put 4 _, ?_, ?_, k9.trans KS (fun y hy _ => hy), ?_, ?_⟩
          · rw [List.map_append]
            exact ho7.keep KS hn7
          · exact hd8.keep KS (fun g hg hm => by
              rw [List.mem_singleton] at hm
              subst hm
              obtain ⟨x, hx⟩ := hd8.mem hg
              exact hx.ne C7 (by decide) rfl)
          · intro g hg
            rcases List.mem_append.1 hg with hg | hg
            · exact hgs g hg
            · rw [List.mem_singleton.1 hg]
              exact kp.size
          · intro g hg
            rcases b7 with hb | hb
            · exact Hvb.out g (by rw [← hb]; exact hg)
            · rw [hb] at hg
              injection hg with hg
              have := (kp.nil kB).size
              simp only [World.size_alloc, World.size_drew] at hg this
              have := kp.size
              omega
        case measure => simp [intOf]; omega
    · have hkn : k = n := by omega
      subst hkn
      go_wp2_with fail
      go_end0
      exact ⟨rfl, v, gs, hC, ho, hd, kp, hgs⟩
end Go.Proofs.Ytgoojndpondkmaa
