/- All. -/
import Derived.Test.YtgoojndpondkmaaMOf
import Derived.Test.YtgoojndpondkmaaWide
namespace Go.Proofs.Ytgoojndpondkmaa
open Go Go.RowKit

theorem info3 : (Try.prog.info? 39).map (fun i => (i.zero, i.size, i.bytes)) = some (some (.agg #[.int .i64 0, .int .i64 0, .int .i64 0]), 3, 24) := by kernel_rfl
theorem MAt.kinds {w : World} {a : Nat} {gs : List Nat} {ds : List Dl} (h : MAt w a gs ds) : w.cell? ⟨a, 0, none⟩ = some (.int .i64 (ds.length : Nat)) := by
  rcases h with ⟨v, h1, _⟩ | ⟨_, _, h1⟩ <;> exact h1.cell 0
theorem one_cells (d : Dl) : ∀ u ∈ d.cells, u.oneCell' = true := by
  intro u hu
  simp only [Dl.cells, List.mem_cons, List.not_mem_nil, or_false] at hu
  rcases hu with rfl | rfl | rfl <;> rfl
def rowsOf (ds : List Dl) : List Value := ds.flatMap Dl.cells
theorem rowsOf_snoc (ds : List Dl) (k : Nat) (h : k < ds.length) : rowsOf (ds.take (k + 1)) = rowsOf (ds.take k) ++ (ofD ds (k : Int)).cells := by
  rw [take_snoc_get ds k h, rowsOf, List.flatMap_append]
  congr 1
  have : ofD ds (k : Int) = ds[k] := by
    rw [ofD, if_neg (by omega), Int.toNat_natCast, List.getD_eq_getElem?_getD, List.getElem?_eq_getElem h]
    rfl
  simp [this]
def RowsPost (w : World) (ds : List Dl) (v : Value) (w' : World) : Prop := OwnN w' 39 3 v ds.length (rowsOf ds) ∧ ∀ g, v.ownBlock = some g → w.heap.size ≤ g
def MAllPost (w : World) (a : Nat) (gs : List Nat) (ds : List Dl) (e : Ending) (w' : World) : Prop :=
  ∃ v, e = .returned v ∧ RowsPost w ds v w' ∧ ∃ gs', MAt w' a gs' ds ∧ Kp [a] w w' ∧ ∀ g ∈ gs', g ∈ gs ∨ w.heap.size ≤ g
theorem MAt.ne3 {w : World} {a : Nat} {gs : List Nat} {ds : List Dl} {s n : Nat} {v : Value} {xs : List Value} (h : MAt w a gs ds) (ho : OwnN w 39 s v n xs) : v.ownBlock ≠ some a ∧ (∀ g ∈ gs, v.ownBlock ≠ some g) := by
  have key : ∀ b t cs, Cells w b t cs → t ≠ 39 → v.ownBlock ≠ some b := by
    intro b t cs hc hne hv
    rcases ho.2 with ⟨rfl, _⟩ | ⟨g, cap, cur, rfl, _, hg, _⟩
    · simp [Value.ownBlock] at hv
    · have : g = b := by simpa [Value.ownBlock] using hv
      subst this
      unfold Cells at hc
      rw [hg] at hc
      injection hc with hc
      injection hc with _ ht
      exact hne ht.symm
  constructor
  · rcases h with ⟨u, h1, _⟩ | ⟨_, _, h1⟩ <;> exact key _ _ _ h1 (by decide)
  · intro g hg
    rcases h with ⟨u, _, _, h3⟩ | ⟨rfl, _, _⟩
    · obtain ⟨d, hd⟩ := h3.mem hg
      exact key _ _ _ hd (by decide)
    · cases hg
theorem MAt.keep3 {w w' : World} {a : Nat} {gs : List Nat} {ds : List Dl} {s n : Nat} {v : Value} {xs : List Value} (h : MAt w a gs ds) (ho : OwnN w 39 s v n xs) (k : Kp v.ownBlock.toList w w') : MAt w' a gs ds := by
  obtain ⟨h1, h2⟩ := h.ne3 ho
  refine h.keep k (fun hm => h1 (by simpa using hm)) (fun g hg hm => h2 g hg (by simpa using hm)) ?_
  intro b hb
  have hb' : v.ownBlock = some b := by simpa using hb
  rcases ho.2 with ⟨rfl, _⟩ | ⟨g, cap, cur, rfl, _, hg, _⟩
  · simp [Value.ownBlock] at hb'
  · have : g = b := by simpa [Value.ownBlock] using hb'
    subst this
    exact ⟨39, cur.toList, by simpa [Cells] using hg, by decide⟩

set_option maxHeartbeats 800000 in
theorem mall_any (w : World) (a : Nat) (gs : List Nat) (ds : List Dl) (h : MAt w a gs ds) (hn : ds.length ≤ 32) :
    Calls Try.prog 11 #[.pointer (some ⟨a, 0, none⟩)] w (MAllPost w a gs ds) := by
  have hk := h.kinds
  obtain ⟨n, hn0⟩ : ∃ n, n = ds.length := ⟨_, rfl⟩
  rw [← hn0] at hk hn
  have Hn := hid hn0
  clear hn0
  go_enter Try.func11, Try.ntmps11
  go_wp2_with fail
  go_loopw [3, 12] (fun v i wr => ∃ k gs', k ≤ n ∧ i = .int .i64 (k : Nat) ∧ OwnN wr 39 3 v k (rowsOf (ds.take k)) ∧ (∀ g, v.ownBlock = some g → w.heap.size ≤ g) ∧ MAt wr a gs' ds ∧ Kp [a] w wr ∧ ∀ g ∈ gs', g ∈ gs ∨ w.heap.size ≤ g) (fun _ i _ => n - (intOf i).toNat)
  case atStart => exact ⟨0, gs, by omega, rfl, OwnN.nil _ _ _, by simp [Value.ownBlock], h, Kp.refl _ _, fun g hg => .inl hg⟩
  case round =>
    obtain ⟨k, gs', hk, rfl, ho, hvb, hM, kp, hgs⟩ := hrel
    by_cases hlt : k < n
    · have hs := rowsOf_snoc ds k (by have := Hn.out; omega)
      have Hs := hid hs
      clear hs
      go_wp2_with fail
      refine (of_any wr a gs' ds k hM (by have := Hn.out; omega)).mono ?_
      rintro e w1 ⟨d, hd, rfl, gs2, hM2, hk2, hg2⟩
      rw [← hd] at Hs
      have Hd := hid hd
      clear hd
      have ho1 := ho.keep hk2 (fun g hg hm => (hM.ne3 ho).1 (by rw [List.mem_singleton] at hm; rw [hg, hm]))
      have kB : Kp [] w1 (w1.alloc (.cells #[.int .i64 d.c, .int .i64 d.t, .int .i64 d.m] 39)) := (Kp.refl _ _).alloc _
      have hoB := ho1.kept kB
      have hMB := hM2.kept kB
      have hsS : Span (w1.alloc (.cells #[.int .i64 d.c, .int .i64 d.t, .int .i64 d.m] 39)) (some ⟨w1.heap.size, 0, none⟩) d.cells := Span.of_new w1 39 (0, 0) d.cells
      have kw1 : Kp [a] w w1 := kp.trans hk2 (fun y hy _ => hy)
      have Hvb := hid hvb
      clear hvb
      go_wp2_with (at_builtin; go_must (refine wpList_appendN rfl _ _ 31 rfl 39 (.agg #[.int .i64 0, .int .i64 0, .int .i64 0]) 3 24 Try.underlying31 info3 rfl (by omega) _ k _ rfl hoB ⟨w1.heap.size, 0, none⟩ 1 1 d.cells rfl hsS rfl (one_cells d) ?_ ?_ ?_))
      · omega
      · omega
      intro v1 w2 ho2 k2 b2
      go_wp2_with fail
      go_roundw
      case rel =>
        have hvb2 : ∀ g, v1.ownBlock = some g → w.heap.size ≤ g := by
          intro g hg
          rcases b2 with hb | hb
          · exact Hvb.out g (by rw [← hb]; exact hg)
          · rw [hb] at hg
            injection hg with hg
            have h1 := (kw1.nil kB).size
            have h2 := kw1.size
            simp only [World.size_alloc] at hg h1
            omega
        refine ⟨k + 1, gs2, by omega, by go_num, by rw [Hs.out]; exact ho2, hvb2, hMB.keep3 hoB k2, ?_, ?_⟩
        · exact (kw1.nil kB).trans k2 (fun y hy hl => by simp only [Option.mem_toList] at hy; have := Hvb.out _ hy; omega)
        · intro g hg
          rcases hg2 g hg with hg | hg
          · exact hgs g hg
          · have := kp.size
            exact .inr (by omega)
      case measure => simp [intOf]; omega
    · have hkn : k = ds.length := by have := Hn.out; omega
      subst hkn
      have hnn : ¬ ds.length < n := hlt
      rw [List.take_length] at ho
      go_wp2_with fail
      go_ret
      exact ⟨_, rfl, ⟨ho, hvb⟩, gs', hM, kp, hgs⟩
end Go.Proofs.Ytgoojndpondkmaa
