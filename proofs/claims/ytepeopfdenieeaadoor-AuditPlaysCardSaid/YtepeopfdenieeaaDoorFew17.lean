/- The law's 'few': a record of at most 210 holes, none too long. -/
import Derived.Test.YtepeopfdenieeaaDoorPut
namespace Go.Proofs.YtepeopfdenieeaaDoor
open Go Go.RowKit

theorem infoStr : (Tryd.prog.info? 9).map (fun i => (i.zero, i.size, i.bytes)) = some (some (.string ⟨#[]⟩), 1, 16) := by kernel_rfl
def cutHole (i : Nat) (s : ByteArray) : ByteArray :=
  if 0 < i ∧ 100 < s.size then s.extract 0 100 else if 4100 < s.size then s.extract 0 4100 else s
def fewN (hs : List ByteArray) (k : Nat) : List ByteArray := (List.range k).map fun i => cutHole i (hs.getD i ⟨#[]⟩)
def fewL (r : Rec) : Rec := ⟨r.doc, r.out, r.len, fewN r.holes (min r.holes.length 210)⟩
theorem fewN_succ (hs : List ByteArray) (k : Nat) (h : k < hs.length) : fewN hs (k + 1) = fewN hs k ++ [cutHole k hs[k]] := by
  simp [fewN, List.range_succ, List.getD_eq_getElem?_getD, List.getElem?_eq_getElem h]
theorem length_fewN (hs : List ByteArray) (k : Nat) : (fewN hs k).length = k := by simp [fewN]
theorem size_extract (s : ByteArray) (n : Nat) (h : n ≤ s.size) : (s.extract 0 n).size = n := by
  rw [ByteArray.size_extract]
  omega
theorem size_cutHole (i : Nat) (s : ByteArray) : (cutHole i s).size ≤ 4100 := by
  unfold cutHole
  split
  · rw [size_extract _ _ (by omega)]; omega
  · split
    · rw [size_extract _ _ (by omega)]; omega
    · omega
theorem size_fewN (hs : List ByteArray) (k : Nat) : ∀ s ∈ fewN hs k, s.size ≤ 4100 := by
  intro s hs'
  obtain ⟨i, _, rfl⟩ := List.mem_map.1 hs'
  exact size_cutHole _ _
theorem one_string (x : ByteArray) : ∀ u ∈ [Value.string x], u.oneCell' = true := by
  intro u hu
  rw [List.mem_singleton.1 hu]
  rfl
def FewPost (w : World) (r : Rec) (e : Ending) (w' : World) : Prop := ∃ v, e = .returned v ∧ RecIs w' (fewL r) v ∧ Kp [] w w'
/-- The same; the holes lie in a block of the call's own. -/
def FewOwn (w : World) (r : Rec) (e : Ending) (w' : World) : Prop :=
  ∃ A c, e = .returned (.agg #[.int .i64 r.doc, .int .i64 r.out, .int .i64 r.len, .slice A (fewL r).holes.length c]) ∧ Own w' 9 (.slice A (fewL r).holes.length c) (fewL r).holes.length ((fewL r).holes.map .string) ∧ Kp [] w w'
theorem FewOwn.post {w w' : World} {r : Rec} {e : Ending} (h : FewOwn w r e w') : FewPost w r e w' := by
  obtain ⟨A, c, rfl, ho, hk⟩ := h
  have hc : c ≤ 9223372036854775807 := by
    obtain ⟨-, h2⟩ := ho
    rcases h2 with ⟨h2, -⟩ | ⟨g, cap, cur, h2, -, -, -, h3, -⟩
    · injection h2 with _ _ h2; omega
    · injection h2 with _ _ h2; simp only [maxLen] at h3; omega
  obtain ⟨B, d, e1, sp, h1, h2, -⟩ := ho.shape
  injection e1 with e1 e2 e3
  subst e1 e3
  exact ⟨_, rfl, ⟨A, c, rfl, sp, h1, hc⟩, hk⟩

set_option maxRecDepth 100000 in
set_option maxHeartbeats 800000 in
theorem few_own (w : World) (r : Rec) (v : Value) (hr : RecIs w r v) (hz : ∀ s ∈ r.holes, s.size ≤ 9223372036854775807) :
    Calls Tryd.prog 15 #[v] w (FewOwn w r) := by
  obtain ⟨A, c, rfl, hsp, hc, hc2⟩ := hr
  obtain ⟨n, hn⟩ : ∃ n, n = r.holes.length := ⟨_, rfl⟩
  rw [← hn] at hc ⊢
  have Hn := hid hn
  clear hn
  go_enter Tryd.func15, Tryd.ntmps15
  go_wp2_with fail
  obtain ⟨w2, hw2, B1, B2, K2, hs2⟩ : ∃ w2, w2 = (w.alloc (.cells #[.int .i64 r.doc, .int .i64 r.out, .int .i64 r.len, .slice A n c] 24)).alloc (.cells #[.int .i64 0, .int .i64 0, .int .i64 0, .slice none 0 0] 24) ∧
      Cells w2 w.heap.size 24 [.int .i64 r.doc, .int .i64 r.out, .int .i64 r.len, .slice A n c] ∧ Cells w2 (w.heap.size + 1) 24 [.int .i64 0, .int .i64 0, .int .i64 0, .slice none 0 0] ∧ Kp [] w w2 ∧ w2.heap.size = w.heap.size + 2 :=
    ⟨_, rfl, (Cells.fresh _ _ _).alloc _, Cells.fresh1 _ _ _ _, ((Kp.refl _ _).alloc _).alloc _, by simp⟩
  rw [← hw2]
  clear hw2
  obtain ⟨S, hS⟩ : ∃ S, S = w.heap.size := ⟨_, rfl⟩
  rw [← hS] at B1 B2 hs2 ⊢
  have HS := hid hS
  clear hS
  have o3 : Own (w2.alloc (.cells #[] 9)) 9 (.slice (some ⟨S + 2, 0, none⟩) 0 0) 0 [] := by
    have := Own.of_cells (Cells.fresh w2 9 []) (Nat.zero_le _)
    rwa [hs2] at this
  have n3 : New w2 (w2.alloc (.cells #[] 9)) (.slice (some ⟨S + 2, 0, none⟩) 0 0) := ⟨(Kp.refl _ _).alloc _, by intro g hg; have : S + 2 = g := (by simpa [Value.ownBlock] using hg); omega⟩
  generalize w2.alloc (.cells #[] 9) = w3 at *
  have Hs2 := hid hs2
  clear hs2
  go_loopw [3, 4] (fun v i wr => ∃ k : Nat, k ≤ n ∧ k ≤ 210 ∧ i = .int .i64 k ∧ Own wr 9 v k ((fewN r.holes k).map .string) ∧ New w2 wr v) (fun _ i _ => n - (intOf i).toNat)
  case atStart => exact ⟨0, by omega, by omega, rfl, o3, n3⟩
  case round =>
    obtain ⟨k, hk, hk2, rfl, ho, hnw⟩ := hrel
    have C3 := (B1.keep hnw.kp (by simp)).cell 3
    simp only [List.getElem?_cons_zero, List.getElem?_cons_succ] at C3
    by_cases hlt : k < n ∧ k < 210
    · obtain ⟨hlt, hlt2⟩ := hlt
      have hkl : k < r.holes.length := by rw [← Hn.out]; exact hlt
      obtain ⟨ad, hA, hcl⟩ := (hsp.kept (K2.nil hnw.kp)).get (j := k) (by simpa using hkl)
      subst hA
      simp only [List.getElem_map] at hcl
      have hsucc := fewN_succ r.holes k hkl
      have hz1 := hz _ (List.getElem_mem hkl)
      obtain ⟨s, hs1⟩ : ∃ s, s = r.holes[k] := ⟨_, rfl⟩
      rw [← hs1] at hcl hz1 hsucc
      have Hsucc := hid hsucc
      clear hs1 hsucc
      have close : ∀ (t : ByteArray), cutHole k s = t → ∀ v1 w1, Own w1 9 v1 (k + 1) ((fewN r.holes k).map .string ++ [.string t]) → Own w1 9 v1 (k + 1) ((fewN r.holes (k + 1)).map .string) := by
        intro t ht v1 w1 h
        rw [Hsucc.out, List.map_append, ht]
        exact h
      have Close := hid close
      clear close
      rcases (show (0 < k ∧ 100 < s.size) ∨ (¬ (0 < k ∧ 100 < s.size) ∧ 4100 < s.size) ∨ (¬ (0 < k ∧ 100 < s.size) ∧ ¬ 4100 < s.size) from by omega) with h1 | ⟨h1, h2⟩ | ⟨h1, h2⟩
      · have ht : cutHole k s = s.extract 0 100 := by rw [cutHole, if_pos h1]
        have Ht := hid ht
        clear ht
        have hsz := size_extract s 100 (by omega)
        obtain ⟨h1, h2⟩ := h1
        go_wp2_with (at_builtin; go_must (refine wpList_append1 rfl _ _ 22 rfl 9 (.string ⟨#[]⟩) 16 Tryd.underlying22 infoStr rfl _ _ _ rfl (ho.kept ((Kp.refl _ _).alloc _)) _ 1 1 [.string (s.extract 0 100)] rfl (Span.of_new wr _ _ _) rfl (one_string _) ?_ ?_ ?_))
        · omega
        · omega
        intro v1 w1 ho1 hk1 hb1
        go_wp2_with fail
        go_roundw
        case rel => exact ⟨k + 1, by omega, by omega, by go_num, Close.out _ Ht.out _ _ ho1, (hnw.kept ((Kp.refl _ _).alloc _)).append hk1 hb1 (by simp)⟩
        case measure => simp [intOf]; omega
      · have ht : cutHole k s = s.extract 0 4100 := by rw [cutHole, if_neg h1, if_pos h2]
        have Ht := hid ht
        clear ht
        have hsz := size_extract s 4100 (by omega)
        have hk0 : ¬ 0 < k := by omega
        clear h1
        go_wp2_with (at_builtin; go_must (refine wpList_append1 rfl _ _ 22 rfl 9 (.string ⟨#[]⟩) 16 Tryd.underlying22 infoStr rfl _ _ _ rfl (ho.kept ((Kp.refl _ _).alloc _)) _ 1 1 [.string (s.extract 0 4100)] rfl (Span.of_new wr _ _ _) rfl (one_string _) ?_ ?_ ?_))
        · omega
        · omega
        intro v1 w1 ho1 hk1 hb1
        go_wp2_with fail
        go_roundw
        case rel => exact ⟨k + 1, by omega, by omega, by go_num, Close.out _ Ht.out _ _ ho1, (hnw.kept ((Kp.refl _ _).alloc _)).append hk1 hb1 (by simp)⟩
        case measure => simp [intOf]; omega
      · have ht : cutHole k s = s := by rw [cutHole, if_neg h1, if_neg h2]
        have Ht := hid ht
        clear ht
        by_cases hk0 : 0 < k
        · have h3 : ¬ 100 < s.size := by omega
          go_wp2_with (at_builtin; go_must (refine wpList_append1 rfl _ _ 22 rfl 9 (.string ⟨#[]⟩) 16 Tryd.underlying22 infoStr rfl _ _ _ rfl (ho.kept ((Kp.refl _ _).alloc _)) _ 1 1 [.string s] rfl (Span.of_new wr _ _ _) rfl (one_string _) ?_ ?_ ?_))
          · omega
          · omega
          intro v1 w1 ho1 hk1 hb1
          go_wp2_with fail
          go_roundw
          case rel => exact ⟨k + 1, by omega, by omega, by go_num, Close.out _ Ht.out _ _ ho1, (hnw.kept ((Kp.refl _ _).alloc _)).append hk1 hb1 (by simp)⟩
          case measure => simp [intOf]; omega
        · clear h1
          go_wp2_with (at_builtin; go_must (refine wpList_append1 rfl _ _ 22 rfl 9 (.string ⟨#[]⟩) 16 Tryd.underlying22 infoStr rfl _ _ _ rfl (ho.kept ((Kp.refl _ _).alloc _)) _ 1 1 [.string s] rfl (Span.of_new wr _ _ _) rfl (one_string _) ?_ ?_ ?_))
          · omega
          · omega
          intro v1 w1 ho1 hk1 hb1
          go_wp2_with fail
          go_roundw
          case rel => exact ⟨k + 1, by omega, by omega, by go_num, Close.out _ Ht.out _ _ ho1, (hnw.kept ((Kp.refl _ _).alloc _)).append hk1 hb1 (by simp)⟩
          case measure => simp [intOf]; omega
    · have hkm0 : k = min r.holes.length 210 := by have := Hn.out; omega
      have Hkm := hid hkm0
      clear hkm0
      have F3 := (B1.keep hnw.kp (by simp)).free 3
      have D0 := (B1.keep hnw.kp (by simp)).cell 0
      have D1 := (B1.keep hnw.kp (by simp)).cell 1
      have D2 := (B1.keep hnw.kp (by simp)).cell 2
      have E0 := (B2.keep hnw.kp (by simp)).free 0
      have G0 := (B2.keep hnw.kp (by simp)).cell 0
      have E1 := (B2.keep hnw.kp (by simp)).free 1
      have G1 := (B2.keep hnw.kp (by simp)).cell 1
      have E2 := (B2.keep hnw.kp (by simp)).free 2
      have G2 := (B2.keep hnw.kp (by simp)).cell 2
      have E3 := (B2.keep hnw.kp (by simp)).free 3
      have G3 := (B2.keep hnw.kp (by simp)).cell 3
      simp only [List.getElem?_cons_zero, List.getElem?_cons_succ] at D0 D1 D2 G0 G1 G2 G3
      obtain ⟨A3, c3, rfl, hsp3, hc3, -, hb3⟩ := ho.shape
      have hsp3b : ∀ ad, A3 = some ad → (Value.slice A3 k c3).ownBlock = some ad.block := fun ad h => (hb3 ad h).2
      clear hb3
      have hB1 := B1.keep hnw.kp (by simp)
      have hB2 := B2.keep hnw.kp (by simp)
      have hlt1 := hB1.lt
      have hc4 : c3 ≤ 9223372036854775807 := by
        obtain ⟨-, h2⟩ := ho
        rcases h2 with ⟨h2, -⟩ | ⟨g, cap, cur, h2, -, -, -, h3, -⟩
        · injection h2 with _ _ h2; omega
        · injection h2 with _ _ h2; simp only [maxLen] at h3; omega
      obtain ⟨wf, hwf, C4, hs4, hk4⟩ : ∃ wf, wf = ((((wr.setCell ⟨S, 3, none⟩ (.slice A3 k c3)).setCell ⟨S + 1, 0, none⟩ (.int .i64 r.doc)).setCell ⟨S + 1, 1, none⟩ (.int .i64 r.out)).setCell ⟨S + 1, 2, none⟩ (.int .i64 r.len)).setCell ⟨S + 1, 3, none⟩ (.slice A3 k c3) ∧
          Cells wf (S + 1) 24 [.int .i64 r.doc, .int .i64 r.out, .int .i64 r.len, .slice A3 k c3] ∧ Own wf 9 (.slice A3 k c3) k ((fewN r.holes k).map .string) ∧ Kp [] w wf := by
        refine ⟨_, rfl, ?_, ?_, ?_⟩
        · exact (((((hB2.other (p := ⟨S, 3, none⟩) (by simp) _).put 0 _).put 1 _).put 2 _).put 3 _)
        · have kS : Kp [S, S + 1] wr (((((wr.setCell ⟨S, 3, none⟩ (.slice A3 k c3)).setCell ⟨S + 1, 0, none⟩ (.int .i64 r.doc)).setCell ⟨S + 1, 1, none⟩ (.int .i64 r.out)).setCell ⟨S + 1, 2, none⟩ (.int .i64 r.len)).setCell ⟨S + 1, 3, none⟩ (.slice A3 k c3)) :=
            (((((Kp.refl _ _).setCell (fun _ => by simp) _).setCell (fun _ => by simp) _).setCell (fun _ => by simp) _).setCell (fun _ => by simp) _).setCell (fun _ => by simp) _
          exact ho.keep kS (fun g hg hm => by have := hnw.blk g hg; have := Hs2.out; simp at hm; omega)
        · have hk := K2.nil hnw.kp
          have hS := HS.out
          exact ((((hk.setCell (fun h => by simp only at h; omega) _).setCell (fun h => by simp only at h; omega) _).setCell (fun h => by simp only at h; omega) _).setCell (fun h => by simp only at h; omega) _).setCell (fun h => by simp only at h; omega) _
      have Fin := hid (And.intro C4 (And.intro hs4 hk4))
      have hlen : (fewN r.holes k).length = k := length_fewN _ _
      have fin : FewOwn w r (.returned (.agg #[.int .i64 r.doc, .int .i64 r.out, .int .i64 r.len, .slice A3 k c3])) wf := by
        have e1 : (fewL r).holes = fewN r.holes k := by rw [fewL, ← Hkm.out]
        refine ⟨A3, c3, ?_, ?_, hk4⟩
        · rw [e1, hlen]
        · rw [e1, hlen]
          exact hs4
      have Fin2 := hid fin
      have Hwf := hid hwf
      clear hwf C4 hs4 hk4 fin hB1 hB2 hsp3b ho hnw hsp3
      by_cases hkn : k < n
      · have hk210 : ¬ k < 210 := by omega
        go_wp2_with fail
        rw [← Hwf.out]
        exact bodyPost_ret (results_cell_row rfl _ _ (S + 1) 24 _ _ _ rfl Fin.out.1 Tryd.underlying24 rfl (by kernel_rfl)) rfl Fin2.out
      · go_wp2_with fail
        rw [← Hwf.out]
        exact bodyPost_ret (results_cell_row rfl _ _ (S + 1) 24 _ _ _ rfl Fin.out.1 Tryd.underlying24 rfl (by kernel_rfl)) rfl Fin2.out
theorem few_any (w : World) (r : Rec) (v : Value) (hr : RecIs w r v) (hz : ∀ s ∈ r.holes, s.size ≤ 9223372036854775807) :
    Calls Tryd.prog 15 #[v] w (FewPost w r) := (few_own w r v hr hz).mono fun _ _ h => h.post
end Go.Proofs.YtepeopfdenieeaaDoor
