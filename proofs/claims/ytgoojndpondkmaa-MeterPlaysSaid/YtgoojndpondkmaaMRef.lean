/- The reference's meter: what it is in memory; New; Of. -/
import Derived.Test.YtgoojndpondkmaaMSame
import Derived.Deep.Cut
namespace Go.Proofs.Ytgoojndpondkmaa
open Go Go.RowKit

theorem infoInts : (Try.prog.info? 69).map (fun i => (i.zero, i.size, i.bytes)) = some (some (.slice none 0 0), 1, 24) := by kernel_rfl
theorem infoInt8 : (Try.prog.info? 3).map (fun i => (i.zero, i.size, i.bytes)) = some (some (.int .i64 0), 1, 8) := by kernel_rfl
def i64s (l : List Int) : List Value := l.map (Value.int .i64)
theorem i64s_one (l : List Int) : ∀ u ∈ i64s l, u.oneCell' = true := by
  intro u hu
  obtain ⟨c, _, rfl⟩ := List.mem_map.1 hu
  rfl
/-- What a row of numbers comes to. -/
def dOf (l : List Int) : Dl := l.foldl (fun d n => d.add 1 n n) Dl.zero
theorem dOf_snoc (l : List Int) (n : Int) : dOf (l ++ [n]) = (dOf l).add 1 n n := by simp [dOf]
/-- The reference's meter at block y. -/
def RMAt (w : World) (B y : Nat) (ls : List (List Int)) : Prop :=
  ∃ v vs, (∀ g, v.ownBlock = some g → B ≤ g) ∧ Cells w y 68 [v] ∧ Own w 69 v ls.length vs ∧ ∀ (i : Nat) (l : List Int), ls[i]? = some l → ∃ u, vs[i]? = some u ∧ Own w 3 u l.length (i64s l)
theorem RMAt.keep {w w' : World} {B y : Nat} {ls : List (List Int)} {S : List Nat} (h : RMAt w B y ls) (k : Kp S w w') (hr : ∀ s ∈ S, ∃ t cs, Cells w s t cs ∧ t ≠ 3 ∧ t ≠ 69 ∧ t ≠ 68) : RMAt w' B y ls := by
  obtain ⟨v, vs, h0, h1, h2, h3⟩ := h
  refine ⟨v, vs, h0, h1.keep k (fun hm => ?_), h2.keep k (fun g hg hm => ?_), fun i l hi => ?_⟩
  · obtain ⟨t, cs, hc, _, _, hne⟩ := hr y hm
    exact h1.ne hc (Ne.symm hne) rfl
  · obtain ⟨t, cs, hc, _, hne, _⟩ := hr g hm
    exact h2.ne_cells hc (Ne.symm hne) hg
  · obtain ⟨u, hu, ho⟩ := h3 i l hi
    refine ⟨u, hu, ho.keep k (fun g hg hm => ?_)⟩
    obtain ⟨t, cs, hc, hne, _, _⟩ := hr g hm
    exact ho.ne_cells hc (Ne.symm hne) hg
theorem RMAt.kept {w w' : World} {B y : Nat} {ls : List (List Int)} (h : RMAt w B y ls) (k : Kp [] w w') : RMAt w' B y ls := h.keep k (by simp)
def RMNewPost (w : World) (k : Int) (e : Ending) (w' : World) : Prop := ∃ y, e = .returned (.pointer (some ⟨y, 0, none⟩)) ∧ RMAt w' w.heap.size y (List.replicate (kindsOf k) []) ∧ Kp [] w w' ∧ w.heap.size ≤ y
theorem rmnew_any (w : World) (k : Int) : Calls Try.prog 13 #[.int .i64 k] w (RMNewPost w k) := by
  have e : ((kindsOf k : Nat) : Int) = min (max k 0) 32 := by unfold kindsOf; omega
  have hK := kindsOf_le k
  have HE := hid e
  clear e
  go_enter Try.func13, Try.ntmps13
  go_wp2_with (at_make; go_must (refine wpList_make1 rfl _ _ 66 rfl 69 (.slice none 0 0) 24 Try.underlying66 infoInts rfl .i64 .i64 _ _ (kindsOf k) rfl rfl HE.out.symm HE.out.symm (by omega) (by omega) ?_))
  intro w1 Z HZ hg1 hk1
  go_wp2_with fail
  go_ret
  refine ⟨w1.heap.size, rfl, ⟨.slice (some ⟨w.heap.size, 0, none⟩) (kindsOf k) (kindsOf k), Z, fun g hg => by simp [Value.ownBlock] at hg; omega, Cells.fresh _ _ _, ?_, ?_⟩, hk1.alloc _, hk1.size⟩
  · have hz : Z.length = kindsOf k := by rw [HZ.out, List.length_replicate]
    have := Own.of_cells (hg1.alloc (.cells #[.slice (some ⟨w.heap.size, 0, none⟩) (kindsOf k) (kindsOf k)] 68)) (by omega)
    rw [hz] at this
    rw [List.length_replicate]
    exact this
  · intro i l hi
    have hl : l = [] := List.eq_of_mem_replicate (List.mem_of_getElem? hi)
    have hlt : i < kindsOf k := by
      have := (List.getElem?_eq_some_iff.1 hi).1
      simpa using this
    subst hl
    refine ⟨.slice none 0 0, by rw [HZ.out, List.getElem?_replicate, if_pos hlt], Own.nil _ _⟩

/-- What can be read at a place of it. -/
theorem rm_at {w : World} {B y : Nat} {ls : List (List Int)} (h : RMAt w B y ls) {i : Nat} (hi : i < ls.length) :
    ∃ q c A d, w.cell? ⟨y, 0, none⟩ = some (.slice (some ⟨q, 0, none⟩) ls.length c) ∧ w.cell? ⟨q, i, none⟩ = some (.slice A (ls.getD i []).length d) ∧ Span w A (i64s (ls.getD i [])) ∧ (ls.getD i []).length ≤ d := by
  obtain ⟨v, vs, -, h1, h2, h3⟩ := h
  obtain ⟨A, c, rfl, -, -, -, -⟩ := h2.shape
  obtain ⟨q, rfl, -, hq, -, -⟩ := h2.at (by omega)
  obtain ⟨u, hu, ho⟩ := h3 i _ (List.getElem?_eq_getElem hi)
  obtain ⟨B, d, rfl, hsp, hd, -, -⟩ := ho.shape
  have e : ls.getD i [] = ls[i] := by rw [List.getD_eq_getElem?_getD, List.getElem?_eq_getElem hi]; rfl
  rw [e]
  exact ⟨q, c, B, d, h1.cell 0, by rw [hq i hi, hu], hsp, hd⟩
theorem rm_len {w : World} {B y : Nat} {ls : List (List Int)} (h : RMAt w B y ls) : ∃ A c, w.cell? ⟨y, 0, none⟩ = some (.slice A ls.length c) := by
  obtain ⟨v, vs, -, h1, h2, h3⟩ := h
  obtain ⟨A, c, rfl, -, -, -, -⟩ := h2.shape
  exact ⟨A, c, h1.cell 0⟩
def ROfPost (w : World) (ls : List (List Int)) (k : Int) (e : Ending) (w' : World) : Prop :=
  ∃ d, d = ofD (ls.map dOf) k ∧ e = .returned (.agg #[.int .i64 d.c, .int .i64 d.t, .int .i64 d.m]) ∧ Kp [] w w'
/-- Rows of numbers whose sums are small. -/
def Small (ls : List (List Int)) : Prop := ∀ l ∈ ls, (l.length ≤ 1000) ∧ (∀ n ∈ l, 0 ≤ n) ∧ (dOf l).t ≤ 1099511627776
theorem dOf_t_le (l m : List Int) (h : ∀ n ∈ m, 0 ≤ n) : (dOf l).t ≤ (dOf (l ++ m)).t := by
  induction m generalizing l with
  | nil => simp
  | cons x m ih =>
    have h1 := ih (l ++ [x]) (fun n hn => h n (by simp [hn]))
    rw [dOf_snoc] at h1
    have h2 := h x (by simp)
    simp only [Dl.add] at h1
    rw [List.append_assoc] at h1
    simp only [List.singleton_append] at h1
    omega
theorem dOf_0 (l : List Int) (h : ∀ n ∈ l, 0 ≤ n) : 0 ≤ (dOf l).t ∧ (dOf l).c = l.length := by
  have key : ∀ (m : List Int) (d : Dl), (∀ n ∈ m, 0 ≤ n) → 0 ≤ d.t → 0 ≤ (m.foldl (fun d n => d.add 1 n n) d).t ∧ (m.foldl (fun d n => d.add 1 n n) d).c = d.c + m.length := by
    intro m
    induction m with
    | nil => intro d _ hd; simpa using hd
    | cons x m ih =>
      intro d hm hd
      have hx := hm x (by simp)
      have := ih (d.add 1 x x) (fun n hn => hm n (by simp [hn])) (by simp only [Dl.add]; omega)
      simp only [List.foldl_cons, List.length_cons]
      refine ⟨this.1, ?_⟩
      rw [this.2]
      simp only [Dl.add]
      omega
  have := key l Dl.zero h (by simp [Dl.zero])
  simpa [dOf, Dl.zero] using this
set_option maxRecDepth 100000 in
set_option maxHeartbeats 800000 in
theorem rof_any (w : World) (B y : Nat) (ls : List (List Int)) (k : Int) (h : RMAt w B y ls) (hs : Small ls) (hn : ls.length ≤ 32) :
    Calls Try.prog 16 #[.pointer (some ⟨y, 0, none⟩), .int .i64 k] w (ROfPost w ls k) := by
  obtain ⟨w2, hw2, B1, B2, K1⟩ : ∃ w2, w2 = (w.alloc (.cells #[.int .i64 0, .int .i64 0, .int .i64 0] 39)).alloc (.cells #[.int .i64 0, .int .i64 0, .int .i64 0] 39) ∧
      Cells w2 w.heap.size 39 [.int .i64 0, .int .i64 0, .int .i64 0] ∧ Cells w2 (w.heap.size + 1) 39 [.int .i64 0, .int .i64 0, .int .i64 0] ∧ Kp [] w w2 :=
    ⟨_, rfl, (Cells.fresh _ _ _).alloc _, Cells.fresh1 _ _ _ _, ((Kp.refl _ _).alloc _).alloc _⟩
  have Hw2 := hid hw2
  obtain ⟨S, hS⟩ : ∃ S, S = w.heap.size := ⟨_, rfl⟩
  rw [← hS] at B1 B2
  have HS := hid hS
  have ending : ∀ (wr : World) (d : Dl), Cells wr (S + 1) 39 d.cells → Cells wr S 39 [.int .i64 0, .int .i64 0, .int .i64 0] → Kp [] w wr → d = ofD (ls.map dOf) k →
      ∃ wf, wf = ((wr.setCell ⟨S, 0, none⟩ (.int .i64 d.c)).setCell ⟨S, 1, none⟩ (.int .i64 d.t)).setCell ⟨S, 2, none⟩ (.int .i64 d.m) ∧ Cells wf S 39 d.cells ∧ ROfPost w ls k (.returned (.agg #[.int .i64 d.c, .int .i64 d.t, .int .i64 d.m])) wf := by
    intro wr d h1 h2 h3 h4
    exact ⟨_, rfl, ((h2.put 0 _).put 1 _).put 2 _, d, h4, rfl, ((h3.setCell (fun hb => by have : S < w.heap.size := hb; omega) _).setCell (fun hb => by have : S < w.heap.size := hb; omega) _).setCell (fun hb => by have : S < w.heap.size := hb; omega) _⟩
  have End := hid ending
  clear hw2 hS ending
  by_cases hin : k < 0 ∨ (ls.length : Int) ≤ k
  · have he : (⟨0, 0, 0⟩ : Dl) = ofD (ls.map dOf) k := by rw [ofD, if_pos (by rw [List.length_map]; exact hin)]; rfl
    obtain ⟨A, c, x0⟩ := rm_len (h.kept K1)
    obtain ⟨m, hm⟩ : ∃ m, m = ls.length := ⟨_, rfl⟩
    rw [← hm] at x0
    have hin' : k < 0 ∨ (0 ≤ k ∧ (m : Int) ≤ k) := by omega
    obtain ⟨wf, hwf, hcf, hpf⟩ := End.out w2 ⟨0, 0, 0⟩ B2 B1 K1 he
    dsimp only at hwf hpf
    have HF := hid (And.intro hwf (And.intro hcf hpf))
    have C0 := B1.cell 0
    have C1 := B1.cell 1
    have C2 := B1.cell 2
    have F0 := B1.free 0
    have F1 := B1.free 1
    have F2 := B1.free 2
    have D0 := B2.cell 0
    have D1 := B2.cell 1
    have D2 := B2.cell 2
    simp only [List.getElem?_cons_zero, List.getElem?_cons_succ] at C0 C1 C2 D0 D1 D2
    clear he hm hin hwf hcf hpf
    rcases hin' with h1 | ⟨h1, h2⟩
    all_goals
      go_enter Try.func16, Try.ntmps16
      go_upto_region 2 with (fail)
      rw [← HS.out, ← Hw2.out]
      go_wp2_with fail
      rw [← HF.out.1]
      exact bodyPost_ret (results_cell_row rfl _ _ S 39 _ _ _ rfl HF.out.2.1 Try.underlying39 rfl (by kernel_rfl)) rfl HF.out.2.2
  · obtain ⟨K, rfl⟩ := Int.eq_ofNat_of_zero_le (show 0 ≤ k by omega)
    have hK : K < ls.length := by omega
    have he : ofD (ls.map dOf) (K : Int) = dOf (ls.getD K []) := by
      rw [ofD, if_neg (by rw [List.length_map]; omega), Int.toNat_natCast, List.getD_eq_getElem?_getD, List.getD_eq_getElem?_getD, List.getElem?_map, List.getElem?_eq_getElem hK]
      rfl
    have hsl := hs (ls.getD K []) (by rw [List.getD_eq_getElem?_getD, List.getElem?_eq_getElem hK]; exact List.getElem_mem hK)
    obtain ⟨q, c, A, d, x0, x1, x2, x3⟩ := rm_at h hK
    obtain ⟨l, hl⟩ : ∃ l, l = ls.getD K [] := ⟨_, rfl⟩
    rw [← hl] at he hsl x1 x2 x3
    obtain ⟨m, hm⟩ : ∃ m, m = ls.length := ⟨_, rfl⟩
    rw [← hm] at x0 hK
    obtain ⟨n, hn9⟩ : ∃ n, n = l.length := ⟨_, rfl⟩
    rw [← hn9] at x1 x3
    have hn1 : n ≤ 1000 := by rw [hn9]; exact hsl.1
    have hm1 : m ≤ 32 := by rw [hm]; exact hn
    have Hn := hid hn9
    have HE := hid he
    have Hsl := hid hsl
    have XX := hid (And.intro x0 (And.intro x1 x2))
    have x0 := K1.cell x0 (by simp)
    have x1 := K1.cell x1 (by simp)
    clear hl hm he hin hsl hn9 x2
    go_enter Try.func16, Try.ntmps16
    go_upto_region 2 with (fail)
    rw [← HS.out, ← Hw2.out]
    go_wp2_with fail
    have q1 : decide ((K : Int) < 0) = false := decide_eq_false (by omega)
    have q2 : decide (m ≤ K) = false := decide_eq_false (by omega)
    go_loopw [6] (fun i wr => ∃ k : Nat, k ≤ n ∧ i = .int .i64 k ∧ Cells wr (S + 1) 39 (dOf (l.take k)).cells ∧ Cells wr S 39 [.int .i64 0, .int .i64 0, .int .i64 0] ∧ Kp [] w wr) (fun i _ => n - (intOf i).toNat)
    case atStart => exact ⟨0, by omega, rfl, B2, B1, K1⟩
    case round =>
      clear B1 B2 K1 x0 x1
      obtain ⟨k, hk, rfl, B2, B1, K1⟩ := hrel
      have x0 := K1.cell XX.out.1 (by simp)
      have x1 := K1.cell XX.out.2.1 (by simp)
      by_cases hlt : k < n
      · have hkl : k < l.length := by rw [← Hn.out]; exact hlt
        obtain ⟨ad, hA, hcl⟩ := (XX.out.2.2.kept K1) k (.int .i64 l[k]) (by simp [i64s, hkl])
        subst hA
        have ht := take_snoc_get l k hkl
        have hds : dOf (l.take (k + 1)) = (dOf (l.take k)).add 1 l[k] l[k] := by rw [ht, dOf_snoc]
        have b1 := dOf_0 (l.take k) (fun n hn => Hsl.out.2.1 n (List.mem_of_mem_take hn))
        have b2 := dOf_t_le (l.take (k + 1)) (l.drop (k + 1)) (fun n hn => Hsl.out.2.1 n (List.mem_of_mem_drop hn))
        rw [List.take_append_drop, hds] at b2
        have b3 := Hsl.out.2.2
        have b4 := Hsl.out.2.1 l[k] (List.getElem_mem hkl)
        rw [List.length_take, Nat.min_eq_left (by omega)] at b1
        simp only [Dl.add] at b2
        obtain ⟨D, hD⟩ : ∃ D, D = dOf (l.take k) := ⟨_, rfl⟩
        obtain ⟨x, hx⟩ : ∃ x, x = l[k] := ⟨_, rfl⟩
        rw [← hD] at hds b1 b2 B2
        rw [← hx] at hds b2 b4 hcl
        have b5 : D.t + x ≤ 1099511627776 := by omega
        have Hds := hid hds
        have C0 := B2.cell 0
        have C1 := B2.cell 1
        have C2 := B2.cell 2
        have F0 := B2.free 0
        have F1 := B2.free 1
        have F2 := B2.free 2
        simp only [Dl.cells, List.getElem?_cons_zero, List.getElem?_cons_succ] at C0 C1 C2
        obtain ⟨b1, b6⟩ := b1
        have b7 : D.c ≤ 1000 := by omega
        have b8 : 0 ≤ D.c := by omega
        clear ht hds b2 b3 b6 hD hx hkl
        go_wp2_with fail
        go_roundw
        case rel =>
          refine ⟨k + 1, by omega, by go_num, ?_, ((B1.other (p := ⟨S + 1, 0, none⟩) (by simp) _).other (p := ⟨S + 1, 1, none⟩) (by simp) _).other (p := ⟨S + 1, 2, none⟩) (by simp) _, ?_⟩
          · rw [Hds.out]
            exact ((B2.put 0 _).put 1 _).put 2 _
          · have hS := HS.out
            exact ((K1.setCell (fun hb => by have : S + 1 < w.heap.size := hb; omega) _).setCell (fun hb => by have : S + 1 < w.heap.size := hb; omega) _).setCell (fun hb => by have : S + 1 < w.heap.size := hb; omega) _
        case measure => simp [intOf]; omega
      · have hkn : k = n := by omega
        subst hkn
        have htl : l.take k = l := List.take_of_length_le (by rw [← Hn.out]; omega)
        rw [htl] at B2
        obtain ⟨wf, hwf, hcf, hpf⟩ := End.out wr (dOf l) B2 B1 K1 HE.out.symm
        generalize dOf l = D at *
        have HF := hid (And.intro hwf (And.intro hcf hpf))
        have C0 := B1.cell 0
        have C1 := B1.cell 1
        have C2 := B1.cell 2
        have F0 := B1.free 0
        have F1 := B1.free 1
        have F2 := B1.free 2
        have D0 := B2.cell 0
        have D1 := B2.cell 1
        have D2 := B2.cell 2
        simp only [Dl.cells, List.getElem?_cons_zero, List.getElem?_cons_succ] at C0 C1 C2 D0 D1 D2
        clear htl hwf hcf hpf
        go_wp2_with fail
        rw [← HF.out.1]
        exact bodyPost_ret (results_cell_row rfl _ _ S 39 _ _ _ rfl HF.out.2.1 Try.underlying39 rfl (by kernel_rfl)) rfl HF.out.2.2
end Go.Proofs.Ytgoojndpondkmaa
