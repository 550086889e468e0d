/- The reference's Note. -/
import Derived.Test.YtgoojndpondkmaaMRef
namespace Go.Proofs.Ytgoojndpondkmaa
open Go Go.RowKit

def rnoteL (ls : List (List Int)) (k n : Int) : List (List Int) := if noteE (ls.map dOf) k n = 0 then ls.set k.toNat (ls.getD k.toNat [] ++ [n]) else ls
theorem getD_map (ls : List (List Int)) (i : Nat) : (ls.map dOf).getD i Dl.zero = dOf (ls.getD i []) := by
  rw [List.getD_eq_getElem?_getD, List.getD_eq_getElem?_getD, List.getElem?_map]
  cases ls[i]? <;> rfl
theorem map_rnote (ls : List (List Int)) (k n : Int) : (rnoteL ls k n).map dOf = noteD (ls.map dOf) k n := by
  unfold rnoteL noteD
  split
  · rw [List.map_set, dOf_snoc, getD_map]
  · rfl
theorem length_rnote (ls : List (List Int)) (k n : Int) : (rnoteL ls k n).length = ls.length := by
  unfold rnoteL
  split <;> simp
def RNotePost (w : World) (B y : Nat) (ls : List (List Int)) (k n : Int) (e : Ending) (w' : World) : Prop :=
  e = .returned (.int .i64 (noteE (ls.map dOf) k n)) ∧ RMAt w' B y (rnoteL ls k n) ∧ ∃ S, (∀ s ∈ S, B ≤ s ∧ ∃ cs, Cells w s 69 cs) ∧ Kp S w w'
theorem rm_set {w w' : World} {B y K q c m : Nat} {ls : List (List Int)} {A : Option Addr} {d : Nat} {l' : List Int} (h : RMAt w B y ls) (hq : w.cell? ⟨y, 0, none⟩ = some (.slice (some ⟨q, 0, none⟩) m c)) (hK : K < ls.length) (k : Kp [] w w') (ho : Own w' 3 (.slice A l'.length d) l'.length (i64s l')) :
    RMAt (w'.setCell ⟨q, K, none⟩ (.slice A l'.length d)) B y (ls.set K l') ∧ B ≤ q ∧ (∃ cs, Cells w q 69 cs) := by
  obtain ⟨v, vs, h0, h1, h2, h3⟩ := h
  have hv : v = .slice (some ⟨q, 0, none⟩) m c := by
    have := (h1.cell 0).symm.trans hq
    simpa using this
  subst hv
  have hcs : ∃ cs, Cells w q 69 cs := by
    rcases h2.2 with ⟨e, _⟩ | ⟨g, cap, cur, e, _, hg, _⟩
    · injection e with e; cases e
    · injection e with e
      injection e with e
      injection e with e
      subst e
      exact ⟨cur.toList, by simpa [Cells] using hg⟩
  obtain ⟨cs, hcs⟩ := hcs
  have hcs' := hcs.keep k (by simp)
  have hm : m = ls.length := by
    obtain ⟨_, _, e, _, _, _, _⟩ := h2.shape
    injection e
  subst hm
  refine ⟨⟨.slice (some ⟨q, 0, none⟩) ls.length c, vs.set K (.slice A l'.length d), h0, ?_, ?_, ?_⟩, h0 q rfl, cs, hcs⟩
  · exact (h1.keep k (by simp)).other (fun e => (h1.keep k (by simp)).ne hcs' (by decide) e) _
  · rw [List.length_set]
    exact (h2.kept k).put hK _
  · intro i l hi
    by_cases hiK : K = i
    · subst hiK
      rw [List.getElem?_set_self hK] at hi
      injection hi with hi
      subst hi
      have hvl : vs.length = ls.length := by
        have := h2.1
        simpa using this
      refine ⟨_, List.getElem?_set_self (by omega), ?_⟩
      exact ho.keep ((Kp.refl [q] w').setCell (fun _ => by simp) _) (fun g hg hm => by
        rw [List.mem_singleton] at hm
        subst hm
        exact ho.ne_cells hcs' (by decide) hg)
    · rw [List.getElem?_set_ne hiK] at hi
      obtain ⟨u, hu, hou⟩ := h3 i l hi
      refine ⟨u, by rw [List.getElem?_set_ne hiK]; exact hu, ?_⟩
      have hou' := hou.kept k
      exact hou'.keep ((Kp.refl [q] w').setCell (fun _ => by simp) _) (fun g hg hm => by
        rw [List.mem_singleton] at hm
        subst hm
        exact hou'.ne_cells hcs' (by decide) hg)
theorem empty_own {v1 : Value} {g H W : Nat} (h : v1.ownBlock = (Value.slice (some ⟨g, 0, none⟩) 0 0).ownBlock ∨ v1.ownBlock = some W) (hg : H ≤ g ∧ H ≤ W) : ∀ x, v1.ownBlock = some x → H ≤ x := by
  intro x hx
  rcases h with h | h
  · rw [h] at hx
    simp [Value.ownBlock] at hx
    omega
  · rw [h] at hx
    injection hx with hx
    omega
theorem rm_part {w w1 wb : World} {B y K q c m : Nat} {ls : List (List Int)} {u : Value} (hq : w.cell? ⟨y, 0, none⟩ = some (.slice (some ⟨q, 0, none⟩) m c)) (h : RMAt w B y ls) (k1 : Kp [] w w1) (k2 : Kp [] w1 wb) (hc : w1.cell? ⟨q, K, none⟩ = some u) :
    wb.cell? ⟨y, 0, none⟩ = some (.slice (some ⟨q, 0, none⟩) m c) ∧ wb.cell? ⟨q, K, none⟩ = some u ∧ wb.frozen? ⟨q, K, none⟩ = false := by
  refine ⟨(k1.nil k2).cell hq (by simp), k2.cell hc (by simp), ?_⟩
  obtain ⟨v, vs, h0, h1, h2, h3⟩ := h
  have hv : v = .slice (some ⟨q, 0, none⟩) m c := by
    have := (h1.cell 0).symm.trans hq
    simpa using this
  subst hv
  rcases h2.2 with ⟨e, _⟩ | ⟨g, cap, cur, e, _, hg, _⟩
  · injection e with e; cases e
  · injection e with e
    injection e with e
    injection e with e
    subst e
    have hcs : Cells w q 69 cur.toList := by simpa [Cells] using hg
    exact (hcs.keep (k1.nil k2) (by simp)).free K
theorem index3 (a b c : Int) (w : World) : (Instr.index 39 (.agg #[.int .i64 a, .int .i64 b, .int .i64 c]) (.int .i64 1)).run Try.prog w = .ok (.int .i64 b) w := by kernel_rfl
set_option maxRecDepth 100000 in
set_option maxHeartbeats 30000000 in
theorem rnote_any (w : World) (B y : Nat) (ls : List (List Int)) (k n : Int) (h : RMAt w B y ls) (hs : Small ls) (hn : ls.length ≤ 32) (_ : n ≤ 9223372036854775807) :
    Calls Try.prog 15 #[.pointer (some ⟨y, 0, none⟩), .int .i64 k, .int .i64 n] w (RNotePost w B y ls k n) := by
  by_cases hin : k < 0 ∨ (ls.length : Int) ≤ k ∨ n < 0
  · have he : noteE (ls.map dOf) k n = 1 := by rw [noteE, if_pos (by rw [List.length_map]; exact hin)]
    have hl : rnoteL ls k n = ls := by rw [rnoteL, he]; rfl
    have HE := hid (And.intro he hl)
    obtain ⟨A, c, x0⟩ := rm_len h
    obtain ⟨m, hm⟩ : ∃ m, m = ls.length := ⟨_, rfl⟩
    rw [← hm] at x0
    have hin' : k < 0 ∨ (0 ≤ k ∧ (m : Int) ≤ k) ∨ (0 ≤ k ∧ k < (m : Int) ∧ n < 0) := by omega
    clear he hl hm hin
    rcases hin' with h1 | ⟨h1, h2⟩ | ⟨h1, h2, h3⟩
    all_goals
      go_enter Try.func15, Try.ntmps15
      go_wp2_with fail
      go_ret
      exact ⟨by rw [HE.out.1]; rfl, by rw [HE.out.2]; exact h, [], by simp, Kp.refl _ _⟩
  · obtain ⟨K, rfl⟩ := Int.eq_ofNat_of_zero_le (show 0 ≤ k by omega)
    have hK : K < ls.length := by omega
    have hn0 : 0 ≤ n := by omega
    have he : noteE (ls.map dOf) (K : Int) n = if 1099511627776 - (dOf (ls.getD K [])).t < n then 3 else 0 := by
      rw [noteE, if_neg (by rw [List.length_map]; exact hin), Int.toNat_natCast, getD_map]
    have hd : rnoteL ls (K : Int) n = if noteE (ls.map dOf) (K : Int) n = 0 then ls.set K (ls.getD K [] ++ [n]) else ls := by rw [rnoteL, Int.toNat_natCast]
    have hof : ofD (ls.map dOf) (K : Int) = dOf (ls.getD K []) := by rw [ofD, if_neg (by rw [List.length_map]; omega), Int.toNat_natCast, getD_map]
    have hsl := hs (ls.getD K []) (by rw [List.getD_eq_getElem?_getD, List.getElem?_eq_getElem hK]; exact List.getElem_mem hK)
    obtain ⟨q, c, A, d, x0, x1, x2, x3⟩ := rm_at h hK
    have x0' := x0
    obtain ⟨l, hl⟩ : ∃ l, l = ls.getD K [] := ⟨_, rfl⟩
    rw [← hl] at he hd hof hsl x1 x2 x3
    have ht := dOf_0 l hsl.2.1
    obtain ⟨D, hD⟩ : ∃ D, D = dOf l := ⟨_, rfl⟩
    rw [← hD] at he hof hsl ht
    obtain ⟨j, hj⟩ : ∃ j, j = l.length := ⟨_, rfl⟩
    rw [← hj] at x1 x3
    obtain ⟨m, hm⟩ : ∃ m, m = ls.length := ⟨_, rfl⟩
    rw [← hm] at x0 x0'
    have hKm : K < m := by omega
    have hm1 : m ≤ 32 := by omega
    have hj1 : j ≤ 1000 := by rw [hj]; exact hsl.1
    have ht1 : 0 ≤ D.t := ht.1
    have ht2 : D.t ≤ 1099511627776 := hsl.2.2
    have HE := hid (And.intro he (And.intro hd hof))
    have Hj := hid hj
    have hjs : (i64s l).length = j := by rw [i64s, List.length_map, hj]
    have Hjs := hid hjs
    have X0 := hid x0'
    have HK := hid hK
    clear hl hD hj hm he hd hof hsl ht hjs x0' hin hK
    go_enter Try.func15, Try.ntmps15
    go_wp2_with fail
    refine (rof_any w B y ls K h hs hn).mono ?_
    rintro e w1 ⟨d9, hd9, rfl, hk1⟩
    have e9 : d9 = D := hd9.trans HE.out.2.2
    clear hd9
    subst e9
    have hix := index3 d9.c d9.t d9.m
    by_cases hb : 1099511627776 - d9.t < n
    · go_wp2_with fail
      go_ret
      have h3 : noteE (ls.map dOf) (K : Int) n = 3 := by rw [HE.out.1, if_pos hb]
      refine ⟨by rw [h3]; rfl, ?_, [], by simp, hk1⟩
      rw [HE.out.2.1, h3]
      exact h.kept hk1
    · have h3 : noteE (ls.map dOf) (K : Int) n = 0 := by rw [HE.out.1, if_neg hb]
      have H3 := hid h3
      clear h3
      go_wp2_with fail
      have x0 := hk1.cell x0 (by simp)
      have x1 := hk1.cell x1 (by simp)
      have x2 := x2.kept hk1
      have kE : Kp [] w1 (w1.drew.alloc (.cells #[] 3)) := (Kp.refl [] w1).drew.alloc _
      have kN : Kp [] w1 (w1.drew.alloc (.cells #[.int .i64 n] 3)) := (Kp.refl [] w1).drew.alloc _
      have kEN : Kp [] w1 ((w1.drew.alloc (.cells #[] 3)).alloc (.cells #[.int .i64 n] 3)) := kE.alloc _
      have kNE : Kp [] w1 ((w1.drew.alloc (.cells #[.int .i64 n] 3)).alloc (.cells #[] 3)) := kN.alloc _
      have oE : Own (w1.drew.alloc (.cells #[] 3)) 3 (.slice (some ⟨w1.heap.size, 0, none⟩) 0 0) 0 [] := Own.of_cells (Cells.fresh w1.drew 3 []) (by simp)
      have oEN := oE.kept ((Kp.refl [] _).alloc (.cells #[.int .i64 n] 3))
      have oNE : Own ((w1.drew.alloc (.cells #[.int .i64 n] 3)).alloc (.cells #[] 3)) 3 (.slice (some ⟨w1.heap.size + 1, 0, none⟩) 0 0) 0 [] := Own.of_cells (Cells.fresh1 w1.drew _ 3 []) (by simp)
      have sE := x2.kept kE
      have sEN := x2.kept kEN
      have sNE := x2.kept kNE
      have nEN : Span ((w1.drew.alloc (.cells #[] 3)).alloc (.cells #[.int .i64 n] 3)) (some ⟨w1.heap.size + 1, 0, none⟩) [.int .i64 n] := by
        have := Span.of_new (w1.drew.alloc (.cells #[] 3)) 3 (0, 0) [.int .i64 n]
        simpa using this
      have nNE : Span ((w1.drew.alloc (.cells #[.int .i64 n] 3)).alloc (.cells #[] 3)) (some ⟨w1.heap.size, 0, none⟩) [.int .i64 n] := (Span.of_new w1.drew 3 (0, 0) [.int .i64 n]).alloc _
      have y1 : (w1.alloc (.cells #[] 3)).cell? ⟨y, 0, none⟩ = _ := ((Kp.refl [] w1).alloc _).cell x0 (by simp)
      have y2 : (w1.alloc (.cells #[.int .i64 n] 3)).cell? ⟨y, 0, none⟩ = _ := ((Kp.refl [] w1).alloc _).cell x0 (by simp)
      have y3 : ((w1.alloc (.cells #[] 3)).alloc (.cells #[.int .i64 n] 3)).cell? ⟨y, 0, none⟩ = _ := (((Kp.refl [] w1).alloc _).alloc _).cell x0 (by simp)
      have y4 : ((w1.alloc (.cells #[.int .i64 n] 3)).alloc (.cells #[] 3)).cell? ⟨y, 0, none⟩ = _ := (((Kp.refl [] w1).alloc _).alloc _).cell x0 (by simp)
      have z1 : (w1.alloc (.cells #[] 3)).cell? ⟨q, K, none⟩ = _ := ((Kp.refl [] w1).alloc _).cell x1 (by simp)
      have z2 : (w1.alloc (.cells #[.int .i64 n] 3)).cell? ⟨q, K, none⟩ = _ := ((Kp.refl [] w1).alloc _).cell x1 (by simp)
      have z3 : ((w1.alloc (.cells #[] 3)).alloc (.cells #[.int .i64 n] 3)).cell? ⟨q, K, none⟩ = _ := (((Kp.refl [] w1).alloc _).alloc _).cell x1 (by simp)
      have z4 : ((w1.alloc (.cells #[.int .i64 n] 3)).alloc (.cells #[] 3)).cell? ⟨q, K, none⟩ = _ := (((Kp.refl [] w1).alloc _).alloc _).cell x1 (by simp)
      have i1 : (0 : Int) ≤ (K : Int) := by omega
      have i2 : (K : Int) < (m : Int) := by omega
      clear hix hb hs hn
      have hqy : (⟨q, K, none⟩ : Addr) ≠ ⟨y, 0, none⟩ := fun e => by
        obtain ⟨v, vs, h0, h1, h2, h3⟩ := h
        have hv : v = .slice (some ⟨q, 0, none⟩) m c := by
          have := (h1.cell 0).symm.trans X0.out
          simpa using this
        subst hv
        have e' : q = y := congrArg Addr.block e
        subst e'
        exact h2.ne_cells h1 (by decide) rfl
      have hyq : ∀ (wz : World) (u : Value), wz.cell? ⟨y, 0, none⟩ = some (.slice (some ⟨q, 0, none⟩) m c) → (wz.setCell ⟨q, K, none⟩ u).cell? ⟨y, 0, none⟩ = some (.slice (some ⟨q, 0, none⟩) m c) := fun wz u hz => (World.cell?_setCell_other wz _ _ u hqy).trans hz
      have Hyq := hid hyq
      clear hyq hqy
      go_region_law (first
        | (refine step_append1 rfl (.tmp 34) (.tmp 41) 69 rfl 3 (.int .i64 0) 8 Try.underlying69 infoInt8 rfl (.slice (some ⟨w1.heap.size, 0, none⟩) 0 0) 0 [] (by rfl) oEN A j d (i64s l) (by rfl) sEN Hjs.out (i64s_one _) (by omega) (by omega) ?_; intro v1 wa ho1 hk1a hb1; have hkA : Kp [] w1 wa := kEN.trans hk1a (by intro x hx hl; simp [Value.ownBlock] at hx; omega); have hv1 := empty_own (H := w1.heap.size) hb1 ⟨by omega, kEN.size⟩; have c0a := hkA.cell x0 (by simp); have hn1 := nEN.keep hk1a (by intro ad he hm; injection he with he; subst he; simp [Value.ownBlock] at hm))
        | (refine step_append1 rfl (.tmp 34) (.tmp 41) 69 rfl 3 (.int .i64 0) 8 Try.underlying69 infoInt8 rfl (.slice (some ⟨w1.heap.size + 1, 0, none⟩) 0 0) 0 [] (by rfl) oNE A j d (i64s l) (by rfl) sNE Hjs.out (i64s_one _) (by omega) (by omega) ?_; intro v1 wa ho1 hk1a hb1; have hkA : Kp [] w1 wa := kNE.trans hk1a (by intro x hx hl; simp [Value.ownBlock] at hx; omega); have hv1 := empty_own (H := w1.heap.size) hb1 ⟨by omega, kNE.size⟩; have c0a := hkA.cell x0 (by simp); have hn1 := nNE.keep hk1a (by intro ad he hm; injection he with he; subst he; simp [Value.ownBlock] at hm))
        | (refine step_append1 rfl (.tmp 34) (.tmp 41) 69 rfl 3 (.int .i64 0) 8 Try.underlying69 infoInt8 rfl (.slice (some ⟨w1.heap.size, 0, none⟩) 0 0) 0 [] (by rfl) oE A j d (i64s l) (by rfl) sE Hjs.out (i64s_one _) (by omega) (by omega) ?_; intro v1 wa ho1 hk1a hb1; have hkA : Kp [] w1 wa := kE.trans hk1a (by intro x hx hl; simp [Value.ownBlock] at hx; omega); have hv1 := empty_own (H := w1.heap.size) hb1 ⟨by omega, kE.size⟩; have c0a := hkA.cell x0 (by simp); have hn3 := True.intro; have c0b := ((Kp.refl [] wa).alloc (.cells #[.int .i64 n] 3)).cell c0a (by simp))
        | (refine step_append1 rfl (.tmp 42) (.tmp 44) 69 rfl 3 (.int .i64 0) 8 Try.underlying69 infoInt8 rfl v1 (0 + j) ([] ++ i64s l) (by rfl) ho1 _ 1 1 [.int .i64 n] (by rfl) hn1 rfl (i64s_one [n]) (by omega) (by omega) ?_; intro v2 wb ho2 hk2 hb2; have hkB : Kp [] w1 wb := hkA.trans hk2 (fun x hx hl => by simp only [Option.mem_toList] at hx; have := hv1 x hx; omega); obtain ⟨A2, c2, rfl, -⟩ := ho2.shape; have HB := rm_part X0.out h hk1 hkB x1; have e1 := HB.1; have e2 := HB.2.1; have e3 := HB.2.2)
        | (go_must (refine step_append1 rfl (.tmp 42) (.tmp 44) 69 rfl 3 (.int .i64 0) 8 Try.underlying69 infoInt8 rfl v1 (0 + j) ([] ++ i64s l) (by rfl) (ho1.kept ((Kp.refl [] wa).alloc _)) _ 1 1 [.int .i64 n] (by rfl) (Span.of_new wa 3 (0, 0) [.int .i64 n]) rfl (i64s_one [n]) (by omega) (by omega) ?_); intro v2 wb ho2 hk2 hb2; have hkB : Kp [] w1 wb := (hkA.alloc _).trans hk2 (fun x hx hl => by simp only [Option.mem_toList] at hx; have := hv1 x hx; omega); obtain ⟨A2, c2, rfl, -⟩ := ho2.shape; have HB := rm_part X0.out h hk1 hkB x1; have e1 := HB.1; have e2 := HB.2.1; have e3 := HB.2.2))
      all_goals
        clear y1 y2 y3 y4 z1 z2 z3 z4
        go_wp2_with fail
        go_ret
        have hl1 : 0 + j + 1 = (l ++ [n]).length := by rw [List.length_append, ← Hj.out, List.length_singleton]; omega
        have hl2 : ([] ++ i64s l ++ [Value.int .i64 n]) = i64s (l ++ [n]) := by simp [i64s]
        rw [hl1, hl2] at ho2
        have hfin := rm_set h X0.out HK.out (hk1.nil hkB) ho2
        refine ⟨by rw [H3.out]; rfl, ?_, [q], ?_, ((hk1.nil hkB).mono (by simp)).setCell (fun _ => by simp) _⟩
        · rw [HE.out.2.1, H3.out, if_pos rfl]
          have := hfin.1
          rw [← hl1] at this
          simpa using this
        · intro s hs
          rw [List.mem_singleton.1 hs]
          exact hfin.2
end Go.Proofs.Ytgoojndpondkmaa
