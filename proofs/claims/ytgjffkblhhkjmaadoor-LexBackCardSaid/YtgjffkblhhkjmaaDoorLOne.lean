/- Layer 10: one token. -/
import Derived.Test.YtgjffkblhhkjmaaDoorLTok
import Derived.Deep.Cut
namespace Go.Proofs.YtgjffkblhhkjmaaDoor
open Go Go.RowKit Go.Lib

theorem ret_slice0 (L : Txt) : (⟨L.toArray⟩ : ByteArray).extract 0 L.length = ⟨L.toArray⟩ := by rw [slice_to, List.drop_zero]
theorem ret_slice1 (c : UInt8) (t : Txt) : (⟨(c :: t).toArray⟩ : ByteArray).extract 1 (c :: t).length = ⟨t.toArray⟩ := by rw [slice_to]; rfl
theorem name_pos {k n : Nat} {r : Txt} (h : nameL (r.takeWhile nameC) = true) : nameTok k n r = some (k, r.takeWhile nameC, none, n + (r.takeWhile nameC).length) := by unfold nameTok; rw [if_pos h]
theorem name_neg {k n : Nat} {r : Txt} (h : nameL (r.takeWhile nameC) = false) : nameTok k n r = none := by unfold nameTok; rw [if_neg (by rw [h]; simp)]
set_option maxRecDepth 100000 in
set_option maxHeartbeats 6400000 in
theorem one_var (w : World) (t : Txt) (hL : ((36 : UInt8) :: t).length ≤ 100000) : Calls Tryd.prog 38 #[.string ⟨((36 : UInt8) :: t).toArray⟩] w (OnePost w ((36 : UInt8) :: t)) := by
  have htk : tokL (36 :: t) = nameTok 2 1 t := rfl
  have hs1 := ret_slice1 36 t
  have hsz : (⟨((36 : UInt8) :: t).toArray⟩ : ByteArray).size = ((36 : UInt8) :: t).length := size_mk _
  obtain ⟨s, hs⟩ : ∃ s, s = (36 : UInt8) :: t := ⟨_, rfl⟩
  have hsl : s.length = t.length + 1 := by rw [hs]; rfl
  rw [← hs] at hsz hs1 hL htk ⊢
  have i0 := cbyte_in s 0 36 (by omega) (by simp only [hs]; rfl)
  obtain ⟨r, hr⟩ : ∃ r, r = t := ⟨_, rfl⟩
  rw [← hr] at hs1 hsl htk
  have htl : r.length ≤ 100000 := by omega
  have qh := fun W => hasp_any W r [34]
  have qw := fun W => word_any W r (by omega)
  obtain ⟨hb, hhb⟩ : ∃ b, b = Lib.hasPrefix r [34] := ⟨_, rfl⟩
  simp only [← hhb] at qh
  obtain ⟨b, hb0⟩ : ∃ b, b = nameL (r.takeWhile nameC) := ⟨_, rfl⟩
  simp only [← hb0] at qw
  have HB := hid hb0
  have h0 : (0 : Int) < (s.length : Int) := by omega
  have h1s : (1 : Int) ≤ (s.length : Int) := by omega
  have Htk := hid htk
  clear hs hhb htk hr hb0 hsl
  go_enter Tryd.func38, Tryd.ntmps38
  go_wp2_with fail
  (with_reducible refine (qh _).mono ?_)
  rintro e w2 ⟨rfl, rfl⟩
  clear qh
  cases hb
  · go_wp2_with fail
    (with_reducible refine (qw _).mono ?_)
    rintro e w3 ⟨x, rfl, hx, k3⟩
    have hc3 : Cells w3 w.heap.size 49 (tokC 2 0 [] false [] 0) := (Cells.fresh w 49 (tokC 2 0 [] false [] 0)).keep k3 (by simp)
    have HK := hid (((Kp.refl [] w).alloc _).nil k3)
    clear k3 qw
    obtain ⟨⟨c0, c1, c2, c3, c4, c5⟩, f0, f1, f2, f3, f4, f5⟩ := tok_cells hc3
    cases b
    · have HO := hid (show OneIs s 2 [] false [] 0 0 from .inl ⟨by rw [Htk.out, name_neg HB.out.symm], rfl⟩)
      clear hx
      go_wp2_with fail
      obtain ⟨⟨d0, d1, d2, d3, d4, d5⟩, -⟩ := tok_cells (show Cells _ w.heap.size 49 (tokC 2 0 [] false [] 0) from ((((((hc3.put 0 (.int .i64 2)).put 1 (.int .i64 0)).put 2 (.string ⟨([] : Txt).toArray⟩)).put 3 (.bool false)).put 4 (.string ⟨([] : Txt).toArray⟩)).put 5 (.int .i64 0)))
      exact bodyPost_ret (v := .tuple #[.agg (tokC 2 0 [] false [] 0).toArray, .int .i64 0]) (by simp [results, Tryd.results38, go_sem, tokC, d0, d1, d2, d3, d4, d5]) rfl ⟨2, [], false, [], 0, 0, rfl, HO.out, by repeat (first | (with_reducible exact HK.out) | with_reducible refine kp_tok (Nat.le_refl _) _ _ ?_)⟩
    · have hxr := hx rfl
      obtain ⟨N, hN⟩ : ∃ N, N = x.length := ⟨_, rfl⟩
      have hxs : (⟨x.toArray⟩ : ByteArray).size = x.length := size_mk _
      have hxl : x.length ≤ 100000 := by rw [hxr]; have := tw_le nameC r; omega
      have HO := hid (show OneIs s 2 x false [] 0 (1 + (x.length : Int)) from .inr ⟨2, none, 1 + x.length, by rw [Htk.out, name_pos HB.out.symm, hxr], rfl, by omega, rfl, rfl, rfl⟩)
      clear hx hxr hN
      go_wp2_with fail
      obtain ⟨⟨d0, d1, d2, d3, d4, d5⟩, -⟩ := tok_cells (show Cells _ w.heap.size 49 (tokC 2 0 x false [] 0) from (((((((hc3.put 2 (.string ⟨x.toArray⟩)).put 0 (.int .i64 2)).put 1 (.int .i64 0)).put 2 (.string ⟨(x : Txt).toArray⟩)).put 3 (.bool false)).put 4 (.string ⟨([] : Txt).toArray⟩)).put 5 (.int .i64 0)))
      exact bodyPost_ret (v := .tuple #[.agg (tokC 2 0 x false [] 0).toArray, .int .i64 (1 + (x.length : Int))]) (by simp [results, Tryd.results38, go_sem, tokC, d0, d1, d2, d3, d4, d5]) rfl ⟨2, x, false, [], 0, (1 + (x.length : Int)), rfl, HO.out, by repeat (first | (with_reducible exact HK.out) | with_reducible refine kp_tok (Nat.le_refl _) _ _ ?_)⟩
  · go_wp2_with fail
    (with_reducible refine (qw _).mono ?_)
    rintro e w3 ⟨x, rfl, hx, k3⟩
    have hc3 : Cells w3 w.heap.size 49 (tokC 2 0 [] false [] 0) := (Cells.fresh w 49 (tokC 2 0 [] false [] 0)).keep k3 (by simp)
    have HK := hid (((Kp.refl [] w).alloc _).nil k3)
    clear k3 qw
    obtain ⟨⟨c0, c1, c2, c3, c4, c5⟩, f0, f1, f2, f3, f4, f5⟩ := tok_cells hc3
    cases b
    · have HO := hid (show OneIs s 2 [] false [] 0 0 from .inl ⟨by rw [Htk.out, name_neg HB.out.symm], rfl⟩)
      clear hx
      go_wp2_with fail
      obtain ⟨⟨d0, d1, d2, d3, d4, d5⟩, -⟩ := tok_cells (show Cells _ w.heap.size 49 (tokC 2 0 [] false [] 0) from ((((((hc3.put 0 (.int .i64 2)).put 1 (.int .i64 0)).put 2 (.string ⟨([] : Txt).toArray⟩)).put 3 (.bool false)).put 4 (.string ⟨([] : Txt).toArray⟩)).put 5 (.int .i64 0)))
      exact bodyPost_ret (v := .tuple #[.agg (tokC 2 0 [] false [] 0).toArray, .int .i64 0]) (by simp [results, Tryd.results38, go_sem, tokC, d0, d1, d2, d3, d4, d5]) rfl ⟨2, [], false, [], 0, 0, rfl, HO.out, by repeat (first | (with_reducible exact HK.out) | with_reducible refine kp_tok (Nat.le_refl _) _ _ ?_)⟩
    · have hxr := hx rfl
      obtain ⟨N, hN⟩ : ∃ N, N = x.length := ⟨_, rfl⟩
      have hxs : (⟨x.toArray⟩ : ByteArray).size = x.length := size_mk _
      have hxl : x.length ≤ 100000 := by rw [hxr]; have := tw_le nameC r; omega
      have HO := hid (show OneIs s 2 x false [] 0 (1 + (x.length : Int)) from .inr ⟨2, none, 1 + x.length, by rw [Htk.out, name_pos HB.out.symm, hxr], rfl, by omega, rfl, rfl, rfl⟩)
      clear hx hxr hN
      go_wp2_with fail
      obtain ⟨⟨d0, d1, d2, d3, d4, d5⟩, -⟩ := tok_cells (show Cells _ w.heap.size 49 (tokC 2 0 x false [] 0) from (((((((hc3.put 2 (.string ⟨x.toArray⟩)).put 0 (.int .i64 2)).put 1 (.int .i64 0)).put 2 (.string ⟨(x : Txt).toArray⟩)).put 3 (.bool false)).put 4 (.string ⟨([] : Txt).toArray⟩)).put 5 (.int .i64 0)))
      exact bodyPost_ret (v := .tuple #[.agg (tokC 2 0 x false [] 0).toArray, .int .i64 (1 + (x.length : Int))]) (by simp [results, Tryd.results38, go_sem, tokC, d0, d1, d2, d3, d4, d5]) rfl ⟨2, x, false, [], 0, (1 + (x.length : Int)), rfl, HO.out, by repeat (first | (with_reducible exact HK.out) | with_reducible refine kp_tok (Nat.le_refl _) _ _ ?_)⟩
theorem num_take (s : Txt) : s.take (numT s).length = numT s := by
  have h1 := lead_rest s
  have h2 := frac_cut (rest s)
  have h3 : ∀ x : Txt, (expL x).1 ++ (expL x).2 = x := by
    intro x
    cases x with
    | nil => rfl
    | cons c t =>
      unfold expL
      dsimp only
      split
      · split
        · rfl
        · show c :: ((sgnL t).1 ++ lead (sgnL t).2 ++ rest (sgnL t).2) = _
          rw [List.append_assoc, lead_rest, sgn_cut]
      · rfl
  have h : numT s ++ (expL (fracL (rest s)).2).2 = s := by
    unfold numT
    rw [List.append_assoc, List.append_assoc, h3, h2, h1]
  conv => lhs; arg 2; rw [← h]
  exact List.take_left' rfl
theorem unq_l (w : World) (L : Txt) (hL : L.length ≤ 1000000) (hT : Tabs w) : Calls Tryd.prog 54 #[.string ⟨L.toArray⟩] w fun e w' => e = .returned (.tuple #[.string ⟨(unq L).1.toArray⟩, .int .i64 (((unq L).2.1 : Nat) : Int), .int .i64 (unq L).2.2]) ∧ Kp [] w w' :=
  qunq_any w ⟨L.toArray⟩ (by rw [size_mk]; omega) hT
theorem quo_pos {k n : Nat} {r : Txt} (h : (unq r).2.2 = 0) : quoTok k n r = some (k, (unq r).1, none, n + (unq r).2.1) := by unfold quoTok; rw [if_pos h]
theorem quo_neg {k n : Nat} {r : Txt} (h : ¬ (unq r).2.2 = 0) : quoTok k n r = none := by unfold quoTok; rw [if_neg h]
theorem unq_len0 (r : Txt) (h : r.length ≤ 100000) : (unq r).2.1 ≤ 100000 := by
  by_cases he : (unq r).2.2 = 0
  · have := ((unq_fine r).1 he).2.2; omega
  · rw [((unq_fine r).2.1 he).1]; exact Nat.zero_le _
theorem ne_of_let {c : UInt8} (h : isLet c = true) : ¬ c.toNat = 34 := by
  intro e
  unfold isLet at h
  simp only [Bool.and_eq_true, decide_eq_true_eq] at h
  omega
set_option maxRecDepth 100000 in
set_option maxHeartbeats 6400000 in
theorem one_keyq (w : World) (hT : Tabs w) (u : Txt) (hL : ((46 : UInt8) :: 34 :: u).length ≤ 2000) : Calls Tryd.prog 38 #[.string ⟨((46 : UInt8) :: 34 :: u).toArray⟩] w (OnePost w ((46 : UInt8) :: 34 :: u)) := by
  have htk : tokL (46 :: 34 :: u) = quoTok 3 1 (34 :: u) := rfl
  have hs1 := ret_slice1 46 (34 :: u)
  have hsz : (⟨((46 : UInt8) :: 34 :: u).toArray⟩ : ByteArray).size = ((46 : UInt8) :: 34 :: u).length := size_mk _
  obtain ⟨s, hs⟩ : ∃ s, s = (46 : UInt8) :: 34 :: u := ⟨_, rfl⟩
  have hsl : s.length = u.length + 2 := by rw [hs]; rfl
  rw [← hs] at hsz hs1 hL htk ⊢
  have i0 := cbyte_in s 0 46 (by omega) (by simp only [hs]; rfl)
  have i1 := cbyte_in s 1 34 (by omega) (by simp only [hs]; rfl)
  obtain ⟨r, hr⟩ : ∃ r, r = (34 : UInt8) :: u := ⟨_, rfl⟩
  have hrl : r.length + 1 = s.length := by rw [hr, hs]; rfl
  rw [← hr] at hs1 htk
  have qh := fun W => hasp_any W r [34]
  have hhb : Lib.hasPrefix r [34] = true := by rw [has_quo, hr]; rfl
  simp only [hhb] at qh
  have qu := fun W (h : Tabs W) => unq_l W r (by omega) h
  have hul : (unq r).2.1 ≤ 100000 := by exact unq_len0 r (by omega)
  obtain ⟨U, hU⟩ : ∃ x, x = (unq r).1 := ⟨_, rfl⟩
  obtain ⟨M, hM⟩ : ∃ x, x = (unq r).2.1 := ⟨_, rfl⟩
  obtain ⟨E, hE⟩ : ∃ x, x = (unq r).2.2 := ⟨_, rfl⟩
  rw [← hM] at hul
  simp only [← hU, ← hM, ← hE] at qu
  have HU := hid (And.intro hU (And.intro hM hE))
  have HT := hid hT
  have h0 : (0 : Int) < (s.length : Int) := by omega
  have h1s : (1 : Int) ≤ (s.length : Int) := by omega
  have h1n : (1 : Int) < (s.length : Int) := by omega
  have b1 : decide ((1 : Int) < (s.length : Int)) = true := decide_eq_true h1n
  have b1n : decide (1 < s.length) = true := decide_eq_true (by omega)
  have Htk := hid htk
  clear hs hhb htk hr hsl hrl hU hM hE hT
  go_enter Tryd.func38, Tryd.ntmps38
  go_wp2_with fail
  (with_reducible refine (qh _).mono ?_)
  rintro e w2 ⟨rfl, rfl⟩
  clear qh
  go_wp2_with fail
  (with_reducible refine (qu _ (HT.out.kept ((Kp.refl [] w).alloc _))).mono ?_)
  rintro e w3 ⟨rfl, k3⟩
  have hc3 : Cells w3 w.heap.size 49 (tokC 3 0 [] false [] 0) := (Cells.fresh w 49 (tokC 3 0 [] false [] 0)).keep k3 (by simp)
  have HK := hid (((Kp.refl [] w).alloc _).nil k3)
  clear k3 qu
  obtain ⟨⟨c0, c1, c2, c3, c4, c5⟩, f0, f1, f2, f3, f4, f5⟩ := tok_cells hc3
  by_cases he : E = 0
  · have HO := hid (show OneIs s 3 U false [] 0 (1 + (M : Int)) from .inr ⟨3, none, 1 + M, by rw [Htk.out, quo_pos (HU.out.2.2.symm.trans he), HU.out.1, HU.out.2.1], rfl, by omega, rfl, rfl, rfl⟩)
    have be : (E != 0) = false := by rw [he]; rfl
    clear he
    go_wp2_with fail
    obtain ⟨⟨d0, d1, d2, d3, d4, d5⟩, -⟩ := tok_cells (show Cells _ w.heap.size 49 (tokC 3 0 U false [] 0) from (((((((hc3.put 2 (.string ⟨U.toArray⟩)).put 0 (.int .i64 3)).put 1 (.int .i64 0)).put 2 (.string ⟨(U : Txt).toArray⟩)).put 3 (.bool false)).put 4 (.string ⟨([] : Txt).toArray⟩)).put 5 (.int .i64 0)))
    exact bodyPost_ret (v := .tuple #[.agg (tokC 3 0 U false [] 0).toArray, .int .i64 (1 + (M : Int))]) (by simp [results, Tryd.results38, go_sem, tokC, d0, d1, d2, d3, d4, d5]) rfl ⟨3, U, false, [], 0, (1 + (M : Int)), rfl, HO.out, by repeat (first | (with_reducible exact HK.out) | with_reducible refine kp_tok (Nat.le_refl _) _ _ ?_)⟩
  · have HO := hid (show OneIs s 3 [] false [] 0 0 from .inl ⟨by rw [Htk.out, quo_neg (fun e => he (HU.out.2.2.trans e))], rfl⟩)
    have be : (E != 0) = true := by rw [bne_iff_ne]; exact he
    clear he
    go_wp2_with fail
    obtain ⟨⟨d0, d1, d2, d3, d4, d5⟩, -⟩ := tok_cells (show Cells _ w.heap.size 49 (tokC 3 0 [] false [] 0) from ((((((hc3.put 0 (.int .i64 3)).put 1 (.int .i64 0)).put 2 (.string ⟨([] : Txt).toArray⟩)).put 3 (.bool false)).put 4 (.string ⟨([] : Txt).toArray⟩)).put 5 (.int .i64 0)))
    exact bodyPost_ret (v := .tuple #[.agg (tokC 3 0 [] false [] 0).toArray, .int .i64 0]) (by simp [results, Tryd.results38, go_sem, tokC, d0, d1, d2, d3, d4, d5]) rfl ⟨3, [], false, [], 0, 0, rfl, HO.out, by repeat (first | (with_reducible exact HK.out) | with_reducible refine kp_tok (Nat.le_refl _) _ _ ?_)⟩
set_option maxRecDepth 100000 in
set_option maxHeartbeats 6400000 in
theorem one_quo (w : World) (hT : Tabs w) (u : Txt) (hL : ((34 : UInt8) :: u).length ≤ 2000) : Calls Tryd.prog 38 #[.string ⟨((34 : UInt8) :: u).toArray⟩] w (OnePost w ((34 : UInt8) :: u)) := by
  have htk : tokL (34 :: u) = quoTok 5 0 (34 :: u) := rfl
  have hsz : (⟨((34 : UInt8) :: u).toArray⟩ : ByteArray).size = ((34 : UInt8) :: u).length := size_mk _
  obtain ⟨s, hs⟩ : ∃ s, s = (34 : UInt8) :: u := ⟨_, rfl⟩
  have hsl : s.length = u.length + 1 := by rw [hs]; rfl
  rw [← hs] at hsz hL htk ⊢
  have i0 := cbyte_in s 0 34 (by omega) (by simp only [hs]; rfl)
  have hs1 := ret_slice0 s
  have qh := fun W => hasp_any W s [34]
  have hhb : Lib.hasPrefix s [34] = true := by rw [has_quo, hs]; rfl
  simp only [hhb] at qh
  have qu := fun W (h : Tabs W) => unq_l W s (by omega) h
  have hul : (unq s).2.1 ≤ 100000 := by exact unq_len0 s (by omega)
  obtain ⟨U, hU⟩ : ∃ x, x = (unq s).1 := ⟨_, rfl⟩
  obtain ⟨M, hM⟩ : ∃ x, x = (unq s).2.1 := ⟨_, rfl⟩
  obtain ⟨E, hE⟩ : ∃ x, x = (unq s).2.2 := ⟨_, rfl⟩
  rw [← hM] at hul
  simp only [← hU, ← hM, ← hE] at qu
  have HU := hid (And.intro hU (And.intro hM hE))
  have HT := hid hT
  have h0 : (0 : Int) < (s.length : Int) := by omega
  have h1s : (0 : Int) ≤ (s.length : Int) := by omega
  have Htk := hid htk
  clear hs hhb htk hsl hU hM hE hT
  go_enter Tryd.func38, Tryd.ntmps38
  go_wp2_with fail
  (with_reducible refine (qh _).mono ?_)
  rintro e w2 ⟨rfl, rfl⟩
  clear qh
  go_wp2_with fail
  (with_reducible refine (qu _ (HT.out.kept ((Kp.refl [] w).alloc _))).mono ?_)
  rintro e w3 ⟨rfl, k3⟩
  have hc3 : Cells w3 w.heap.size 49 (tokC 0 0 [] false [] 0) := (Cells.fresh w 49 (tokC 0 0 [] false [] 0)).keep k3 (by simp)
  have HK := hid (((Kp.refl [] w).alloc _).nil k3)
  clear k3 qu
  obtain ⟨⟨c0, c1, c2, c3, c4, c5⟩, f0, f1, f2, f3, f4, f5⟩ := tok_cells hc3
  by_cases he : E = 0
  · have HO := hid (show OneIs s 5 U false [] 0 (0 + (M : Int)) from .inr ⟨5, none, 0 + M, by rw [Htk.out, quo_pos (HU.out.2.2.symm.trans he), HU.out.1, HU.out.2.1], rfl, by omega, rfl, rfl, rfl⟩)
    have be : (E != 0) = false := by rw [he]; rfl
    clear he
    go_wp2_with fail
    obtain ⟨⟨d0, d1, d2, d3, d4, d5⟩, -⟩ := tok_cells (show Cells _ w.heap.size 49 (tokC 5 0 U false [] 0) from ((((((((hc3.put 0 (.int .i64 5)).put 2 (.string ⟨U.toArray⟩)).put 0 (.int .i64 5)).put 1 (.int .i64 0)).put 2 (.string ⟨(U : Txt).toArray⟩)).put 3 (.bool false)).put 4 (.string ⟨([] : Txt).toArray⟩)).put 5 (.int .i64 0)))
    exact bodyPost_ret (v := .tuple #[.agg (tokC 5 0 U false [] 0).toArray, .int .i64 (0 + (M : Int))]) (by simp [results, Tryd.results38, go_sem, tokC, d0, d1, d2, d3, d4, d5]) rfl ⟨5, U, false, [], 0, (0 + (M : Int)), rfl, HO.out, by repeat (first | (with_reducible exact HK.out) | with_reducible refine kp_tok (Nat.le_refl _) _ _ ?_)⟩
  · have HO := hid (show OneIs s 0 [] false [] 0 0 from .inl ⟨by rw [Htk.out, quo_neg (fun e => he (HU.out.2.2.trans e))], rfl⟩)
    have be : (E != 0) = true := by rw [bne_iff_ne]; exact he
    clear he
    go_wp2_with fail
    obtain ⟨⟨d0, d1, d2, d3, d4, d5⟩, -⟩ := tok_cells (show Cells _ w.heap.size 49 (tokC 0 0 [] false [] 0) from ((((((hc3.put 0 (.int .i64 0)).put 1 (.int .i64 0)).put 2 (.string ⟨([] : Txt).toArray⟩)).put 3 (.bool false)).put 4 (.string ⟨([] : Txt).toArray⟩)).put 5 (.int .i64 0)))
    exact bodyPost_ret (v := .tuple #[.agg (tokC 0 0 [] false [] 0).toArray, .int .i64 0]) (by simp [results, Tryd.results38, go_sem, tokC, d0, d1, d2, d3, d4, d5]) rfl ⟨0, [], false, [], 0, 0, rfl, HO.out, by repeat (first | (with_reducible exact HK.out) | with_reducible refine kp_tok (Nat.le_refl _) _ _ ?_)⟩
set_option maxRecDepth 100000 in
set_option maxHeartbeats 6400000 in
theorem one_keyn (w : World) (d : UInt8) (u : Txt) (hd : isLet d = true) (hL : ((46 : UInt8) :: d :: u).length ≤ 2000) : Calls Tryd.prog 38 #[.string ⟨((46 : UInt8) :: d :: u).toArray⟩] w (OnePost w ((46 : UInt8) :: d :: u)) := by
  have htk : tokL (46 :: d :: u) = nameTok 3 1 (d :: u) := by
    unfold tokL
    dsimp only
    rw [if_neg (by decide), if_pos ⟨rfl, hd⟩]
  have hs1 := ret_slice1 46 (d :: u)
  have hsz : (⟨((46 : UInt8) :: d :: u).toArray⟩ : ByteArray).size = ((46 : UInt8) :: d :: u).length := size_mk _
  obtain ⟨s, hs⟩ : ∃ s, s = (46 : UInt8) :: d :: u := ⟨_, rfl⟩
  have hsl : s.length = u.length + 2 := by rw [hs]; rfl
  rw [← hs] at hsz hs1 hL htk ⊢
  obtain ⟨md, hmd⟩ : ∃ m, m = d.toNat := ⟨_, rfl⟩
  have i0 := cbyte_in s 0 46 (by omega) (by simp only [hs]; rfl)
  have i1 := cbyte_in s 1 md (by omega) (by rw [hmd]; simp only [hs]; rfl)
  have hnq := ne_of_let hd
  rw [← hmd] at hnq
  have t1 : ((md : Int) == 34) = false := by rw [beq_eq_false_iff_ne]; omega
  have qi := fun W => idx_any W md
  have hix := idx_let d
  rw [← hmd] at hix
  obtain ⟨ix, hixd⟩ : ∃ x, x = Lib.indexByte letCs ((md : Int).toNat.toUInt8) := ⟨_, rfl⟩
  simp only [← hixd] at qi
  rw [← hixd] at hix
  rw [hd] at hix
  obtain ⟨r, hr⟩ : ∃ r, r = d :: u := ⟨_, rfl⟩
  have hrl : r.length + 1 = s.length := by rw [hr, hs]; rfl
  rw [← hr] at hs1 htk
  have qh := fun W => hasp_any W r [34]
  have hhb : Lib.hasPrefix r [34] = false := by rw [has_quo, hr]; show (d == 34) = false; rw [beq_eq_false_iff_ne]; exact fun e => hnq (by rw [hmd, e]; rfl)
  simp only [hhb] at qh
  have qw := fun W => word_any W r (by omega)
  obtain ⟨b, hb0⟩ : ∃ b, b = nameL (r.takeWhile nameC) := ⟨_, rfl⟩
  simp only [← hb0] at qw
  have HB := hid hb0
  have h0 : (0 : Int) < (s.length : Int) := by omega
  have h1s : (1 : Int) ≤ (s.length : Int) := by omega
  have h1n : (1 : Int) < (s.length : Int) := by omega
  have b1 : decide ((1 : Int) < (s.length : Int)) = true := decide_eq_true h1n
  have b1n : decide (1 < s.length) = true := decide_eq_true (by omega)
  have htl : r.length ≤ 100000 := by omega
  have Htk := hid htk
  clear hs hhb htk hr hsl hrl hb0 hnq hmd hd hixd
  go_enter Tryd.func38, Tryd.ntmps38
  go_wp2_with fail
  (with_reducible refine (qi _).mono ?_)
  rintro e w2 ⟨rfl, rfl⟩
  clear qi
  go_wp2_with fail
  (with_reducible refine (qh _).mono ?_)
  rintro e w2 ⟨rfl, rfl⟩
  clear qh
  go_wp2_with fail
  (with_reducible refine (qw _).mono ?_)
  rintro e w3 ⟨x, rfl, hx, k3⟩
  have hc3 : Cells w3 w.heap.size 49 (tokC 3 0 [] false [] 0) := (Cells.fresh w 49 (tokC 3 0 [] false [] 0)).keep k3 (by simp)
  have HK := hid (((Kp.refl [] w).alloc _).nil k3)
  clear k3 qw
  obtain ⟨⟨c0, c1, c2, c3, c4, c5⟩, f0, f1, f2, f3, f4, f5⟩ := tok_cells hc3
  cases b
  · have HO := hid (show OneIs s 3 [] false [] 0 0 from .inl ⟨by rw [Htk.out, name_neg HB.out.symm], rfl⟩)
    clear hx
    go_wp2_with fail
    obtain ⟨⟨d0, d1, d2, d3, d4, d5⟩, -⟩ := tok_cells (show Cells _ w.heap.size 49 (tokC 3 0 [] false [] 0) from ((((((hc3.put 0 (.int .i64 3)).put 1 (.int .i64 0)).put 2 (.string ⟨([] : Txt).toArray⟩)).put 3 (.bool false)).put 4 (.string ⟨([] : Txt).toArray⟩)).put 5 (.int .i64 0)))
    exact bodyPost_ret (v := .tuple #[.agg (tokC 3 0 [] false [] 0).toArray, .int .i64 0]) (by simp [results, Tryd.results38, go_sem, tokC, d0, d1, d2, d3, d4, d5]) rfl ⟨3, [], false, [], 0, 0, rfl, HO.out, by repeat (first | (with_reducible exact HK.out) | with_reducible refine kp_tok (Nat.le_refl _) _ _ ?_)⟩
  · have hxr := hx rfl
    obtain ⟨N, hN⟩ : ∃ N, N = x.length := ⟨_, rfl⟩
    have hxs : (⟨x.toArray⟩ : ByteArray).size = x.length := size_mk _
    have hxl : x.length ≤ 100000 := by rw [hxr]; have := tw_le nameC r; omega
    have HO := hid (show OneIs s 3 x false [] 0 (1 + (x.length : Int)) from .inr ⟨3, none, 1 + x.length, by rw [Htk.out, name_pos HB.out.symm, hxr], rfl, by omega, rfl, rfl, rfl⟩)
    clear hx hxr hN
    go_wp2_with fail
    obtain ⟨⟨d0, d1, d2, d3, d4, d5⟩, -⟩ := tok_cells (show Cells _ w.heap.size 49 (tokC 3 0 x false [] 0) from (((((((hc3.put 2 (.string ⟨x.toArray⟩)).put 0 (.int .i64 3)).put 1 (.int .i64 0)).put 2 (.string ⟨(x : Txt).toArray⟩)).put 3 (.bool false)).put 4 (.string ⟨([] : Txt).toArray⟩)).put 5 (.int .i64 0)))
    exact bodyPost_ret (v := .tuple #[.agg (tokC 3 0 x false [] 0).toArray, .int .i64 (1 + (x.length : Int))]) (by simp [results, Tryd.results38, go_sem, tokC, d0, d1, d2, d3, d4, d5]) rfl ⟨3, x, false, [], 0, (1 + (x.length : Int)), rfl, HO.out, by repeat (first | (with_reducible exact HK.out) | with_reducible refine kp_tok (Nat.le_refl _) _ _ ?_)⟩
set_option maxRecDepth 100000 in
set_option maxHeartbeats 6400000 in
theorem one_name (w : World) (c : UInt8) (t : Txt) (hc : isLet c = true) (hL : (c :: t).length ≤ 2000) : Calls Tryd.prog 38 #[.string ⟨(c :: t).toArray⟩] w (OnePost w (c :: t)) := by
  have hcl := let_ne hc
  have htk : tokL (c :: t) = nameTok 1 0 (c :: t) := by
    unfold tokL
    dsimp only
    rw [if_neg hcl.1, if_neg (fun h => hcl.2.1 h.1), if_neg (fun h => hcl.2.1 h.1), if_neg hcl.2.2, if_pos hc]
  have hsp : decide (0 < ((c :: t).takeWhile isLet).length) = true := by rw [span_pos]; exact hc
  have hhb : Lib.hasPrefix (c :: t) [34] = false := by rw [has_quo]; show (c == 34) = false; rw [beq_eq_false_iff_ne]; exact hcl.2.2
  have hsz : (⟨(c :: t).toArray⟩ : ByteArray).size = (c :: t).length := size_mk _
  obtain ⟨s, hs⟩ : ∃ s, s = c :: t := ⟨_, rfl⟩
  have hsl : s.length = t.length + 1 := by rw [hs]; rfl
  rw [← hs] at hsz hL htk hsp hhb ⊢
  obtain ⟨m, hm⟩ : ∃ m, m = c.toNat := ⟨_, rfl⟩
  have i0 := cbyte_in s 0 m (by omega) (by rw [hm]; simp only [hs]; rfl)
  have hm1 : 97 ≤ m ∧ m ≤ 122 := by
    unfold isLet at hc
    simp only [Bool.and_eq_true, decide_eq_true_eq] at hc
    omega
  have hm36 : ((m : Int) == 36) = false := by rw [beq_eq_false_iff_ne]; omega
  have hm46 : ((m : Int) == 46) = false := by rw [beq_eq_false_iff_ne]; omega
  have hs1 := ret_slice0 s
  have qh := fun W => hasp_any W s [34]
  simp only [hhb] at qh
  have qs := fun W => span_let W s (by omega)
  obtain ⟨n, hn⟩ : ∃ n, n = (s.takeWhile isLet).length := ⟨_, rfl⟩
  simp only [← hn] at qs
  rw [← hn] at hsp
  have hspi : decide ((0 : Int) < (n : Int)) = true := decide_eq_true (by have := of_decide_eq_true hsp; omega)
  have qw := fun W => word_any W s (by omega)
  obtain ⟨b, hb0⟩ : ∃ b, b = nameL (s.takeWhile nameC) := ⟨_, rfl⟩
  simp only [← hb0] at qw
  have HB := hid hb0
  have h0 : (0 : Int) < (s.length : Int) := by omega
  have h1s : (0 : Int) ≤ (s.length : Int) := by omega
  have htl : s.length ≤ 100000 := by omega
  have Htk := hid htk
  clear hs hhb htk hsl hb0 hm hc hcl hn
  go_enter Tryd.func38, Tryd.ntmps38
  go_wp2_with fail
  (with_reducible refine (qh _).mono ?_)
  rintro e w2 ⟨rfl, rfl⟩
  clear qh
  go_wp2_with fail
  (with_reducible refine (qs _).mono ?_)
  rintro e w9 ⟨rfl, k9⟩
  have hc9 : Cells w9 w.heap.size 49 (tokC 0 0 [] false [] 0) := (Cells.fresh w 49 (tokC 0 0 [] false [] 0)).keep k9 (by simp)
  have HK9 := hid (((Kp.refl [] w).alloc _).nil k9)
  obtain ⟨⟨c0, c1, c2, c3, c4, c5⟩, f0, f1, f2, f3, f4, f5⟩ := tok_cells hc9
  have Hc9 := hid hc9
  clear k9 qs hc9
  go_wp2_with fail
  clear c0 c1 c2 c3 c4 c5 f0 f1 f2 f3 f4 f5
  (with_reducible refine (qw _).mono ?_)
  rintro e w3 ⟨x, rfl, hx, k3⟩
  have hc3 : Cells w3 w.heap.size 49 (tokC 1 0 [] false [] 0) := (Hc9.out.put 0 (.int .i64 1)).keep k3 (by simp)
  have HK := hid ((kp_tok (Nat.le_refl _) _ _ HK9.out).nil k3)
  clear k3 qw
  obtain ⟨⟨c0, c1, c2, c3, c4, c5⟩, f0, f1, f2, f3, f4, f5⟩ := tok_cells hc3
  cases b
  · have HO := hid (show OneIs s 1 [] false [] 0 0 from .inl ⟨by rw [Htk.out, name_neg HB.out.symm], rfl⟩)
    clear hx
    go_wp2_with fail
    obtain ⟨⟨d0, d1, d2, d3, d4, d5⟩, -⟩ := tok_cells (show Cells _ w.heap.size 49 (tokC 1 0 [] false [] 0) from ((((((hc3.put 0 (.int .i64 1)).put 1 (.int .i64 0)).put 2 (.string ⟨([] : Txt).toArray⟩)).put 3 (.bool false)).put 4 (.string ⟨([] : Txt).toArray⟩)).put 5 (.int .i64 0)))
    exact bodyPost_ret (v := .tuple #[.agg (tokC 1 0 [] false [] 0).toArray, .int .i64 0]) (by simp [results, Tryd.results38, go_sem, tokC, d0, d1, d2, d3, d4, d5]) rfl ⟨1, [], false, [], 0, 0, rfl, HO.out, by repeat (first | (with_reducible exact HK.out) | with_reducible refine kp_tok (Nat.le_refl _) _ _ ?_)⟩
  · have hxr := hx rfl
    obtain ⟨N, hN⟩ : ∃ N, N = x.length := ⟨_, rfl⟩
    have hxs : (⟨x.toArray⟩ : ByteArray).size = x.length := size_mk _
    have hxl : x.length ≤ 100000 := by rw [hxr]; have := tw_le nameC s; omega
    have HO := hid (show OneIs s 1 x false [] 0 (0 + (x.length : Int)) from .inr ⟨1, none, 0 + x.length, by rw [Htk.out, name_pos HB.out.symm, hxr], rfl, by omega, rfl, rfl, rfl⟩)
    clear hx hxr hN
    go_wp2_with fail
    obtain ⟨⟨d0, d1, d2, d3, d4, d5⟩, -⟩ := tok_cells (show Cells _ w.heap.size 49 (tokC 1 0 x false [] 0) from (((((((hc3.put 2 (.string ⟨x.toArray⟩)).put 0 (.int .i64 1)).put 1 (.int .i64 0)).put 2 (.string ⟨(x : Txt).toArray⟩)).put 3 (.bool false)).put 4 (.string ⟨([] : Txt).toArray⟩)).put 5 (.int .i64 0)))
    exact bodyPost_ret (v := .tuple #[.agg (tokC 1 0 x false [] 0).toArray, .int .i64 (0 + (x.length : Int))]) (by simp [results, Tryd.results38, go_sem, tokC, d0, d1, d2, d3, d4, d5]) rfl ⟨1, x, false, [], 0, (0 + (x.length : Int)), rfl, HO.out, by repeat (first | (with_reducible exact HK.out) | with_reducible refine kp_tok (Nat.le_refl _) _ _ ?_)⟩
def pE (P : Option (Option Dc)) : Int := match P with | none => 4 | some none => 3 | some (some _) => 0
theorem parV_is (P : Option (Option Dc)) : parV P = .tuple #[.agg #[.bool (tN P.join), .string ⟨(tL P.join).toArray⟩, .int .i64 (tS P.join)], .int .i64 (pE P)] := by
  match P with
  | none => rfl
  | some none => rfl
  | some (some d) => rfl
theorem num_one (s : Txt) (n : Nat) (hn : n = (numT s).length) : (pE (parseL (numT s)) = 0 → numTok s = some (4, [], (parseL (numT s)).join, n)) ∧ (pE (parseL (numT s)) ≠ 0 → numTok s = none) := by
  unfold numTok
  cases hP : parseL (numT s) with
  | none => exact ⟨fun h => absurd h (by decide), fun _ => rfl⟩
  | some o =>
    cases o with
    | none => exact ⟨fun h => absurd h (by decide), fun _ => rfl⟩
    | some d => exact ⟨fun _ => by rw [hn]; rfl, fun h => absurd rfl h⟩
theorem parse_l (w : World) (L : Txt) (hL : L.length ≤ 100000) : Calls Tryd.prog 57 #[.string ⟨L.toArray⟩] w fun e w' => e = .returned (.tuple #[.agg #[.bool (tN (parseL L).join), .string ⟨(tL (parseL L).join).toArray⟩, .int .i64 (tS (parseL L).join)], .int .i64 (pE (parseL L))]) ∧ Kp [] w w' := by
  have h := parse_any w L hL
  unfold ParsePost at h
  rw [parV_is] at h
  exact h
set_option maxRecDepth 100000 in
set_option maxHeartbeats 6400000 in
theorem one_num (w : World) (c : UInt8) (t : Txt) (hc : isDig c = true) (hL : (c :: t).length ≤ 2000) : Calls Tryd.prog 38 #[.string ⟨(c :: t).toArray⟩] w (OnePost w (c :: t)) := by
  have hcl := dig_ne hc
  have htk : tokL (c :: t) = numTok (c :: t) := by
    unfold tokL
    dsimp only
    rw [if_neg hcl.1, if_neg (fun h => hcl.2.1 h.1), if_neg (fun h => hcl.2.1 h.1), if_neg hcl.2.2.1, if_neg (by rw [hcl.2.2.2]; simp), if_pos hc]
  have hhb : Lib.hasPrefix (c :: t) [34] = false := by rw [has_quo]; show (c == 34) = false; rw [beq_eq_false_iff_ne]; exact hcl.2.2.1
  have hsz : (⟨(c :: t).toArray⟩ : ByteArray).size = (c :: t).length := size_mk _
  obtain ⟨s, hs⟩ : ∃ s, s = c :: t := ⟨_, rfl⟩
  have hsl : s.length = t.length + 1 := by rw [hs]; rfl
  rw [← hs] at hL
  have qlet := fun W => span_let W s (by omega)
  have hslet := span_pos isLet c t
  obtain ⟨nlet, hnlet⟩ : ∃ n, n = ((c :: t).takeWhile isLet).length := ⟨_, rfl⟩
  rw [← hnlet, hcl.2.2.2] at hslet
  rw [← hs] at hnlet
  simp only [← hnlet] at qlet
  have hsleti : decide ((0 : Int) < (nlet : Int)) = _ := (decide_eq_decide.2 (by omega)).trans hslet
  have qdig := fun W => span_dig W s (by omega)
  have hsdig := span_pos isDig c t
  obtain ⟨ndig, hndig⟩ : ∃ n, n = ((c :: t).takeWhile isDig).length := ⟨_, rfl⟩
  rw [← hndig, hc] at hsdig
  rw [← hs] at hndig
  simp only [← hndig] at qdig
  have hsdigi : decide ((0 : Int) < (ndig : Int)) = _ := (decide_eq_decide.2 (by omega)).trans hsdig
  rw [← hs] at hsz htk hhb ⊢
  obtain ⟨m, hm⟩ : ∃ m, m = c.toNat := ⟨_, rfl⟩
  have i0 := cbyte_in s 0 m (by omega) (by rw [hm]; simp only [hs]; rfl)
  have hm1 : 48 ≤ m ∧ m ≤ 57 := by
    have := of_decide_eq_true hc
    unfold Dig at this
    omega
  have hm36 : ((m : Int) == 36) = false := by rw [beq_eq_false_iff_ne]; omega
  have hm46 : ((m : Int) == 46) = false := by rw [beq_eq_false_iff_ne]; omega
  have hs1 := ret_slice0 s
  have qh := fun W => hasp_any W s [34]
  simp only [hhb] at qh
  have qm := fun W => number_any W s (by omega)
  have hnt := num_take s
  have hnl := num_le s
  have hone := num_one s _ rfl
  have qp := fun W => parse_l W (numT s) (by omega)
  have hex := extract_mk s 0 (numT s).length
  rw [List.drop_zero, hnt] at hex
  obtain ⟨N, hN⟩ : ∃ n, n = (numT s).length := ⟨_, rfl⟩
  simp only [← hN] at qm hex hone hnl
  obtain ⟨X, hX⟩ : ∃ n, n = numT s := ⟨_, rfl⟩
  simp only [← hX] at qp hex hone
  obtain ⟨P, hP⟩ : ∃ n, n = parseL X := ⟨_, rfl⟩
  simp only [← hP] at qp hone
  obtain ⟨E, hE⟩ : ∃ n, n = pE P := ⟨_, rfl⟩
  obtain ⟨p1, hp1⟩ : ∃ n, n = tN P.join := ⟨_, rfl⟩
  obtain ⟨p2, hp2⟩ : ∃ n, n = tL P.join := ⟨_, rfl⟩
  obtain ⟨p3, hp3⟩ : ∃ n, n = tS P.join := ⟨_, rfl⟩
  simp only [← hE, ← hp1, ← hp2, ← hp3] at qp hone
  have HP := hid (And.intro hone (And.intro hp1 (And.intro hp2 hp3)))
  have h0 : (0 : Int) < (s.length : Int) := by omega
  have h1s : (0 : Int) ≤ (s.length : Int) := by omega
  have hNi : (N : Int) ≤ (s.length : Int) := by omega
  have Htk := hid htk
  clear hs hhb htk hsl hm hc hcl hnlet hndig hnt hone hN hX hP hE hp1 hp2 hp3
  go_enter Tryd.func38, Tryd.ntmps38
  go_wp2_with fail
  (with_reducible refine (qh _).mono ?_)
  rintro e w2 ⟨rfl, rfl⟩
  clear qh
  go_wp2_with fail
  (with_reducible refine (qlet _).mono ?_)
  rintro e w9 ⟨rfl, k9⟩
  have hc9 : Cells w9 w.heap.size 49 (tokC 0 0 [] false [] 0) := (Cells.fresh w 49 (tokC 0 0 [] false [] 0)).keep k9 (by simp)
  have HK9 := hid (((Kp.refl [] w).alloc _).nil k9)
  obtain ⟨⟨c0, c1, c2, c3, c4, c5⟩, f0, f1, f2, f3, f4, f5⟩ := tok_cells hc9
  have Hc9 := hid hc9
  clear k9 qlet hc9
  go_wp2_with fail
  clear c0 c1 c2 c3 c4 c5 f0 f1 f2 f3 f4 f5
  (with_reducible refine (qdig _).mono ?_)
  rintro e w10 ⟨rfl, k10⟩
  have Hc10 := hid (Hc9.out.keep k10 (by simp))
  have HK10 := hid (HK9.out.nil k10)
  clear k10 qdig
  go_wp2_with fail
  (with_reducible refine (qm _).mono ?_)
  rintro e w11 ⟨rfl, k11⟩
  have Hc11 := hid (Hc10.out.keep k11 (by simp))
  have HK11 := hid (HK10.out.nil k11)
  clear k11 qm
  go_wp2_with fail
  (with_reducible refine (qp _).mono ?_)
  rintro e w12 ⟨rfl, k12⟩
  have hc12 := hid ((Hc11.out.keep k12 (by simp)).alloc (.cells #[.bool p1, .string ⟨p2.toArray⟩, .int .i64 p3] 47))
  have HK12 := hid ((HK11.out.nil k12).alloc (.cells #[.bool p1, .string ⟨p2.toArray⟩, .int .i64 p3] 47))
  have hd12 := hid (Cells.fresh w12 47 [.bool p1, .string ⟨p2.toArray⟩, .int .i64 p3])
  clear k12 qp
  go_upto_region 26 with fail
  go_cut [112] (fun v wx => v = .bool (E != 0) ∧ Cells wx w.heap.size 49 (tokC 0 0 [] false [] 0) ∧ Cells wx w12.heap.size 47 [.bool p1, .string ⟨p2.toArray⟩, .int .i64 p3] ∧ Kp [] w wx)
  case first => as_aux_lemma =>
    go_wp2_with fail
    go_meet
    exact ⟨rfl, hc12.out, hd12.out, HK12.out⟩
  case rest w13 =>
  obtain ⟨rfl, hc3, hd3, hk13⟩ := hcut
  have HK := hid hk13
  have e0 := hd3.cell 0
  have e1 := hd3.cell 1
  have e2 := hd3.cell 2
  simp only [List.getElem?_cons_zero, List.getElem?_cons_succ] at e0 e1 e2
  clear hk13 hd3 hc12 HK12 hd12
  obtain ⟨⟨c0, c1, c2, c3, c4, c5⟩, f0, f1, f2, f3, f4, f5⟩ := tok_cells hc3
  by_cases he : E = 0
  · have HO := hid (show OneIs s 4 [] p1 p2 p3 (N : Int) from .inr ⟨4, P.join, N, by rw [Htk.out, HP.out.1.1 he], rfl, rfl, HP.out.2.1, HP.out.2.2.1, HP.out.2.2.2⟩)
    have be : (E != 0) = false := by rw [he]; rfl
    clear he
    go_wp2_with fail
    obtain ⟨⟨d0, d1, d2, d3, d4, d5⟩, -⟩ := tok_cells (show Cells _ w.heap.size 49 (tokC 4 0 [] p1 p2 p3) from ((((((hc3.put 0 (.int .i64 4)).put 1 (.int .i64 0)).put 2 (.string ⟨([] : Txt).toArray⟩)).put 3 (.bool p1)).put 4 (.string ⟨(p2 : Txt).toArray⟩)).put 5 (.int .i64 p3)))
    exact bodyPost_ret (v := .tuple #[.agg (tokC 4 0 [] p1 p2 p3).toArray, .int .i64 (N : Int)]) (by simp [results, Tryd.results38, go_sem, tokC, d0, d1, d2, d3, d4, d5]) rfl ⟨4, [], p1, p2, p3, (N : Int), rfl, HO.out, by repeat (first | (with_reducible exact HK.out) | with_reducible refine kp_tok (Nat.le_refl _) _ _ ?_)⟩
  · have HO := hid (show OneIs s 0 [] false [] 0 0 from .inl ⟨by rw [Htk.out, HP.out.1.2 he], rfl⟩)
    have be : (E != 0) = true := by rw [bne_iff_ne]; exact he
    clear he
    go_wp2_with fail
    obtain ⟨⟨d0, d1, d2, d3, d4, d5⟩, -⟩ := tok_cells (show Cells _ w.heap.size 49 (tokC 0 0 [] false [] 0) from ((((((hc3.put 0 (.int .i64 0)).put 1 (.int .i64 0)).put 2 (.string ⟨([] : Txt).toArray⟩)).put 3 (.bool false)).put 4 (.string ⟨([] : Txt).toArray⟩)).put 5 (.int .i64 0)))
    exact bodyPost_ret (v := .tuple #[.agg (tokC 0 0 [] false [] 0).toArray, .int .i64 0]) (by simp [results, Tryd.results38, go_sem, tokC, d0, d1, d2, d3, d4, d5]) rfl ⟨0, [], false, [], 0, 0, rfl, HO.out, by repeat (first | (with_reducible exact HK.out) | with_reducible refine kp_tok (Nat.le_refl _) _ _ ?_)⟩
end Go.Proofs.YtgjffkblhhkjmaaDoor
