/- Layer 10: one token: a sign; and all together. -/
import Derived.Test.YtgjffkblhhkjmaaDoorLOne
namespace Go.Proofs.YtgjffkblhhkjmaaDoor
open Go Go.RowKit Go.Lib

set_option maxRecDepth 100000 in
set_option maxHeartbeats 6400000 in
theorem one_sgn (w : World) (c : UInt8) (t : Txt) (h46 : c ≠ 46) (hL : (c :: t).length ≤ 2000) (h36 : c ≠ 36) (hq : c ≠ 34) (hl : isLet c = false) (hg : isDig c = false) : Calls Tryd.prog 38 #[.string ⟨(c :: t).toArray⟩] w (OnePost w (c :: t)) := by
  have htk : tokL (c :: t) = sigTok (c :: t) := by
    unfold tokL
    dsimp only
    rw [if_neg h36, if_neg (fun h => h46 h.1), if_neg (fun h => h46 h.1), if_neg hq, if_neg (by rw [hl]; simp), if_neg (by rw [hg]; simp)]
  have hhb : Lib.hasPrefix (c :: t) [34] = false := by rw [has_quo]; show (c == 34) = false; rw [beq_eq_false_iff_ne]; exact hq
  have hsz : (⟨(c :: t).toArray⟩ : ByteArray).size = (c :: t).length := size_mk _
  obtain ⟨s, hs⟩ : ∃ s, s = c :: t := ⟨_, rfl⟩
  have hsl : 0 < s.length := by rw [hs]; simp
  rw [← hs] at hL
  have qlet := fun W => span_let W s (by omega)
  have hslet := span_pos isLet c (t)
  obtain ⟨nlet, hnlet⟩ : ∃ n, n = ((c :: t).takeWhile isLet).length := ⟨_, rfl⟩
  rw [← hnlet, hl] at hslet
  rw [← hs] at hnlet
  simp only [← hnlet] at qlet
  have hsleti : decide ((0 : Int) < (nlet : Int)) = _ := (decide_eq_decide.2 (by omega)).trans hslet
  have qdig := fun W => span_dig W s (by omega)
  have hsdig := span_pos isDig c (t)
  obtain ⟨ndig, hndig⟩ : ∃ n, n = ((c :: t).takeWhile isDig).length := ⟨_, rfl⟩
  rw [← hndig, hg] at hsdig
  rw [← hs] at hndig
  simp only [← hndig] at qdig
  have hsdigi : decide ((0 : Int) < (ndig : Int)) = _ := (decide_eq_decide.2 (by omega)).trans hsdig
  rw [← hs] at hsz htk hhb ⊢
  obtain ⟨m, hm⟩ : ∃ m, m = c.toNat := ⟨_, rfl⟩
  have i0 := cbyte_in s 0 m (by omega) (by rw [hm]; simp only [hs]; rfl)
  have hm9 : m < 256 := by rw [hm]; exact UInt8.toNat_lt _
  have hm36 : ((m : Int) == 36) = false := by
    rw [beq_eq_false_iff_ne]
    exact fun e => h36 (UInt8.toNat_inj.1 (by rw [← hm]; exact Int.ofNat.inj e))
  have hm46 : ((m : Int) == 46) = false := by
    rw [beq_eq_false_iff_ne]
    exact fun e => h46 (UInt8.toNat_inj.1 (by rw [← hm]; exact Int.ofNat.inj e))
  clear h46
  have hs1 := ret_slice0 s
  have qh := fun W => hasp_any W s [34]
  simp only [hhb] at qh
  have qx := fun W => sign_any W s (by omega)
  have hxl := sign_le s
  have hsig : sigTok s = if signX s = [] then none else some (6, signX s, none, (signX s).length) := rfl
  obtain ⟨x, hx⟩ : ∃ x, x = signX s := ⟨_, rfl⟩
  simp only [← hx] at qx hsig hxl
  have hxs : (⟨x.toArray⟩ : ByteArray).size = x.length := size_mk _
  have HO := hid (show OneIs s 6 x false [] 0 (x.length : Int) by
    rw [hsig] at htk
    by_cases h : x = []
    · rw [if_pos h] at htk
      exact .inl ⟨htk, by rw [h]; rfl⟩
    · rw [if_neg h] at htk
      exact .inr ⟨6, none, x.length, htk, rfl, rfl, rfl, rfl, rfl⟩)
  have h0 : (0 : Int) < (s.length : Int) := by omega
  have h1s : (0 : Int) ≤ (s.length : Int) := by omega
  clear hs hhb htk hsig hm hl hg hq h36 hnlet hndig hx
  go_enter Tryd.func38, Tryd.ntmps38
  go_wp2_with fail
  (with_reducible refine (qh _).mono ?_)
  rintro e w2 ⟨rfl, rfl⟩
  clear qh
  go_wp2_with fail
  (with_reducible refine (qlet _).mono ?_)
  rintro e w9 ⟨rfl, k9⟩
  have hc9 : Cells w9 w.heap.size 49 (tokC 0 0 [] false [] 0) := (Cells.fresh w 49 (tokC 0 0 [] false [] 0)).keep k9 (by simp)
  have HK9 := hid (((Kp.refl [] w).alloc _).nil k9)
  obtain ⟨⟨c0, c1, c2, c3, c4, c5⟩, f0, f1, f2, f3, f4, f5⟩ := tok_cells hc9
  have Hc9 := hid hc9
  clear k9 qlet hc9
  go_wp2_with fail
  clear c0 c1 c2 c3 c4 c5 f0 f1 f2 f3 f4 f5
  (with_reducible refine (qdig _).mono ?_)
  rintro e w10 ⟨rfl, k10⟩
  have Hc10 := hid (Hc9.out.keep k10 (by simp))
  have HK10 := hid (HK9.out.nil k10)
  clear k10 qdig
  go_upto_region 29 with fail
  go_cut [118] (fun v wx => v = .string ⟨x.toArray⟩ ∧ Cells wx w.heap.size 49 (tokC 6 0 x false [] 0) ∧ Kp [] w wx)
  case first => as_aux_lemma =>
    go_wp2_with fail
    (with_reducible refine (qx _).mono ?_)
    rintro e w11 ⟨rfl, k11⟩
    have hc3 := Hc10.out.keep k11 (by simp)
    have HK := hid (HK10.out.nil k11)
    clear k11 qx
    obtain ⟨⟨c0, c1, c2, c3, c4, c5⟩, f0, f1, f2, f3, f4, f5⟩ := tok_cells hc3
    go_wp2_with fail
    go_meet
    exact ⟨rfl, (((((hc3.put 0 (.int .i64 6)).put 1 (.int .i64 0)).put 2 (.string ⟨x.toArray⟩)).put 3 (.bool false)).put 4 (.string ⟨([] : Txt).toArray⟩)).put 5 (.int .i64 0), by repeat (first | (with_reducible exact HK.out) | with_reducible refine kp_tok (Nat.le_refl _) _ _ ?_)⟩
  case rest w12 =>
  obtain ⟨rfl, hc3, hk12⟩ := hcut
  have HK := hid hk12
  clear hk12
  obtain ⟨⟨c0, c1, c2, c3, c4, c5⟩, f0, f1, f2, f3, f4, f5⟩ := tok_cells hc3
  go_wp2_with fail
  obtain ⟨⟨d0, d1, d2, d3, d4, d5⟩, -⟩ := tok_cells (show Cells _ w.heap.size 49 (tokC 6 0 x false [] 0) from ((((((hc3.put 0 (.int .i64 6)).put 1 (.int .i64 0)).put 2 (.string ⟨(x : Txt).toArray⟩)).put 3 (.bool false)).put 4 (.string ⟨([] : Txt).toArray⟩)).put 5 (.int .i64 0)))
  exact bodyPost_ret (v := .tuple #[.agg (tokC 6 0 x false [] 0).toArray, .int .i64 (x.length : Int)]) (by simp [results, Tryd.results38, go_sem, tokC, d0, d1, d2, d3, d4, d5]) rfl ⟨6, x, false, [], 0, (x.length : Int), rfl, HO.out, by repeat (first | (with_reducible exact HK.out) | with_reducible refine kp_tok (Nat.le_refl _) _ _ ?_)⟩
set_option maxRecDepth 100000 in
set_option maxHeartbeats 6400000 in
theorem one_dot (w : World) (c : UInt8) (h46 : c = 46) (hL : (c :: []).length ≤ 2000) (h36 : c ≠ 36) (hq : c ≠ 34) (hl : isLet c = false) (hg : isDig c = false) : Calls Tryd.prog 38 #[.string ⟨(c :: []).toArray⟩] w (OnePost w (c :: [])) := by
  have htk : tokL (c :: []) = sigTok (c :: []) := by
    unfold tokL
    dsimp only
    rw [if_neg h36, if_neg (by simp [headLet]), if_neg (by simp [headIs]), if_neg hq, if_neg (by rw [hl]; simp), if_neg (by rw [hg]; simp)]
  have hhb : Lib.hasPrefix (c :: []) [34] = false := by rw [has_quo]; show (c == 34) = false; rw [beq_eq_false_iff_ne]; exact hq
  have hsz : (⟨(c :: []).toArray⟩ : ByteArray).size = (c :: []).length := size_mk _
  obtain ⟨s, hs⟩ : ∃ s, s = c :: [] := ⟨_, rfl⟩
  have hsl : 0 < s.length := by rw [hs]; simp
  rw [← hs] at hL
  have qlet := fun W => span_let W s (by omega)
  have hslet := span_pos isLet c ([])
  obtain ⟨nlet, hnlet⟩ : ∃ n, n = ((c :: []).takeWhile isLet).length := ⟨_, rfl⟩
  rw [← hnlet, hl] at hslet
  rw [← hs] at hnlet
  simp only [← hnlet] at qlet
  have hsleti : decide ((0 : Int) < (nlet : Int)) = _ := (decide_eq_decide.2 (by omega)).trans hslet
  have qdig := fun W => span_dig W s (by omega)
  have hsdig := span_pos isDig c ([])
  obtain ⟨ndig, hndig⟩ : ∃ n, n = ((c :: []).takeWhile isDig).length := ⟨_, rfl⟩
  rw [← hndig, hg] at hsdig
  rw [← hs] at hndig
  simp only [← hndig] at qdig
  have hsdigi : decide ((0 : Int) < (ndig : Int)) = _ := (decide_eq_decide.2 (by omega)).trans hsdig
  rw [← hs] at hsz htk hhb ⊢
  obtain ⟨m, hm⟩ : ∃ m, m = c.toNat := ⟨_, rfl⟩
  have i0 := cbyte_in s 0 m (by omega) (by rw [hm]; simp only [hs]; rfl)
  have hm9 : m < 256 := by rw [hm]; exact UInt8.toNat_lt _
  have hm36 : ((m : Int) == 36) = false := by
    rw [beq_eq_false_iff_ne]
    exact fun e => h36 (UInt8.toNat_inj.1 (by rw [← hm]; exact Int.ofNat.inj e))
  have hm46 : ((m : Int) == 46) = true := by rw [hm, h46]; rfl
  have b1 : decide ((1 : Int) < (s.length : Int)) = false := by rw [hs]; rfl
  have b1n : decide (1 < s.length) = false := by rw [hs]; rfl
  clear h46
  have hs1 := ret_slice0 s
  have qh := fun W => hasp_any W s [34]
  simp only [hhb] at qh
  have qx := fun W => sign_any W s (by omega)
  have hxl := sign_le s
  have hsig : sigTok s = if signX s = [] then none else some (6, signX s, none, (signX s).length) := rfl
  obtain ⟨x, hx⟩ : ∃ x, x = signX s := ⟨_, rfl⟩
  simp only [← hx] at qx hsig hxl
  have hxs : (⟨x.toArray⟩ : ByteArray).size = x.length := size_mk _
  have HO := hid (show OneIs s 6 x false [] 0 (x.length : Int) by
    rw [hsig] at htk
    by_cases h : x = []
    · rw [if_pos h] at htk
      exact .inl ⟨htk, by rw [h]; rfl⟩
    · rw [if_neg h] at htk
      exact .inr ⟨6, none, x.length, htk, rfl, rfl, rfl, rfl, rfl⟩)
  have h0 : (0 : Int) < (s.length : Int) := by omega
  have h1s : (0 : Int) ≤ (s.length : Int) := by omega
  clear hs hhb htk hsig hm hl hg hq h36 hnlet hndig hx
  go_enter Tryd.func38, Tryd.ntmps38
  go_wp2_with fail
  (with_reducible refine (qh _).mono ?_)
  rintro e w2 ⟨rfl, rfl⟩
  clear qh
  go_wp2_with fail
  (with_reducible refine (qlet _).mono ?_)
  rintro e w9 ⟨rfl, k9⟩
  have hc9 : Cells w9 w.heap.size 49 (tokC 0 0 [] false [] 0) := (Cells.fresh w 49 (tokC 0 0 [] false [] 0)).keep k9 (by simp)
  have HK9 := hid (((Kp.refl [] w).alloc _).nil k9)
  obtain ⟨⟨c0, c1, c2, c3, c4, c5⟩, f0, f1, f2, f3, f4, f5⟩ := tok_cells hc9
  have Hc9 := hid hc9
  clear k9 qlet hc9
  go_wp2_with fail
  clear c0 c1 c2 c3 c4 c5 f0 f1 f2 f3 f4 f5
  (with_reducible refine (qdig _).mono ?_)
  rintro e w10 ⟨rfl, k10⟩
  have Hc10 := hid (Hc9.out.keep k10 (by simp))
  have HK10 := hid (HK9.out.nil k10)
  clear k10 qdig
  go_upto_region 29 with fail
  go_cut [118] (fun v wx => v = .string ⟨x.toArray⟩ ∧ Cells wx w.heap.size 49 (tokC 6 0 x false [] 0) ∧ Kp [] w wx)
  case first => as_aux_lemma =>
    go_wp2_with fail
    (with_reducible refine (qx _).mono ?_)
    rintro e w11 ⟨rfl, k11⟩
    have hc3 := Hc10.out.keep k11 (by simp)
    have HK := hid (HK10.out.nil k11)
    clear k11 qx
    obtain ⟨⟨c0, c1, c2, c3, c4, c5⟩, f0, f1, f2, f3, f4, f5⟩ := tok_cells hc3
    go_wp2_with fail
    go_meet
    exact ⟨rfl, (((((hc3.put 0 (.int .i64 6)).put 1 (.int .i64 0)).put 2 (.string ⟨x.toArray⟩)).put 3 (.bool false)).put 4 (.string ⟨([] : Txt).toArray⟩)).put 5 (.int .i64 0), by repeat (first | (with_reducible exact HK.out) | with_reducible refine kp_tok (Nat.le_refl _) _ _ ?_)⟩
  case rest w12 =>
  obtain ⟨rfl, hc3, hk12⟩ := hcut
  have HK := hid hk12
  clear hk12
  obtain ⟨⟨c0, c1, c2, c3, c4, c5⟩, f0, f1, f2, f3, f4, f5⟩ := tok_cells hc3
  go_wp2_with fail
  obtain ⟨⟨d0, d1, d2, d3, d4, d5⟩, -⟩ := tok_cells (show Cells _ w.heap.size 49 (tokC 6 0 x false [] 0) from ((((((hc3.put 0 (.int .i64 6)).put 1 (.int .i64 0)).put 2 (.string ⟨(x : Txt).toArray⟩)).put 3 (.bool false)).put 4 (.string ⟨([] : Txt).toArray⟩)).put 5 (.int .i64 0)))
  exact bodyPost_ret (v := .tuple #[.agg (tokC 6 0 x false [] 0).toArray, .int .i64 (x.length : Int)]) (by simp [results, Tryd.results38, go_sem, tokC, d0, d1, d2, d3, d4, d5]) rfl ⟨6, x, false, [], 0, (x.length : Int), rfl, HO.out, by repeat (first | (with_reducible exact HK.out) | with_reducible refine kp_tok (Nat.le_refl _) _ _ ?_)⟩
set_option maxRecDepth 100000 in
set_option maxHeartbeats 6400000 in
theorem one_dots (w : World) (c d : UInt8) (u : Txt) (h46 : c = 46) (hdl : isLet d = false) (hdq : d ≠ 34) (hL : (c :: d :: u).length ≤ 2000) (h36 : c ≠ 36) (hq : c ≠ 34) (hl : isLet c = false) (hg : isDig c = false) : Calls Tryd.prog 38 #[.string ⟨(c :: d :: u).toArray⟩] w (OnePost w (c :: d :: u)) := by
  have htk : tokL (c :: d :: u) = sigTok (c :: d :: u) := by
    unfold tokL
    dsimp only
    rw [if_neg h36, if_neg (fun h => by have h2 : isLet d = true := h.2; rw [hdl] at h2; cases h2), if_neg (fun h => hdq (by have h2 : (d == 34) = true := h.2; exact eq_of_beq h2)), if_neg hq, if_neg (by rw [hl]; simp), if_neg (by rw [hg]; simp)]
  have hhb : Lib.hasPrefix (c :: d :: u) [34] = false := by rw [has_quo]; show (c == 34) = false; rw [beq_eq_false_iff_ne]; exact hq
  have hsz : (⟨(c :: d :: u).toArray⟩ : ByteArray).size = (c :: d :: u).length := size_mk _
  obtain ⟨s, hs⟩ : ∃ s, s = c :: d :: u := ⟨_, rfl⟩
  have hsl : 0 < s.length := by rw [hs]; simp
  rw [← hs] at hL
  have qlet := fun W => span_let W s (by omega)
  have hslet := span_pos isLet c (d :: u)
  obtain ⟨nlet, hnlet⟩ : ∃ n, n = ((c :: d :: u).takeWhile isLet).length := ⟨_, rfl⟩
  rw [← hnlet, hl] at hslet
  rw [← hs] at hnlet
  simp only [← hnlet] at qlet
  have hsleti : decide ((0 : Int) < (nlet : Int)) = _ := (decide_eq_decide.2 (by omega)).trans hslet
  have qdig := fun W => span_dig W s (by omega)
  have hsdig := span_pos isDig c (d :: u)
  obtain ⟨ndig, hndig⟩ : ∃ n, n = ((c :: d :: u).takeWhile isDig).length := ⟨_, rfl⟩
  rw [← hndig, hg] at hsdig
  rw [← hs] at hndig
  simp only [← hndig] at qdig
  have hsdigi : decide ((0 : Int) < (ndig : Int)) = _ := (decide_eq_decide.2 (by omega)).trans hsdig
  rw [← hs] at hsz htk hhb ⊢
  obtain ⟨m, hm⟩ : ∃ m, m = c.toNat := ⟨_, rfl⟩
  have i0 := cbyte_in s 0 m (by omega) (by rw [hm]; simp only [hs]; rfl)
  have hm9 : m < 256 := by rw [hm]; exact UInt8.toNat_lt _
  have hm36 : ((m : Int) == 36) = false := by
    rw [beq_eq_false_iff_ne]
    exact fun e => h36 (UInt8.toNat_inj.1 (by rw [← hm]; exact Int.ofNat.inj e))
  have hm46 : ((m : Int) == 46) = true := by rw [hm, h46]; rfl
  have hs2l : 1 < s.length := by rw [hs]; simp
  have b1 : decide ((1 : Int) < (s.length : Int)) = true := decide_eq_true (by omega)
  have b1n : decide (1 < s.length) = true := decide_eq_true hs2l
  obtain ⟨md, hmd⟩ : ∃ m, m = d.toNat := ⟨_, rfl⟩
  have i1 := cbyte_in s 1 md hs2l (by rw [hmd]; simp only [hs]; rfl)
  have t1 : ((md : Int) == 34) = false := by
    rw [beq_eq_false_iff_ne]
    exact fun e => hdq (UInt8.toNat_inj.1 (by rw [← hmd]; exact Int.ofNat.inj e))
  have qi := fun W => idx_any W md
  have hix := idx_let d
  rw [← hmd] at hix
  obtain ⟨ix, hixd⟩ : ∃ x, x = Lib.indexByte letCs ((md : Int).toNat.toUInt8) := ⟨_, rfl⟩
  simp only [← hixd] at qi
  rw [← hixd] at hix
  rw [hdl] at hix
  have h1n : (1 : Int) < (s.length : Int) := by omega
  clear h46 hdl hdq hmd hixd
  have hs1 := ret_slice0 s
  have qh := fun W => hasp_any W s [34]
  simp only [hhb] at qh
  have qx := fun W => sign_any W s (by omega)
  have hxl := sign_le s
  have hsig : sigTok s = if signX s = [] then none else some (6, signX s, none, (signX s).length) := rfl
  obtain ⟨x, hx⟩ : ∃ x, x = signX s := ⟨_, rfl⟩
  simp only [← hx] at qx hsig hxl
  have hxs : (⟨x.toArray⟩ : ByteArray).size = x.length := size_mk _
  have HO := hid (show OneIs s 6 x false [] 0 (x.length : Int) by
    rw [hsig] at htk
    by_cases h : x = []
    · rw [if_pos h] at htk
      exact .inl ⟨htk, by rw [h]; rfl⟩
    · rw [if_neg h] at htk
      exact .inr ⟨6, none, x.length, htk, rfl, rfl, rfl, rfl, rfl⟩)
  have h0 : (0 : Int) < (s.length : Int) := by omega
  have h1s : (0 : Int) ≤ (s.length : Int) := by omega
  clear hs hhb htk hsig hm hl hg hq h36 hnlet hndig hx
  go_enter Tryd.func38, Tryd.ntmps38
  go_wp2_with fail
  (with_reducible refine (qi _).mono ?_)
  rintro e w2 ⟨rfl, rfl⟩
  clear qi
  go_wp2_with fail
  (with_reducible refine (qh _).mono ?_)
  rintro e w2 ⟨rfl, rfl⟩
  clear qh
  go_wp2_with fail
  (with_reducible refine (qlet _).mono ?_)
  rintro e w9 ⟨rfl, k9⟩
  have hc9 : Cells w9 w.heap.size 49 (tokC 0 0 [] false [] 0) := (Cells.fresh w 49 (tokC 0 0 [] false [] 0)).keep k9 (by simp)
  have HK9 := hid (((Kp.refl [] w).alloc _).nil k9)
  obtain ⟨⟨c0, c1, c2, c3, c4, c5⟩, f0, f1, f2, f3, f4, f5⟩ := tok_cells hc9
  have Hc9 := hid hc9
  clear k9 qlet hc9
  go_wp2_with fail
  clear c0 c1 c2 c3 c4 c5 f0 f1 f2 f3 f4 f5
  (with_reducible refine (qdig _).mono ?_)
  rintro e w10 ⟨rfl, k10⟩
  have Hc10 := hid (Hc9.out.keep k10 (by simp))
  have HK10 := hid (HK9.out.nil k10)
  clear k10 qdig
  go_upto_region 29 with fail
  go_cut [118] (fun v wx => v = .string ⟨x.toArray⟩ ∧ Cells wx w.heap.size 49 (tokC 6 0 x false [] 0) ∧ Kp [] w wx)
  case first => as_aux_lemma =>
    go_wp2_with fail
    (with_reducible refine (qx _).mono ?_)
    rintro e w11 ⟨rfl, k11⟩
    have hc3 := Hc10.out.keep k11 (by simp)
    have HK := hid (HK10.out.nil k11)
    clear k11 qx
    obtain ⟨⟨c0, c1, c2, c3, c4, c5⟩, f0, f1, f2, f3, f4, f5⟩ := tok_cells hc3
    go_wp2_with fail
    go_meet
    exact ⟨rfl, (((((hc3.put 0 (.int .i64 6)).put 1 (.int .i64 0)).put 2 (.string ⟨x.toArray⟩)).put 3 (.bool false)).put 4 (.string ⟨([] : Txt).toArray⟩)).put 5 (.int .i64 0), by repeat (first | (with_reducible exact HK.out) | with_reducible refine kp_tok (Nat.le_refl _) _ _ ?_)⟩
  case rest w12 =>
  obtain ⟨rfl, hc3, hk12⟩ := hcut
  have HK := hid hk12
  clear hk12
  obtain ⟨⟨c0, c1, c2, c3, c4, c5⟩, f0, f1, f2, f3, f4, f5⟩ := tok_cells hc3
  go_wp2_with fail
  obtain ⟨⟨d0, d1, d2, d3, d4, d5⟩, -⟩ := tok_cells (show Cells _ w.heap.size 49 (tokC 6 0 x false [] 0) from ((((((hc3.put 0 (.int .i64 6)).put 1 (.int .i64 0)).put 2 (.string ⟨(x : Txt).toArray⟩)).put 3 (.bool false)).put 4 (.string ⟨([] : Txt).toArray⟩)).put 5 (.int .i64 0)))
  exact bodyPost_ret (v := .tuple #[.agg (tokC 6 0 x false [] 0).toArray, .int .i64 (x.length : Int)]) (by simp [results, Tryd.results38, go_sem, tokC, d0, d1, d2, d3, d4, d5]) rfl ⟨6, x, false, [], 0, (x.length : Int), rfl, HO.out, by repeat (first | (with_reducible exact HK.out) | with_reducible refine kp_tok (Nat.le_refl _) _ _ ?_)⟩
theorem one_any (w : World) (s : Txt) (hs : s ≠ []) (hL : s.length ≤ 2000) (hT : Tabs w) : Calls Tryd.prog 38 #[.string ⟨s.toArray⟩] w (OnePost w s) := by
  match s, hs with
  | c :: t, _ =>
    by_cases h36 : c = 36
    · subst h36; exact one_var w t (by omega)
    by_cases hq : c = 34
    · subst hq; exact one_quo w hT t hL
    cases hl : isLet c with
    | true => exact one_name w c t hl hL
    | false =>
      cases hg : isDig c with
      | true => exact one_num w c t hg hL
      | false =>
        by_cases h46 : c = 46
        · match t with
          | [] => exact one_dot w c h46 hL h36 hq hl hg
          | d :: u =>
            by_cases hdq : d = 34
            · subst h46 hdq; exact one_keyq w hT u hL
            · cases hdl : isLet d with
              | true => subst h46; exact one_keyn w d u hdl hL
              | false => exact one_dots w c d u h46 hdl hdq hL h36 hq hl hg
        · exact one_sgn w c t h46 hL h36 hq hl hg
end Go.Proofs.YtgjffkblhhkjmaaDoor
