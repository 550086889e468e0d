/- whole, near, Floor, Ceil, Round of layer 2. -/
import Derived.Test.YtampgimmodomoaaDoorDDiv
import Derived.Test.YtampgimmodomoaaDoorDRSub
import Derived.Test.YtampgimmodomoaaDoorDPlain
namespace Go.Proofs.YtampgimmodomoaaDoor
open Go Go.RowKit Go.Lib

theorem index_none : ∀ (l : List UInt8), (46 : UInt8) ∉ l → indexByte l 46 = -1
  | [], _ => rfl
  | b :: l, h => by
    have hb : (b == 46) = false := by rw [beq_eq_false_iff_ne]; intro e; exact h (by simp [e])
    unfold indexByte
    rw [hb, index_none l (fun hm => h (by simp [hm]))]
    rfl
theorem index_at : ∀ (A t : List UInt8), (46 : UInt8) ∉ A → indexByte (A ++ 46 :: t) 46 = (A.length : Int)
  | [], _, _ => rfl
  | b :: A, t, h => by
    have hb : (b == 46) = false := by rw [beq_eq_false_iff_ne]; intro e; exact h (by simp [e])
    have ih := index_at A t (fun hm => h (by simp [hm]))
    show indexByte (b :: (A ++ 46 :: t)) 46 = _
    unfold indexByte
    rw [hb, ih]
    have : ((A.length : Int) == -1) = false := by rw [beq_eq_false_iff_ne]; omega
    rw [this]
    simp
def WholePost (w : World) (d : Dc) (e : Ending) (w' : World) : Prop := e = .returned (.tuple #[.agg #[.bool (wholeD d).neg, .string ⟨(dtxt (wholeD d).n).toArray⟩, .int .i64 ((wholeD d).s : Int)], .int .u8 ((48 + tenthD d : Nat) : Int)]) ∧ Kp [] w w'
set_option maxRecDepth 100000 in
set_option maxHeartbeats 6400000 in
theorem whole_any (w : World) (d : Dc) (hd : Ok d) : Calls Tryd.prog 84 #[.agg #[.bool d.neg, .string ⟨(dtxt d.n).toArray⟩, .int .i64 (d.s : Int)]] w (WholePost w d) := by
  have qp := fun W => print_ok hd W
  have hpl := print_len hd
  obtain ⟨G, hG⟩ : ∃ G, G = printL d := ⟨_, rfl⟩
  rw [← hG] at qp hpl
  have qi := fun W => Tryd.strings_IndexByte ⟨G.toArray⟩ 46 W
  have e46 : (46 : Int).toNat.toUInt8 = 46 := rfl
  rw [e46] at qi
  have hGs : (⟨G.toArray⟩ : ByteArray).size = G.length := size_mk _
  have HRm : Hid (Room (w.heap.size + 1) ((w.alloc (.cells #[.bool d.neg, .string ⟨(dtxt d.n).toArray⟩, .int .i64 (d.s : Int)] 23)).alloc (.cells #[.bool false, .string ⟨#[]⟩, .int .i64 0] 23))) := hid ⟨_, Cells.fresh1 w _ 23 [.bool false, .string ⟨#[]⟩, .int .i64 0], rfl⟩
  have HC := hid ((Cells.fresh w 23 [.bool d.neg, .string ⟨(dtxt d.n).toArray⟩, .int .i64 (d.s : Int)]).alloc (.cells #[.bool false, .string ⟨#[]⟩, .int .i64 0] 23))
  have HK := hid (((Kp.refl [] w).alloc (.cells #[.bool d.neg, .string ⟨(dtxt d.n).toArray⟩, .int .i64 (d.s : Int)] 23)).alloc (.cells #[.bool false, .string ⟨#[]⟩, .int .i64 0] 23))
  rcases Nat.eq_zero_or_pos d.s with hs0 | hs0
  · have hidx : indexByte G 46 = -1 := by rw [hG]; exact index_none _ (print_whole hs0)
    have hV : wholeD d = d := whole_self hd hs0
    have ht : tenthD d = 0 := by unfold tenthD; rw [hs0]; simp
    have qi2 : ∀ W, Calls Tryd.prog 102 #[.string ⟨G.toArray⟩, .int .u8 46] W fun e w' => e = .returned (.int .i64 (-1)) ∧ w' = W := fun W => by rw [← hidx]; exact qi W
    have HV := hid (And.intro hV ht)
    clear hidx qi hG hV ht hs0 e46
    obtain ⟨D, hD⟩ : ∃ D, D = dtxt d.n := ⟨_, rfl⟩
    obtain ⟨na, hna⟩ : ∃ x, x = d.neg := ⟨_, rfl⟩
    obtain ⟨s, hs⟩ : ∃ x, x = d.s := ⟨_, rfl⟩
    simp only [← hD, ← hna, ← hs] at qp HC HK HRm ⊢
    have HL := hid (And.intro hD (And.intro hna hs))
    clear hD hna hs hd
    go_enter Tryd.func84, Tryd.ntmps84
    go_wp2_with fail
    (with_reducible refine (qp _).mono ?_)
    rintro e w1 ⟨rfl, k1⟩
    have a0 : w1.cell? ⟨w.heap.size, 0, none⟩ = _ := (HC.out.keep k1 (by simp)).cell 0
    have a1 : w1.cell? ⟨w.heap.size, 1, none⟩ = _ := (HC.out.keep k1 (by simp)).cell 1
    have a2 : w1.cell? ⟨w.heap.size, 2, none⟩ = _ := (HC.out.keep k1 (by simp)).cell 2
    simp only [List.getElem?_cons_zero, List.getElem?_cons_succ] at a0 a1 a2
    obtain ⟨_, _, _, c0, c1, c2, f0, f1, f2⟩ := (HRm.out.kept k1).cells
    have HK1 := hid (HK.out.nil k1)
    clear k1 qp
    go_wp2_with fail
    (with_reducible refine (qi2 _).mono ?_)
    rintro e w2 ⟨rfl, rfl⟩
    clear qi2
    go_wp2_with fail
    refine bodyPost_ret (v := .tuple #[.agg #[.bool na, .string ⟨D.toArray⟩, .int .i64 (s : Int)], .int .u8 48]) (by simp [results, Tryd.results84, go_sem, c0, c1, c2]) rfl ⟨?_, kp_room3 HK1.out (by omega) _ _ _⟩
    rw [HV.out.1, HV.out.2, HL.out.1, HL.out.2.1, HL.out.2.2]
    rfl
  · obtain ⟨A, c, P, hGA, hA46, hpA, hc, hc9⟩ := print_split hd hs0
    rw [← hG] at hGA
    have hidx : indexByte G 46 = (A.length : Int) := by rw [hGA]; exact index_at A _ hA46
    have qi2 : ∀ W, Calls Tryd.prog 102 #[.string ⟨G.toArray⟩, .int .u8 46] W fun e w' => e = .returned (.int .i64 (A.length : Int)) ∧ w' = W := fun W => by rw [← hidx]; exact qi W
    have hGl : G.length = A.length + 1 + 1 + P.length := by rw [hGA, List.length_append, List.length_cons, List.length_cons]; omega
    have qs := fun W => parse_sure (l := A) (by omega) hpA W
    have hx1 := extract_mk G 0 A.length
    rw [List.drop_zero, hGA, List.take_left' rfl, ← hGA] at hx1
    have hpos : A.length + 1 < G.length := by omega
    have hgc : G[A.length + 1]'hpos = c := by
      have h1 : G[A.length + 1]? = some c := by rw [hGA, List.getElem?_append_right (by omega), Nat.add_sub_cancel_left]; rfl
      rw [List.getElem?_eq_getElem hpos] at h1
      injection h1
    obtain ⟨m, hm⟩ : ∃ m, m = 48 + tenthD d := ⟨_, rfl⟩
    have hgb := byteAt G (A.length + 1) m hpos (by rw [hgc, hc]; exact hm)
    obtain ⟨n, hn⟩ : ∃ n, n = A.length := ⟨_, rfl⟩
    rw [← hn] at hgb hpos hx1
    simp only [← hn] at qi2
    have hni : (0 : Int) ≤ (n : Int) := by omega
    have hnG : (n : Int) ≤ (G.length : Int) := by omega
    have i1 : IntKind.i64.wrap ((n : Int) + 1) = (n : Int) + 1 := IntWalk.i64_in _ (by omega)
    have i2 : (n : Int) + 1 < (G.length : Int) := by omega
    have i3 : (0 : Int) ≤ (n : Int) + 1 := by omega
    have i4 : ((n : Int) + 1).toNat = n + 1 := by omega
    have b0 : decide ((n : Int) < 0) = false := decide_eq_false (by omega)
    obtain ⟨V, hV⟩ : ∃ V, V = wholeD d := ⟨_, rfl⟩
    simp only [← hV] at qs
    have HV := hid (And.intro hV hm)
    have HG := hid (And.intro hpos hGl)
    clear hidx qi hG hV e46 hGA hA46 hpA hc hc9 hGl hgc hm hn hs0 hpos
    obtain ⟨D, hD⟩ : ∃ D, D = dtxt d.n := ⟨_, rfl⟩
    obtain ⟨na, hna⟩ : ∃ x, x = d.neg := ⟨_, rfl⟩
    obtain ⟨s, hs⟩ : ∃ x, x = d.s := ⟨_, rfl⟩
    simp only [← hD, ← hna, ← hs] at qp HC HK HRm ⊢
    unfold WholePost
    rw [← HV.out.1, ← HV.out.2]
    clear hD hna hs hd
    go_enter Tryd.func84, Tryd.ntmps84
    go_wp2_with fail
    (with_reducible refine (qp _).mono ?_)
    rintro e w1 ⟨rfl, k1⟩
    replace HK := hid (HK.out.nil k1)
    replace HRm := hid (HRm.out.kept k1)
    clear k1 qp
    go_wp2_with fail
    (with_reducible refine (qi2 _).mono ?_)
    rintro e w1b ⟨rfl, rfl⟩
    clear qi2
    go_wp2_with fail
    (with_reducible refine (qs _).mono ?_)
    rintro e w2 ⟨rfl, k2⟩
    obtain ⟨K2, l0, l1, l2⟩ := k2.loc (.bool V.neg) (.string ⟨(dtxt V.n).toArray⟩) (.int .i64 (V.s : Int))
    have hsz := k2.size
    have hrl : w.heap.size + 1 < w1b.heap.size := by obtain ⟨rs, h, -⟩ := HRm.out; exact h.lt
    have Hfar := hid (show w.heap.size + 1 < w2.heap.size by omega)
    replace HK := hid (HK.out.nil K2)
    replace HRm := hid (HRm.out.kept K2)
    clear k2 K2 qs hsz hrl hx1 b0
    go_wp2_with fail
    refine lin_start (fun w' => w'.cell? ⟨w2.heap.size, 0, none⟩ = some (Value.bool V.neg) ∧ w'.cell? ⟨w2.heap.size, 1, none⟩ = some (Value.string ⟨(dtxt V.n).toArray⟩) ∧ w'.cell? ⟨w2.heap.size, 2, none⟩ = some (Value.int .i64 (V.s : Int))) ((Stays.cell _ _).and ((Stays.cell _ _).and ((Stays.cell _ _)))) (by kernel_rfl) ⟨l0, l1, l2⟩ (fun hSS hS => ?_)
    refine lin_val (i := 0) (v := ?_) rfl (by kernel_rfl) (by kernel_rfl) (by kernel_rfl) (fun _ _ _ h => h) hSS hS rfl (fun w hSw => ?_) ?_
    rotate_left
    · obtain ⟨q0, q1, q2⟩ := hSw; go_simp; first | done | with_reducible rfl
    simp only [Act.put, List.setIfInBounds_toArray, List.set_cons_zero, List.set_cons_succ]
    refine lin_val (i := 1) (v := ?_) rfl (by kernel_rfl) (by kernel_rfl) (by kernel_rfl) (fun _ _ _ h => h) hSS hS rfl (fun w hSw => ?_) ?_
    rotate_left
    · obtain ⟨q0, q1, q2⟩ := hSw; go_simp; first | done | with_reducible rfl
    simp only [Act.put, List.setIfInBounds_toArray, List.set_cons_zero, List.set_cons_succ]
    refine lin_val (i := 2) (v := ?_) rfl (by kernel_rfl) (by kernel_rfl) (by kernel_rfl) (fun _ _ _ h => h) hSS hS rfl (fun w hSw => ?_) ?_
    rotate_left
    · obtain ⟨q0, q1, q2⟩ := hSw; go_simp; first | done | with_reducible rfl
    simp only [Act.put, List.setIfInBounds_toArray, List.set_cons_zero, List.set_cons_succ]
    refine lin_val (i := 3) (v := ?_) rfl (by kernel_rfl) (by kernel_rfl) (by kernel_rfl) (fun _ _ _ h => h) hSS hS rfl (fun w hSw => ?_) ?_
    rotate_left
    · obtain ⟨q0, q1, q2⟩ := hSw; go_simp; first | done | with_reducible rfl
    simp only [Act.put, List.setIfInBounds_toArray, List.set_cons_zero, List.set_cons_succ]
    refine lin_val (i := 4) (v := ?_) rfl (by kernel_rfl) (by kernel_rfl) (by kernel_rfl) (fun _ _ _ h => h) hSS hS rfl (fun w hSw => ?_) ?_
    rotate_left
    · obtain ⟨q0, q1, q2⟩ := hSw; go_simp; first | done | with_reducible rfl
    simp only [Act.put, List.setIfInBounds_toArray, List.set_cons_zero, List.set_cons_succ]
    refine lin_step (i := 5) (by kernel_rfl) rfl (fun wb kb K hK => ?_)
    have R := (HRm.out.kept (Kp.refl [] _).drew).kept kb
    obtain ⟨_, _, _, c0, c1, c2, f0, f1, f2⟩ := R.cells
    go_simp
    clear c0 c1 c2 f0 f1 f2
    obtain ⟨kd, x0, x1, x2⟩ := R.done ((HK.out.drew).nil kb) (by omega) (.bool V.neg) (.string ⟨(dtxt V.n).toArray⟩) (.int .i64 (V.s : Int))
    refine hK.out _ _ ?_ (fun hS1 => ?_)
    · obtain ⟨q0, q1, q2⟩ := hSS _ _ hS kb; exact ⟨far_room _ _ _ q0 (by have := Hfar.out; simp; omega), far_room _ _ _ q1 (by have := Hfar.out; simp; omega), far_room _ _ _ q2 (by have := Hfar.out; simp; omega)⟩
    clear hK K hS R kb
    try simp only [Act.put, List.setIfInBounds_toArray, List.set_cons_zero, List.set_cons_succ]
    refine lin_val (i := 6) (v := ?_) rfl (by kernel_rfl) (by kernel_rfl) (by kernel_rfl) (fun _ _ _ h => h) hSS hS1 rfl (fun w hSw => ?_) ?_
    rotate_left
    · go_simp; first | done | with_reducible rfl
    try simp only [Act.put, List.setIfInBounds_toArray, List.set_cons_zero, List.set_cons_succ]
    refine lin_done (by kernel_rfl) (fun wn kn => ?_) _
    replace x0 := kn.cell x0 (by simp)
    replace x1 := kn.cell x1 (by simp)
    replace x2 := kn.cell x2 (by simp)
    clear hS1 hSS
    go_wp2_with fail
    exact bodyPost_ret (v := .tuple #[.agg #[.bool V.neg, .string ⟨(dtxt V.n).toArray⟩, .int .i64 (V.s : Int)], .int .u8 (m : Int)]) (by simp [results, Tryd.results84, go_sem, x0, x1, x2]) rfl ⟨rfl, kd.nil kn⟩
set_option maxRecDepth 100000 in
set_option maxHeartbeats 6400000 in
theorem near_any (w : World) (d : Dc) (hd : Ok d) (far : Bool) (hf : far = true → 0 < d.s) : Calls Tryd.prog 83 #[.agg #[.bool d.neg, .string ⟨(dtxt d.n).toArray⟩, .int .i64 (d.s : Int)], .bool far] w (MadePost w (nearD d far)) := by
  have qw := fun W => whole_any W d hd
  have hVo := whole_ok hd
  have hone : Ok (oneD d.neg) := ⟨by show 1 < topN; unfold topN; decide, Nat.zero_le _, fun e => absurd e (by show ¬ (1 = 0); decide), .inl rfl⟩
  have qa := add_sym hVo hone
  have hfar : nearD d far = if far then addD (wholeD d) (oneD d.neg) else some (wholeD d) := rfl
  obtain ⟨R, hR⟩ : ∃ R, R = nearD d far := ⟨_, rfl⟩
  rw [← hR] at hfar ⊢
  obtain ⟨V, hV⟩ : ∃ V, V = wholeD d := ⟨_, rfl⟩
  rw [← hV] at qa hfar
  have qw2 : ∀ W, Calls Tryd.prog 84 #[.agg #[.bool d.neg, .string ⟨(dtxt d.n).toArray⟩, .int .i64 (d.s : Int)]] W fun e w' => e = .returned (.tuple #[.agg #[.bool V.neg, .string ⟨(dtxt V.n).toArray⟩, .int .i64 (V.s : Int)], .int .u8 ((48 + tenthD d : Nat) : Int)]) ∧ Kp [] W w' := fun W => by rw [hV]; exact qw W
  obtain ⟨t, ht⟩ : ∃ t, t = 48 + tenthD d := ⟨_, rfl⟩
  obtain ⟨D, hD⟩ : ∃ D, D = dtxt d.n := ⟨_, rfl⟩
  obtain ⟨na, hna⟩ : ∃ x, x = d.neg := ⟨_, rfl⟩
  obtain ⟨s, hs⟩ : ∃ x, x = d.s := ⟨_, rfl⟩
  simp only [← hD, ← hna, ← hs, ← ht] at qw2 ⊢
  rw [← hna] at qa hfar
  have e1 : (oneD na).neg = na := rfl
  have e2 : dtxt (oneD na).n = [49] := rfl
  have e3 : ((oneD na).s : Int) = 0 := rfl
  rw [e1, e2, e3] at qa
  have HC := hid ((Cells.fresh w 23 [.bool na, .string ⟨D.toArray⟩, .int .i64 (s : Int)]).alloc (.cells #[.bool false, .string ⟨#[]⟩, .int .i64 0] 23))
  have HK := hid (((Kp.refl [] w).alloc (.cells #[.bool na, .string ⟨D.toArray⟩, .int .i64 (s : Int)] 23)).alloc (.cells #[.bool false, .string ⟨#[]⟩, .int .i64 0] 23))
  have HRm : Hid (Room (w.heap.size + 1) ((w.alloc (.cells #[.bool na, .string ⟨D.toArray⟩, .int .i64 (s : Int)] 23)).alloc (.cells #[.bool false, .string ⟨#[]⟩, .int .i64 0] 23))) := hid ⟨_, Cells.fresh1 w _ 23 [.bool false, .string ⟨#[]⟩, .int .i64 0], rfl⟩
  have Hfar := hid hfar
  clear hR hV hD hna hs hd qw hVo hone e1 e2 e3 ht hf hfar
  go_enter Tryd.func83, Tryd.ntmps83
  go_wp2_with fail
  (with_reducible refine (qw2 _).mono ?_)
  rintro e w1 ⟨rfl, k1⟩
  obtain ⟨K1, l0, l1, l2⟩ := k1.loc (.bool V.neg) (.string ⟨(dtxt V.n).toArray⟩) (.int .i64 (V.s : Int))
  have a0 : _ = some (Value.bool na) := (HC.out.keep K1 (by simp)).cell 0
  obtain ⟨_, _, _, c0, c1, c2, f0, f1, f2⟩ := (HRm.out.kept K1).cells
  replace HRm := hid (HRm.out.kept K1)
  replace HK := hid (HK.out.nil K1)
  clear k1 K1 qw2
  cases far with
  | false =>
    have HV : Hid (R = some V) := hid Hfar.out
    clear Hfar qa
    go_wp2_with fail
    exact bodyPost_ret (v := .tuple #[.agg #[.bool V.neg, .string ⟨(dtxt V.n).toArray⟩, .int .i64 (V.s : Int)], .int .i64 0]) (by simp [results, Tryd.results83, go_sem, c0, c1, c2]) rfl ⟨by rw [HV.out]; rfl, kp_room3 HK.out (by omega) _ _ _⟩
  | true =>
    have hRV : R = addD V (oneD na) := Hfar.out
    rw [← hRV] at qa
    have hq := fun W => qa W
    clear hRV Hfar qa c0 c1 c2 f0 f1 f2
    go_wp2_with fail
    (with_reducible refine (hq _).mono ?_)
    rintro e w5 ⟨rfl, k5⟩
    obtain ⟨_, _, _, c0, c1, c2, f0, f1, f2⟩ := (HRm.out.kept k5).cells
    have HK5 := hid (HK.out.nil k5)
    clear k5 hq
    go_wp2_with fail
    exact bodyPost_ret (v := .tuple #[.agg #[.bool (oN R), .string ⟨(oL R).toArray⟩, .int .i64 (oS R)], .int .i64 (oE R)]) (by simp [results, Tryd.results83, go_sem, c0, c1, c2]) rfl ⟨by rw [resV_is], kp_room3 HK5.out (by omega) _ _ _⟩
set_option maxRecDepth 100000 in
set_option maxHeartbeats 3200000 in
theorem floor_any (w : World) (d : Dc) (hd : Ok d) : Calls Tryd.prog 41 #[.agg #[.bool d.neg, .string ⟨(dtxt d.n).toArray⟩, .int .i64 (d.s : Int)]] w (MadePost w (floorD d)) := by
  have qn := fun W far hf => near_any W d hd far hf
  obtain ⟨R, hR⟩ : ∃ R, R = floorD d := ⟨_, rfl⟩
  have hR2 : R = nearD d (d.neg && decide (0 < d.s)) := hR
  have hfs : (d.neg && decide (0 < d.s)) = true → 0 < d.s := fun e => by simp at e; exact e.2
  have qR : ∀ W, Calls Tryd.prog 83 #[.agg #[.bool d.neg, .string ⟨(dtxt d.n).toArray⟩, .int .i64 (d.s : Int)], .bool (d.neg && decide (0 < d.s))] W fun e w' => e = .returned (.tuple #[.agg #[.bool (oN R), .string ⟨(oL R).toArray⟩, .int .i64 (oS R)], .int .i64 (oE R)]) ∧ Kp [] W w' := fun W => (qn W _ hfs).mono fun e w' h => ⟨by have h2 := h.1; rw [← hR2, resV_is] at h2; exact h2, h.2⟩
  rw [← hR]
  obtain ⟨D, hD⟩ : ∃ D, D = dtxt d.n := ⟨_, rfl⟩
  obtain ⟨na, hna⟩ : ∃ x, x = d.neg := ⟨_, rfl⟩
  obtain ⟨s, hs⟩ : ∃ x, x = d.s := ⟨_, rfl⟩
  simp only [← hD, ← hna, ← hs] at qR ⊢
  have HC := hid ((Cells.fresh w 23 [.bool na, .string ⟨D.toArray⟩, .int .i64 (s : Int)]).alloc (.cells #[.bool false, .string ⟨#[]⟩, .int .i64 0] 23))
  have HK := hid (((Kp.refl [] w).alloc (.cells #[.bool na, .string ⟨D.toArray⟩, .int .i64 (s : Int)] 23)).alloc (.cells #[.bool false, .string ⟨#[]⟩, .int .i64 0] 23))
  have HRm : Hid (Room (w.heap.size + 1) ((w.alloc (.cells #[.bool na, .string ⟨D.toArray⟩, .int .i64 (s : Int)] 23)).alloc (.cells #[.bool false, .string ⟨#[]⟩, .int .i64 0] 23))) := hid ⟨_, Cells.fresh1 w _ 23 [.bool false, .string ⟨#[]⟩, .int .i64 0], rfl⟩
  clear hR hR2 hfs qn hD hna hs hd
  cases na with
  | true =>
    simp only [Bool.true_and, Bool.not_true, Bool.false_and] at qR
    go_enter Tryd.func41, Tryd.ntmps41
    go_wp2_with fail
    (with_reducible refine (qR _).mono ?_)
    rintro e w5 ⟨rfl, k5⟩
    obtain ⟨_, _, _, c0, c1, c2, f0, f1, f2⟩ := (HRm.out.kept k5).cells
    have HK5 := hid (HK.out.nil k5)
    clear k5 qR
    go_wp2_with fail
    exact bodyPost_ret (v := .tuple #[.agg #[.bool (oN R), .string ⟨(oL R).toArray⟩, .int .i64 (oS R)], .int .i64 (oE R)]) (by simp [results, Tryd.results41, go_sem, c0, c1, c2]) rfl ⟨by rw [resV_is], kp_room3 HK5.out (by omega) _ _ _⟩
  | false =>
    simp only [Bool.true_and, Bool.not_false, Bool.false_and] at qR
    go_enter Tryd.func41, Tryd.ntmps41
    go_wp2_with fail
    (with_reducible refine (qR _).mono ?_)
    rintro e w5 ⟨rfl, k5⟩
    obtain ⟨_, _, _, c0, c1, c2, f0, f1, f2⟩ := (HRm.out.kept k5).cells
    have HK5 := hid (HK.out.nil k5)
    clear k5 qR
    go_wp2_with fail
    exact bodyPost_ret (v := .tuple #[.agg #[.bool (oN R), .string ⟨(oL R).toArray⟩, .int .i64 (oS R)], .int .i64 (oE R)]) (by simp [results, Tryd.results41, go_sem, c0, c1, c2]) rfl ⟨by rw [resV_is], kp_room3 HK5.out (by omega) _ _ _⟩
set_option maxRecDepth 100000 in
set_option maxHeartbeats 3200000 in
theorem ceil_any (w : World) (d : Dc) (hd : Ok d) : Calls Tryd.prog 42 #[.agg #[.bool d.neg, .string ⟨(dtxt d.n).toArray⟩, .int .i64 (d.s : Int)]] w (MadePost w (ceilD d)) := by
  have qn := fun W far hf => near_any W d hd far hf
  obtain ⟨R, hR⟩ : ∃ R, R = ceilD d := ⟨_, rfl⟩
  have hR2 : R = nearD d (!d.neg && decide (0 < d.s)) := hR
  have hfs : (!d.neg && decide (0 < d.s)) = true → 0 < d.s := fun e => by simp at e; exact e.2
  have qR : ∀ W, Calls Tryd.prog 83 #[.agg #[.bool d.neg, .string ⟨(dtxt d.n).toArray⟩, .int .i64 (d.s : Int)], .bool (!d.neg && decide (0 < d.s))] W fun e w' => e = .returned (.tuple #[.agg #[.bool (oN R), .string ⟨(oL R).toArray⟩, .int .i64 (oS R)], .int .i64 (oE R)]) ∧ Kp [] W w' := fun W => (qn W _ hfs).mono fun e w' h => ⟨by have h2 := h.1; rw [← hR2, resV_is] at h2; exact h2, h.2⟩
  rw [← hR]
  obtain ⟨D, hD⟩ : ∃ D, D = dtxt d.n := ⟨_, rfl⟩
  obtain ⟨na, hna⟩ : ∃ x, x = d.neg := ⟨_, rfl⟩
  obtain ⟨s, hs⟩ : ∃ x, x = d.s := ⟨_, rfl⟩
  simp only [← hD, ← hna, ← hs] at qR ⊢
  have HC := hid ((Cells.fresh w 23 [.bool na, .string ⟨D.toArray⟩, .int .i64 (s : Int)]).alloc (.cells #[.bool false, .string ⟨#[]⟩, .int .i64 0] 23))
  have HK := hid (((Kp.refl [] w).alloc (.cells #[.bool na, .string ⟨D.toArray⟩, .int .i64 (s : Int)] 23)).alloc (.cells #[.bool false, .string ⟨#[]⟩, .int .i64 0] 23))
  have HRm : Hid (Room (w.heap.size + 1) ((w.alloc (.cells #[.bool na, .string ⟨D.toArray⟩, .int .i64 (s : Int)] 23)).alloc (.cells #[.bool false, .string ⟨#[]⟩, .int .i64 0] 23))) := hid ⟨_, Cells.fresh1 w _ 23 [.bool false, .string ⟨#[]⟩, .int .i64 0], rfl⟩
  clear hR hR2 hfs qn hD hna hs hd
  cases na with
  | true =>
    simp only [Bool.true_and, Bool.not_true, Bool.false_and] at qR
    go_enter Tryd.func42, Tryd.ntmps42
    go_wp2_with fail
    (with_reducible refine (qR _).mono ?_)
    rintro e w5 ⟨rfl, k5⟩
    obtain ⟨_, _, _, c0, c1, c2, f0, f1, f2⟩ := (HRm.out.kept k5).cells
    have HK5 := hid (HK.out.nil k5)
    clear k5 qR
    go_wp2_with fail
    exact bodyPost_ret (v := .tuple #[.agg #[.bool (oN R), .string ⟨(oL R).toArray⟩, .int .i64 (oS R)], .int .i64 (oE R)]) (by simp [results, Tryd.results42, go_sem, c0, c1, c2]) rfl ⟨by rw [resV_is], kp_room3 HK5.out (by omega) _ _ _⟩
  | false =>
    simp only [Bool.true_and, Bool.not_false, Bool.false_and] at qR
    go_enter Tryd.func42, Tryd.ntmps42
    go_wp2_with fail
    (with_reducible refine (qR _).mono ?_)
    rintro e w5 ⟨rfl, k5⟩
    obtain ⟨_, _, _, c0, c1, c2, f0, f1, f2⟩ := (HRm.out.kept k5).cells
    have HK5 := hid (HK.out.nil k5)
    clear k5 qR
    go_wp2_with fail
    exact bodyPost_ret (v := .tuple #[.agg #[.bool (oN R), .string ⟨(oL R).toArray⟩, .int .i64 (oS R)], .int .i64 (oE R)]) (by simp [results, Tryd.results42, go_sem, c0, c1, c2]) rfl ⟨by rw [resV_is], kp_room3 HK5.out (by omega) _ _ _⟩
set_option maxRecDepth 100000 in
set_option maxHeartbeats 3200000 in
theorem round_any (w : World) (d : Dc) (hd : Ok d) : Calls Tryd.prog 43 #[.agg #[.bool d.neg, .string ⟨(dtxt d.n).toArray⟩, .int .i64 (d.s : Int)]] w (MadePost w (roundD d)) := by
  have qw := fun W => whole_any W d hd
  obtain ⟨R, hR⟩ : ∃ R, R = roundD d := ⟨_, rfl⟩
  have hR2 : R = nearD d (decide (5 ≤ tenthD d)) := hR
  have ht9 : tenthD d ≤ 9 := by unfold tenthD; omega
  have qR : ∀ W, Calls Tryd.prog 83 #[.agg #[.bool d.neg, .string ⟨(dtxt d.n).toArray⟩, .int .i64 (d.s : Int)], .bool (decide (5 ≤ tenthD d))] W fun e w' => e = .returned (.tuple #[.agg #[.bool (oN R), .string ⟨(oL R).toArray⟩, .int .i64 (oS R)], .int .i64 (oE R)]) ∧ Kp [] W w' := fun W => (near_any W d hd _ (fun e => tenth_far (of_decide_eq_true e))).mono fun e w' h => ⟨by have h2 := h.1; rw [← hR2, resV_is] at h2; exact h2, h.2⟩
  rw [← hR]
  obtain ⟨V, hV⟩ : ∃ V, V = wholeD d := ⟨_, rfl⟩
  have qw2 : ∀ W, Calls Tryd.prog 84 #[.agg #[.bool d.neg, .string ⟨(dtxt d.n).toArray⟩, .int .i64 (d.s : Int)]] W fun e w' => e = .returned (.tuple #[.agg #[.bool V.neg, .string ⟨(dtxt V.n).toArray⟩, .int .i64 (V.s : Int)], .int .u8 ((48 + tenthD d : Nat) : Int)]) ∧ Kp [] W w' := fun W => by rw [hV]; exact qw W
  obtain ⟨t, ht⟩ : ∃ t : Int, t = ((48 + tenthD d : Nat) : Int) := ⟨_, rfl⟩
  rw [← ht] at qw2
  obtain ⟨bo, hbo⟩ : ∃ b, b = decide (5 ≤ tenthD d) := ⟨_, rfl⟩
  rw [← hbo] at qR
  have bt : decide ((53 : Int) ≤ t) = bo := by rw [hbo, ht]; rw [decide_eq_decide]; omega
  obtain ⟨D, hD⟩ : ∃ D, D = dtxt d.n := ⟨_, rfl⟩
  obtain ⟨na, hna⟩ : ∃ x, x = d.neg := ⟨_, rfl⟩
  obtain ⟨s, hs⟩ : ∃ x, x = d.s := ⟨_, rfl⟩
  simp only [← hD, ← hna, ← hs] at qR qw2 ⊢
  have HC := hid ((Cells.fresh w 23 [.bool na, .string ⟨D.toArray⟩, .int .i64 (s : Int)]).alloc (.cells #[.bool false, .string ⟨#[]⟩, .int .i64 0] 23))
  have HK := hid (((Kp.refl [] w).alloc (.cells #[.bool na, .string ⟨D.toArray⟩, .int .i64 (s : Int)] 23)).alloc (.cells #[.bool false, .string ⟨#[]⟩, .int .i64 0] 23))
  have HRm : Hid (Room (w.heap.size + 1) ((w.alloc (.cells #[.bool na, .string ⟨D.toArray⟩, .int .i64 (s : Int)] 23)).alloc (.cells #[.bool false, .string ⟨#[]⟩, .int .i64 0] 23))) := hid ⟨_, Cells.fresh1 w _ 23 [.bool false, .string ⟨#[]⟩, .int .i64 0], rfl⟩
  clear hR hR2 hV hD hna hs hd qw ht hbo ht9
  go_enter Tryd.func43, Tryd.ntmps43
  go_wp2_with fail
  (with_reducible refine (qw2 _).mono ?_)
  rintro e w1 ⟨rfl, k1⟩
  obtain ⟨K1, l0, l1, l2⟩ := k1.loc (.bool V.neg) (.string ⟨(dtxt V.n).toArray⟩) (.int .i64 (V.s : Int))
  have hCk := HC.out.keep K1 (by simp)
  have a0 : _ = some (Value.bool na) := hCk.cell 0
  have a1 : _ = some (Value.string ⟨D.toArray⟩) := hCk.cell 1
  have a2 : _ = some (Value.int .i64 (s : Int)) := hCk.cell 2
  replace HRm := hid (HRm.out.kept K1)
  replace HK := hid (HK.out.nil K1)
  clear k1 K1 qw2 hCk
  go_wp2_with fail
  (with_reducible refine (qR _).mono ?_)
  rintro e w5 ⟨rfl, k5⟩
  obtain ⟨_, _, _, c0, c1, c2, f0, f1, f2⟩ := (HRm.out.kept k5).cells
  have HK5 := hid (HK.out.nil k5)
  clear k5 qR
  go_wp2_with fail
  exact bodyPost_ret (v := .tuple #[.agg #[.bool (oN R), .string ⟨(oL R).toArray⟩, .int .i64 (oS R)], .int .i64 (oE R)]) (by simp [results, Tryd.results43, go_sem, c0, c1, c2]) rfl ⟨by rw [resV_is], kp_room3 HK5.out (by omega) _ _ _⟩
end Go.Proofs.YtampgimmodomoaaDoor
