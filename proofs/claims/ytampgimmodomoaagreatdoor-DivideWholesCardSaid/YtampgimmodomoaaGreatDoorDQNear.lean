/- The document's answer for layer 2: whole, apart, Floor, Ceil, Round. -/
import Derived.Test.YtampgimmodomoaaGreatDoorDQSmall
import Derived.Test.YtampgimmodomoaaGreatDoorDNear
import Derived.Test.YtampgimmodomoaaGreatDoorDRAdd
namespace Go.Proofs.YtampgimmodomoaaGreatDoor
open Go Go.RowKit Go.Lib

theorem max_cast {a b c : Nat} (h : max a (b + 1) = c) : max (a : Int) ((b : Int) + 1) = (c : Int) := by omega
theorem wide_parts {d : Dc} (hd : Ok d) : ∃ G at_, G = digN (max (dtxt d.n).length (d.s + 1)) d.n ∧ max (dtxt d.n).length (d.s + 1) = at_ + d.s ∧ at_ ≤ 61 ∧ 0 < at_ ∧ G.length = at_ + d.s ∧ Digs (G.take at_) ∧ val (G.take at_) = d.n / 10 ^ d.s ∧ (0 < d.s → ∃ h : at_ < G.length, (G[at_]'h).toNat = 48 + tenthD d) := by
  have hl := length_dtxt_le (k := 60) hd.1 (by decide)
  have hs := hd.2.1
  obtain ⟨N, hN⟩ : ∃ N, N = max (dtxt d.n).length (d.s + 1) := ⟨_, rfl⟩
  rw [← hN]
  have hlt : d.n < 10 ^ N := by
    have h := val_lt _ (digs_dtxt d.n)
    rw [val_dtxt] at h
    exact Nat.lt_of_lt_of_le h (Nat.pow_le_pow_right (by decide) (by omega))
  obtain ⟨a, ha⟩ : ∃ a, a = N - d.s := ⟨_, rfl⟩
  have hNa : N = a + d.s := by omega
  refine ⟨digN N d.n, a, rfl, hNa, by omega, by omega, by rw [length_digN, hNa], ?_, ?_, ?_⟩
  · exact (digs_digN N d.n).take a
  · rw [hNa, digN_add, List.take_left' (length_digN _ _), val_digN]
    refine Nat.mod_eq_of_lt ?_
    rw [Nat.div_lt_iff_lt_mul (n10 _), ← Nat.pow_add, ← hNa]
    exact hlt
  · intro h0
    refine ⟨by rw [length_digN]; omega, ?_⟩
    have e : digN N d.n = digN a (d.n / 10 ^ d.s) ++ digN (1 + (d.s - 1)) d.n := by rw [hNa, digN_add, show 1 + (d.s - 1) = d.s by omega]
    have e1 : ∀ x, digN 1 x = [dg x] := fun x => by rfl
    have hg : (digN N d.n)[a]? = some (dg (d.n / 10 ^ (d.s - 1))) := by
      rw [e, List.getElem?_append_right (by rw [length_digN]; omega), length_digN, Nat.sub_self, digN_add, e1]
      rfl
    obtain ⟨h1, h2⟩ := List.getElem?_eq_some_iff.1 hg
    rw [h2, dg_toNat]
    congr 1
    unfold tenthD
    obtain ⟨t, ht⟩ : ∃ t, d.s = t + 1 := ⟨d.s - 1, by omega⟩
    rw [ht, Nat.add_sub_cancel, Nat.pow_succ, Nat.mul_div_mul_right _ _ (by decide : 0 < 10)]
set_option maxRecDepth 100000 in
set_option maxHeartbeats 12800000 in
theorem qwhole_any (w : World) (d : Dc) (hd : Ok d) : Calls Tryz.prog 19 #[.agg #[.bool d.neg, .string ⟨(dtxt d.n).toArray⟩, .int .i64 (d.s : Int)]] w (WholePost w d) := by
  have hl := length_dtxt_le (k := 60) hd.1 (by decide)
  have hs60 := hd.2.1
  obtain ⟨G, a, hG, hN, ha61, ha0, hGl, dG, vG, htG⟩ := wide_parts hd
  have qw0 := fun W => qwide_any W (dtxt d.n) (max (dtxt d.n).length (d.s + 1)) (Nat.le_max_left _ _) (by omega)
  rw [wide_digN (digs_dtxt d.n) (Nat.le_max_left _ _), val_dtxt, ← hG, hN] at qw0
  have hNi : max ((dtxt d.n).length : Int) ((d.s : Int) + 1) = ((a + d.s : Nat) : Int) := max_cast hN
  have qn0 := fun W => rnorm_any W d.neg (G.take a) dG (by rw [List.length_take]; omega) 0 (by omega)
  rw [vG, norm_whole hd] at qn0
  have hGs : (⟨G.toArray⟩ : ByteArray).size = G.length := size_mk _
  have hx1 := extract_mk G 0 a
  rw [List.drop_zero] at hx1
  obtain ⟨A0, hA0⟩ : ∃ A0, A0 = G.take a := ⟨_, rfl⟩
  rw [← hA0] at qn0 hx1
  obtain ⟨V, hV⟩ : ∃ V, V = wholeD d := ⟨_, rfl⟩
  rw [← hV] at qn0
  have qn : ∀ W, Calls Tryz.prog 37 #[.bool d.neg, .string ⟨A0.toArray⟩, .int .i64 0] W fun e w' => e = .returned (.tuple #[.agg #[.bool V.neg, .string ⟨(dtxt V.n).toArray⟩, .int .i64 (V.s : Int)], .int .i64 0]) ∧ Kp [] W w' := fun W => qn0 W
  have hdl : (⟨(dtxt d.n).toArray⟩ : ByteArray).size = (dtxt d.n).length := size_mk _
  have ws1 : IntKind.i64.wrap ((d.s : Int) + 1) = (d.s : Int) + 1 := IntWalk.i64_in _ (by omega)
  have qw : ∀ W, Calls Tryz.prog 36 #[.string ⟨(dtxt d.n).toArray⟩, .int .i64 ((a + d.s : Nat) : Int)] W fun e w' => e = .returned (.string ⟨G.toArray⟩) ∧ w' = W := qw0
  have wa : IntKind.i64.wrap ((G.length : Int) - (d.s : Int)) = (a : Int) := by rw [IntWalk.i64_in _ (by omega)]; omega
  have aG : (a : Int) ≤ (G.length : Int) := by omega
  have aa : (0 : Int) ≤ (a : Int) := by omega
  obtain ⟨m, hm⟩ : ∃ m, m = 48 + tenthD d := ⟨_, rfl⟩
  have hm0 : d.s = 0 → m = 48 := fun h => by rw [hm]; unfold tenthD; rw [h]; simp
  have HV := hid (And.intro hV hm)
  rw [← hm] at htG
  unfold WholePost
  rw [← hV, ← hm]
  have h9 : G.length ≤ 1000 := by omega
  clear qw0 qn0 hV hm hG hN hA0 dG vG hGl ha61 ha0
  obtain ⟨D, hD⟩ : ∃ D, D = dtxt d.n := ⟨_, rfl⟩
  obtain ⟨na, hna⟩ : ∃ x, x = d.neg := ⟨_, rfl⟩
  obtain ⟨s, hs⟩ : ∃ x, x = d.s := ⟨_, rfl⟩
  obtain ⟨N, hN⟩ : ∃ N : Nat, N = a + d.s := ⟨_, rfl⟩
  simp only [← hN] at hNi qw
  simp only [← hD, ← hna, ← hs] at qw qn hNi hdl ws1 wa htG hm0 hl hs60 ⊢
  clear hD hna hs hd hN
  have HC := hid ((Cells.fresh w 23 [.bool na, .string ⟨D.toArray⟩, .int .i64 (s : Int)]).alloc (.cells #[.bool false, .string ⟨#[]⟩, .int .i64 0] 23))
  have HK := hid (((Kp.refl [] w).alloc (.cells #[.bool na, .string ⟨D.toArray⟩, .int .i64 (s : Int)] 23)).alloc (.cells #[.bool false, .string ⟨#[]⟩, .int .i64 0] 23))
  have HRm : Hid (Room (w.heap.size + 1) ((w.alloc (.cells #[.bool na, .string ⟨D.toArray⟩, .int .i64 (s : Int)] 23)).alloc (.cells #[.bool false, .string ⟨#[]⟩, .int .i64 0] 23))) := hid ⟨_, Cells.fresh1 w _ 23 [.bool false, .string ⟨#[]⟩, .int .i64 0], rfl⟩
  have c0 : _ = some (Value.bool na) := HC.out.cell 0
  have c1 : _ = some (Value.string ⟨D.toArray⟩) := HC.out.cell 1
  have c2 : _ = some (Value.int .i64 (s : Int)) := HC.out.cell 2
  go_enter Tryz.func19, Tryz.ntmps19
  go_wp2_with fail
  (with_reducible refine (qw _).mono ?_)
  rintro e w1 ⟨rfl, rfl⟩
  clear qw
  go_wp2_with fail
  refine lin_start (fun w' => w'.cell? ⟨w.heap.size, 0, none⟩ = some (Value.bool na) ∧ w'.cell? ⟨w.heap.size, 1, none⟩ = some (Value.string ⟨D.toArray⟩) ∧ w'.cell? ⟨w.heap.size, 2, none⟩ = some (Value.int .i64 (s : Int))) ((Stays.cell _ _).and ((Stays.cell _ _).and ((Stays.cell _ _)))) (by kernel_rfl) ⟨c0, c1, c2⟩ (fun hSS hS => ?_)
  refine lin_val (i := 0) (v := ?_) rfl (by kernel_rfl) (by kernel_rfl) (by kernel_rfl) (fun _ _ _ h => h) hSS hS rfl (fun w hSw => ?_) ?_
  rotate_left
  · obtain ⟨q0, q1, q2⟩ := hSw; go_simp; first | done | with_reducible rfl
  simp only [Act.put, List.setIfInBounds_toArray, List.set_cons_zero, List.set_cons_succ]
  refine lin_val (i := 1) (v := ?_) rfl (by kernel_rfl) (by kernel_rfl) (by kernel_rfl) (fun _ _ _ h => h) hSS hS rfl (fun w hSw => ?_) ?_
  rotate_left
  · obtain ⟨q0, q1, q2⟩ := hSw; go_simp; first | done | with_reducible rfl
  simp only [Act.put, List.setIfInBounds_toArray, List.set_cons_zero, List.set_cons_succ]
  refine lin_val (i := 2) (v := ?_) rfl (by kernel_rfl) (by kernel_rfl) (by kernel_rfl) (fun _ _ _ h => h) hSS hS rfl (fun w hSw => ?_) ?_
  rotate_left
  · obtain ⟨q0, q1, q2⟩ := hSw; go_simp; first | done | with_reducible rfl
  simp only [Act.put, List.setIfInBounds_toArray, List.set_cons_zero, List.set_cons_succ]
  refine lin_val (i := 3) (v := ?_) rfl (by kernel_rfl) (by kernel_rfl) (by kernel_rfl) (fun _ _ _ h => h) hSS hS rfl (fun w hSw => ?_) ?_
  rotate_left
  · obtain ⟨q0, q1, q2⟩ := hSw; go_simp; first | done | with_reducible rfl
  simp only [Act.put, List.setIfInBounds_toArray, List.set_cons_zero, List.set_cons_succ]
  refine lin_val (i := 4) (v := ?_) rfl (by kernel_rfl) (by kernel_rfl) (by kernel_rfl) (fun _ _ _ h => h) hSS hS rfl (fun w hSw => ?_) ?_
  rotate_left
  · obtain ⟨q0, q1, q2⟩ := hSw; go_simp; first | done | with_reducible rfl
  simp only [Act.put, List.setIfInBounds_toArray, List.set_cons_zero, List.set_cons_succ]
  refine lin_call (i := 5) rfl (by kernel_rfl) (by kernel_rfl) (by kernel_rfl) (fun _ _ _ h => h) hSS hS rfl (fun w _ => qn w) (fun w hSw => ?_) ?_
  · obtain ⟨q0, q1, q2⟩ := hSw; go_simp
  simp only [Act.put, List.setIfInBounds_toArray, List.set_cons_zero, List.set_cons_succ]
  refine lin_val (i := 6) (v := ?_) rfl (by kernel_rfl) (by kernel_rfl) (by kernel_rfl) (fun _ _ _ h => h) hSS hS rfl (fun w hSw => ?_) ?_
  rotate_left
  · obtain ⟨q0, q1, q2⟩ := hSw; go_simp; first | done | with_reducible rfl
  simp only [Act.put, List.setIfInBounds_toArray, List.set_cons_zero, List.set_cons_succ]
  refine lin_val (i := 7) (v := ?_) rfl (by kernel_rfl) (by kernel_rfl) (by kernel_rfl) (fun _ _ _ h => h) hSS hS rfl (fun w hSw => ?_) ?_
  rotate_left
  · obtain ⟨q0, q1, q2⟩ := hSw; go_simp; first | done | with_reducible rfl
  simp only [Act.put, List.setIfInBounds_toArray, List.set_cons_zero, List.set_cons_succ]
  refine lin_val (i := 8) (v := ?_) rfl (by kernel_rfl) (by kernel_rfl) (by kernel_rfl) (fun _ _ _ h => h) hSS hS rfl (fun w hSw => ?_) ?_
  rotate_left
  · obtain ⟨q0, q1, q2⟩ := hSw; go_simp; first | done | with_reducible rfl
  simp only [Act.put, List.setIfInBounds_toArray, List.set_cons_zero, List.set_cons_succ]
  refine lin_step (i := 9) (by kernel_rfl) rfl (fun wav kav K hK => ?_)
  go_simp
  refine hK.out _ _ (hSS _ _ hS (kav.alloc _)) (fun hS1 => ?_)
  clear hK K hS1
  try simp only [Act.put, List.setIfInBounds_toArray, List.set_cons_zero, List.set_cons_succ]
  refine lin_step (i := 10) (by kernel_rfl) rfl (fun wbv kbv K hK => ?_)
  have Rv := (Room.fresh wav _ _ _).kept kbv
  obtain ⟨_, _, _, c0, c1, c2, f0, f1, f2⟩ := Rv.cells
  go_simp
  clear c0 c1 c2 f0 f1 f2
  obtain ⟨kdv, v0, v1, v2⟩ := Rv.done ((kav.alloc _).nil kbv) kav.size (.bool V.neg) (.string ⟨(dtxt V.n).toArray⟩) (.int .i64 (V.s : Int))
  refine hK.out _ _ (hSS _ _ hS kdv) (fun hS1 => ?_)
  have hzv := kav.size
  clear hK K hS Rv kav kbv
  try simp only [Act.put, List.setIfInBounds_toArray, List.set_cons_zero, List.set_cons_succ]
  refine lin_val (i := 11) (v := ?_) rfl (by kernel_rfl) (by kernel_rfl) (by kernel_rfl) (fun _ _ _ h => h) hSS hS1 rfl (fun w hSw => ?_) ?_
  rotate_left
  · go_simp; first | done | with_reducible rfl
  try simp only [Act.put, List.setIfInBounds_toArray, List.set_cons_zero, List.set_cons_succ]
  refine lin_done (by kernel_rfl) (fun wv knv => ?_) _
  replace v0 := knv.cell v0 (by simp)
  replace v1 := knv.cell v1 (by simp)
  replace v2 := knv.cell v2 (by simp)
  have kcv := kdv.nil knv
  clear hS1 hSS kdv knv
  have k1 := (Kp.refl [] _).drew.nil kcv
  have hrl : w.heap.size + 1 < wav.heap.size := Nat.lt_of_lt_of_le (by obtain ⟨rs, h, -⟩ := HRm.out; exact h.lt) (by simpa using hzv)
  replace c0 := k1.cell c0 (by simp)
  replace c1 := k1.cell c1 (by simp)
  replace c2 := k1.cell c2 (by simp)
  replace HK := hid (HK.out.nil k1)
  replace HRm := hid (HRm.out.kept k1)
  have Hfar := hid hrl
  clear kcv k1 hrl hzv hx1 qn
  rcases Nat.eq_zero_or_pos s with hs0 | hs0
  · have b1 : ((s : Int) == 0) = true := by rw [hs0]; rfl
    have Hm := hid (hm0 hs0)
    obtain ⟨_, _, _, r0, r1, r2, f0, f1, f2⟩ := HRm.out.cells
    clear htG hm0
    go_wp2_with fail
    exact bodyPost_ret (v := .tuple #[.agg #[.bool V.neg, .string ⟨(dtxt V.n).toArray⟩, .int .i64 (V.s : Int)], .int .u8 48]) (by simp [results, Tryz.results19, go_sem, r0, r1, r2]) rfl ⟨by rw [Hm.out]; rfl, kp_room3 HK.out (by omega) _ _ _⟩
  · have b1 : ((s : Int) == 0) = false := by rw [beq_eq_false_iff_ne]; omega
    obtain ⟨hpos, hget⟩ := htG hs0
    have ig := byteAt G a m hpos hget.symm
    have i2 : (a : Int) < (G.length : Int) := by omega
    clear htG hm0 hget
    go_wp2_with fail
    refine lin_start (fun w' => w'.cell? ⟨wav.heap.size, 0, none⟩ = some (Value.bool V.neg) ∧ w'.cell? ⟨wav.heap.size, 1, none⟩ = some (Value.string ⟨(dtxt V.n).toArray⟩) ∧ w'.cell? ⟨wav.heap.size, 2, none⟩ = some (Value.int .i64 (V.s : Int))) ((Stays.cell _ _).and ((Stays.cell _ _).and ((Stays.cell _ _)))) (by kernel_rfl) ⟨v0, v1, v2⟩ (fun hSS hS => ?_)
    refine lin_val (i := 0) (v := ?_) rfl (by kernel_rfl) (by kernel_rfl) (by kernel_rfl) (fun _ _ _ h => h) hSS hS rfl (fun w hSw => ?_) ?_
    rotate_left
    · obtain ⟨q0, q1, q2⟩ := hSw; go_simp; first | done | with_reducible rfl
    simp only [Act.put, List.setIfInBounds_toArray, List.set_cons_zero, List.set_cons_succ]
    refine lin_val (i := 1) (v := ?_) rfl (by kernel_rfl) (by kernel_rfl) (by kernel_rfl) (fun _ _ _ h => h) hSS hS rfl (fun w hSw => ?_) ?_
    rotate_left
    · obtain ⟨q0, q1, q2⟩ := hSw; go_simp; first | done | with_reducible rfl
    simp only [Act.put, List.setIfInBounds_toArray, List.set_cons_zero, List.set_cons_succ]
    refine lin_val (i := 2) (v := ?_) rfl (by kernel_rfl) (by kernel_rfl) (by kernel_rfl) (fun _ _ _ h => h) hSS hS rfl (fun w hSw => ?_) ?_
    rotate_left
    · obtain ⟨q0, q1, q2⟩ := hSw; go_simp; first | done | with_reducible rfl
    simp only [Act.put, List.setIfInBounds_toArray, List.set_cons_zero, List.set_cons_succ]
    refine lin_val (i := 3) (v := ?_) rfl (by kernel_rfl) (by kernel_rfl) (by kernel_rfl) (fun _ _ _ h => h) hSS hS rfl (fun w hSw => ?_) ?_
    rotate_left
    · obtain ⟨q0, q1, q2⟩ := hSw; go_simp; first | done | with_reducible rfl
    simp only [Act.put, List.setIfInBounds_toArray, List.set_cons_zero, List.set_cons_succ]
    refine lin_step (i := 4) (by kernel_rfl) rfl (fun wb kb K hK => ?_)
    have R := (HRm.out.kept (Kp.refl [] _).drew).kept kb
    obtain ⟨_, _, _, r0, r1, r2, f0, f1, f2⟩ := R.cells
    go_simp
    clear r0 r1 r2 f0 f1 f2
    obtain ⟨kd, x0, x1, x2⟩ := R.done ((HK.out.drew).nil kb) (by omega) (.bool V.neg) (.string ⟨(dtxt V.n).toArray⟩) (.int .i64 (V.s : Int))
    refine hK.out _ _ ?_ (fun hS1 => ?_)
    · obtain ⟨q0, q1, q2⟩ := hSS _ _ hS kb; exact ⟨far_room _ _ _ q0 (by have := Hfar.out; simp; omega), far_room _ _ _ q1 (by have := Hfar.out; simp; omega), far_room _ _ _ q2 (by have := Hfar.out; simp; omega)⟩
    clear hK K hS R kb
    try simp only [Act.put, List.setIfInBounds_toArray, List.set_cons_zero, List.set_cons_succ]
    refine lin_val (i := 5) (v := ?_) rfl (by kernel_rfl) (by kernel_rfl) (by kernel_rfl) (fun _ _ _ h => h) hSS hS1 rfl (fun w hSw => ?_) ?_
    rotate_left
    · go_simp; first | done | with_reducible rfl
    try simp only [Act.put, List.setIfInBounds_toArray, List.set_cons_zero, List.set_cons_succ]
    refine lin_done (by kernel_rfl) (fun wn kn => ?_) _
    replace x0 := kn.cell x0 (by simp)
    replace x1 := kn.cell x1 (by simp)
    replace x2 := kn.cell x2 (by simp)
    clear hS1 hSS
    go_wp2_with fail
    exact bodyPost_ret (v := .tuple #[.agg #[.bool V.neg, .string ⟨(dtxt V.n).toArray⟩, .int .i64 (V.s : Int)], .int .u8 (m : Int)]) (by simp [results, Tryz.results19, go_sem, x0, x1, x2]) rfl ⟨rfl, kd.nil kn⟩
set_option maxRecDepth 100000 in
set_option maxHeartbeats 3200000 in
theorem qapart_any (w : World) (d : Dc) (hd : Ok d) (neg : Bool) : Calls Tryz.prog 20 #[.agg #[.bool d.neg, .string ⟨(dtxt d.n).toArray⟩, .int .i64 (d.s : Int)], .bool neg] w (MadePost w (addD d (oneD neg))) := by
  have hone : Ok (oneD neg) := ⟨by show 1 < topN; unfold topN; decide, Nat.zero_le _, fun e => absurd e (by show ¬ (1 = 0); decide), .inl rfl⟩
  have qa := fun W => radd_any W d (oneD neg) hd hone
  obtain ⟨R, hR⟩ : ∃ R, R = addD d (oneD neg) := ⟨_, rfl⟩
  rw [← hR] at qa ⊢
  have q : ∀ W, Calls Tryz.prog 38 #[.agg #[.bool d.neg, .string ⟨(dtxt d.n).toArray⟩, .int .i64 (d.s : Int)], .agg #[.bool neg, .string ⟨#[49]⟩, .int .i64 0]] W fun e w' => e = .returned (.tuple #[.agg #[.bool (oN R), .string ⟨(oL R).toArray⟩, .int .i64 (oS R)], .int .i64 (oE R)]) ∧ Kp [] W w' := fun W => (qa W).mono fun e w' ⟨h1, h2⟩ => ⟨by rw [h1, resV_is], h2⟩
  obtain ⟨D, hD⟩ : ∃ D, D = dtxt d.n := ⟨_, rfl⟩
  obtain ⟨na, hna⟩ : ∃ x, x = d.neg := ⟨_, rfl⟩
  obtain ⟨s, hs⟩ : ∃ x, x = d.s := ⟨_, rfl⟩
  simp only [← hD, ← hna, ← hs] at q ⊢
  have HC := hid ((Cells.fresh w 23 [.bool na, .string ⟨D.toArray⟩, .int .i64 (s : Int)]).alloc (.cells #[.bool false, .string ⟨#[]⟩, .int .i64 0] 23))
  have HK := hid (((Kp.refl [] w).alloc (.cells #[.bool na, .string ⟨D.toArray⟩, .int .i64 (s : Int)] 23)).alloc (.cells #[.bool false, .string ⟨#[]⟩, .int .i64 0] 23))
  have HRm : Hid (Room (w.heap.size + 1) ((w.alloc (.cells #[.bool na, .string ⟨D.toArray⟩, .int .i64 (s : Int)] 23)).alloc (.cells #[.bool false, .string ⟨#[]⟩, .int .i64 0] 23))) := hid ⟨_, Cells.fresh1 w _ 23 [.bool false, .string ⟨#[]⟩, .int .i64 0], rfl⟩
  clear hR hone qa hD hna hs hd
  go_enter Tryz.func20, Tryz.ntmps20
  go_wp2_with fail
  (with_reducible refine (q _).mono ?_)
  rintro e w5 ⟨rfl, k5⟩
  obtain ⟨_, _, _, c0, c1, c2, f0, f1, f2⟩ := (HRm.out.kept k5).cells
  have HK5 := hid (HK.out.nil k5)
  clear k5 q
  go_wp2_with fail
  exact bodyPost_ret (v := .tuple #[.agg #[.bool (oN R), .string ⟨(oL R).toArray⟩, .int .i64 (oS R)], .int .i64 (oE R)]) (by simp [results, Tryz.results20, go_sem, c0, c1, c2]) rfl ⟨by rw [resV_is], kp_room3 HK5.out (by omega) _ _ _⟩
set_option maxRecDepth 100000 in
set_option maxHeartbeats 6400000 in
theorem qfloor_any (w : World) (d : Dc) (hd : Ok d) : Calls Tryz.prog 7 #[.agg #[.bool d.neg, .string ⟨(dtxt d.n).toArray⟩, .int .i64 (d.s : Int)]] w (MadePost w (floorD d)) := by
  have hfar : floorD d = if (d.neg && decide (0 < d.s)) then addD (wholeD d) (oneD d.neg) else some (wholeD d) := rfl
  have qw0 := fun W => qwhole_any W d hd
  have qa0 := fun W => qapart_any W (wholeD d) (whole_ok hd) d.neg
  obtain ⟨V, hV⟩ : ∃ V, V = wholeD d := ⟨_, rfl⟩
  rw [← hV] at hfar qa0
  obtain ⟨m, hm⟩ : ∃ m, m = 48 + tenthD d := ⟨_, rfl⟩
  have qw : ∀ W, Calls Tryz.prog 19 #[.agg #[.bool d.neg, .string ⟨(dtxt d.n).toArray⟩, .int .i64 (d.s : Int)]] W fun e w' => e = .returned (.tuple #[.agg #[.bool V.neg, .string ⟨(dtxt V.n).toArray⟩, .int .i64 (V.s : Int)], .int .u8 (m : Int)]) ∧ Kp [] W w' := fun W => by rw [hV, hm]; exact qw0 W
  obtain ⟨R, hR⟩ : ∃ R, R = floorD d := ⟨_, rfl⟩
  rw [← hR] at hfar ⊢
  obtain ⟨tn, htn⟩ : ∃ x, x = tenthD d := ⟨_, rfl⟩
  rw [← htn] at hm
  try rw [← htn] at hfar
  have t9 : tn ≤ 9 := by rw [htn]; unfold tenthD; omega
  obtain ⟨D, hD⟩ : ∃ D, D = dtxt d.n := ⟨_, rfl⟩
  obtain ⟨na, hna⟩ : ∃ x, x = d.neg := ⟨_, rfl⟩
  obtain ⟨s, hs⟩ : ∃ x, x = d.s := ⟨_, rfl⟩
  simp only [← hD, ← hna, ← hs] at qw ⊢
  rw [← hna] at qa0
  simp only [← hna] at hfar
  try simp only [← hs] at hfar
  have HC := hid ((Cells.fresh w 23 [.bool na, .string ⟨D.toArray⟩, .int .i64 (s : Int)]).alloc (.cells #[.bool false, .string ⟨#[]⟩, .int .i64 0] 23))
  have HK := hid (((Kp.refl [] w).alloc (.cells #[.bool na, .string ⟨D.toArray⟩, .int .i64 (s : Int)] 23)).alloc (.cells #[.bool false, .string ⟨#[]⟩, .int .i64 0] 23))
  have HRm : Hid (Room (w.heap.size + 1) ((w.alloc (.cells #[.bool na, .string ⟨D.toArray⟩, .int .i64 (s : Int)] 23)).alloc (.cells #[.bool false, .string ⟨#[]⟩, .int .i64 0] 23))) := hid ⟨_, Cells.fresh1 w _ 23 [.bool false, .string ⟨#[]⟩, .int .i64 0], rfl⟩
  have Hm := hid hm
  clear hV hR qw0 hD hna hs hd htn hm
  obtain ⟨bo, hbo⟩ : ∃ bo, bo = (na && decide (0 < s)) := ⟨_, rfl⟩
  rw [← hbo] at hfar
  have Hfar := hid hfar
  clear hfar
  cases na with
  | false =>
    have hbo2 : bo = false := by rw [hbo]; rfl
    subst hbo2
    clear hbo
    go_enter Tryz.func7, Tryz.ntmps7
    go_wp2_with fail
    (with_reducible refine (qw _).mono ?_)
    rintro e w1 ⟨rfl, k1⟩
    obtain ⟨K1, l0, l1, l2⟩ := k1.loc (.bool V.neg) (.string ⟨(dtxt V.n).toArray⟩) (.int .i64 (V.s : Int))
    have a0 : _ = some (Value.bool false) := (HC.out.keep K1 (by simp)).cell 0
    have a2 : _ = some (Value.int .i64 (s : Int)) := (HC.out.keep K1 (by simp)).cell 2
    obtain ⟨_, _, _, c0, c1, c2, f0, f1, f2⟩ := (HRm.out.kept K1).cells
    replace HRm := hid (HRm.out.kept K1)
    replace HK := hid (HK.out.nil K1)
    clear k1 K1 qw
    have HV : Hid (R = some V) := hid Hfar.out
    clear Hfar qa0
    go_wp2_with fail
    exact bodyPost_ret (v := .tuple #[.agg #[.bool V.neg, .string ⟨(dtxt V.n).toArray⟩, .int .i64 (V.s : Int)], .int .i64 0]) (by simp [results, Tryz.results7, go_sem, c0, c1, c2]) rfl ⟨by rw [HV.out]; rfl, kp_room3 HK.out (by omega) _ _ _⟩
  | true =>
    by_cases h0 : 0 < s
    · have hbo2 : bo = true := by rw [hbo, decide_eq_true h0]; rfl
      subst hbo2
      have b0 : decide (0 < s) = true := decide_eq_true h0
      clear hbo h0
      go_enter Tryz.func7, Tryz.ntmps7
      go_wp2_with fail
      (with_reducible refine (qw _).mono ?_)
      rintro e w1 ⟨rfl, k1⟩
      obtain ⟨K1, l0, l1, l2⟩ := k1.loc (.bool V.neg) (.string ⟨(dtxt V.n).toArray⟩) (.int .i64 (V.s : Int))
      have a0 : _ = some (Value.bool true) := (HC.out.keep K1 (by simp)).cell 0
      have a2 : _ = some (Value.int .i64 (s : Int)) := (HC.out.keep K1 (by simp)).cell 2
      obtain ⟨_, _, _, c0, c1, c2, f0, f1, f2⟩ := (HRm.out.kept K1).cells
      replace HRm := hid (HRm.out.kept K1)
      replace HK := hid (HK.out.nil K1)
      clear k1 K1 qw
      have hRV : R = addD V (oneD true) := Hfar.out
      rw [← hRV] at qa0
      have hq : ∀ W, Calls Tryz.prog 20 #[.agg #[.bool V.neg, .string ⟨(dtxt V.n).toArray⟩, .int .i64 (V.s : Int)], .bool true] W fun e w' => e = .returned (.tuple #[.agg #[.bool (oN R), .string ⟨(oL R).toArray⟩, .int .i64 (oS R)], .int .i64 (oE R)]) ∧ Kp [] W w' := fun W => (qa0 W).mono fun e w' ⟨h1, h2⟩ => ⟨by rw [h1, resV_is], h2⟩
      clear hRV Hfar qa0 c0 c1 c2 f0 f1 f2
      go_wp2_with fail
      (with_reducible refine (hq _).mono ?_)
      rintro e w5 ⟨rfl, k5⟩
      obtain ⟨_, _, _, c0, c1, c2, f0, f1, f2⟩ := (HRm.out.kept k5).cells
      have HK5 := hid (HK.out.nil k5)
      clear k5 hq
      go_wp2_with fail
      exact bodyPost_ret (v := .tuple #[.agg #[.bool (oN R), .string ⟨(oL R).toArray⟩, .int .i64 (oS R)], .int .i64 (oE R)]) (by simp [results, Tryz.results7, go_sem, c0, c1, c2]) rfl ⟨by rw [resV_is], kp_room3 HK5.out (by omega) _ _ _⟩
    · have hbo2 : bo = false := by rw [hbo, decide_eq_false h0]; rfl
      subst hbo2
      have b0 : decide (0 < s) = false := decide_eq_false h0
      clear hbo h0
      go_enter Tryz.func7, Tryz.ntmps7
      go_wp2_with fail
      (with_reducible refine (qw _).mono ?_)
      rintro e w1 ⟨rfl, k1⟩
      obtain ⟨K1, l0, l1, l2⟩ := k1.loc (.bool V.neg) (.string ⟨(dtxt V.n).toArray⟩) (.int .i64 (V.s : Int))
      have a0 : _ = some (Value.bool true) := (HC.out.keep K1 (by simp)).cell 0
      have a2 : _ = some (Value.int .i64 (s : Int)) := (HC.out.keep K1 (by simp)).cell 2
      obtain ⟨_, _, _, c0, c1, c2, f0, f1, f2⟩ := (HRm.out.kept K1).cells
      replace HRm := hid (HRm.out.kept K1)
      replace HK := hid (HK.out.nil K1)
      clear k1 K1 qw
      have HV : Hid (R = some V) := hid Hfar.out
      clear Hfar qa0
      go_wp2_with fail
      exact bodyPost_ret (v := .tuple #[.agg #[.bool V.neg, .string ⟨(dtxt V.n).toArray⟩, .int .i64 (V.s : Int)], .int .i64 0]) (by simp [results, Tryz.results7, go_sem, c0, c1, c2]) rfl ⟨by rw [HV.out]; rfl, kp_room3 HK.out (by omega) _ _ _⟩
set_option maxRecDepth 100000 in
set_option maxHeartbeats 6400000 in
theorem qceil_any (w : World) (d : Dc) (hd : Ok d) : Calls Tryz.prog 9 #[.agg #[.bool d.neg, .string ⟨(dtxt d.n).toArray⟩, .int .i64 (d.s : Int)]] w (MadePost w (ceilD d)) := by
  have hfar : ceilD d = if (!d.neg && decide (0 < d.s)) then addD (wholeD d) (oneD d.neg) else some (wholeD d) := rfl
  have qw0 := fun W => qwhole_any W d hd
  have qa0 := fun W => qapart_any W (wholeD d) (whole_ok hd) d.neg
  obtain ⟨V, hV⟩ : ∃ V, V = wholeD d := ⟨_, rfl⟩
  rw [← hV] at hfar qa0
  obtain ⟨m, hm⟩ : ∃ m, m = 48 + tenthD d := ⟨_, rfl⟩
  have qw : ∀ W, Calls Tryz.prog 19 #[.agg #[.bool d.neg, .string ⟨(dtxt d.n).toArray⟩, .int .i64 (d.s : Int)]] W fun e w' => e = .returned (.tuple #[.agg #[.bool V.neg, .string ⟨(dtxt V.n).toArray⟩, .int .i64 (V.s : Int)], .int .u8 (m : Int)]) ∧ Kp [] W w' := fun W => by rw [hV, hm]; exact qw0 W
  obtain ⟨R, hR⟩ : ∃ R, R = ceilD d := ⟨_, rfl⟩
  rw [← hR] at hfar ⊢
  obtain ⟨tn, htn⟩ : ∃ x, x = tenthD d := ⟨_, rfl⟩
  rw [← htn] at hm
  try rw [← htn] at hfar
  have t9 : tn ≤ 9 := by rw [htn]; unfold tenthD; omega
  obtain ⟨D, hD⟩ : ∃ D, D = dtxt d.n := ⟨_, rfl⟩
  obtain ⟨na, hna⟩ : ∃ x, x = d.neg := ⟨_, rfl⟩
  obtain ⟨s, hs⟩ : ∃ x, x = d.s := ⟨_, rfl⟩
  simp only [← hD, ← hna, ← hs] at qw ⊢
  rw [← hna] at qa0
  simp only [← hna] at hfar
  try simp only [← hs] at hfar
  have HC := hid ((Cells.fresh w 23 [.bool na, .string ⟨D.toArray⟩, .int .i64 (s : Int)]).alloc (.cells #[.bool false, .string ⟨#[]⟩, .int .i64 0] 23))
  have HK := hid (((Kp.refl [] w).alloc (.cells #[.bool na, .string ⟨D.toArray⟩, .int .i64 (s : Int)] 23)).alloc (.cells #[.bool false, .string ⟨#[]⟩, .int .i64 0] 23))
  have HRm : Hid (Room (w.heap.size + 1) ((w.alloc (.cells #[.bool na, .string ⟨D.toArray⟩, .int .i64 (s : Int)] 23)).alloc (.cells #[.bool false, .string ⟨#[]⟩, .int .i64 0] 23))) := hid ⟨_, Cells.fresh1 w _ 23 [.bool false, .string ⟨#[]⟩, .int .i64 0], rfl⟩
  have Hm := hid hm
  clear hV hR qw0 hD hna hs hd htn hm
  obtain ⟨bo, hbo⟩ : ∃ bo, bo = (!na && decide (0 < s)) := ⟨_, rfl⟩
  rw [← hbo] at hfar
  have Hfar := hid hfar
  clear hfar
  cases na with
  | true =>
    have hbo2 : bo = false := by rw [hbo]; rfl
    subst hbo2
    clear hbo
    go_enter Tryz.func9, Tryz.ntmps9
    go_wp2_with fail
    (with_reducible refine (qw _).mono ?_)
    rintro e w1 ⟨rfl, k1⟩
    obtain ⟨K1, l0, l1, l2⟩ := k1.loc (.bool V.neg) (.string ⟨(dtxt V.n).toArray⟩) (.int .i64 (V.s : Int))
    have a0 : _ = some (Value.bool true) := (HC.out.keep K1 (by simp)).cell 0
    have a2 : _ = some (Value.int .i64 (s : Int)) := (HC.out.keep K1 (by simp)).cell 2
    obtain ⟨_, _, _, c0, c1, c2, f0, f1, f2⟩ := (HRm.out.kept K1).cells
    replace HRm := hid (HRm.out.kept K1)
    replace HK := hid (HK.out.nil K1)
    clear k1 K1 qw
    have HV : Hid (R = some V) := hid Hfar.out
    clear Hfar qa0
    go_wp2_with fail
    exact bodyPost_ret (v := .tuple #[.agg #[.bool V.neg, .string ⟨(dtxt V.n).toArray⟩, .int .i64 (V.s : Int)], .int .i64 0]) (by simp [results, Tryz.results9, go_sem, c0, c1, c2]) rfl ⟨by rw [HV.out]; rfl, kp_room3 HK.out (by omega) _ _ _⟩
  | false =>
    by_cases h0 : 0 < s
    · have hbo2 : bo = true := by rw [hbo, decide_eq_true h0]; rfl
      subst hbo2
      have b0 : decide (0 < s) = true := decide_eq_true h0
      clear hbo h0
      go_enter Tryz.func9, Tryz.ntmps9
      go_wp2_with fail
      (with_reducible refine (qw _).mono ?_)
      rintro e w1 ⟨rfl, k1⟩
      obtain ⟨K1, l0, l1, l2⟩ := k1.loc (.bool V.neg) (.string ⟨(dtxt V.n).toArray⟩) (.int .i64 (V.s : Int))
      have a0 : _ = some (Value.bool false) := (HC.out.keep K1 (by simp)).cell 0
      have a2 : _ = some (Value.int .i64 (s : Int)) := (HC.out.keep K1 (by simp)).cell 2
      obtain ⟨_, _, _, c0, c1, c2, f0, f1, f2⟩ := (HRm.out.kept K1).cells
      replace HRm := hid (HRm.out.kept K1)
      replace HK := hid (HK.out.nil K1)
      clear k1 K1 qw
      have hRV : R = addD V (oneD false) := Hfar.out
      rw [← hRV] at qa0
      have hq : ∀ W, Calls Tryz.prog 20 #[.agg #[.bool V.neg, .string ⟨(dtxt V.n).toArray⟩, .int .i64 (V.s : Int)], .bool false] W fun e w' => e = .returned (.tuple #[.agg #[.bool (oN R), .string ⟨(oL R).toArray⟩, .int .i64 (oS R)], .int .i64 (oE R)]) ∧ Kp [] W w' := fun W => (qa0 W).mono fun e w' ⟨h1, h2⟩ => ⟨by rw [h1, resV_is], h2⟩
      clear hRV Hfar qa0 c0 c1 c2 f0 f1 f2
      go_wp2_with fail
      (with_reducible refine (hq _).mono ?_)
      rintro e w5 ⟨rfl, k5⟩
      obtain ⟨_, _, _, c0, c1, c2, f0, f1, f2⟩ := (HRm.out.kept k5).cells
      have HK5 := hid (HK.out.nil k5)
      clear k5 hq
      go_wp2_with fail
      exact bodyPost_ret (v := .tuple #[.agg #[.bool (oN R), .string ⟨(oL R).toArray⟩, .int .i64 (oS R)], .int .i64 (oE R)]) (by simp [results, Tryz.results9, go_sem, c0, c1, c2]) rfl ⟨by rw [resV_is], kp_room3 HK5.out (by omega) _ _ _⟩
    · have hbo2 : bo = false := by rw [hbo, decide_eq_false h0]; rfl
      subst hbo2
      have b0 : decide (0 < s) = false := decide_eq_false h0
      clear hbo h0
      go_enter Tryz.func9, Tryz.ntmps9
      go_wp2_with fail
      (with_reducible refine (qw _).mono ?_)
      rintro e w1 ⟨rfl, k1⟩
      obtain ⟨K1, l0, l1, l2⟩ := k1.loc (.bool V.neg) (.string ⟨(dtxt V.n).toArray⟩) (.int .i64 (V.s : Int))
      have a0 : _ = some (Value.bool false) := (HC.out.keep K1 (by simp)).cell 0
      have a2 : _ = some (Value.int .i64 (s : Int)) := (HC.out.keep K1 (by simp)).cell 2
      obtain ⟨_, _, _, c0, c1, c2, f0, f1, f2⟩ := (HRm.out.kept K1).cells
      replace HRm := hid (HRm.out.kept K1)
      replace HK := hid (HK.out.nil K1)
      clear k1 K1 qw
      have HV : Hid (R = some V) := hid Hfar.out
      clear Hfar qa0
      go_wp2_with fail
      exact bodyPost_ret (v := .tuple #[.agg #[.bool V.neg, .string ⟨(dtxt V.n).toArray⟩, .int .i64 (V.s : Int)], .int .i64 0]) (by simp [results, Tryz.results9, go_sem, c0, c1, c2]) rfl ⟨by rw [HV.out]; rfl, kp_room3 HK.out (by omega) _ _ _⟩
set_option maxRecDepth 100000 in
set_option maxHeartbeats 6400000 in
theorem qround_any (w : World) (d : Dc) (hd : Ok d) : Calls Tryz.prog 11 #[.agg #[.bool d.neg, .string ⟨(dtxt d.n).toArray⟩, .int .i64 (d.s : Int)]] w (MadePost w (roundD d)) := by
  have hfar : roundD d = if (decide (5 ≤ tenthD d)) then addD (wholeD d) (oneD d.neg) else some (wholeD d) := rfl
  have qw0 := fun W => qwhole_any W d hd
  have qa0 := fun W => qapart_any W (wholeD d) (whole_ok hd) d.neg
  obtain ⟨V, hV⟩ : ∃ V, V = wholeD d := ⟨_, rfl⟩
  rw [← hV] at hfar qa0
  obtain ⟨m, hm⟩ : ∃ m, m = 48 + tenthD d := ⟨_, rfl⟩
  have qw : ∀ W, Calls Tryz.prog 19 #[.agg #[.bool d.neg, .string ⟨(dtxt d.n).toArray⟩, .int .i64 (d.s : Int)]] W fun e w' => e = .returned (.tuple #[.agg #[.bool V.neg, .string ⟨(dtxt V.n).toArray⟩, .int .i64 (V.s : Int)], .int .u8 (m : Int)]) ∧ Kp [] W w' := fun W => by rw [hV, hm]; exact qw0 W
  obtain ⟨R, hR⟩ : ∃ R, R = roundD d := ⟨_, rfl⟩
  rw [← hR] at hfar ⊢
  obtain ⟨tn, htn⟩ : ∃ x, x = tenthD d := ⟨_, rfl⟩
  rw [← htn] at hm
  try rw [← htn] at hfar
  have t9 : tn ≤ 9 := by rw [htn]; unfold tenthD; omega
  obtain ⟨D, hD⟩ : ∃ D, D = dtxt d.n := ⟨_, rfl⟩
  obtain ⟨na, hna⟩ : ∃ x, x = d.neg := ⟨_, rfl⟩
  obtain ⟨s, hs⟩ : ∃ x, x = d.s := ⟨_, rfl⟩
  simp only [← hD, ← hna, ← hs] at qw ⊢
  rw [← hna] at qa0
  simp only [← hna] at hfar
  try simp only [← hs] at hfar
  have HC := hid ((Cells.fresh w 23 [.bool na, .string ⟨D.toArray⟩, .int .i64 (s : Int)]).alloc (.cells #[.bool false, .string ⟨#[]⟩, .int .i64 0] 23))
  have HK := hid (((Kp.refl [] w).alloc (.cells #[.bool na, .string ⟨D.toArray⟩, .int .i64 (s : Int)] 23)).alloc (.cells #[.bool false, .string ⟨#[]⟩, .int .i64 0] 23))
  have HRm : Hid (Room (w.heap.size + 1) ((w.alloc (.cells #[.bool na, .string ⟨D.toArray⟩, .int .i64 (s : Int)] 23)).alloc (.cells #[.bool false, .string ⟨#[]⟩, .int .i64 0] 23))) := hid ⟨_, Cells.fresh1 w _ 23 [.bool false, .string ⟨#[]⟩, .int .i64 0], rfl⟩
  have Hm := hid hm
  clear hV hR qw0 hD hna hs hd htn hm
  obtain ⟨bo, hbo⟩ : ∃ bo, bo = (decide (5 ≤ tn)) := ⟨_, rfl⟩
  rw [← hbo] at hfar
  have Hfar := hid hfar
  clear hfar
  by_cases h5 : 5 ≤ tn
  · have hbo2 : bo = true := by rw [hbo, decide_eq_true h5]
    subst hbo2
    have b5 : decide ((53 : Int) ≤ (m : Int)) = true := decide_eq_true (by have := Hm.out; omega)
    clear hbo h5
    go_enter Tryz.func11, Tryz.ntmps11
    go_wp2_with fail
    (with_reducible refine (qw _).mono ?_)
    rintro e w1 ⟨rfl, k1⟩
    obtain ⟨K1, l0, l1, l2⟩ := k1.loc (.bool V.neg) (.string ⟨(dtxt V.n).toArray⟩) (.int .i64 (V.s : Int))
    have a0 : _ = some (Value.bool na) := (HC.out.keep K1 (by simp)).cell 0
    have a2 : _ = some (Value.int .i64 (s : Int)) := (HC.out.keep K1 (by simp)).cell 2
    obtain ⟨_, _, _, c0, c1, c2, f0, f1, f2⟩ := (HRm.out.kept K1).cells
    replace HRm := hid (HRm.out.kept K1)
    replace HK := hid (HK.out.nil K1)
    clear k1 K1 qw
    have hRV : R = addD V (oneD na) := Hfar.out
    rw [← hRV] at qa0
    have hq : ∀ W, Calls Tryz.prog 20 #[.agg #[.bool V.neg, .string ⟨(dtxt V.n).toArray⟩, .int .i64 (V.s : Int)], .bool na] W fun e w' => e = .returned (.tuple #[.agg #[.bool (oN R), .string ⟨(oL R).toArray⟩, .int .i64 (oS R)], .int .i64 (oE R)]) ∧ Kp [] W w' := fun W => (qa0 W).mono fun e w' ⟨h1, h2⟩ => ⟨by rw [h1, resV_is], h2⟩
    clear hRV Hfar qa0 c0 c1 c2 f0 f1 f2
    go_wp2_with fail
    (with_reducible refine (hq _).mono ?_)
    rintro e w5 ⟨rfl, k5⟩
    obtain ⟨_, _, _, c0, c1, c2, f0, f1, f2⟩ := (HRm.out.kept k5).cells
    have HK5 := hid (HK.out.nil k5)
    clear k5 hq
    go_wp2_with fail
    exact bodyPost_ret (v := .tuple #[.agg #[.bool (oN R), .string ⟨(oL R).toArray⟩, .int .i64 (oS R)], .int .i64 (oE R)]) (by simp [results, Tryz.results11, go_sem, c0, c1, c2]) rfl ⟨by rw [resV_is], kp_room3 HK5.out (by omega) _ _ _⟩
  · have hbo2 : bo = false := by rw [hbo, decide_eq_false h5]
    subst hbo2
    have b5 : decide ((53 : Int) ≤ (m : Int)) = false := decide_eq_false (by have := Hm.out; omega)
    clear hbo h5
    go_enter Tryz.func11, Tryz.ntmps11
    go_wp2_with fail
    (with_reducible refine (qw _).mono ?_)
    rintro e w1 ⟨rfl, k1⟩
    obtain ⟨K1, l0, l1, l2⟩ := k1.loc (.bool V.neg) (.string ⟨(dtxt V.n).toArray⟩) (.int .i64 (V.s : Int))
    have a0 : _ = some (Value.bool na) := (HC.out.keep K1 (by simp)).cell 0
    have a2 : _ = some (Value.int .i64 (s : Int)) := (HC.out.keep K1 (by simp)).cell 2
    obtain ⟨_, _, _, c0, c1, c2, f0, f1, f2⟩ := (HRm.out.kept K1).cells
    replace HRm := hid (HRm.out.kept K1)
    replace HK := hid (HK.out.nil K1)
    clear k1 K1 qw
    have HV : Hid (R = some V) := hid Hfar.out
    clear Hfar qa0
    go_wp2_with fail
    exact bodyPost_ret (v := .tuple #[.agg #[.bool V.neg, .string ⟨(dtxt V.n).toArray⟩, .int .i64 (V.s : Int)], .int .i64 0]) (by simp [results, Tryz.results11, go_sem, c0, c1, c2]) rfl ⟨by rw [HV.out]; rfl, kp_room3 HK.out (by omega) _ _ _⟩
end Go.Proofs.YtampgimmodomoaaGreatDoor
