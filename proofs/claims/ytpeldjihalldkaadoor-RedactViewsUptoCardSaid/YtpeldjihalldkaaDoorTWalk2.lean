/- walk: what is hidden, place by place. -/
import Derived.Test.YtpeldjihalldkaaDoorTWalk1
import Derived.Test.YtpeldjihalldkaaDoorRM
import Derived.Test.YtpeldjihalldkaaDoorRG
namespace Go.Proofs.YtpeldjihalldkaaDoor
open Go Go.RowKit Go.Lib

/-- What walk does for a tree at any later world. -/
def WalkAt (w : World) (v : Vl) (cs : List Value) : Prop :=
  FineV v → ∀ (W : World) (b : Nat) (G : Option Nat) (ls : List (List Stp)) (vp : Value) (pl : List Stp) (cl : Nat), Kp [] w W → w.heap.size ≤ b → (∀ g, G = some g → w.heap.size ≤ g) → Led W b G ls → StepsAt W (fun x => x ≠ b ∧ some x ≠ G) vp pl →
    ls.length + sizeV v ≤ 1000000 → pl.length + sizeV v ≤ 1000000 → cl < 18446744073709551616 →
    Calls Tryd.prog 40 #[.agg cs.toArray, .int .u64 (cl : Int), vp, .func (.func 41) #[] #[.pointer (some ⟨b, 0, none⟩)]] W fun e w' => e = .returned (.tuple #[]) ∧ ∃ G', Led w' b G' (ls ++ holesL cl pl v) ∧ Kp (b :: G.toList) W w' ∧ Later W G G'
set_option maxRecDepth 100000 in
set_option maxHeartbeats 12800000 in
theorem walk_step (w : World) (k m : Nat) (num : Option Dc) (t : Txt) (keys : List Txt) (kids : List Vl) (code : Nat) (A : Option Addr) (ck : Nat) (B : Option Addr) (cb : Nat) (ks : Nat → List Value)
    (hA : KeysAt w A ck keys) (hB : KidsAt w B cb kids.length ks) (hr : ∀ (i : Nat) v, kids[i]? = some v → Rep w v (ks i)) (ih : ∀ (i : Nat) v, kids[i]? = some v → WalkAt w v (ks i)) :
    WalkAt w (.mk k m num t keys kids code) (vC k m (vN num) (vD num) (vS num) t A keys.length ck B kids.length cb code) := by
  intro hf W b G ls vp pl cl hK hwb hwG hled hvp hls hpl hcl
  have q1 := fun W' => hidden_cells W' (k : Int) m (vN num) (vD num) (vS num) t A keys.length ck B kids.length cb (code : Int) cl (fine_mask hf) hcl
  have hsz : sizeV (.mk k m num t keys kids code) = 1 + sizes kids := by unfold sizeV; omega
  have hhol : holesL cl pl (.mk k m num t keys kids code) = if hidB m cl then [pl] else holesK cl pl k keys 0 kids := by unfold holesL; rfl
  obtain ⟨hd, hhd⟩ : ∃ b, b = hidB m cl := ⟨_, rfl⟩
  simp only [← hhd] at q1 hhol
  have hfk := fine_kid hf
  have hka := hA.le
  have hka2 := hA.top
  have hkb := hB.le
  have hkb2 := hB.top
  have hkk : k = 7 → keys.length = kids.length := by cases hf; assumption
  obtain ⟨H, hH⟩ : ∃ H, H = holesL cl pl (.mk k m num t keys kids code) := ⟨_, rfl⟩
  rw [← hH] at hhol
  unfold vC
  rw [← hH]
  obtain ⟨nk, hnk⟩ : ∃ x, x = keys.length := ⟨_, rfl⟩
  obtain ⟨nb, hnb⟩ : ∃ x, x = kids.length := ⟨_, rfl⟩
  simp only [← hnk, ← hnb] at q1 hka hkb hkk ⊢
  obtain ⟨W1, hW1⟩ : ∃ W1, W1 = W.alloc (.cells #[.int .i64 (k : Int), .int .u64 (m : Int), .bool (vN num), .string ⟨(vD num).toArray⟩, .int .i64 (vS num), .string ⟨t.toArray⟩, .slice A nk ck, .slice B nb cb, .int .i64 (code : Int)] 31) := ⟨_, rfl⟩
  have hk1 : Kp [] W W1 := by rw [hW1]; exact (Kp.refl _ _).alloc _
  have hs1 : W1.heap.size = W.heap.size + 1 := by rw [hW1]; simp
  have hca : Cells W1 W.heap.size 31 [.int .i64 (k : Int), .int .u64 (m : Int), .bool (vN num), .string ⟨(vD num).toArray⟩, .int .i64 (vS num), .string ⟨t.toArray⟩, .slice A nk ck, .slice B nb cb, .int .i64 (code : Int)] := by rw [hW1]; exact Cells.fresh W 31 _
  have hgA := hled.blt
  have hgG := hled.glt
  have hsA := hK.size
  have HW1 := hid hW1
  have HH := hid (And.intro hk1 (And.intro hs1 hca))
  have HD := hid (And.intro hled (And.intro hvp (And.intro hwb (And.intro hwG hK))))
  have HN := hid (And.intro hnk (And.intro hnb hkk))
  have HG := hid (And.intro hgA (And.intro hgG hsA))
  have HT := hid (And.intro hA (And.intro hB (And.intro hr (And.intro ih hfk))))
  have HS := hid (And.intro hsz (And.intro hls hpl))
  have HL := hid hhol
  obtain ⟨Ap, cp, rfl, hcp1, hcp2, hsp, hAp⟩ := hvp.ex
  obtain ⟨np, hnp⟩ : ∃ x, x = pl.length := ⟨_, rfl⟩
  rw [← hnp] at hcp1 ⊢
  have HNP := hid hnp
  clear hA hB hr ih hfk hled hvp hwb hwG hK hnk hnb hkk hW1 hk1 hs1 hca hsz hls hpl hhol hH hhd hf hgA hgG hsA hsp hAp hnp
  go_enter Tryd.func40, Tryd.ntmps40
  go_wp2_with fail
  rw [← HW1.out]
  (with_reducible refine (q1 _).mono ?_)
  rintro e w2 ⟨rfl, k2⟩
  have hk2 := HH.out.1.nil k2
  have hs2 := k2.size
  have H2 := hid (And.intro hk2 (And.intro hs2 (HH.out.2.2.keep k2 (by simp))))
  have qc := closh_any w2 b G ls (HD.out.1.kept hk2) (by have := HS.out.2.1; omega) hd _ pl (HD.out.2.1.kept hk2)
  rw [← HNP.out] at qc
  clear k2 q1 hk2 hs2
  go_wp2_with fail
  (with_reducible refine qc.mono ?_)
  rintro e w3 ⟨rfl, G3, hl3, k3, lt3⟩
  have hgA : W.heap.size < w2.heap.size := by have := H2.out.2.1; have := HH.out.2.1; omega
  have hne : W.heap.size ∉ b :: G.toList := by
    intro hm
    rcases List.mem_cons.1 hm with h | h
    · have := HG.out.1; omega
    · have := HG.out.2.1 _ (Option.mem_toList.1 h); omega
  have hca := H2.out.2.2.keep k3 hne
  have hkW := walk_nil (HD.out.2.2.2.2.nil H2.out.1) k3 HD.out.2.2.1 HD.out.2.2.2.1
  have hw2 : w.heap.size ≤ w2.heap.size := by have := HG.out.2.2; omega
  have hG3 : ∀ g, G3 = some g → w.heap.size ≤ g := by
    intro g hg
    rcases lt3 g hg with h | h
    · exact HD.out.2.2.2.1 g h
    · omega
  have hne3 : W.heap.size ∉ b :: G3.toList := by
    intro hm
    rcases List.mem_cons.1 hm with h | h
    · have := HG.out.1; omega
    · rcases lt3 _ (Option.mem_toList.1 h) with h | h
      · have := HG.out.2.1 _ h; omega
      · omega
  have hvp3 := (HD.out.2.1.kept H2.out.1).later k3 lt3
  have hkE : Kp (b :: G.toList) W w3 := (H2.out.1.mono (by simp)).trans k3 (fun x hx _ => hx)
  have hLE : Later W G G3 := (Later.refl W G).trans lt3 H2.out.1.size
  have H3 := hid (And.intro hkW (And.intro hG3 (And.intro hne3 (And.intro hvp3 (And.intro hkE (And.intro hLE hca))))))
  have HL3 := hid hl3
  clear hl3 k3 lt3 hca hgA hkW hG3 hne3 hvp3 hkE hLE hne hw2 qc
  cases hd with
  | true =>
    go_wp2_with fail
    first | go_end0 | (simp only [Exit.inBlock, Exit.then]; refine bodyPost_ret (results_none rfl _ _ _) rfl ?_) | refine bodyPost_ret (results_none rfl _ _ _) rfl ?_
    exact ⟨rfl, G3, by rw [HL.out]; exact HL3.out, H3.out.2.2.2.2.1, H3.out.2.2.2.2.2.1⟩
  | false =>
    have x7 := H3.out.2.2.2.2.2.2.cell 7
    simp only [List.getElem?_cons_zero, List.getElem?_cons_succ] at x7
    go_wp2_with fail
    clear x7
    go_loopw [23] (fun vi wr => ∃ (j : Nat) (G' : Option Nat), j ≤ nb ∧ vi = .int .i64 (j : Int) ∧ Led wr b G' (ls ++ holesK cl pl k keys 0 (kids.take j)) ∧ Kp (b :: G3.toList) w3 wr ∧ Later w3 G3 G') (fun vi _ => nb - (RowKit.intOf vi).toNat)
    case atStart => exact ⟨0, G3, Nat.zero_le _, rfl, by simpa [holesK] using HL3.out, Kp.refl _ _, Later.refl _ _⟩
    case round =>
      obtain ⟨j, G', hj, rfl, hl, hkp, hlt'⟩ := hrel
      by_cases hlt : j < nb
      · have hlk : j < kids.length := by rw [← HN.out.2.1]; exact hlt
        obtain ⟨v, hv⟩ := at_some hlk
        have hkr := walk_nil H3.out.1 hkp HD.out.2.2.1 H3.out.2.1
        have hca := H3.out.2.2.2.2.2.2.keep hkp H3.out.2.2.1
        have hvr := H3.out.2.2.2.1.later hkp hlt'
        obtain ⟨gb, rfl, b1⟩ := (HT.out.2.1.kept hkr).at_ j hlk
        obtain ⟨ak, am, an, ad, az, ax, aA, ank, ack, aB, anb, acb, aco, e1⟩ := (HT.out.2.2.1 j v hv).isV
        have qj := HT.out.2.2.2.1 j v hv (HT.out.2.2.2.2 v (at_mem hv))
        rw [e1] at b1 qj
        have c0 := b1 0 _ rfl
        have c1 := b1 1 _ rfl
        have c2 := b1 2 _ rfl
        have c3 := b1 3 _ rfl
        have c4 := b1 4 _ rfl
        have c5 := b1 5 _ rfl
        have c6 := b1 6 _ rfl
        have c7 := b1 7 _ rfl
        have c8 := b1 8 _ rfl
        simp only [Nat.add_zero] at c0
        have x0 := hca.cell 0
        have x6 := hca.cell 6
        simp only [List.getElem?_cons_zero, List.getElem?_cons_succ] at x0 x6
        have xx0 := fun o o' => (((Kp.refl [] wr).alloc o).alloc o').cell x0 (by simp)
        have xx6 := fun o o' => (((Kp.refl [] wr).alloc o).alloc o').cell x6 (by simp)
        have e9 : j * 9 = 9 * j := Nat.mul_comm _ _
        have z1 : decide ((j : Int) < (nb : Int)) = true := decide_eq_true (by omega)
        have z1n : decide (j < nb) = true := decide_eq_true hlt
        have jn : (j : Int) < (nb : Int) := by omega
        have HR := hid (And.intro hv (And.intro hkr (And.intro hvr (And.intro hl (And.intro hkp hlt')))))
        have QJ := hid qj
        clear hlk hca hvr b1 e1 qj hl hkp hlt' x0 x6 hv
        by_cases h7 : k = 7
        · have hkk := HN.out.2.2 h7
          have jk : j < nk := by omega
          have jki : (j : Int) < (nk : Int) := by omega
          obtain ⟨x, hx⟩ : ∃ x, keys[j]? = some x := ⟨_, List.getElem?_eq_getElem (by rw [← HN.out.1]; exact jk)⟩
          obtain ⟨ga, rfl, a1⟩ := (HT.out.1.kept hkr).at_ j x hx
          have aa1 := fun o o' => (((Kp.refl [] wr).alloc o).alloc o').cell a1 (by simp)
          have z7 : ((k : Int) == 7) = true := by rw [h7]; rfl
          have hst : stp k keys j = (1, x, 0) := by unfold stp stK; rw [if_pos h7, hx]; rfl
          have HST := hid hst
          have HK7 := hid h7
          clear h7 hkk hx a1 hst hkr
          go_wp2_with fail
          clear aa1
          obtain ⟨w7, hw7⟩ : ∃ w7, w7 = (wr.alloc (.cells #[.int .i64 ak, .int .u64 am, .bool an, .string ad, .int .i64 az, .string ax, .slice aA ank ack, .slice aB anb acb, .int .i64 aco] 31)).alloc (.cells #[.int .i64 1, .string ⟨x.toArray⟩, .int .i64 0] 42) := ⟨_, rfl⟩
          have hkw7 : Kp [] wr w7 := by rw [hw7]; exact ((Kp.refl _ _).alloc _).alloc _
          have hcX : Cells w7 wr.heap.size 31 [.int .i64 ak, .int .u64 am, .bool an, .string ad, .int .i64 az, .string ax, .slice aA ank ack, .slice aB anb acb, .int .i64 aco] := by rw [hw7]; exact (Cells.fresh wr 31 _).alloc _
          have hcY : Cells w7 (wr.heap.size + 1) 42 [.int .i64 1, .string ⟨x.toArray⟩, .int .i64 0] := by rw [hw7]; exact Cells.fresh1 wr _ 42 _
          rw [← hw7]
          have t0 := hcX.cell 0
          have t1 := hcX.cell 1
          have t2 := hcX.cell 2
          have t3 := hcX.cell 3
          have t4 := hcX.cell 4
          have t5 := hcX.cell 5
          have t6 := hcX.cell 6
          have t7 := hcX.cell 7
          have t8 := hcX.cell 8
          have y0 := hcY.cell 0
          have y1 := hcY.cell 1
          have y2 := hcY.cell 2
          obtain ⟨hsp, hAn⟩ := HR.out.2.2.1.span
          rw [← HNP.out] at hAn
          have hxl : (stCs pl).length = np * 3 := by rw [stCs_len, HNP.out]
          have hnpb : np ≤ 1000000 := by have := HS.out.2.2; rw [HNP.out]; omega
          have H7 := hid (And.intro hkw7 hsp)
          clear hw7 hkw7 hcX hcY hsp c0 c1 c2 c3 c4 c5 c6 c7 c8 xx0 xx6
          have hbl := HR.out.2.2.2.1.blt
          have hgl := HR.out.2.2.2.1.glt
          have hnX : wr.heap.size ∉ b :: G'.toList := by
            intro hm
            rcases List.mem_cons.1 hm with h | h
            · omega
            · have := hgl _ (Option.mem_toList.1 h); omega
          have hnY : wr.heap.size + 1 ∉ b :: G'.toList := by
            intro hm
            rcases List.mem_cons.1 hm with h | h
            · omega
            · have := hgl _ (Option.mem_toList.1 h); omega
          clear hbl hgl
          refine lin_start (fun W' => Kp (b :: G'.toList) w7 W') (Stays.kp _ _) (by kernel_rfl) (Kp.refl _ _).drew (fun hSS hS => ?_)
          refine lin_val (i := 0) (v := ?_) rfl (by kernel_rfl) (by kernel_rfl) (by kernel_rfl) (fun _ _ _ h => h) hSS hS rfl (fun W' hSw => ?_) ?_
          rotate_left
          · have t0 := hSw.cell t0 hnX; have t1 := hSw.cell t1 hnX; have t2 := hSw.cell t2 hnX; have t3 := hSw.cell t3 hnX; have t4 := hSw.cell t4 hnX; have t5 := hSw.cell t5 hnX; have t6 := hSw.cell t6 hnX; have t7 := hSw.cell t7 hnX; have t8 := hSw.cell t8 hnX; go_simp; first | done | with_reducible rfl
          try simp only [Act.put, List.setIfInBounds_toArray, List.set_cons_zero, List.set_cons_succ]
          refine lin_val (i := 1) (v := ?_) rfl (by kernel_rfl) (by kernel_rfl) (by kernel_rfl) (fun _ _ _ h => h) hSS hS rfl (fun W' hSw => ?_) ?_
          rotate_left
          · go_simp; first | done | with_reducible rfl
          try simp only [Act.put, List.setIfInBounds_toArray, List.set_cons_zero, List.set_cons_succ]
          refine lin_val (i := 2) (v := ?_) rfl (by kernel_rfl) (by kernel_rfl) (by kernel_rfl) (fun _ _ _ h => h) hSS hS rfl (fun W' hSw => ?_) ?_
          rotate_left
          · go_simp; first | done | with_reducible rfl
          try simp only [Act.put, List.setIfInBounds_toArray, List.set_cons_zero, List.set_cons_succ]
          refine lin_val (i := 3) (v := ?_) rfl (by kernel_rfl) (by kernel_rfl) (by kernel_rfl) (fun _ _ _ h => h) hSS hS rfl (fun W' hSw => ?_) ?_
          rotate_left
          · go_simp; first | done | with_reducible rfl
          try simp only [Act.put, List.setIfInBounds_toArray, List.set_cons_zero, List.set_cons_succ]
          refine lin_val (i := 4) (v := ?_) rfl (by kernel_rfl) (by kernel_rfl) (by kernel_rfl) (fun _ _ _ h => h) hSS hS rfl (fun W' hSw => ?_) ?_
          rotate_left
          · go_simp; first | done | with_reducible rfl
          try simp only [Act.put, List.setIfInBounds_toArray, List.set_cons_zero, List.set_cons_succ]
          refine lin_val (i := 5) (v := ?_) rfl (by kernel_rfl) (by kernel_rfl) (by kernel_rfl) (fun _ _ _ h => h) hSS hS rfl (fun W' hSw => ?_) ?_
          rotate_left
          · go_simp; first | done | with_reducible rfl
          try simp only [Act.put, List.setIfInBounds_toArray, List.set_cons_zero, List.set_cons_succ]
          refine lin_val (i := 6) (v := ?_) rfl (by kernel_rfl) (by kernel_rfl) (by kernel_rfl) (fun _ _ _ h => h) hSS hS rfl (fun W' hSw => ?_) ?_
          rotate_left
          · go_simp; first | done | with_reducible rfl
          try simp only [Act.put, List.setIfInBounds_toArray, List.set_cons_zero, List.set_cons_succ]
          refine lin_val (i := 7) (v := ?_) rfl (by kernel_rfl) (by kernel_rfl) (by kernel_rfl) (fun _ _ _ h => h) hSS hS rfl (fun W' hSw => ?_) ?_
          rotate_left
          · go_simp; first | done | with_reducible rfl
          try simp only [Act.put, List.setIfInBounds_toArray, List.set_cons_zero, List.set_cons_succ]
          refine lin_val (i := 8) (v := ?_) rfl (by kernel_rfl) (by kernel_rfl) (by kernel_rfl) (fun _ _ _ h => h) hSS hS rfl (fun W' hSw => ?_) ?_
          rotate_left
          · have y0 := hSw.cell y0 hnY; have y1 := hSw.cell y1 hnY; have y2 := hSw.cell y2 hnY; go_simp; first | done | with_reducible rfl
          try simp only [Act.put, List.setIfInBounds_toArray, List.set_cons_zero, List.set_cons_succ]
          refine lin_val (i := 11) (v := ?_) rfl (by kernel_rfl) (by kernel_rfl) (by kernel_rfl) (fun _ _ _ h => h) hSS hS rfl (fun W' hSw => ?_) ?_
          rotate_left
          · go_simp; first | done | with_reducible rfl
          try simp only [Act.put, List.setIfInBounds_toArray, List.set_cons_zero, List.set_cons_succ]
          refine lin_list (i := 9) (by kernel_rfl) rfl (fun w8 k8 Q2 hQ => ?_)
          have hk8 : Kp [] w7 w8 := (Kp.refl _ _).drew.nil k8
          clear k8
          go_wp2_with fail
          refine hQ.out _ _ ((hk8.alloc _).mono (by simp)) (fun hS8 => ?_)
          clear hQ hS hnX hnY
          obtain ⟨w9, hw9⟩ : ∃ w9, w9 = w8.alloc (.cells #[.int .i64 1, .string ⟨x.toArray⟩, .int .i64 0] 42) := ⟨_, rfl⟩
          have hspY : Span w9 (some ⟨w8.heap.size, 0, none⟩) [.int .i64 1, .string ⟨x.toArray⟩, .int .i64 0] := by rw [hw9]; exact Span.of_new w8 42 _ _
          have H9 : Hid (Kp [] w7 w9) := hid (by rw [hw9]; exact hk8.alloc _)
          rw [← hw9] at hS8 ⊢
          clear hw9 hk8
          try simp only [Act.put, List.setIfInBounds_toArray, List.set_cons_zero, List.set_cons_succ]
          refine lin_list (i := 10) (by kernel_rfl) rfl (fun w10 k10 Q2 hQ => ?_)
          have hsp10 := H7.out.2.kept ((H7.out.1.nil H9.out).nil k10)
          have hspY10 := hspY.kept k10
          have H10 := hid (H9.out.nil k10)
          clear k10 hspY
          go_wp2_with (at_builtin; go_must (refine wpList_appendFull rfl _ _ 40 rfl 42 (.agg (stC (0, [], 0)).toArray) 3 32 Tryd.underlying40 stepsInfo rfl (by decide) Ap np (stCs pl) rfl hsp10 hxl hAn _ 1 1 [.int .i64 1, .string ⟨x.toArray⟩, .int .i64 0] rfl hspY10 rfl (by simp [Value.oneCell']) (by decide) ?_ ?_ ?_))
          · omega
          · omega
          intro g' c' w11 ho11 hk11 hg11
          have H11 := hid (And.intro (H10.out.nil hk11) (And.intro ho11 (And.intro hg11 hk11)))
          clear ho11 hk11 hg11 hsp10 hspY10
          go_wp2_with fail
          refine hQ.out _ _ (H11.out.1.mono (by simp)) (fun hS11 => ?_)
          clear hQ hS8
          try simp only [Act.put, List.setIfInBounds_toArray, List.set_cons_zero, List.set_cons_succ]
          refine lin_list (i := 12) (by kernel_rfl) rfl (fun w12 k12 Q2 hQ => ?_)
          obtain ⟨hv, hkr, hvr, hl, hkp, hlt'⟩ := HR.out
          have hkw := (H7.out.1.nil H11.out.1).nil k12
          have hgl : wr.heap.size ≤ g' := by rw [H11.out.2.2.1]; exact (H7.out.1.nil H10.out).size
          have e3 : stCs pl ++ [.int .i64 1, .string ⟨x.toArray⟩, .int .i64 0] = stCs (pl ++ [stp k keys j]) := by rw [stCs_snoc, HST.out]; rfl
          have hoo := H11.out.2.1.kept k12
          rw [e3] at hoo
          have hst' : StepsAt w12 (fun x => x ≠ b ∧ some x ≠ G') (.slice (some ⟨g', 0, none⟩) (np + 1) c') (pl ++ [stp k keys j]) := by
            have hb := hl.blt
            refine .of_own (by rw [List.length_append, List.length_singleton, ← HNP.out]; exact hoo) (fun g hg => ?_)
            have hg : g' = g := by simpa [Value.ownBlock] using hg
            refine ⟨by omega, fun e => ?_⟩
            have := hl.glt g e.symm
            omega
          have hhm := holesK_many cl pl k keys (kids.take j) 0
          have hszt := sizes_take kids j v hv
          have hszv := HS.out
          have qq := QJ.out w12 b G' _ _ _ cl (hkr.nil hkw) HD.out.2.2.1 (fun g hg => by rcases hlt' g hg with h | h; exact H3.out.2.1 g h; exact Nat.le_trans H3.out.1.size h) (hl.kept hkw) hst' (by rw [List.length_append]; omega) (by rw [List.length_append, List.length_singleton]; omega) hcl
          have HK12 := hid (And.intro hkw k12)
          have H12 := hid k12
          clear hv hkr hvr hl hkp hlt' hkw hgl e3 hoo hst' hhm hszt hszv k12
          go_wp2_with fail
          (with_reducible refine qq.mono ?_)
          rintro e w13 ⟨rfl, G2, hl2, k13, lt13⟩
          have HZ := hid (And.intro hl2 (And.intro k13 lt13))
          clear hl2 k13 lt13 qq
          go_wp2_with fail
          refine hQ.out _ _ (((H11.out.1.nil H12.out).mono (by simp)).trans HZ.out.2.1 (fun x hx _ => hx)) (fun hS13 => ?_)
          try simp only [Act.put, List.setIfInBounds_toArray, List.set_cons_zero, List.set_cons_succ]
          refine lin_done (by kernel_rfl) (fun wq kq => ?_) _
          have HQ := hid kq
          clear kq hS13
          clear hQ hS11 hSS t0 t1 t2 t3 t4 t5 t6 t7 t8 y0 y1 y2
          go_wp2_with fail
          go_roundw
          case rel =>
            obtain ⟨hv, hkr, hvr, hl, hkp, hlt'⟩ := HR.out
            refine ⟨j + 1, G2, by omega, by go_num, ?_, (walk_trans (hkp.nil HK12.out.1) hlt' HZ.out.2.1).nil HQ.out, hlt'.trans HZ.out.2.2 (hkp.nil HK12.out.1).size⟩
            rw [holesK_take cl pl k keys kids j v hv, ← List.append_assoc]
            exact HZ.out.1.kept HQ.out
          case measure => simp [RowKit.intOf]; omega
        · have z7 : ((k : Int) == 7) = false := beq_eq_false_iff_ne.2 (by omega)
          have hst : stp k keys j = (2, [], j) := by unfold stp stA; rw [if_neg h7]
          have HST := hid hst
          have HK7 := hid h7
          clear h7 hst hkr
          go_wp2_with fail
          obtain ⟨w7, hw7⟩ : ∃ w7, w7 = (wr.alloc (.cells #[.int .i64 ak, .int .u64 am, .bool an, .string ad, .int .i64 az, .string ax, .slice aA ank ack, .slice aB anb acb, .int .i64 aco] 31)).alloc (.cells #[.int .i64 2, .string ⟨#[]⟩, .int .i64 (j : Int)] 42) := ⟨_, rfl⟩
          have hkw7 : Kp [] wr w7 := by rw [hw7]; exact ((Kp.refl _ _).alloc _).alloc _
          have hcX : Cells w7 wr.heap.size 31 [.int .i64 ak, .int .u64 am, .bool an, .string ad, .int .i64 az, .string ax, .slice aA ank ack, .slice aB anb acb, .int .i64 aco] := by rw [hw7]; exact (Cells.fresh wr 31 _).alloc _
          have hcY : Cells w7 (wr.heap.size + 1) 42 [.int .i64 2, .string ⟨#[]⟩, .int .i64 (j : Int)] := by rw [hw7]; exact Cells.fresh1 wr _ 42 _
          rw [← hw7]
          have t0 := hcX.cell 0
          have t1 := hcX.cell 1
          have t2 := hcX.cell 2
          have t3 := hcX.cell 3
          have t4 := hcX.cell 4
          have t5 := hcX.cell 5
          have t6 := hcX.cell 6
          have t7 := hcX.cell 7
          have t8 := hcX.cell 8
          have y0 := hcY.cell 0
          have y1 := hcY.cell 1
          have y2 := hcY.cell 2
          obtain ⟨hsp, hAn⟩ := HR.out.2.2.1.span
          rw [← HNP.out] at hAn
          have hxl : (stCs pl).length = np * 3 := by rw [stCs_len, HNP.out]
          have hnpb : np ≤ 1000000 := by have := HS.out.2.2; rw [HNP.out]; omega
          have H7 := hid (And.intro hkw7 hsp)
          clear hw7 hkw7 hcX hcY hsp c0 c1 c2 c3 c4 c5 c6 c7 c8 xx0 xx6
          have hbl := HR.out.2.2.2.1.blt
          have hgl := HR.out.2.2.2.1.glt
          have hnX : wr.heap.size ∉ b :: G'.toList := by
            intro hm
            rcases List.mem_cons.1 hm with h | h
            · omega
            · have := hgl _ (Option.mem_toList.1 h); omega
          have hnY : wr.heap.size + 1 ∉ b :: G'.toList := by
            intro hm
            rcases List.mem_cons.1 hm with h | h
            · omega
            · have := hgl _ (Option.mem_toList.1 h); omega
          clear hbl hgl
          refine lin_start (fun W' => Kp (b :: G'.toList) w7 W') (Stays.kp _ _) (by kernel_rfl) (Kp.refl _ _).drew (fun hSS hS => ?_)
          refine lin_val (i := 0) (v := ?_) rfl (by kernel_rfl) (by kernel_rfl) (by kernel_rfl) (fun _ _ _ h => h) hSS hS rfl (fun W' hSw => ?_) ?_
          rotate_left
          · have t0 := hSw.cell t0 hnX; have t1 := hSw.cell t1 hnX; have t2 := hSw.cell t2 hnX; have t3 := hSw.cell t3 hnX; have t4 := hSw.cell t4 hnX; have t5 := hSw.cell t5 hnX; have t6 := hSw.cell t6 hnX; have t7 := hSw.cell t7 hnX; have t8 := hSw.cell t8 hnX; go_simp; first | done | with_reducible rfl
          try simp only [Act.put, List.setIfInBounds_toArray, List.set_cons_zero, List.set_cons_succ]
          refine lin_val (i := 1) (v := ?_) rfl (by kernel_rfl) (by kernel_rfl) (by kernel_rfl) (fun _ _ _ h => h) hSS hS rfl (fun W' hSw => ?_) ?_
          rotate_left
          · go_simp; first | done | with_reducible rfl
          try simp only [Act.put, List.setIfInBounds_toArray, List.set_cons_zero, List.set_cons_succ]
          refine lin_val (i := 2) (v := ?_) rfl (by kernel_rfl) (by kernel_rfl) (by kernel_rfl) (fun _ _ _ h => h) hSS hS rfl (fun W' hSw => ?_) ?_
          rotate_left
          · go_simp; first | done | with_reducible rfl
          try simp only [Act.put, List.setIfInBounds_toArray, List.set_cons_zero, List.set_cons_succ]
          refine lin_val (i := 3) (v := ?_) rfl (by kernel_rfl) (by kernel_rfl) (by kernel_rfl) (fun _ _ _ h => h) hSS hS rfl (fun W' hSw => ?_) ?_
          rotate_left
          · go_simp; first | done | with_reducible rfl
          try simp only [Act.put, List.setIfInBounds_toArray, List.set_cons_zero, List.set_cons_succ]
          refine lin_val (i := 4) (v := ?_) rfl (by kernel_rfl) (by kernel_rfl) (by kernel_rfl) (fun _ _ _ h => h) hSS hS rfl (fun W' hSw => ?_) ?_
          rotate_left
          · go_simp; first | done | with_reducible rfl
          try simp only [Act.put, List.setIfInBounds_toArray, List.set_cons_zero, List.set_cons_succ]
          refine lin_val (i := 5) (v := ?_) rfl (by kernel_rfl) (by kernel_rfl) (by kernel_rfl) (fun _ _ _ h => h) hSS hS rfl (fun W' hSw => ?_) ?_
          rotate_left
          · go_simp; first | done | with_reducible rfl
          try simp only [Act.put, List.setIfInBounds_toArray, List.set_cons_zero, List.set_cons_succ]
          refine lin_val (i := 6) (v := ?_) rfl (by kernel_rfl) (by kernel_rfl) (by kernel_rfl) (fun _ _ _ h => h) hSS hS rfl (fun W' hSw => ?_) ?_
          rotate_left
          · go_simp; first | done | with_reducible rfl
          try simp only [Act.put, List.setIfInBounds_toArray, List.set_cons_zero, List.set_cons_succ]
          refine lin_val (i := 7) (v := ?_) rfl (by kernel_rfl) (by kernel_rfl) (by kernel_rfl) (fun _ _ _ h => h) hSS hS rfl (fun W' hSw => ?_) ?_
          rotate_left
          · go_simp; first | done | with_reducible rfl
          try simp only [Act.put, List.setIfInBounds_toArray, List.set_cons_zero, List.set_cons_succ]
          refine lin_val (i := 8) (v := ?_) rfl (by kernel_rfl) (by kernel_rfl) (by kernel_rfl) (fun _ _ _ h => h) hSS hS rfl (fun W' hSw => ?_) ?_
          rotate_left
          · have y0 := hSw.cell y0 hnY; have y1 := hSw.cell y1 hnY; have y2 := hSw.cell y2 hnY; go_simp; first | done | with_reducible rfl
          try simp only [Act.put, List.setIfInBounds_toArray, List.set_cons_zero, List.set_cons_succ]
          refine lin_val (i := 11) (v := ?_) rfl (by kernel_rfl) (by kernel_rfl) (by kernel_rfl) (fun _ _ _ h => h) hSS hS rfl (fun W' hSw => ?_) ?_
          rotate_left
          · go_simp; first | done | with_reducible rfl
          try simp only [Act.put, List.setIfInBounds_toArray, List.set_cons_zero, List.set_cons_succ]
          refine lin_list (i := 9) (by kernel_rfl) rfl (fun w8 k8 Q2 hQ => ?_)
          have hk8 : Kp [] w7 w8 := (Kp.refl _ _).drew.nil k8
          clear k8
          go_wp2_with fail
          refine hQ.out _ _ ((hk8.alloc _).mono (by simp)) (fun hS8 => ?_)
          clear hQ hS hnX hnY
          obtain ⟨w9, hw9⟩ : ∃ w9, w9 = w8.alloc (.cells #[.int .i64 2, .string ⟨#[]⟩, .int .i64 (j : Int)] 42) := ⟨_, rfl⟩
          have hspY : Span w9 (some ⟨w8.heap.size, 0, none⟩) [.int .i64 2, .string ⟨#[]⟩, .int .i64 (j : Int)] := by rw [hw9]; exact Span.of_new w8 42 _ _
          have H9 : Hid (Kp [] w7 w9) := hid (by rw [hw9]; exact hk8.alloc _)
          rw [← hw9] at hS8 ⊢
          clear hw9 hk8
          try simp only [Act.put, List.setIfInBounds_toArray, List.set_cons_zero, List.set_cons_succ]
          refine lin_list (i := 10) (by kernel_rfl) rfl (fun w10 k10 Q2 hQ => ?_)
          have hsp10 := H7.out.2.kept ((H7.out.1.nil H9.out).nil k10)
          have hspY10 := hspY.kept k10
          have H10 := hid (H9.out.nil k10)
          clear k10 hspY
          go_wp2_with (at_builtin; go_must (refine wpList_appendFull rfl _ _ 40 rfl 42 (.agg (stC (0, [], 0)).toArray) 3 32 Tryd.underlying40 stepsInfo rfl (by decide) Ap np (stCs pl) rfl hsp10 hxl hAn _ 1 1 [.int .i64 2, .string ⟨#[]⟩, .int .i64 (j : Int)] rfl hspY10 rfl (by simp [Value.oneCell']) (by decide) ?_ ?_ ?_))
          · omega
          · omega
          intro g' c' w11 ho11 hk11 hg11
          have H11 := hid (And.intro (H10.out.nil hk11) (And.intro ho11 (And.intro hg11 hk11)))
          clear ho11 hk11 hg11 hsp10 hspY10
          go_wp2_with fail
          refine hQ.out _ _ (H11.out.1.mono (by simp)) (fun hS11 => ?_)
          clear hQ hS8
          try simp only [Act.put, List.setIfInBounds_toArray, List.set_cons_zero, List.set_cons_succ]
          refine lin_list (i := 12) (by kernel_rfl) rfl (fun w12 k12 Q2 hQ => ?_)
          obtain ⟨hv, hkr, hvr, hl, hkp, hlt'⟩ := HR.out
          have hkw := (H7.out.1.nil H11.out.1).nil k12
          have hgl : wr.heap.size ≤ g' := by rw [H11.out.2.2.1]; exact (H7.out.1.nil H10.out).size
          have e3 : stCs pl ++ [.int .i64 2, .string ⟨#[]⟩, .int .i64 (j : Int)] = stCs (pl ++ [stp k keys j]) := by rw [stCs_snoc, HST.out]; rfl
          have hoo := H11.out.2.1.kept k12
          rw [e3] at hoo
          have hst' : StepsAt w12 (fun x => x ≠ b ∧ some x ≠ G') (.slice (some ⟨g', 0, none⟩) (np + 1) c') (pl ++ [stp k keys j]) := by
            have hb := hl.blt
            refine .of_own (by rw [List.length_append, List.length_singleton, ← HNP.out]; exact hoo) (fun g hg => ?_)
            have hg : g' = g := by simpa [Value.ownBlock] using hg
            refine ⟨by omega, fun e => ?_⟩
            have := hl.glt g e.symm
            omega
          have hhm := holesK_many cl pl k keys (kids.take j) 0
          have hszt := sizes_take kids j v hv
          have hszv := HS.out
          have qq := QJ.out w12 b G' _ _ _ cl (hkr.nil hkw) HD.out.2.2.1 (fun g hg => by rcases hlt' g hg with h | h; exact H3.out.2.1 g h; exact Nat.le_trans H3.out.1.size h) (hl.kept hkw) hst' (by rw [List.length_append]; omega) (by rw [List.length_append, List.length_singleton]; omega) hcl
          have HK12 := hid (And.intro hkw k12)
          have H12 := hid k12
          clear hv hkr hvr hl hkp hlt' hkw hgl e3 hoo hst' hhm hszt hszv k12
          go_wp2_with fail
          (with_reducible refine qq.mono ?_)
          rintro e w13 ⟨rfl, G2, hl2, k13, lt13⟩
          have HZ := hid (And.intro hl2 (And.intro k13 lt13))
          clear hl2 k13 lt13 qq
          go_wp2_with fail
          refine hQ.out _ _ (((H11.out.1.nil H12.out).mono (by simp)).trans HZ.out.2.1 (fun x hx _ => hx)) (fun hS13 => ?_)
          try simp only [Act.put, List.setIfInBounds_toArray, List.set_cons_zero, List.set_cons_succ]
          refine lin_done (by kernel_rfl) (fun wq kq => ?_) _
          have HQ := hid kq
          clear kq hS13
          clear hQ hS11 hSS t0 t1 t2 t3 t4 t5 t6 t7 t8 y0 y1 y2
          go_wp2_with fail
          go_roundw
          case rel =>
            obtain ⟨hv, hkr, hvr, hl, hkp, hlt'⟩ := HR.out
            refine ⟨j + 1, G2, by omega, by go_num, ?_, (walk_trans (hkp.nil HK12.out.1) hlt' HZ.out.2.1).nil HQ.out, hlt'.trans HZ.out.2.2 (hkp.nil HK12.out.1).size⟩
            rw [holesK_take cl pl k keys kids j v hv, ← List.append_assoc]
            exact HZ.out.1.kept HQ.out
          case measure => simp [RowKit.intOf]; omega
      · have hjn : j = nb := by omega
        have htk : kids.take j = kids := List.take_of_length_le (by rw [hjn, HN.out.2.1]; exact Nat.le_refl _)
        rw [htk] at hl
        have z1 : decide ((j : Int) < (nb : Int)) = false := decide_eq_false (by omega)
        have z1n : decide (j < nb) = false := decide_eq_false hlt
        have hkE := walk_trans H3.out.2.2.2.2.1 H3.out.2.2.2.2.2.1 hkp
        have hLE := H3.out.2.2.2.2.2.1.trans hlt' H3.out.2.2.2.2.1.size
        have HE := hid (And.intro hl (And.intro hkE hLE))
        clear hl hkp hlt' hkE hLE htk hjn hlt
        go_wp2_with fail
        first | go_end0 | (simp only [Exit.inBlock, Exit.then]; refine bodyPost_ret (results_none rfl _ _ _) rfl ?_) | refine bodyPost_ret (results_none rfl _ _ _) rfl ?_
        exact ⟨rfl, G', by rw [HL.out]; exact HE.out.1, HE.out.2.1, HE.out.2.2⟩
theorem walk_any {w : World} {v : Vl} {cs : List Value} (h : Rep w v cs) : WalkAt w v cs := by
  induction h with
  | mk k m num t keys kids code A ck B cb ks hA hB hr ih => exact walk_step w k m num t keys kids code A ck B cb ks hA hB hr ih
end Go.Proofs.YtpeldjihalldkaaDoor
