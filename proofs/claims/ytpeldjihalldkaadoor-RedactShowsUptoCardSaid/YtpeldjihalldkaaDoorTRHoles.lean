/- holes: where something hidden lies, the document's answer. -/
import Derived.Test.YtpeldjihalldkaaDoorTHoles
import Derived.Test.YtpeldjihalldkaaDoorTRAlike
import Derived.Test.YtpeldjihalldkaaDoorRG
namespace Go.Proofs.YtpeldjihalldkaaDoor
open Go Go.RowKit Go.Lib

/-- Places in memory, their steps in blocks of a kind. -/
def PlacesT (w : World) (T : Nat → Prop) (v : Value) (l : List (List Stp)) : Prop := ∃ vs, Own w 40 v l.length vs ∧ ∀ (i : Nat) s p, vs[i]? = some s → l[i]? = some p → StepsAt w T s p
theorem PlacesT.plain {w : World} {T : Nat → Prop} {v : Value} {l : List (List Stp)} (h : PlacesT w T v l) : PlacesV w v l := by
  obtain ⟨vs, h1, h2⟩ := h
  exact ⟨vs, h1, fun i s p hs hp => (h2 i s p hs hp).mono fun _ _ _ => True.intro⟩
/-- What holes does for a tree at any later world. -/
def RHolesAt (w : World) (v : Vl) (cs : List Value) : Prop :=
  FineV v → ∀ (W : World) (T : Nat → Prop) (vp : Value) (pl : List Stp) (cl : Nat), Kp [] w W → StepsAt W T vp pl → (∀ x, W.heap.size ≤ x → T x) → pl.length + sizeV v ≤ 1000000 → sizeV v ≤ 1000000 → cl < 18446744073709551616 →
    Calls Tryd.prog 42 #[.agg cs.toArray, .int .u64 (cl : Int), vp] W fun e w' => ∃ vr, e = .returned vr ∧ PlacesT w' T vr (holesL cl pl v) ∧ Kp [] W w'
set_option maxRecDepth 100000 in
set_option maxHeartbeats 25600000 in
theorem rholes_step (w : World) (k m : Nat) (num : Option Dc) (t : Txt) (keys : List Txt) (kids : List Vl) (code : Nat) (A : Option Addr) (ck : Nat) (B : Option Addr) (cb : Nat) (ks : Nat → List Value)
    (hA : KeysAt w A ck keys) (hB : KidsAt w B cb kids.length ks) (hr : ∀ (i : Nat) v, kids[i]? = some v → Rep w v (ks i)) (ih : ∀ (i : Nat) v, kids[i]? = some v → RHolesAt w v (ks i)) :
    RHolesAt w (.mk k m num t keys kids code) (vC k m (vN num) (vD num) (vS num) t A keys.length ck B kids.length cb code) := by
  intro hf W T vp pl cl hK hvp hTT hpl hls hcl
  have q1 := fun W' => rhidden_cells W' (k : Int) m (vN num) (vD num) (vS num) t A keys.length ck B kids.length cb (code : Int) cl (fine_mask hf) hcl
  have hsz : sizeV (.mk k m num t keys kids code) = 1 + sizes kids := by unfold sizeV; omega
  rw [hsz] at hpl hls
  have hhol : holesL cl pl (.mk k m num t keys kids code) = if hidB m cl then [pl] else holesK cl pl k keys 0 kids := by unfold holesL; rfl
  obtain ⟨hd, hhd⟩ : ∃ b, b = hidB m cl := ⟨_, rfl⟩
  simp only [← hhd] at q1 hhol
  have hfk := fine_kid hf
  have hka := hA.le
  have hka2 := hA.top
  have hkb := hB.le
  have hkb2 := hB.top
  have hkk : k = 7 → keys.length = kids.length := by cases hf; assumption
  obtain ⟨H, hH⟩ : ∃ H, H = holesL cl pl (.mk k m num t keys kids code) := ⟨_, rfl⟩
  rw [← hH] at hhol
  unfold vC
  rw [← hH]
  obtain ⟨nk, hnk⟩ : ∃ x, x = keys.length := ⟨_, rfl⟩
  obtain ⟨nb, hnb⟩ : ∃ x, x = kids.length := ⟨_, rfl⟩
  simp only [← hnk, ← hnb] at q1 hka hkb hkk ⊢
  obtain ⟨W1, hW1⟩ : ∃ W1, W1 = W.alloc (.cells #[.int .i64 (k : Int), .int .u64 (m : Int), .bool (vN num), .string ⟨(vD num).toArray⟩, .int .i64 (vS num), .string ⟨t.toArray⟩, .slice A nk ck, .slice B nb cb, .int .i64 (code : Int)] 31) := ⟨_, rfl⟩
  have hk1 : Kp [] W W1 := by rw [hW1]; exact (Kp.refl _ _).alloc _
  have hs1 : W1.heap.size = W.heap.size + 1 := by rw [hW1]; simp
  have hca : Cells W1 W.heap.size 31 [.int .i64 (k : Int), .int .u64 (m : Int), .bool (vN num), .string ⟨(vD num).toArray⟩, .int .i64 (vS num), .string ⟨t.toArray⟩, .slice A nk ck, .slice B nb cb, .int .i64 (code : Int)] := by rw [hW1]; exact Cells.fresh W 31 _
  have HW1 := hid hW1
  have HH := hid (And.intro hk1 (And.intro hs1 hca))
  have HN := hid (And.intro hnk (And.intro hnb hkk))
  have HT := hid (And.intro hA (And.intro hB (And.intro hr (And.intro ih hfk))))
  have HS := hid (And.intro hls hpl)
  have HL := hid hhol
  have HVP0 := hid hvp
  have HTT := hid hTT
  have HK := hid hK
  obtain ⟨Ap, cp, rfl, hcp1, hcp2, -, -⟩ := hvp.ex
  obtain ⟨np, hnp⟩ : ∃ x, x = pl.length := ⟨_, rfl⟩
  rw [← hnp] at hcp1 HVP0 ⊢
  have HNP := hid hnp
  clear hA hB hr ih hfk hvp hTT hK hnk hnb hkk hW1 hk1 hs1 hca hsz hls hpl hhol hH hhd hf hnp
  go_enter Tryd.func42, Tryd.ntmps42
  go_wp2_with fail
  rw [← HW1.out]
  (with_reducible refine (q1 _).mono ?_)
  rintro e w2 ⟨rfl, k2⟩
  have hk2 := HH.out.1.nil k2
  have hca := HH.out.2.2.keep k2 (by simp)
  have hs2 : W.heap.size < w2.heap.size := by have := k2.size; have := HH.out.2.1; omega
  have H2 := hid (And.intro hk2 (And.intro hca hs2))
  have HVP := hid (HVP0.out.kept hk2)
  clear k2 q1 hk2 hca hs2
  cases hd with
  | true =>
    go_wp2_with fail
    go_ret
    refine ⟨_, rfl, ⟨[.slice Ap np cp], ?_, fun i s p hs hp => ?_⟩, H2.out.1.alloc _⟩
    · rw [HL.out]
      exact OwnN.of_cells (n := 1) (s := 1) (Cells.fresh w2 40 [.slice Ap np cp]) rfl (by decide)
    · rw [HL.out] at hp
      cases i with
      | zero =>
        injection hs with hs
        injection hp with hp
        rw [← hs, ← hp]
        exact (HVP.out.kept ((Kp.refl _ _).alloc _))
      | succ i => cases hs
  | false =>
    have x7 := H2.out.2.1.cell 7
    simp only [List.getElem?_cons_zero, List.getElem?_cons_succ] at x7
    go_wp2_with fail
    clear x7
    go_loopw [7, 8] (fun vo vi wr => ∃ (j nh go co : Nat) (vs : List Value), j ≤ nb ∧ vi = .int .i64 (j : Int) ∧ vo = .slice (some ⟨go, 0, none⟩) nh co ∧ nh = (holesK cl pl k keys 0 (kids.take j)).length ∧ OwnN wr 40 1 (.slice (some ⟨go, 0, none⟩) nh co) nh vs ∧ w2.heap.size ≤ go ∧ go < wr.heap.size ∧
      (∀ (i : Nat) s p, vs[i]? = some s → (holesK cl pl k keys 0 (kids.take j))[i]? = some p → StepsAt wr (fun x => T x ∧ x ≠ go) s p) ∧ Kp [] w2 wr) (fun _ vi _ => nb - (RowKit.intOf vi).toNat)
    case atStart => exact ⟨0, 0, w2.heap.size, 0, [], Nat.zero_le _, rfl, rfl, by simp [holesK], OwnN.of_cells (n := 0) (Cells.fresh w2 40 []) rfl (by decide), Nat.le_refl _, by simp, (fun i s p hs => by cases hs), (Kp.refl _ _).alloc _⟩
    case round =>
      obtain ⟨j, nh, go, co, vs, hj, rfl, rfl, hnh, hog, hgo1, hgo2, hstp, hkr⟩ := hrel
      have hkW := H2.out.1.nil hkr
      have hca := H2.out.2.1.keep hkr (by simp)
      have hs2 := H2.out.2.2
      by_cases hlt : j < nb
      · have hlk : j < kids.length := by rw [← HN.out.2.1]; exact hlt
        obtain ⟨v, hv⟩ := at_some hlk
        obtain ⟨gb, rfl, b1⟩ := (HT.out.2.1.kept (HK.out.nil hkW)).at_ j hlk
        obtain ⟨ak, am, an, ad, az, ax, aA, ank, ack, aB, anb, acb, aco, e1⟩ := (HT.out.2.2.1 j v hv).isV
        have qj := HT.out.2.2.2.1 j v hv (HT.out.2.2.2.2 v (at_mem hv))
        rw [e1] at b1 qj
        have gbl : gb < w.heap.size := by
          obtain ⟨g0, e0, h0⟩ := HT.out.2.1.at_ j hlk
          injection e0 with e0
          injection e0 with e0
          subst e0
          rw [e1] at h0
          have := World.block_lt_of_cell? w _ (h0 0 _ rfl)
          exact this
        have c0 := b1 0 _ rfl
        have c1 := b1 1 _ rfl
        have c2 := b1 2 _ rfl
        have c3 := b1 3 _ rfl
        have c4 := b1 4 _ rfl
        have c5 := b1 5 _ rfl
        have c6 := b1 6 _ rfl
        have c7 := b1 7 _ rfl
        have c8 := b1 8 _ rfl
        simp only [Nat.add_zero] at c0
        have x0 := hca.cell 0
        have x6 := hca.cell 6
        have x7 := hca.cell 7
        simp only [List.getElem?_cons_zero, List.getElem?_cons_succ] at x0 x6 x7
        have xx0 := fun o => ((Kp.refl [] wr).alloc o).cell x0 (by simp)
        have xx6 := fun o => ((Kp.refl [] wr).alloc o).cell x6 (by simp)
        have xx7 := fun o => ((Kp.refl [] wr).alloc o).cell x7 (by simp)
        have e9 : j * 9 = 9 * j := Nat.mul_comm _ _
        have z1 : decide ((j : Int) < (nb : Int)) = true := decide_eq_true (by omega)
        have z1n : decide (j < nb) = true := decide_eq_true hlt
        have jn : (j : Int) < (nb : Int) := by omega
        have hsr : w2.heap.size ≤ go ∧ go < wr.heap.size ∧ W.heap.size < w2.heap.size ∧ gb < w2.heap.size := ⟨hgo1, hgo2, hs2, by have := HK.out.size; omega⟩
        have HR := hid (And.intro hv (And.intro hkW (And.intro hca (And.intro hsr hkr))))
        have HO := hid (And.intro hog (And.intro hstp hnh))
        have QJ := hid qj
        clear hlk hca b1 e1 qj hv hkW hs2 hog hstp hnh hgo1 hgo2 hsr gbl
        by_cases h7 : k = 7
        · have hkk := HN.out.2.2 h7
          have jk : j < nk := by omega
          have jki : (j : Int) < (nk : Int) := by omega
          obtain ⟨x, hx⟩ : ∃ x, keys[j]? = some x := ⟨_, List.getElem?_eq_getElem (by rw [← HN.out.1]; exact jk)⟩
          obtain ⟨ga, rfl, a1⟩ := (HT.out.1.kept (HK.out.nil HR.out.2.1)).at_ j x hx
          have aa1 := fun o => ((Kp.refl [] wr).alloc o).cell a1 (by simp)
          have z7 : ((k : Int) == 7) = true := by rw [h7]; rfl
          have hst : stp k keys j = (1, x, 0) := by unfold stp stK; rw [if_pos h7, hx]; rfl
          have HST := hid hst
          have HK7 := hid h7
          clear h7 hkk hx a1 hst hkr
          go_upto_region 10 with fail
          clear aa1 xx6
          obtain ⟨wA, hwA⟩ : ∃ wA, wA = wr.alloc (.cells #[.int .i64 1, .string ⟨x.toArray⟩, .int .i64 0] 42) := ⟨_, rfl⟩
          have hkA : Kp [] wr wA := by rw [hwA]; exact (Kp.refl _ _).alloc _
          have hsA : wA.heap.size = wr.heap.size + 1 := by rw [hwA]; simp
          have hcY : Cells wA wr.heap.size 42 [.int .i64 1, .string ⟨x.toArray⟩, .int .i64 0] := by rw [hwA]; exact Cells.fresh wr 42 _
          obtain ⟨hsp, -⟩ := HVP.out.span
          have hspA := hsp.kept (HR.out.2.2.2.2.nil hkA)
          have hxl : (stCs pl).length = np * 3 := by rw [stCs_len, HNP.out]
          have hnpb : np ≤ 1000000 := by have := HS.out.2; rw [HNP.out]; omega
          have HA := hid (And.intro hkA (And.intro hsA hcY))
          rw [← hwA]
          clear hwA hkA hsA hcY hsp xx0 xx7
          go_wp2_with (at_builtin; go_must (refine wpList_appendR rfl _ _ 40 rfl 42 (.agg (stC (0, [], 0)).toArray) 3 32 Tryd.underlying40 stepsInfo rfl (by decide) wA.heap.size 0 0 [] rfl (OwnN.of_cells (n := 0) (Cells.fresh wA 42 []) rfl (by decide)) Ap np cp (stCs pl) rfl (hspA.kept ((Kp.refl _ _).alloc _)) hxl (stCs_one pl) ?_ ?_ ?_))
          · omega
          · omega
          intro g3 cq3 wB ho3 hk3 hg3
          try simp only [Nat.zero_add, List.nil_append] at ho3
          have hkAB : Kp [] wA wB := ((Kp.refl _ _).alloc _).fresh hk3 (Nat.le_refl _)
          have hg3o : wA.heap.size ≤ g3 := by rcases hg3 with h | h; exact Nat.le_of_eq h.symm; rw [h]; simp
          have hkB := HA.out.1.nil hkAB
          have hcX := (HR.out.2.2.1).keep hkB (by simp)
          have hcY := HA.out.2.2.keep hkAB (by simp)
          have x7 := hcX.cell 7
          replace c0 := hkB.cell c0 (by simp)
          replace c1 := hkB.cell c1 (by simp)
          replace c2 := hkB.cell c2 (by simp)
          replace c3 := hkB.cell c3 (by simp)
          replace c4 := hkB.cell c4 (by simp)
          replace c5 := hkB.cell c5 (by simp)
          replace c6 := hkB.cell c6 (by simp)
          replace c7 := hkB.cell c7 (by simp)
          replace c8 := hkB.cell c8 (by simp)
          have y0 := hcY.cell 0
          have y1 := hcY.cell 1
          have y2 := hcY.cell 2
          simp only [List.getElem?_cons_zero, List.getElem?_cons_succ] at x7 y0 y1 y2
          have hsr := HR.out.2.2.2.1
          have hnX : W.heap.size ∉ [g3, go] := by have := hsr.1; have := hsr.2.1; have := HA.out.2.1; have := hsr.2.2.1; simp; omega
          have hnB : gb ∉ [g3, go] := by have := hsr.2.2.2; have := HA.out.2.1; have := hsr.2.2.1; have := hsr.1; simp; omega
          have hnY : wr.heap.size ∉ [g3, go] := by have := hsr.2.1; have := HA.out.2.1; simp; omega
          have hogB := HO.out.1.kept hkB
          have HB := hid (And.intro hkB (And.intro ho3 (And.intro hg3o hogB)))
          clear hkAB hkB hcX hcY ho3 hg3 hk3 hg3o hspA hxl hogB hsr
          go_upto_region 11 with fail
          refine lin_start (fun W' => Kp [g3, go] wB W') (Stays.kp _ _) (by kernel_rfl) (Kp.refl _ _).drew (fun hSS hS => ?_)
          refine lin_val (i := 0) (v := ?_) rfl (by kernel_rfl) (by kernel_rfl) (by kernel_rfl) (fun _ _ _ h => h) hSS hS rfl (fun W' hSw => ?_) ?_
          rotate_left
          · go_simp; first | done | with_reducible rfl
          try simp only [Act.put, List.setIfInBounds_toArray, List.set_cons_zero, List.set_cons_succ]
          refine lin_val (i := 1) (v := ?_) rfl (by kernel_rfl) (by kernel_rfl) (by kernel_rfl) (fun _ _ _ h => h) hSS hS rfl (fun W' hSw => ?_) ?_
          rotate_left
          · go_simp; first | done | with_reducible rfl
          try simp only [Act.put, List.setIfInBounds_toArray, List.set_cons_zero, List.set_cons_succ]
          refine lin_val (i := 2) (v := ?_) rfl (by kernel_rfl) (by kernel_rfl) (by kernel_rfl) (fun _ _ _ h => h) hSS hS rfl (fun W' hSw => ?_) ?_
          rotate_left
          · have x7 := hSw.cell x7 hnX; go_simp; first | done | with_reducible rfl
          try simp only [Act.put, List.setIfInBounds_toArray, List.set_cons_zero, List.set_cons_succ]
          refine lin_val (i := 3) (v := ?_) rfl (by kernel_rfl) (by kernel_rfl) (by kernel_rfl) (fun _ _ _ h => h) hSS hS rfl (fun W' hSw => ?_) ?_
          rotate_left
          · go_simp; first | done | with_reducible rfl
          try simp only [Act.put, List.setIfInBounds_toArray, List.set_cons_zero, List.set_cons_succ]
          refine lin_val (i := 4) (v := ?_) rfl (by kernel_rfl) (by kernel_rfl) (by kernel_rfl) (fun _ _ _ h => h) hSS hS rfl (fun W' hSw => ?_) ?_
          rotate_left
          · go_simp; first | done | with_reducible rfl
          try simp only [Act.put, List.setIfInBounds_toArray, List.set_cons_zero, List.set_cons_succ]
          refine lin_val (i := 5) (v := ?_) rfl (by kernel_rfl) (by kernel_rfl) (by kernel_rfl) (fun _ _ _ h => h) hSS hS rfl (fun W' hSw => ?_) ?_
          rotate_left
          · have c0 := hSw.cell c0 hnB; have c1 := hSw.cell c1 hnB; have c2 := hSw.cell c2 hnB; have c3 := hSw.cell c3 hnB; have c4 := hSw.cell c4 hnB; have c5 := hSw.cell c5 hnB; have c6 := hSw.cell c6 hnB; have c7 := hSw.cell c7 hnB; have c8 := hSw.cell c8 hnB; go_simp; first | done | with_reducible rfl
          try simp only [Act.put, List.setIfInBounds_toArray, List.set_cons_zero, List.set_cons_succ]
          refine lin_val (i := 6) (v := ?_) rfl (by kernel_rfl) (by kernel_rfl) (by kernel_rfl) (fun _ _ _ h => h) hSS hS rfl (fun W' hSw => ?_) ?_
          rotate_left
          · go_simp; first | done | with_reducible rfl
          try simp only [Act.put, List.setIfInBounds_toArray, List.set_cons_zero, List.set_cons_succ]
          refine lin_val (i := 7) (v := ?_) rfl (by kernel_rfl) (by kernel_rfl) (by kernel_rfl) (fun _ _ _ h => h) hSS hS rfl (fun W' hSw => ?_) ?_
          rotate_left
          · go_simp; first | done | with_reducible rfl
          try simp only [Act.put, List.setIfInBounds_toArray, List.set_cons_zero, List.set_cons_succ]
          refine lin_val (i := 8) (v := ?_) rfl (by kernel_rfl) (by kernel_rfl) (by kernel_rfl) (fun _ _ _ h => h) hSS hS rfl (fun W' hSw => ?_) ?_
          rotate_left
          · have y0 := hSw.cell y0 hnY; have y1 := hSw.cell y1 hnY; have y2 := hSw.cell y2 hnY; go_simp; first | done | with_reducible rfl
          try simp only [Act.put, List.setIfInBounds_toArray, List.set_cons_zero, List.set_cons_succ]
          refine lin_list (i := 9) (by kernel_rfl) rfl (fun w8 k8 Q2 hQ => ?_)
          have hk8 : Kp [] wB w8 := (Kp.refl _ _).drew.nil k8
          clear k8
          go_wp2_with fail
          refine hQ.out _ _ ((hk8.alloc _).mono (by simp)) (fun hS8 => ?_)
          clear hQ hS hnX hnY hnB x7 c0 c1 c2 c3 c4 c5 c6 c7 c8 y0 y1 y2
          obtain ⟨w9, hw9⟩ : ∃ w9, w9 = w8.alloc (.cells #[.int .i64 1, .string ⟨x.toArray⟩, .int .i64 0] 42) := ⟨_, rfl⟩
          have hspY : Span w9 (some ⟨w8.heap.size, 0, none⟩) [.int .i64 1, .string ⟨x.toArray⟩, .int .i64 0] := by rw [hw9]; exact Span.of_new w8 42 _ _
          have H9 : Hid (Kp [] wB w9) := hid (by rw [hw9]; exact hk8.alloc _)
          rw [← hw9] at hS8 ⊢
          clear hw9 hk8
          try simp only [Act.put, List.setIfInBounds_toArray, List.set_cons_zero, List.set_cons_succ]
          refine lin_list (i := 10) (by kernel_rfl) rfl (fun w10 k10 Q2 hQ => ?_)
          have ho10 := HB.out.2.1.kept (H9.out.nil k10)
          have hspY10 := hspY.kept k10
          have H10 := hid (H9.out.nil k10)
          clear k10 hspY
          go_wp2_with (at_builtin; go_must (refine wpList_appendR rfl _ _ 40 rfl 42 (.agg (stC (0, [], 0)).toArray) 3 32 Tryd.underlying40 stepsInfo rfl (by decide) g3 np cq3 (stCs pl) rfl ho10 _ 1 1 [.int .i64 1, .string ⟨x.toArray⟩, .int .i64 0] rfl hspY10 rfl (by simp [Value.oneCell']) ?_ ?_ ?_))
          · omega
          · omega
          intro g4 cq4 w11 ho11 hk11 hg11
          have H11 := hid (And.intro ((H10.out.mono (by simp)).trans hk11 (fun x hx _ => List.mem_cons.2 (.inl (List.mem_singleton.1 hx))) : Kp [g3, go] wB w11) (And.intro ho11 (And.intro hg11 (And.intro hk11 H10.out))))
          clear ho11 hk11 hg11 ho10 hspY10
          go_wp2_with fail
          refine hQ.out _ _ H11.out.1 (fun hS11 => ?_)
          clear hQ hS8
          try simp only [Act.put, List.setIfInBounds_toArray, List.set_cons_zero, List.set_cons_succ]
          refine lin_list (i := 11) (by kernel_rfl) rfl (fun w12 k12 Q2 hQ => ?_)
          obtain ⟨hv, hkr, hcX, ⟨hs1, hs2, hs3, hs4⟩, hold⟩ := HR.out
          obtain ⟨hkB, ho3, hg3o, hogB⟩ := HB.out
          obtain ⟨h11, ho11, hg11, hk11, h10⟩ := H11.out
          have hkrB : Kp [] wr w11 := ((hkB.nil h10).fresh hk11 (by have := HA.out.2.1; omega))
          have hkw := hkr.nil (hkrB.nil k12)
          have hwr := hkr.size
          have hg4 : wr.heap.size ≤ g4 := by have := HA.out.2.1; have := hkB.size; have := h10.size; rcases hg11 with h | h <;> omega
          have e3 : stCs pl ++ [.int .i64 1, .string ⟨x.toArray⟩, .int .i64 0] = stCs (pl ++ [stp k keys j]) := by rw [stCs_snoc, HST.out]; rfl
          have hoo := ho11.kept k12
          rw [e3] at hoo
          have hst' : StepsAt w12 (fun x => T x ∧ x ≠ go) (.slice (some ⟨g4, 0, none⟩) (np + 1) cq4) (pl ++ [stp k keys j]) := by
            refine .of_own (by rw [List.length_append, List.length_singleton, ← HNP.out]; exact hoo) (fun g hg => ?_)
            have hg : g4 = g := by simpa [Value.ownBlock] using hg
            subst hg
            exact ⟨HTT.out _ (by omega), by omega⟩
          have hszv := HS.out
          have hsza := size_at kids j v hv
          have qq := QJ.out w12 (fun x => T x ∧ x ≠ go) _ _ cl (HK.out.nil hkw) hst' (fun x hx => by have := hkw.size; have := k12.size; have := hkrB.size; exact ⟨HTT.out _ (by omega), by omega⟩) (by rw [List.length_append, List.length_singleton]; omega) (by omega) hcl
          have HK12 := hid (And.intro (hkrB.nil k12) (And.intro k12 hkw))
          clear hv hkr hwr hcX hs1 hs2 hs3 hs4 hold hkB ho3 hg3o hogB h11 ho11 hg11 hk11 h10 hkrB hkw hg4 e3 hoo hst' hszv hsza k12
          go_wp2_with fail
          (with_reducible refine qq.mono ?_)
          rintro e w13 ⟨vr, rfl, ⟨vs2, ho2, hst2⟩, k13⟩
          obtain ⟨L2, hL2⟩ : ∃ L, L = holesL cl (pl ++ [stp k keys j]) v := ⟨_, rfl⟩
          rw [← hL2] at ho2 hst2
          obtain ⟨nL, hnL⟩ : ∃ n, n = L2.length := ⟨_, rfl⟩
          rw [← hnL] at ho2
          obtain ⟨Ar, cr, rfl, hspr, hcr, -, -⟩ := OwnN.shape (s := 1) ho2
          have hvl : vs2.length = nL * 1 := by obtain ⟨_, _, _, _, _, h, _⟩ := ho2.shape; rw [Nat.mul_one]; exact h
          have hone : ∀ u ∈ vs2, u.oneCell' = true := by
            intro u hu
            obtain ⟨i, hi⟩ := List.getElem?_of_mem hu
            have hil := (List.getElem?_eq_some_iff.1 hi).1
            obtain ⟨A', c', rfl, -⟩ := (hst2 i u _ hi (List.getElem?_eq_getElem (by omega))).ex
            rfl
          have hhm := holesK_many cl pl k keys (kids.take j) 0
          have hhm2 := holes_many cl v (pl ++ [stp k keys j])
          rw [← hL2] at hhm2
          have hszt := sizes_take kids j v HR.out.1
          have hszv := HS.out.1
          have hnb : nh + nL ≤ 1000000 := by have := HO.out.2.2; omega
          have HZ := hid (And.intro k13 (And.intro hst2 (And.intro hL2 (And.intro hnL (And.intro hvl hszv)))))
          have HSP := hid hspr
          clear qq ho2 hst2 hL2 hnL hhm hhm2 hszt hszv k13 hspr hcr
          go_wp2_with fail
          refine hQ.out _ _ (hS11.nil (HK12.out.2.1.nil HZ.out.1)) (fun hS13 => ?_)
          clear hQ hS11
          try simp only [Act.put, List.setIfInBounds_toArray, List.set_cons_zero, List.set_cons_succ]
          refine lin_list (i := 12) (by kernel_rfl) rfl (fun w14 k14 Q2 hQ => ?_)
          have hog14 := HO.out.1.kept (HK12.out.1.nil (HZ.out.1.nil k14))
          have hsp14 := HSP.out.kept k14
          go_wp2_with (at_builtin; go_must (refine wpList_appendR rfl _ _ 34 rfl 40 (.slice none 0 0) 1 24 Tryd.underlying34 placesInfo rfl (by decide) go nh co vs rfl hog14 Ar nL cr vs2 rfl hsp14 hvl hone ?_ ?_ ?_))
          · omega
          · omega
          intro go' co' w15 ho15 hk15 hg15
          have H15 := hid (And.intro ho15 (And.intro hk15 (And.intro hg15 k14)))
          clear ho15 hk15 hg15 hog14 hsp14 k14 hvl hone
          go_wp2_with fail
          refine hQ.out _ _ ((hS13.nil H15.out.2.2.2).trans H15.out.2.1 (fun x hx _ => List.mem_cons.2 (.inr hx))) (fun hS15 => ?_)
          clear hQ hS13
          try simp only [Act.put, List.setIfInBounds_toArray, List.set_cons_zero, List.set_cons_succ]
          refine lin_val (i := 13) (v := ?_) rfl (by kernel_rfl) (by kernel_rfl) (by kernel_rfl) (fun _ _ _ h => h) hSS hS15 rfl (fun W' hSw => ?_) ?_
          rotate_left
          · go_simp; first | done | with_reducible rfl
          try simp only [Act.put, List.setIfInBounds_toArray, List.set_cons_zero, List.set_cons_succ]
          refine lin_done (by kernel_rfl) (fun wq kq => ?_) _
          have HQ := hid kq
          clear kq hS15 hSS
          go_wp2_with fail
          go_roundw
          case rel =>
            obtain ⟨hv, hkr, hcX, ⟨hs1, hs2, hs3, hs4⟩, hold⟩ := HR.out
            obtain ⟨k13, hst2, hL2, hnL, hvl, -⟩ := HZ.out
            obtain ⟨ho15, hk15, hg15, k14⟩ := H15.out
            obtain ⟨hog, hstp, hnh⟩ := HO.out
            have hk114 := HK12.out.1.nil (k13.nil k14)
            have hkE := ((hold.nil hk114).fresh hk15 hs1).nil HQ.out
            have htk := holesK_take cl pl k keys kids j v hv
            rw [← hL2] at htk
            have hle : nh + nL = (holesK cl pl k keys 0 (kids.take (j + 1))).length := by rw [htk, List.length_append, ← hnh, hnL]
            have hv1 : vs.length = nh := by have := hog.length; omega
            have h14 := hk114.size
            refine ⟨j + 1, nh + nL, go', co', vs ++ vs2, by omega, by go_num, rfl, hle, ho15.kept HQ.out, ?_, ?_, fun i s p hs hp => ?_, hkE⟩
            · rcases hg15 with h | h
              · rw [h]; exact hs1
              · rw [h]; have := hold.size; omega
            · have := ho15.lt go' rfl; have := HQ.out.size; omega
            · rw [htk] at hp
              have fin : ∀ w0 s p, Kp [] w0 w14 → StepsAt w0 (fun x => T x ∧ x ≠ go) s p → StepsAt wq (fun x => T x ∧ x ≠ go') s p := by
                intro w0 s p hk hs
                have h1 : StepsAt w14 (fun x => T x ∧ x ≠ go) s p := hs.kept hk
                have h2 : StepsAt w14 (fun x => (T x ∧ x ≠ go) ∧ x ≠ go') s p := h1.mono (fun x hx hT => ⟨hT, by rcases hg15 with h | h; rw [h]; exact hT.2; omega⟩)
                exact ((h2.keep hk15 (fun x hx hT => hT.1.2 (List.mem_singleton.1 hx))).kept HQ.out).mono (fun x _ hT => ⟨hT.1.1, hT.2⟩)
              rcases Nat.lt_or_ge i nh with h | h
              · rw [List.getElem?_append_left (by omega)] at hs
                rw [List.getElem?_append_left (by omega)] at hp
                exact fin wr s p hk114 (hstp i s p hs hp)
              · rw [List.getElem?_append_right (by omega)] at hs
                rw [List.getElem?_append_right (by omega)] at hp
                rw [hv1, hnh] at hs
                exact fin w13 s p k14 (hst2 _ s p hs hp)
          case measure => simp [RowKit.intOf]; omega
        · have z7 : ((k : Int) == 7) = false := beq_eq_false_iff_ne.2 (by omega)
          have hst : stp k keys j = (2, [], j) := by unfold stp stA; rw [if_neg h7]
          have HST := hid hst
          have HK7 := hid h7
          clear h7 hst hkr
          go_upto_region 10 with fail
          clear xx6
          obtain ⟨wA, hwA⟩ : ∃ wA, wA = wr.alloc (.cells #[.int .i64 2, .string ⟨#[]⟩, .int .i64 (j : Int)] 42) := ⟨_, rfl⟩
          have hkA : Kp [] wr wA := by rw [hwA]; exact (Kp.refl _ _).alloc _
          have hsA : wA.heap.size = wr.heap.size + 1 := by rw [hwA]; simp
          have hcY : Cells wA wr.heap.size 42 [.int .i64 2, .string ⟨#[]⟩, .int .i64 (j : Int)] := by rw [hwA]; exact Cells.fresh wr 42 _
          obtain ⟨hsp, -⟩ := HVP.out.span
          have hspA := hsp.kept (HR.out.2.2.2.2.nil hkA)
          have hxl : (stCs pl).length = np * 3 := by rw [stCs_len, HNP.out]
          have hnpb : np ≤ 1000000 := by have := HS.out.2; rw [HNP.out]; omega
          have HA := hid (And.intro hkA (And.intro hsA hcY))
          rw [← hwA]
          clear hwA hkA hsA hcY hsp xx0 xx7
          go_wp2_with (at_builtin; go_must (refine wpList_appendR rfl _ _ 40 rfl 42 (.agg (stC (0, [], 0)).toArray) 3 32 Tryd.underlying40 stepsInfo rfl (by decide) wA.heap.size 0 0 [] rfl (OwnN.of_cells (n := 0) (Cells.fresh wA 42 []) rfl (by decide)) Ap np cp (stCs pl) rfl (hspA.kept ((Kp.refl _ _).alloc _)) hxl (stCs_one pl) ?_ ?_ ?_))
          · omega
          · omega
          intro g3 cq3 wB ho3 hk3 hg3
          try simp only [Nat.zero_add, List.nil_append] at ho3
          have hkAB : Kp [] wA wB := ((Kp.refl _ _).alloc _).fresh hk3 (Nat.le_refl _)
          have hg3o : wA.heap.size ≤ g3 := by rcases hg3 with h | h; exact Nat.le_of_eq h.symm; rw [h]; simp
          have hkB := HA.out.1.nil hkAB
          have hcX := (HR.out.2.2.1).keep hkB (by simp)
          have hcY := HA.out.2.2.keep hkAB (by simp)
          have x7 := hcX.cell 7
          replace c0 := hkB.cell c0 (by simp)
          replace c1 := hkB.cell c1 (by simp)
          replace c2 := hkB.cell c2 (by simp)
          replace c3 := hkB.cell c3 (by simp)
          replace c4 := hkB.cell c4 (by simp)
          replace c5 := hkB.cell c5 (by simp)
          replace c6 := hkB.cell c6 (by simp)
          replace c7 := hkB.cell c7 (by simp)
          replace c8 := hkB.cell c8 (by simp)
          have y0 := hcY.cell 0
          have y1 := hcY.cell 1
          have y2 := hcY.cell 2
          simp only [List.getElem?_cons_zero, List.getElem?_cons_succ] at x7 y0 y1 y2
          have hsr := HR.out.2.2.2.1
          have hnX : W.heap.size ∉ [g3, go] := by have := hsr.1; have := hsr.2.1; have := HA.out.2.1; have := hsr.2.2.1; simp; omega
          have hnB : gb ∉ [g3, go] := by have := hsr.2.2.2; have := HA.out.2.1; have := hsr.2.2.1; have := hsr.1; simp; omega
          have hnY : wr.heap.size ∉ [g3, go] := by have := hsr.2.1; have := HA.out.2.1; simp; omega
          have hogB := HO.out.1.kept hkB
          have HB := hid (And.intro hkB (And.intro ho3 (And.intro hg3o hogB)))
          clear hkAB hkB hcX hcY ho3 hg3 hk3 hg3o hspA hxl hogB hsr
          go_upto_region 11 with fail
          refine lin_start (fun W' => Kp [g3, go] wB W') (Stays.kp _ _) (by kernel_rfl) (Kp.refl _ _).drew (fun hSS hS => ?_)
          refine lin_val (i := 0) (v := ?_) rfl (by kernel_rfl) (by kernel_rfl) (by kernel_rfl) (fun _ _ _ h => h) hSS hS rfl (fun W' hSw => ?_) ?_
          rotate_left
          · go_simp; first | done | with_reducible rfl
          try simp only [Act.put, List.setIfInBounds_toArray, List.set_cons_zero, List.set_cons_succ]
          refine lin_val (i := 1) (v := ?_) rfl (by kernel_rfl) (by kernel_rfl) (by kernel_rfl) (fun _ _ _ h => h) hSS hS rfl (fun W' hSw => ?_) ?_
          rotate_left
          · go_simp; first | done | with_reducible rfl
          try simp only [Act.put, List.setIfInBounds_toArray, List.set_cons_zero, List.set_cons_succ]
          refine lin_val (i := 2) (v := ?_) rfl (by kernel_rfl) (by kernel_rfl) (by kernel_rfl) (fun _ _ _ h => h) hSS hS rfl (fun W' hSw => ?_) ?_
          rotate_left
          · have x7 := hSw.cell x7 hnX; go_simp; first | done | with_reducible rfl
          try simp only [Act.put, List.setIfInBounds_toArray, List.set_cons_zero, List.set_cons_succ]
          refine lin_val (i := 3) (v := ?_) rfl (by kernel_rfl) (by kernel_rfl) (by kernel_rfl) (fun _ _ _ h => h) hSS hS rfl (fun W' hSw => ?_) ?_
          rotate_left
          · go_simp; first | done | with_reducible rfl
          try simp only [Act.put, List.setIfInBounds_toArray, List.set_cons_zero, List.set_cons_succ]
          refine lin_val (i := 4) (v := ?_) rfl (by kernel_rfl) (by kernel_rfl) (by kernel_rfl) (fun _ _ _ h => h) hSS hS rfl (fun W' hSw => ?_) ?_
          rotate_left
          · go_simp; first | done | with_reducible rfl
          try simp only [Act.put, List.setIfInBounds_toArray, List.set_cons_zero, List.set_cons_succ]
          refine lin_val (i := 5) (v := ?_) rfl (by kernel_rfl) (by kernel_rfl) (by kernel_rfl) (fun _ _ _ h => h) hSS hS rfl (fun W' hSw => ?_) ?_
          rotate_left
          · have c0 := hSw.cell c0 hnB; have c1 := hSw.cell c1 hnB; have c2 := hSw.cell c2 hnB; have c3 := hSw.cell c3 hnB; have c4 := hSw.cell c4 hnB; have c5 := hSw.cell c5 hnB; have c6 := hSw.cell c6 hnB; have c7 := hSw.cell c7 hnB; have c8 := hSw.cell c8 hnB; go_simp; first | done | with_reducible rfl
          try simp only [Act.put, List.setIfInBounds_toArray, List.set_cons_zero, List.set_cons_succ]
          refine lin_val (i := 6) (v := ?_) rfl (by kernel_rfl) (by kernel_rfl) (by kernel_rfl) (fun _ _ _ h => h) hSS hS rfl (fun W' hSw => ?_) ?_
          rotate_left
          · go_simp; first | done | with_reducible rfl
          try simp only [Act.put, List.setIfInBounds_toArray, List.set_cons_zero, List.set_cons_succ]
          refine lin_val (i := 7) (v := ?_) rfl (by kernel_rfl) (by kernel_rfl) (by kernel_rfl) (fun _ _ _ h => h) hSS hS rfl (fun W' hSw => ?_) ?_
          rotate_left
          · go_simp; first | done | with_reducible rfl
          try simp only [Act.put, List.setIfInBounds_toArray, List.set_cons_zero, List.set_cons_succ]
          refine lin_val (i := 8) (v := ?_) rfl (by kernel_rfl) (by kernel_rfl) (by kernel_rfl) (fun _ _ _ h => h) hSS hS rfl (fun W' hSw => ?_) ?_
          rotate_left
          · have y0 := hSw.cell y0 hnY; have y1 := hSw.cell y1 hnY; have y2 := hSw.cell y2 hnY; go_simp; first | done | with_reducible rfl
          try simp only [Act.put, List.setIfInBounds_toArray, List.set_cons_zero, List.set_cons_succ]
          refine lin_list (i := 9) (by kernel_rfl) rfl (fun w8 k8 Q2 hQ => ?_)
          have hk8 : Kp [] wB w8 := (Kp.refl _ _).drew.nil k8
          clear k8
          go_wp2_with fail
          refine hQ.out _ _ ((hk8.alloc _).mono (by simp)) (fun hS8 => ?_)
          clear hQ hS hnX hnY hnB x7 c0 c1 c2 c3 c4 c5 c6 c7 c8 y0 y1 y2
          obtain ⟨w9, hw9⟩ : ∃ w9, w9 = w8.alloc (.cells #[.int .i64 2, .string ⟨#[]⟩, .int .i64 (j : Int)] 42) := ⟨_, rfl⟩
          have hspY : Span w9 (some ⟨w8.heap.size, 0, none⟩) [.int .i64 2, .string ⟨#[]⟩, .int .i64 (j : Int)] := by rw [hw9]; exact Span.of_new w8 42 _ _
          have H9 : Hid (Kp [] wB w9) := hid (by rw [hw9]; exact hk8.alloc _)
          rw [← hw9] at hS8 ⊢
          clear hw9 hk8
          try simp only [Act.put, List.setIfInBounds_toArray, List.set_cons_zero, List.set_cons_succ]
          refine lin_list (i := 10) (by kernel_rfl) rfl (fun w10 k10 Q2 hQ => ?_)
          have ho10 := HB.out.2.1.kept (H9.out.nil k10)
          have hspY10 := hspY.kept k10
          have H10 := hid (H9.out.nil k10)
          clear k10 hspY
          go_wp2_with (at_builtin; go_must (refine wpList_appendR rfl _ _ 40 rfl 42 (.agg (stC (0, [], 0)).toArray) 3 32 Tryd.underlying40 stepsInfo rfl (by decide) g3 np cq3 (stCs pl) rfl ho10 _ 1 1 [.int .i64 2, .string ⟨#[]⟩, .int .i64 (j : Int)] rfl hspY10 rfl (by simp [Value.oneCell']) ?_ ?_ ?_))
          · omega
          · omega
          intro g4 cq4 w11 ho11 hk11 hg11
          have H11 := hid (And.intro ((H10.out.mono (by simp)).trans hk11 (fun x hx _ => List.mem_cons.2 (.inl (List.mem_singleton.1 hx))) : Kp [g3, go] wB w11) (And.intro ho11 (And.intro hg11 (And.intro hk11 H10.out))))
          clear ho11 hk11 hg11 ho10 hspY10
          go_wp2_with fail
          refine hQ.out _ _ H11.out.1 (fun hS11 => ?_)
          clear hQ hS8
          try simp only [Act.put, List.setIfInBounds_toArray, List.set_cons_zero, List.set_cons_succ]
          refine lin_list (i := 11) (by kernel_rfl) rfl (fun w12 k12 Q2 hQ => ?_)
          obtain ⟨hv, hkr, hcX, ⟨hs1, hs2, hs3, hs4⟩, hold⟩ := HR.out
          obtain ⟨hkB, ho3, hg3o, hogB⟩ := HB.out
          obtain ⟨h11, ho11, hg11, hk11, h10⟩ := H11.out
          have hkrB : Kp [] wr w11 := ((hkB.nil h10).fresh hk11 (by have := HA.out.2.1; omega))
          have hkw := hkr.nil (hkrB.nil k12)
          have hwr := hkr.size
          have hg4 : wr.heap.size ≤ g4 := by have := HA.out.2.1; have := hkB.size; have := h10.size; rcases hg11 with h | h <;> omega
          have e3 : stCs pl ++ [.int .i64 2, .string ⟨#[]⟩, .int .i64 (j : Int)] = stCs (pl ++ [stp k keys j]) := by rw [stCs_snoc, HST.out]; rfl
          have hoo := ho11.kept k12
          rw [e3] at hoo
          have hst' : StepsAt w12 (fun x => T x ∧ x ≠ go) (.slice (some ⟨g4, 0, none⟩) (np + 1) cq4) (pl ++ [stp k keys j]) := by
            refine .of_own (by rw [List.length_append, List.length_singleton, ← HNP.out]; exact hoo) (fun g hg => ?_)
            have hg : g4 = g := by simpa [Value.ownBlock] using hg
            subst hg
            exact ⟨HTT.out _ (by omega), by omega⟩
          have hszv := HS.out
          have hsza := size_at kids j v hv
          have qq := QJ.out w12 (fun x => T x ∧ x ≠ go) _ _ cl (HK.out.nil hkw) hst' (fun x hx => by have := hkw.size; have := k12.size; have := hkrB.size; exact ⟨HTT.out _ (by omega), by omega⟩) (by rw [List.length_append, List.length_singleton]; omega) (by omega) hcl
          have HK12 := hid (And.intro (hkrB.nil k12) (And.intro k12 hkw))
          clear hv hkr hwr hcX hs1 hs2 hs3 hs4 hold hkB ho3 hg3o hogB h11 ho11 hg11 hk11 h10 hkrB hkw hg4 e3 hoo hst' hszv hsza k12
          go_wp2_with fail
          (with_reducible refine qq.mono ?_)
          rintro e w13 ⟨vr, rfl, ⟨vs2, ho2, hst2⟩, k13⟩
          obtain ⟨L2, hL2⟩ : ∃ L, L = holesL cl (pl ++ [stp k keys j]) v := ⟨_, rfl⟩
          rw [← hL2] at ho2 hst2
          obtain ⟨nL, hnL⟩ : ∃ n, n = L2.length := ⟨_, rfl⟩
          rw [← hnL] at ho2
          obtain ⟨Ar, cr, rfl, hspr, hcr, -, -⟩ := OwnN.shape (s := 1) ho2
          have hvl : vs2.length = nL * 1 := by obtain ⟨_, _, _, _, _, h, _⟩ := ho2.shape; rw [Nat.mul_one]; exact h
          have hone : ∀ u ∈ vs2, u.oneCell' = true := by
            intro u hu
            obtain ⟨i, hi⟩ := List.getElem?_of_mem hu
            have hil := (List.getElem?_eq_some_iff.1 hi).1
            obtain ⟨A', c', rfl, -⟩ := (hst2 i u _ hi (List.getElem?_eq_getElem (by omega))).ex
            rfl
          have hhm := holesK_many cl pl k keys (kids.take j) 0
          have hhm2 := holes_many cl v (pl ++ [stp k keys j])
          rw [← hL2] at hhm2
          have hszt := sizes_take kids j v HR.out.1
          have hszv := HS.out.1
          have hnb : nh + nL ≤ 1000000 := by have := HO.out.2.2; omega
          have HZ := hid (And.intro k13 (And.intro hst2 (And.intro hL2 (And.intro hnL (And.intro hvl hszv)))))
          have HSP := hid hspr
          clear qq ho2 hst2 hL2 hnL hhm hhm2 hszt hszv k13 hspr hcr
          go_wp2_with fail
          refine hQ.out _ _ (hS11.nil (HK12.out.2.1.nil HZ.out.1)) (fun hS13 => ?_)
          clear hQ hS11
          try simp only [Act.put, List.setIfInBounds_toArray, List.set_cons_zero, List.set_cons_succ]
          refine lin_list (i := 12) (by kernel_rfl) rfl (fun w14 k14 Q2 hQ => ?_)
          have hog14 := HO.out.1.kept (HK12.out.1.nil (HZ.out.1.nil k14))
          have hsp14 := HSP.out.kept k14
          go_wp2_with (at_builtin; go_must (refine wpList_appendR rfl _ _ 34 rfl 40 (.slice none 0 0) 1 24 Tryd.underlying34 placesInfo rfl (by decide) go nh co vs rfl hog14 Ar nL cr vs2 rfl hsp14 hvl hone ?_ ?_ ?_))
          · omega
          · omega
          intro go' co' w15 ho15 hk15 hg15
          have H15 := hid (And.intro ho15 (And.intro hk15 (And.intro hg15 k14)))
          clear ho15 hk15 hg15 hog14 hsp14 k14 hvl hone
          go_wp2_with fail
          refine hQ.out _ _ ((hS13.nil H15.out.2.2.2).trans H15.out.2.1 (fun x hx _ => List.mem_cons.2 (.inr hx))) (fun hS15 => ?_)
          clear hQ hS13
          try simp only [Act.put, List.setIfInBounds_toArray, List.set_cons_zero, List.set_cons_succ]
          refine lin_val (i := 13) (v := ?_) rfl (by kernel_rfl) (by kernel_rfl) (by kernel_rfl) (fun _ _ _ h => h) hSS hS15 rfl (fun W' hSw => ?_) ?_
          rotate_left
          · go_simp; first | done | with_reducible rfl
          try simp only [Act.put, List.setIfInBounds_toArray, List.set_cons_zero, List.set_cons_succ]
          refine lin_done (by kernel_rfl) (fun wq kq => ?_) _
          have HQ := hid kq
          clear kq hS15 hSS
          go_wp2_with fail
          go_roundw
          case rel =>
            obtain ⟨hv, hkr, hcX, ⟨hs1, hs2, hs3, hs4⟩, hold⟩ := HR.out
            obtain ⟨k13, hst2, hL2, hnL, hvl, -⟩ := HZ.out
            obtain ⟨ho15, hk15, hg15, k14⟩ := H15.out
            obtain ⟨hog, hstp, hnh⟩ := HO.out
            have hk114 := HK12.out.1.nil (k13.nil k14)
            have hkE := ((hold.nil hk114).fresh hk15 hs1).nil HQ.out
            have htk := holesK_take cl pl k keys kids j v hv
            rw [← hL2] at htk
            have hle : nh + nL = (holesK cl pl k keys 0 (kids.take (j + 1))).length := by rw [htk, List.length_append, ← hnh, hnL]
            have hv1 : vs.length = nh := by have := hog.length; omega
            have h14 := hk114.size
            refine ⟨j + 1, nh + nL, go', co', vs ++ vs2, by omega, by go_num, rfl, hle, ho15.kept HQ.out, ?_, ?_, fun i s p hs hp => ?_, hkE⟩
            · rcases hg15 with h | h
              · rw [h]; exact hs1
              · rw [h]; have := hold.size; omega
            · have := ho15.lt go' rfl; have := HQ.out.size; omega
            · rw [htk] at hp
              have fin : ∀ w0 s p, Kp [] w0 w14 → StepsAt w0 (fun x => T x ∧ x ≠ go) s p → StepsAt wq (fun x => T x ∧ x ≠ go') s p := by
                intro w0 s p hk hs
                have h1 : StepsAt w14 (fun x => T x ∧ x ≠ go) s p := hs.kept hk
                have h2 : StepsAt w14 (fun x => (T x ∧ x ≠ go) ∧ x ≠ go') s p := h1.mono (fun x hx hT => ⟨hT, by rcases hg15 with h | h; rw [h]; exact hT.2; omega⟩)
                exact ((h2.keep hk15 (fun x hx hT => hT.1.2 (List.mem_singleton.1 hx))).kept HQ.out).mono (fun x _ hT => ⟨hT.1.1, hT.2⟩)
              rcases Nat.lt_or_ge i nh with h | h
              · rw [List.getElem?_append_left (by omega)] at hs
                rw [List.getElem?_append_left (by omega)] at hp
                exact fin wr s p hk114 (hstp i s p hs hp)
              · rw [List.getElem?_append_right (by omega)] at hs
                rw [List.getElem?_append_right (by omega)] at hp
                rw [hv1, hnh] at hs
                exact fin w13 s p k14 (hst2 _ s p hs hp)
          case measure => simp [RowKit.intOf]; omega
      · have hjn : j = nb := by omega
        have htk : kids.take j = kids := List.take_of_length_le (by rw [hjn, HN.out.2.1]; exact Nat.le_refl _)
        rw [htk] at hnh hstp
        have z1 : decide ((j : Int) < (nb : Int)) = false := decide_eq_false (by omega)
        have z1n : decide (j < nb) = false := decide_eq_false hlt
        have HE := hid (And.intro hnh (And.intro hog (And.intro hstp hkW)))
        have x7 := hca.cell 7
        simp only [List.getElem?_cons_zero, List.getElem?_cons_succ] at x7
        clear hnh hog hstp hkW hkr htk hjn hlt hca hgo1 hgo2 hs2
        go_wp2_with fail
        go_ret
        refine ⟨_, rfl, ⟨vs, ?_, fun i s p hs hp => ?_⟩, HE.out.2.2.2⟩
        · rw [HL.out]
          have := HE.out.2.1
          rw [HE.out.1] at this
          exact (by rw [HE.out.1]; exact this)
        · rw [HL.out] at hp
          exact (HE.out.2.2.1 i s p hs hp).mono fun x _ h => h.1
theorem rholes_rep {w : World} {v : Vl} {cs : List Value} (h : Rep w v cs) : RHolesAt w v cs := by
  induction h with
  | mk k m num t keys kids code A ck B cb ks hA hB hr ih => exact rholes_step w k m num t keys kids code A ck B cb ks hA hB hr ih
set_option maxRecDepth 100000 in
set_option maxHeartbeats 6400000 in
theorem rholes_any {w : World} {v : Vl} {cs : List Value} (h : Rep w v cs) (hf : FineV v) (hz : sizeV v ≤ 1000000) (W : World) (hK : Kp [] w W) (cl : Nat) (hcl : cl < 18446744073709551616) :
    Calls Tryd.prog 15 #[.agg cs.toArray, .int .u64 (cl : Int)] W fun e w' => ∃ vp, e = .returned vp ∧ PlacesV w' vp (holesL cl [] v) ∧ Kp [] W w' := by
  have qw := rholes_rep h hf
  obtain ⟨ak, am, an, ad, az, ax, aA, ank, ack, aB, anb, acb, aco, e1⟩ := h.isV
  rw [e1] at qw ⊢
  obtain ⟨L, hL⟩ : ∃ L, L = holesL cl [] v := ⟨_, rfl⟩
  rw [← hL]
  obtain ⟨W2, hW2⟩ : ∃ W2, W2 = (W.alloc (.cells #[.int .i64 ak, .int .u64 am, .bool an, .string ad, .int .i64 az, .string ax, .slice aA ank ack, .slice aB anb acb, .int .i64 aco] 31)).alloc (.cells #[] 42) := ⟨_, rfl⟩
  have hk2 : Kp [] W W2 := by rw [hW2]; exact ((Kp.refl _ _).alloc _).alloc _
  have hst : StepsAt W2 (fun _ => True) (.slice (some ⟨W.heap.size + 1, 0, none⟩) 0 0) [] := ⟨_, 0, rfl, Nat.le_refl _, by decide, Span.nil _ _, fun ad h => by injection h with h; subst h; exact ⟨rfl, True.intro, by rw [hW2]; simp⟩⟩
  have q := qw W2 (fun _ => True) _ [] cl (hK.nil hk2) hst (fun _ _ => True.intro) (by simpa using hz) hz hcl
  rw [← hL] at q
  have HW2 := hid hW2
  have HK2 := hid hk2
  clear h hf hz hK hcl qw e1 hL hW2 hk2 hst
  go_enter Tryd.func15, Tryd.ntmps15
  go_wp2_with fail
  try rw [← HW2.out]
  (with_reducible refine q.mono ?_)
  rintro e w3 ⟨vr, rfl, hp, k3⟩
  have HE := hid (And.intro hp.plain (HK2.out.nil k3))
  clear hp k3 q
  go_wp2_with fail
  go_ret
  exact ⟨vr, rfl, HE.out.1, HE.out.2⟩
end Go.Proofs.YtpeldjihalldkaaDoor
