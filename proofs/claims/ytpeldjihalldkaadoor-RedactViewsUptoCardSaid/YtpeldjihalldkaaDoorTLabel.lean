/- label, Label: the document's answer. -/
import Derived.Test.YtpeldjihalldkaaDoorTBareW
import Derived.Test.YtpeldjihalldkaaDoorTMask
import Derived.Test.YtpeldjihalldkaaDoorRG
namespace Go.Proofs.YtpeldjihalldkaaDoor
open Go Go.RowKit Go.Lib

/-- What label does for a tree at any later world. -/
def LabelAt (w : World) (Ac : Option Addr) (nc cc : Nat) (Am : Option Addr) (cm : Nat) (ms : List (List StI × Nat)) (tok : ByteArray) (fu qu : Int) (v : Vl) (cs : List Value) : Prop :=
  FineV v → ∀ (W : World) (T : Nat → Prop) (vp : Value) (pl : List Stp), Kp [] w W → StepsAt W T vp pl → pl.length + sizeV v ≤ 1000000 →
    Calls Tryd.prog 58 #[.agg #[.slice Ac nc cc, .slice Am ms.length cm, .string tok, .int .i64 fu, .int .i64 qu], .agg cs.toArray, vp] W fun e w' =>
      ∃ cs', e = .returned (.agg cs'.toArray) ∧ RepS w' (fun x => x < w.heap.size ∨ (W.heap.size ≤ x ∧ x < w'.heap.size)) (labV (maskAtL ms) pl v) cs' ∧ Kp [] W w'
set_option maxRecDepth 100000 in
set_option maxHeartbeats 25600000 in
theorem label_step (w : World) (Ac : Option Addr) (nc cc : Nat) (Am : Option Addr) (cm : Nat) (ms : List (List StI × Nat)) (tok : ByteArray) (fu qu : Int) (hm0 : MarksAt w Am cm ms)
    (k m : Nat) (num : Option Dc) (t : Txt) (keys : List Txt) (kids : List Vl) (code : Nat) (A : Option Addr) (ck : Nat) (B : Option Addr) (cb : Nat) (ks : Nat → List Value)
    (hA : KeysAt w A ck keys) (hPA : ∀ ad, A = some ad → ad.block < w.heap.size) (hB : KidsAt w B cb kids.length ks) (hr : ∀ (i : Nat) v, kids[i]? = some v → Rep w v (ks i)) (ih : ∀ (i : Nat) v, kids[i]? = some v → LabelAt w Ac nc cc Am cm ms tok fu qu v (ks i)) :
    LabelAt w Ac nc cc Am cm ms tok fu qu (.mk k m num t keys kids code) (vC k m (vN num) (vD num) (vS num) t A keys.length ck B kids.length cb code) := by
  intro hf W T vp pl hK hvp hpl
  have hlab : labV (maskAtL ms) pl (.mk k m num t keys kids code) = .mk k (maskAtL ms pl) num t keys (labs (maskAtL ms) pl k keys 0 kids) code := by unfold labV; rfl
  rw [hlab]
  clear hlab
  have hsz : sizeV (.mk k m num t keys kids code) = 1 + sizes kids := by unfold sizeV; omega
  rw [hsz] at hpl
  clear hsz
  have hfk := fine_kid hf
  have hka := hA.le
  have hka2 := hA.top
  have l1 := hB.le
  have l2 := hB.top
  have hmany : kids.length ≤ 10 := by cases hf; assumption
  have hkk : k = 7 → keys.length = kids.length := by cases hf; assumption
  have qm := fun W' (h : Kp [] W W') => maskat_any W' Ac nc cc Am cm ms tok fu qu (hm0.kept (hK.nil h)) T vp pl (hvp.kept h) (by omega)
  obtain ⟨fm, hfm⟩ : ∃ f, f = maskAtL ms pl := ⟨_, rfl⟩
  simp only [← hfm] at qm ⊢
  unfold vC
  obtain ⟨nm, hnm⟩ : ∃ x, x = ms.length := ⟨_, rfl⟩
  obtain ⟨nk, hnk⟩ : ∃ x, x = keys.length := ⟨_, rfl⟩
  obtain ⟨n, hn⟩ : ∃ x, x = kids.length := ⟨_, rfl⟩
  rw [← hn] at l1 hmany
  rw [← hnk] at hka
  rw [← hnk, ← hn] at hkk
  simp only [← hnk, ← hn, ← hnm] at qm ⊢
  obtain ⟨W1, hW1⟩ : ∃ W1, W1 = ((W.alloc (.cells #[.slice Ac nc cc, .slice Am nm cm, .string tok, .int .i64 fu, .int .i64 qu] 52)).alloc (.cells #[.int .i64 (k : Int), .int .u64 (m : Int), .bool (vN num), .string ⟨(vD num).toArray⟩, .int .i64 (vS num), .string ⟨t.toArray⟩, .slice A nk ck, .slice B n cb, .int .i64 (code : Int)] 31)).alloc (.cells #[.int .i64 0, .int .u64 0, .bool false, .string ⟨#[]⟩, .int .i64 0, .string ⟨#[]⟩, .slice none 0 0, .slice none 0 0, .int .i64 0] 31) := ⟨_, rfl⟩
  have hk1 : Kp [] W W1 := by rw [hW1]; exact (((Kp.refl _ _).alloc _).alloc _).alloc _
  have hs1 : W1.heap.size = W.heap.size + 3 := by rw [hW1]; simp
  obtain ⟨gp, hgp⟩ : ∃ gp, gp = W.heap.size := ⟨_, rfl⟩
  obtain ⟨gv, hgv⟩ : ∃ gv, gv = W.heap.size + 1 := ⟨_, rfl⟩
  obtain ⟨gr, hgr⟩ : ∃ gr, gr = gv + 1 := ⟨_, rfl⟩
  have hcP : Cells W1 gp 52 [.slice Ac nc cc, .slice Am nm cm, .string tok, .int .i64 fu, .int .i64 qu] := by rw [hW1, hgp]; exact ((Cells.fresh W 52 _).alloc _).alloc _
  have hcV : Cells W1 gv 31 [.int .i64 (k : Int), .int .u64 (m : Int), .bool (vN num), .string ⟨(vD num).toArray⟩, .int .i64 (vS num), .string ⟨t.toArray⟩, .slice A nk ck, .slice B n cb, .int .i64 (code : Int)] := by rw [hW1, hgv]; exact (Cells.fresh1 W _ 31 _).alloc _
  have hroom : VRoom gr W1 := by
    have := VRoom.fresh ((W.alloc (.cells #[.slice Ac nc cc, .slice Am nm cm, .string tok, .int .i64 fu, .int .i64 qu] 52)).alloc (.cells #[.int .i64 (k : Int), .int .u64 (m : Int), .bool (vN num), .string ⟨(vD num).toArray⟩, .int .i64 (vS num), .string ⟨t.toArray⟩, .slice A nk ck, .slice B n cb, .int .i64 (code : Int)] 31)) (.int .i64 0) (.int .u64 0) (.bool false) (.string ⟨#[]⟩) (.int .i64 0) (.string ⟨#[]⟩) (.slice none 0 0) (.slice none 0 0) (.int .i64 0)
    rw [hW1, hgr, hgv]
    simpa using this
  have q1 := qm W1 hk1
  have HX := hid (And.intro (hA.kept hK) (And.intro hPA (And.intro (hB.kept hK) (And.intro hr (And.intro ih (And.intro hfk (And.intro hn hnk)))))))
  have HBw := hid hB
  have HK := hid hK
  have HVP0 := hid hvp
  have HS := hid hpl
  have HKK := hid hkk
  have H1 := hid (And.intro hk1 (And.intro hs1 (And.intro hcP (And.intro hcV hroom))))
  have HW1 := hid hW1
  have HG := hid (And.intro hgp (And.intro hgv hgr))
  have e0 := hcP.cell 0; have e1 := hcP.cell 1; have e2 := hcP.cell 2; have e3 := hcP.cell 3; have e4 := hcP.cell 4
  obtain ⟨Ap, cp, rfl, hcp1, hcp2, -, -⟩ := hvp.ex
  obtain ⟨np, hnp⟩ : ∃ x, x = pl.length := ⟨_, rfl⟩
  rw [← hnp] at hcp1 HVP0 q1 ⊢
  have HNP := hid hnp
  have HNM := hid hnm
  clear hm0 hA hPA hB hr ih hK hfk hf hn hnk hnm hkk hk1 hs1 hcP hcV hroom hW1 hgp hgv hgr qm hvp hpl hnp hfm
  go_enter Tryd.func58, Tryd.ntmps58
  go_upto_region 1 with fail
  rw [← HW1.out]
  try simp only [← HG.out.2.1]
  try simp only [← HG.out.2.2]
  try simp only [← HG.out.1]
  go_wp2_with fail
  (with_reducible refine q1.mono ?_)
  rintro e w2 ⟨rfl, k2⟩
  have hcV2 := H1.out.2.2.2.1.keep k2 (by simp)
  have f1 := hcV2.free 1
  have y1 := hcV2.cell 1
  simp only [List.getElem?_cons_zero, List.getElem?_cons_succ] at y1
  obtain ⟨W0, hW0⟩ : ∃ W0, W0 = w2.setCell ⟨gv, 1, none⟩ (.int .u64 (fm : Int)) := ⟨_, rfl⟩
  have hkp : Kp [gv] w2 W0 := by rw [hW0]; exact kp_put (Kp.refl _ _) _ _ (.inr (by simp)) _
  have hk0 : Kp [] W W0 := (H1.out.1.nil k2).fresh hkp (by rw [HG.out.2.1]; omega)
  have hcV0 : Cells W0 gv 31 [.int .i64 (k : Int), .int .u64 (fm : Int), .bool (vN num), .string ⟨(vD num).toArray⟩, .int .i64 (vS num), .string ⟨t.toArray⟩, .slice A nk ck, .slice B n cb, .int .i64 (code : Int)] := by rw [hW0]; exact hcV2.put 1 _
  have hgpv : gp ≠ gv := by rw [HG.out.1, HG.out.2.1]; omega
  have hcP0 := (H1.out.2.2.1.keep k2 (by simp)).keep hkp (by simpa using hgpv)
  have hroom0 : VRoom (gr) W0 := by
    obtain ⟨cs, h1, h2⟩ := H1.out.2.2.2.2.kept k2
    exact ⟨cs, h1.keep hkp (by have := HG.out.2.2; simp; omega), h2⟩
  have hs0 : W.heap.size + 3 ≤ W0.heap.size := by have := H1.out.2.1; have := k2.size; have := hkp.size; omega
  have H0 := hid (And.intro hk0 (And.intro hs0 (And.intro hcV0 (And.intro hcP0 hroom0))))
  have HW0 := hid hW0
  have x7 := hcV0.cell 7
  simp only [List.getElem?_cons_zero, List.getElem?_cons_succ] at x7
  clear k2 q1 hcV2 hW0 hkp hk0 hcV0 hcP0 hroom0 hs0 hgpv e0 e1 e2 e3 e4
  go_upto_region 2 with fail
  rw [← HW0.out]
  clear f1 y1 x7
  have HVP := hid (HVP0.out.kept H0.out.1)
  go_wp2_with fail
  go_loopw [7, 8] (fun va vi wr => ∃ (css : List (List Value)) (go co j : Nat), Grow w W0 wr va ((labs (maskAtL ms) pl k keys 0 kids).take j) css go co ∧ vi = .int .i64 (j : Int) ∧ j ≤ n) (fun _ vi _ => n - (RowKit.intOf vi).toNat)
  case atStart =>
    refine ⟨[], W0.heap.size, 0, 0, ⟨rfl, own_empty W0 rfl, Nat.le_refl _, by simp, ⟨rfl, fun i v c h => by cases h⟩, (Kp.refl _ _).alloc _, Nat.le_trans HK.out.size H0.out.1.size⟩, rfl, Nat.zero_le _⟩
  case round =>
    obtain ⟨css, go, co, j, hG, rfl, hj⟩ := hrel
    obtain ⟨hA, hPA, hB, hr, ih, hfk, hn, hnk⟩ := HX.out
    have hml : (labs (maskAtL ms) pl k keys 0 kids).length = n := by rw [labs_len, hn]
    have htl : ((labs (maskAtL ms) pl k keys 0 kids).take j).length = j := by rw [List.length_take, hml]; omega
    have hgv0 := hG.v
    rw [htl] at hgv0
    subst hgv0
    have hkW := H0.out.1.nil hG.kp
    have hc := H0.out.2.2.1.keep hG.kp (by simp)
    have hcP := H0.out.2.2.2.1.keep hG.kp (by simp)
    by_cases hlt : j < n
    · have hlk : j < kids.length := by omega
      obtain ⟨v, hv⟩ := at_some hlk
      obtain ⟨gb, rfl, b1⟩ := (hB.kept hkW).at_ j hlk
      obtain ⟨ak, am, an, ad, az, ax, aA, ank, ack, aB, anb, acb, aco, e1⟩ := (hr j v hv).isV
      have qj := ih j v hv (hfk v (at_mem hv))
      rw [e1] at b1 qj
      have gbl : gb < w.heap.size := by
        obtain ⟨g0, e0, h0⟩ := HBw.out.at_ j hlk
        injection e0 with e0
        injection e0 with e0
        subst e0
        rw [e1] at h0
        have := World.block_lt_of_cell? w _ (h0 0 _ rfl)
        exact this
      have c0 := b1 0 _ rfl
      have c1 := b1 1 _ rfl
      have c2 := b1 2 _ rfl
      have c3 := b1 3 _ rfl
      have c4 := b1 4 _ rfl
      have c5 := b1 5 _ rfl
      have c6 := b1 6 _ rfl
      have c7 := b1 7 _ rfl
      have c8 := b1 8 _ rfl
      simp only [Nat.add_zero] at c0
      have x0 := hc.cell 0
      have x6 := hc.cell 6
      have x7 := hc.cell 7
      simp only [List.getElem?_cons_zero, List.getElem?_cons_succ] at x0 x6 x7
      have xx0 := fun o => ((Kp.refl [] wr).alloc o).cell x0 (by simp)
      have xx6 := fun o => ((Kp.refl [] wr).alloc o).cell x6 (by simp)
      have xx7 := fun o => ((Kp.refl [] wr).alloc o).cell x7 (by simp)
      have htk : (labs (maskAtL ms) pl k keys 0 kids).take (j + 1) = (labs (maskAtL ms) pl k keys 0 kids).take j ++ [labV (maskAtL ms) (pl ++ [stp k keys j]) v] := by rw [List.take_add_one, labs_at, hv, Nat.zero_add]; rfl
      have hown : OwnN wr 31 9 (.slice (some ⟨go, 0, none⟩) j co) j css.flatten := by have := hG.own; rw [htl] at this; exact this
      have hcj : j ≤ co := by obtain ⟨_, _, e, _, h, _⟩ := hown.shape; injection e with _ _ e; omega
      have HO := hid (And.intro hG (And.intro htk (And.intro htl hown)))
      have e9 : j * 9 = 9 * j := Nat.mul_comm _ _
      have z1 : decide ((j : Int) < (n : Int)) = true := decide_eq_true (by omega)
      have z1n : decide (j < n) = true := decide_eq_true hlt
      have jn : (j : Int) < (n : Int) := by omega
      have hsr1 : W0.heap.size ≤ go := hG.old
      have hsr2 : go < wr.heap.size := hG.lt
      have hsr3 := H0.out.2.1
      have hsr4 := HK.out.size
      have hsr5 : gp < W.heap.size + 1 := by rw [HG.out.1]; omega
      have hsr6 : gv < W.heap.size + 2 := by rw [HG.out.2.1]; omega
      have HR := hid (And.intro hv (And.intro hG.kp (And.intro hc (And.intro hcP (And.intro hsr1 hkW)))))
      have QJ := hid qj
      have hkrW : Hid (KeysAt wr A ck keys) := hid (hA.kept hkW)
      clear hlk hc hcP b1 e1 qj hv hkW hG htk htl hml hown hA hPA hB hr ih hfk hn hnk
      by_cases h7 : k = 7
      · have hkk := HKK.out h7
        have jk : j < nk := by omega
        have jki : (j : Int) < (nk : Int) := by omega
        obtain ⟨x, hx⟩ : ∃ x, keys[j]? = some x := ⟨_, List.getElem?_eq_getElem (by rw [← HX.out.2.2.2.2.2.2.2]; exact jk)⟩
        obtain ⟨ga, rfl, a1⟩ := hkrW.out.at_ j x hx
        have aa1 := fun o => ((Kp.refl [] wr).alloc o).cell a1 (by simp)
        have z7 : ((k : Int) == 7) = true := by rw [h7]; rfl
        have hst : stp k keys j = (1, x, 0) := by unfold stp stK; rw [if_pos h7, hx]; rfl
        have HST := hid hst
        have HK7 := hid h7
        clear h7 hkk hx a1 hst
        go_upto_region 9 with fail
        clear aa1 xx6
        obtain ⟨wA, hwA⟩ : ∃ wA, wA = wr.alloc (.cells #[.int .i64 1, .string ⟨x.toArray⟩, .int .i64 0] 42) := ⟨_, rfl⟩
        have hkA : Kp [] wr wA := by rw [hwA]; exact (Kp.refl _ _).alloc _
        have hsA : wA.heap.size = wr.heap.size + 1 := by rw [hwA]; simp
        have hcY : Cells wA wr.heap.size 42 [.int .i64 1, .string ⟨x.toArray⟩, .int .i64 0] := by rw [hwA]; exact Cells.fresh wr 42 _
        obtain ⟨hsp, -⟩ := (HVP.out.kept (HR.out.2.1)).span
        have hspA := hsp.kept hkA
        have hxl : (stCs pl).length = np * 3 := by rw [stCs_len, HNP.out]
        have hnpb : np ≤ 1000000 := by have := HS.out; rw [HNP.out]; omega
        have HA := hid (And.intro hkA (And.intro hsA hcY))
        rw [← hwA]
        clear hwA hkA hsA hcY hsp xx0 xx7
        go_wp2_with (at_builtin; go_must (refine wpList_appendR rfl _ _ 40 rfl 42 (.agg (stC (0, [], 0)).toArray) 3 32 Tryd.underlying40 stepsInfo rfl (by decide) wA.heap.size 0 0 [] rfl (OwnN.of_cells (n := 0) (Cells.fresh wA 42 []) rfl (by decide)) Ap np cp (stCs pl) rfl (hspA.kept ((Kp.refl _ _).alloc _)) hxl (stCs_one pl) ?_ ?_ ?_))
        · omega
        · omega
        intro g3 cq3 wB ho3 hk3 hg3
        try simp only [Nat.zero_add, List.nil_append] at ho3
        have hkAB : Kp [] wA wB := ((Kp.refl _ _).alloc _).fresh hk3 (Nat.le_refl _)
        have hg3o : wA.heap.size ≤ g3 := by rcases hg3 with h | h; exact Nat.le_of_eq h.symm; rw [h]; simp
        have hkB := HA.out.1.nil hkAB
        have hcX := (HR.out.2.2.1).keep hkB (by simp)
        have hcP := (HR.out.2.2.2.1).keep hkB (by simp)
        have hcY := HA.out.2.2.keep hkAB (by simp)
        have x7 := hcX.cell 7
        have e0 := hcP.cell 0; have e1 := hcP.cell 1; have e2 := hcP.cell 2; have e3 := hcP.cell 3; have e4 := hcP.cell 4
        replace c0 := hkB.cell c0 (by simp)
        replace c1 := hkB.cell c1 (by simp)
        replace c2 := hkB.cell c2 (by simp)
        replace c3 := hkB.cell c3 (by simp)
        replace c4 := hkB.cell c4 (by simp)
        replace c5 := hkB.cell c5 (by simp)
        replace c6 := hkB.cell c6 (by simp)
        replace c7 := hkB.cell c7 (by simp)
        replace c8 := hkB.cell c8 (by simp)
        have y0 := hcY.cell 0
        have y1 := hcY.cell 1
        have y2 := hcY.cell 2
        simp only [List.getElem?_cons_zero, List.getElem?_cons_succ] at x7 y0 y1 y2
        have hsr := HR.out.2.2.2.2.1
        have hnX : gv ∉ [g3, go] := by have := HA.out.2.1; simp; omega
        have hnP : gp ∉ [g3, go] := by have := HA.out.2.1; simp; omega
        have hnB : gb ∉ [g3, go] := by have := HA.out.2.1; simp; omega
        have hnY : wr.heap.size ∉ [g3, go] := by have := HA.out.2.1; simp; omega
        have hogB := HO.out.2.2.2.kept hkB
        have HB := hid (And.intro hkB (And.intro ho3 (And.intro hg3o hogB)))
        clear hkAB hkB hcX hcP hcY ho3 hg3 hk3 hg3o hspA hxl hogB hsr
        go_upto_region 10 with fail
        refine lin_start (fun W' => Kp [g3, go] wB W') (Stays.kp _ _) (by kernel_rfl) (Kp.refl _ _).drew (fun hSS hS => ?_)
        refine lin_val (i := 0) (v := ?_) rfl (by kernel_rfl) (by kernel_rfl) (by kernel_rfl) (fun _ _ _ h => h) hSS hS rfl (fun W' hSw => ?_) ?_
        rotate_left
        · go_simp; first | done | with_reducible rfl
        try simp only [Act.put, List.setIfInBounds_toArray, List.set_cons_zero, List.set_cons_succ]
        refine lin_val (i := 1) (v := ?_) rfl (by kernel_rfl) (by kernel_rfl) (by kernel_rfl) (fun _ _ _ h => h) hSS hS rfl (fun W' hSw => ?_) ?_
        rotate_left
        · have e0 := hSw.cell e0 hnP; have e1 := hSw.cell e1 hnP; have e2 := hSw.cell e2 hnP; have e3 := hSw.cell e3 hnP; have e4 := hSw.cell e4 hnP; go_simp; first | done | with_reducible rfl
        try simp only [Act.put, List.setIfInBounds_toArray, List.set_cons_zero, List.set_cons_succ]
        refine lin_val (i := 2) (v := ?_) rfl (by kernel_rfl) (by kernel_rfl) (by kernel_rfl) (fun _ _ _ h => h) hSS hS rfl (fun W' hSw => ?_) ?_
        rotate_left
        · go_simp; first | done | with_reducible rfl
        try simp only [Act.put, List.setIfInBounds_toArray, List.set_cons_zero, List.set_cons_succ]
        refine lin_val (i := 3) (v := ?_) rfl (by kernel_rfl) (by kernel_rfl) (by kernel_rfl) (fun _ _ _ h => h) hSS hS rfl (fun W' hSw => ?_) ?_
        rotate_left
        · have x7 := hSw.cell x7 hnX; go_simp; first | done | with_reducible rfl
        try simp only [Act.put, List.setIfInBounds_toArray, List.set_cons_zero, List.set_cons_succ]
        refine lin_val (i := 4) (v := ?_) rfl (by kernel_rfl) (by kernel_rfl) (by kernel_rfl) (fun _ _ _ h => h) hSS hS rfl (fun W' hSw => ?_) ?_
        rotate_left
        · go_simp; first | done | with_reducible rfl
        try simp only [Act.put, List.setIfInBounds_toArray, List.set_cons_zero, List.set_cons_succ]
        refine lin_val (i := 5) (v := ?_) rfl (by kernel_rfl) (by kernel_rfl) (by kernel_rfl) (fun _ _ _ h => h) hSS hS rfl (fun W' hSw => ?_) ?_
        rotate_left
        · go_simp; first | done | with_reducible rfl
        try simp only [Act.put, List.setIfInBounds_toArray, List.set_cons_zero, List.set_cons_succ]
        refine lin_val (i := 6) (v := ?_) rfl (by kernel_rfl) (by kernel_rfl) (by kernel_rfl) (fun _ _ _ h => h) hSS hS rfl (fun W' hSw => ?_) ?_
        rotate_left
        · have c0 := hSw.cell c0 hnB; have c1 := hSw.cell c1 hnB; have c2 := hSw.cell c2 hnB; have c3 := hSw.cell c3 hnB; have c4 := hSw.cell c4 hnB; have c5 := hSw.cell c5 hnB; have c6 := hSw.cell c6 hnB; have c7 := hSw.cell c7 hnB; have c8 := hSw.cell c8 hnB; go_simp; first | done | with_reducible rfl
        try simp only [Act.put, List.setIfInBounds_toArray, List.set_cons_zero, List.set_cons_succ]
        refine lin_val (i := 7) (v := ?_) rfl (by kernel_rfl) (by kernel_rfl) (by kernel_rfl) (fun _ _ _ h => h) hSS hS rfl (fun W' hSw => ?_) ?_
        rotate_left
        · go_simp; first | done | with_reducible rfl
        try simp only [Act.put, List.setIfInBounds_toArray, List.set_cons_zero, List.set_cons_succ]
        refine lin_val (i := 8) (v := ?_) rfl (by kernel_rfl) (by kernel_rfl) (by kernel_rfl) (fun _ _ _ h => h) hSS hS rfl (fun W' hSw => ?_) ?_
        rotate_left
        · have y0 := hSw.cell y0 hnY; have y1 := hSw.cell y1 hnY; have y2 := hSw.cell y2 hnY; go_simp; first | done | with_reducible rfl
        try simp only [Act.put, List.setIfInBounds_toArray, List.set_cons_zero, List.set_cons_succ]
        refine lin_list (i := 9) (by kernel_rfl) rfl (fun w8 k8 Q2 hQ => ?_)
        have hk8 : Kp [] wB w8 := (Kp.refl _ _).drew.nil k8
        clear k8
        go_wp2_with fail
        refine hQ.out _ _ ((hk8.alloc _).mono (by simp)) (fun hS8 => ?_)
        clear hQ hS hnX hnP hnY hnB x7 c0 c1 c2 c3 c4 c5 c6 c7 c8 y0 y1 y2 e0 e1 e2 e3 e4
        obtain ⟨w9, hw9⟩ : ∃ w9, w9 = w8.alloc (.cells #[.int .i64 1, .string ⟨x.toArray⟩, .int .i64 0] 42) := ⟨_, rfl⟩
        have hspY : Span w9 (some ⟨w8.heap.size, 0, none⟩) [.int .i64 1, .string ⟨x.toArray⟩, .int .i64 0] := by rw [hw9]; exact Span.of_new w8 42 _ _
        have H9 : Hid (Kp [] wB w9) := hid (by rw [hw9]; exact hk8.alloc _)
        rw [← hw9] at hS8 ⊢
        clear hw9 hk8
        try simp only [Act.put, List.setIfInBounds_toArray, List.set_cons_zero, List.set_cons_succ]
        refine lin_list (i := 10) (by kernel_rfl) rfl (fun w10 k10 Q2 hQ => ?_)
        have ho10 := HB.out.2.1.kept (H9.out.nil k10)
        have hspY10 := hspY.kept k10
        have H10 := hid (H9.out.nil k10)
        clear k10 hspY
        go_wp2_with (at_builtin; go_must (refine wpList_appendR rfl _ _ 40 rfl 42 (.agg (stC (0, [], 0)).toArray) 3 32 Tryd.underlying40 stepsInfo rfl (by decide) g3 np cq3 (stCs pl) rfl ho10 _ 1 1 [.int .i64 1, .string ⟨x.toArray⟩, .int .i64 0] rfl hspY10 rfl (by simp [Value.oneCell']) ?_ ?_ ?_))
        · omega
        · omega
        intro g4 cq4 w11 ho11 hk11 hg11
        have H11 := hid (And.intro ((H10.out.mono (by simp)).trans hk11 (fun x hx _ => List.mem_cons.2 (.inl (List.mem_singleton.1 hx))) : Kp [g3, go] wB w11) (And.intro ho11 (And.intro hg11 (And.intro hk11 H10.out))))
        clear ho11 hk11 hg11 ho10 hspY10
        go_wp2_with fail
        refine hQ.out _ _ H11.out.1 (fun hS11 => ?_)
        clear hQ hS8
        try simp only [Act.put, List.setIfInBounds_toArray, List.set_cons_zero, List.set_cons_succ]
        refine lin_list (i := 11) (by kernel_rfl) rfl (fun w12 k12 Q2 hQ => ?_)
        obtain ⟨hv, hkr, hcX, hcP, hsr, hold⟩ := HR.out
        obtain ⟨hkB, ho3, hg3o, hogB⟩ := HB.out
        obtain ⟨h11, ho11, hg11, hk11, h10⟩ := H11.out
        have hkrB : Kp [] wr w11 := ((hkB.nil h10).fresh hk11 (by have := HA.out.2.1; omega))
        have hkw := hkr.nil (hkrB.nil k12)
        have e3 : stCs pl ++ [.int .i64 1, .string ⟨x.toArray⟩, .int .i64 0] = stCs (pl ++ [stp k keys j]) := by rw [stCs_snoc, HST.out]; rfl
        have hoo := ho11.kept k12
        rw [e3] at hoo
        have hst' : StepsAt w12 (fun _ => True) (.slice (some ⟨g4, 0, none⟩) (np + 1) cq4) (pl ++ [stp k keys j]) := .of_own (by rw [List.length_append, List.length_singleton, ← HNP.out]; exact hoo) (fun _ _ => True.intro)
        have hszv := HS.out
        have hsza := size_at kids j v hv
        have qq := QJ.out w12 (fun _ => True) _ _ (HK.out.nil (H0.out.1.nil hkw)) hst' (by rw [List.length_append, List.length_singleton]; omega)
        rw [← HNM.out] at qq
        have HK12 := hid (And.intro (hkrB.nil k12) (And.intro k12 hkw))
        clear hv hkr hcX hcP hsr hold hkB ho3 hg3o hogB h11 ho11 hg11 hk11 h10 hkrB hkw e3 hoo hst' hszv hsza k12
        go_wp2_with fail
        (with_reducible refine qq.mono ?_)
        rintro e w13 ⟨cs', rfl, hrs, k13⟩
        obtain ⟨bk, bm, bn, bd, bz, bx, bA, bnk, bck, bB, bnb, bcb, bco, rfl⟩ := hrs.rep.isV
        have HZ := hid (And.intro k13 hrs)
        clear qq k13 hrs
        go_wp2_with fail
        refine hQ.out _ _ (hS11.nil (HK12.out.2.1.nil HZ.out.1)) (fun hS13 => ?_)
        clear hQ hS11
        try simp only [Act.put, List.setIfInBounds_toArray, List.set_cons_zero, List.set_cons_succ]
        refine lin_list (i := 12) (by kernel_rfl) rfl (fun w14 k14 Q2 hQ => ?_)
        go_wp2_with fail
        refine hQ.out _ _ ((hS13.nil k14).alloc _) (fun hS14 => ?_)
        clear hQ hS13
        obtain ⟨w15, hw15⟩ : ∃ w15, w15 = w14.alloc (.cells #[.int .i64 bk, .int .u64 bm, .bool bn, .string bd, .int .i64 bz, .string bx, .slice bA bnk bck, .slice bB bnb bcb, .int .i64 bco] 31) := ⟨_, rfl⟩
        have hspZ : Span w15 (some ⟨w14.heap.size, 0, none⟩) [.int .i64 bk, .int .u64 bm, .bool bn, .string bd, .int .i64 bz, .string bx, .slice bA bnk bck, .slice bB bnb bcb, .int .i64 bco] := by rw [hw15]; exact Span.of_new w14 31 _ _
        have H15 : Hid (Kp [] w13 w15) := hid (by rw [hw15]; exact k14.alloc _)
        rw [← hw15] at hS14 ⊢
        clear hw15 k14
        try simp only [Act.put, List.setIfInBounds_toArray, List.set_cons_zero, List.set_cons_succ]
        refine lin_list (i := 13) (by kernel_rfl) rfl (fun w16 k16 Q2 hQ => ?_)
        have hog16 := HO.out.2.2.2.kept (HK12.out.1.nil (HZ.out.1.nil (H15.out.nil k16)))
        have hspZ16 := hspZ.kept k16
        have H16 := hid (H15.out.nil k16)
        clear hspZ
        go_wp2_with (at_builtin; go_must (refine wpList_appendR rfl _ _ 28 rfl 31 _ 9 120 Tryd.underlying28 infoVal rfl (by decide) go j co css.flatten rfl hog16 _ 1 1 _ rfl hspZ16 ?_ ?_ ?_ ?_ ?_))
        · rfl
        · (intro u hu; simp only [List.mem_cons, List.not_mem_nil, or_false] at hu; rcases hu with rfl | rfl | rfl | rfl | rfl | rfl | rfl | rfl | rfl <;> rfl)
        · omega
        · omega
        intro go' co' w17 ho17 hk17 hg17
        have H17 := hid (And.intro ho17 (And.intro hk17 hg17))
        clear ho17 hk17 hg17 hog16 hspZ16
        go_wp2_with fail
        refine hQ.out _ _ ((hS14.nil k16).trans H17.out.2.1 (fun x hx _ => List.mem_cons.2 (.inr hx))) (fun hS17 => ?_)
        clear hQ hS14 k16
        try simp only [Act.put, List.setIfInBounds_toArray, List.set_cons_zero, List.set_cons_succ]
        refine lin_val (i := 14) (v := ?_) rfl (by kernel_rfl) (by kernel_rfl) (by kernel_rfl) (fun _ _ _ h => h) hSS hS17 rfl (fun W' hSw => ?_) ?_
        rotate_left
        · go_simp; first | done | with_reducible rfl
        try simp only [Act.put, List.setIfInBounds_toArray, List.set_cons_zero, List.set_cons_succ]
        refine lin_done (by kernel_rfl) (fun wq kq => ?_) _
        have HQ := hid kq
        clear kq hS17 hSS
        go_wp2_with fail
        go_roundw
        case rel =>
          obtain ⟨hG, htk, htl, hown⟩ := HO.out
          obtain ⟨ho17, hk17, hg17⟩ := H17.out
          have hn2 := hG.snoc HK12.out.1 HZ.out.1 HZ.out.2 H16.out (by rw [htl]; exact ho17) hk17 hg17
          rw [htl, ← htk] at hn2
          exact ⟨_, go', co', j + 1, hn2.later HQ.out, by go_num, by omega⟩
        case measure => simp [RowKit.intOf]; omega
      · have z7 : ((k : Int) == 7) = false := beq_eq_false_iff_ne.2 (by omega)
        have hst : stp k keys j = (2, [], j) := by unfold stp stA; rw [if_neg h7]
        have HST := hid hst
        have HK7 := hid h7
        clear h7 hst
        go_upto_region 9 with fail
        clear xx6
        obtain ⟨wA, hwA⟩ : ∃ wA, wA = wr.alloc (.cells #[.int .i64 2, .string ⟨#[]⟩, .int .i64 (j : Int)] 42) := ⟨_, rfl⟩
        have hkA : Kp [] wr wA := by rw [hwA]; exact (Kp.refl _ _).alloc _
        have hsA : wA.heap.size = wr.heap.size + 1 := by rw [hwA]; simp
        have hcY : Cells wA wr.heap.size 42 [.int .i64 2, .string ⟨#[]⟩, .int .i64 (j : Int)] := by rw [hwA]; exact Cells.fresh wr 42 _
        obtain ⟨hsp, -⟩ := (HVP.out.kept (HR.out.2.1)).span
        have hspA := hsp.kept hkA
        have hxl : (stCs pl).length = np * 3 := by rw [stCs_len, HNP.out]
        have hnpb : np ≤ 1000000 := by have := HS.out; rw [HNP.out]; omega
        have HA := hid (And.intro hkA (And.intro hsA hcY))
        rw [← hwA]
        clear hwA hkA hsA hcY hsp xx0 xx7
        go_wp2_with (at_builtin; go_must (refine wpList_appendR rfl _ _ 40 rfl 42 (.agg (stC (0, [], 0)).toArray) 3 32 Tryd.underlying40 stepsInfo rfl (by decide) wA.heap.size 0 0 [] rfl (OwnN.of_cells (n := 0) (Cells.fresh wA 42 []) rfl (by decide)) Ap np cp (stCs pl) rfl (hspA.kept ((Kp.refl _ _).alloc _)) hxl (stCs_one pl) ?_ ?_ ?_))
        · omega
        · omega
        intro g3 cq3 wB ho3 hk3 hg3
        try simp only [Nat.zero_add, List.nil_append] at ho3
        have hkAB : Kp [] wA wB := ((Kp.refl _ _).alloc _).fresh hk3 (Nat.le_refl _)
        have hg3o : wA.heap.size ≤ g3 := by rcases hg3 with h | h; exact Nat.le_of_eq h.symm; rw [h]; simp
        have hkB := HA.out.1.nil hkAB
        have hcX := (HR.out.2.2.1).keep hkB (by simp)
        have hcP := (HR.out.2.2.2.1).keep hkB (by simp)
        have hcY := HA.out.2.2.keep hkAB (by simp)
        have x7 := hcX.cell 7
        have e0 := hcP.cell 0; have e1 := hcP.cell 1; have e2 := hcP.cell 2; have e3 := hcP.cell 3; have e4 := hcP.cell 4
        replace c0 := hkB.cell c0 (by simp)
        replace c1 := hkB.cell c1 (by simp)
        replace c2 := hkB.cell c2 (by simp)
        replace c3 := hkB.cell c3 (by simp)
        replace c4 := hkB.cell c4 (by simp)
        replace c5 := hkB.cell c5 (by simp)
        replace c6 := hkB.cell c6 (by simp)
        replace c7 := hkB.cell c7 (by simp)
        replace c8 := hkB.cell c8 (by simp)
        have y0 := hcY.cell 0
        have y1 := hcY.cell 1
        have y2 := hcY.cell 2
        simp only [List.getElem?_cons_zero, List.getElem?_cons_succ] at x7 y0 y1 y2
        have hsr := HR.out.2.2.2.2.1
        have hnX : gv ∉ [g3, go] := by have := HA.out.2.1; simp; omega
        have hnP : gp ∉ [g3, go] := by have := HA.out.2.1; simp; omega
        have hnB : gb ∉ [g3, go] := by have := HA.out.2.1; simp; omega
        have hnY : wr.heap.size ∉ [g3, go] := by have := HA.out.2.1; simp; omega
        have hogB := HO.out.2.2.2.kept hkB
        have HB := hid (And.intro hkB (And.intro ho3 (And.intro hg3o hogB)))
        clear hkAB hkB hcX hcP hcY ho3 hg3 hk3 hg3o hspA hxl hogB hsr
        go_upto_region 10 with fail
        refine lin_start (fun W' => Kp [g3, go] wB W') (Stays.kp _ _) (by kernel_rfl) (Kp.refl _ _).drew (fun hSS hS => ?_)
        refine lin_val (i := 0) (v := ?_) rfl (by kernel_rfl) (by kernel_rfl) (by kernel_rfl) (fun _ _ _ h => h) hSS hS rfl (fun W' hSw => ?_) ?_
        rotate_left
        · go_simp; first | done | with_reducible rfl
        try simp only [Act.put, List.setIfInBounds_toArray, List.set_cons_zero, List.set_cons_succ]
        refine lin_val (i := 1) (v := ?_) rfl (by kernel_rfl) (by kernel_rfl) (by kernel_rfl) (fun _ _ _ h => h) hSS hS rfl (fun W' hSw => ?_) ?_
        rotate_left
        · have e0 := hSw.cell e0 hnP; have e1 := hSw.cell e1 hnP; have e2 := hSw.cell e2 hnP; have e3 := hSw.cell e3 hnP; have e4 := hSw.cell e4 hnP; go_simp; first | done | with_reducible rfl
        try simp only [Act.put, List.setIfInBounds_toArray, List.set_cons_zero, List.set_cons_succ]
        refine lin_val (i := 2) (v := ?_) rfl (by kernel_rfl) (by kernel_rfl) (by kernel_rfl) (fun _ _ _ h => h) hSS hS rfl (fun W' hSw => ?_) ?_
        rotate_left
        · go_simp; first | done | with_reducible rfl
        try simp only [Act.put, List.setIfInBounds_toArray, List.set_cons_zero, List.set_cons_succ]
        refine lin_val (i := 3) (v := ?_) rfl (by kernel_rfl) (by kernel_rfl) (by kernel_rfl) (fun _ _ _ h => h) hSS hS rfl (fun W' hSw => ?_) ?_
        rotate_left
        · have x7 := hSw.cell x7 hnX; go_simp; first | done | with_reducible rfl
        try simp only [Act.put, List.setIfInBounds_toArray, List.set_cons_zero, List.set_cons_succ]
        refine lin_val (i := 4) (v := ?_) rfl (by kernel_rfl) (by kernel_rfl) (by kernel_rfl) (fun _ _ _ h => h) hSS hS rfl (fun W' hSw => ?_) ?_
        rotate_left
        · go_simp; first | done | with_reducible rfl
        try simp only [Act.put, List.setIfInBounds_toArray, List.set_cons_zero, List.set_cons_succ]
        refine lin_val (i := 5) (v := ?_) rfl (by kernel_rfl) (by kernel_rfl) (by kernel_rfl) (fun _ _ _ h => h) hSS hS rfl (fun W' hSw => ?_) ?_
        rotate_left
        · go_simp; first | done | with_reducible rfl
        try simp only [Act.put, List.setIfInBounds_toArray, List.set_cons_zero, List.set_cons_succ]
        refine lin_val (i := 6) (v := ?_) rfl (by kernel_rfl) (by kernel_rfl) (by kernel_rfl) (fun _ _ _ h => h) hSS hS rfl (fun W' hSw => ?_) ?_
        rotate_left
        · have c0 := hSw.cell c0 hnB; have c1 := hSw.cell c1 hnB; have c2 := hSw.cell c2 hnB; have c3 := hSw.cell c3 hnB; have c4 := hSw.cell c4 hnB; have c5 := hSw.cell c5 hnB; have c6 := hSw.cell c6 hnB; have c7 := hSw.cell c7 hnB; have c8 := hSw.cell c8 hnB; go_simp; first | done | with_reducible rfl
        try simp only [Act.put, List.setIfInBounds_toArray, List.set_cons_zero, List.set_cons_succ]
        refine lin_val (i := 7) (v := ?_) rfl (by kernel_rfl) (by kernel_rfl) (by kernel_rfl) (fun _ _ _ h => h) hSS hS rfl (fun W' hSw => ?_) ?_
        rotate_left
        · go_simp; first | done | with_reducible rfl
        try simp only [Act.put, List.setIfInBounds_toArray, List.set_cons_zero, List.set_cons_succ]
        refine lin_val (i := 8) (v := ?_) rfl (by kernel_rfl) (by kernel_rfl) (by kernel_rfl) (fun _ _ _ h => h) hSS hS rfl (fun W' hSw => ?_) ?_
        rotate_left
        · have y0 := hSw.cell y0 hnY; have y1 := hSw.cell y1 hnY; have y2 := hSw.cell y2 hnY; go_simp; first | done | with_reducible rfl
        try simp only [Act.put, List.setIfInBounds_toArray, List.set_cons_zero, List.set_cons_succ]
        refine lin_list (i := 9) (by kernel_rfl) rfl (fun w8 k8 Q2 hQ => ?_)
        have hk8 : Kp [] wB w8 := (Kp.refl _ _).drew.nil k8
        clear k8
        go_wp2_with fail
        refine hQ.out _ _ ((hk8.alloc _).mono (by simp)) (fun hS8 => ?_)
        clear hQ hS hnX hnP hnY hnB x7 c0 c1 c2 c3 c4 c5 c6 c7 c8 y0 y1 y2 e0 e1 e2 e3 e4
        obtain ⟨w9, hw9⟩ : ∃ w9, w9 = w8.alloc (.cells #[.int .i64 2, .string ⟨#[]⟩, .int .i64 (j : Int)] 42) := ⟨_, rfl⟩
        have hspY : Span w9 (some ⟨w8.heap.size, 0, none⟩) [.int .i64 2, .string ⟨#[]⟩, .int .i64 (j : Int)] := by rw [hw9]; exact Span.of_new w8 42 _ _
        have H9 : Hid (Kp [] wB w9) := hid (by rw [hw9]; exact hk8.alloc _)
        rw [← hw9] at hS8 ⊢
        clear hw9 hk8
        try simp only [Act.put, List.setIfInBounds_toArray, List.set_cons_zero, List.set_cons_succ]
        refine lin_list (i := 10) (by kernel_rfl) rfl (fun w10 k10 Q2 hQ => ?_)
        have ho10 := HB.out.2.1.kept (H9.out.nil k10)
        have hspY10 := hspY.kept k10
        have H10 := hid (H9.out.nil k10)
        clear k10 hspY
        go_wp2_with (at_builtin; go_must (refine wpList_appendR rfl _ _ 40 rfl 42 (.agg (stC (0, [], 0)).toArray) 3 32 Tryd.underlying40 stepsInfo rfl (by decide) g3 np cq3 (stCs pl) rfl ho10 _ 1 1 [.int .i64 2, .string ⟨#[]⟩, .int .i64 (j : Int)] rfl hspY10 rfl (by simp [Value.oneCell']) ?_ ?_ ?_))
        · omega
        · omega
        intro g4 cq4 w11 ho11 hk11 hg11
        have H11 := hid (And.intro ((H10.out.mono (by simp)).trans hk11 (fun x hx _ => List.mem_cons.2 (.inl (List.mem_singleton.1 hx))) : Kp [g3, go] wB w11) (And.intro ho11 (And.intro hg11 (And.intro hk11 H10.out))))
        clear ho11 hk11 hg11 ho10 hspY10
        go_wp2_with fail
        refine hQ.out _ _ H11.out.1 (fun hS11 => ?_)
        clear hQ hS8
        try simp only [Act.put, List.setIfInBounds_toArray, List.set_cons_zero, List.set_cons_succ]
        refine lin_list (i := 11) (by kernel_rfl) rfl (fun w12 k12 Q2 hQ => ?_)
        obtain ⟨hv, hkr, hcX, hcP, hsr, hold⟩ := HR.out
        obtain ⟨hkB, ho3, hg3o, hogB⟩ := HB.out
        obtain ⟨h11, ho11, hg11, hk11, h10⟩ := H11.out
        have hkrB : Kp [] wr w11 := ((hkB.nil h10).fresh hk11 (by have := HA.out.2.1; omega))
        have hkw := hkr.nil (hkrB.nil k12)
        have e3 : stCs pl ++ [.int .i64 2, .string ⟨#[]⟩, .int .i64 (j : Int)] = stCs (pl ++ [stp k keys j]) := by rw [stCs_snoc, HST.out]; rfl
        have hoo := ho11.kept k12
        rw [e3] at hoo
        have hst' : StepsAt w12 (fun _ => True) (.slice (some ⟨g4, 0, none⟩) (np + 1) cq4) (pl ++ [stp k keys j]) := .of_own (by rw [List.length_append, List.length_singleton, ← HNP.out]; exact hoo) (fun _ _ => True.intro)
        have hszv := HS.out
        have hsza := size_at kids j v hv
        have qq := QJ.out w12 (fun _ => True) _ _ (HK.out.nil (H0.out.1.nil hkw)) hst' (by rw [List.length_append, List.length_singleton]; omega)
        rw [← HNM.out] at qq
        have HK12 := hid (And.intro (hkrB.nil k12) (And.intro k12 hkw))
        clear hv hkr hcX hcP hsr hold hkB ho3 hg3o hogB h11 ho11 hg11 hk11 h10 hkrB hkw e3 hoo hst' hszv hsza k12
        go_wp2_with fail
        (with_reducible refine qq.mono ?_)
        rintro e w13 ⟨cs', rfl, hrs, k13⟩
        obtain ⟨bk, bm, bn, bd, bz, bx, bA, bnk, bck, bB, bnb, bcb, bco, rfl⟩ := hrs.rep.isV
        have HZ := hid (And.intro k13 hrs)
        clear qq k13 hrs
        go_wp2_with fail
        refine hQ.out _ _ (hS11.nil (HK12.out.2.1.nil HZ.out.1)) (fun hS13 => ?_)
        clear hQ hS11
        try simp only [Act.put, List.setIfInBounds_toArray, List.set_cons_zero, List.set_cons_succ]
        refine lin_list (i := 12) (by kernel_rfl) rfl (fun w14 k14 Q2 hQ => ?_)
        go_wp2_with fail
        refine hQ.out _ _ ((hS13.nil k14).alloc _) (fun hS14 => ?_)
        clear hQ hS13
        obtain ⟨w15, hw15⟩ : ∃ w15, w15 = w14.alloc (.cells #[.int .i64 bk, .int .u64 bm, .bool bn, .string bd, .int .i64 bz, .string bx, .slice bA bnk bck, .slice bB bnb bcb, .int .i64 bco] 31) := ⟨_, rfl⟩
        have hspZ : Span w15 (some ⟨w14.heap.size, 0, none⟩) [.int .i64 bk, .int .u64 bm, .bool bn, .string bd, .int .i64 bz, .string bx, .slice bA bnk bck, .slice bB bnb bcb, .int .i64 bco] := by rw [hw15]; exact Span.of_new w14 31 _ _
        have H15 : Hid (Kp [] w13 w15) := hid (by rw [hw15]; exact k14.alloc _)
        rw [← hw15] at hS14 ⊢
        clear hw15 k14
        try simp only [Act.put, List.setIfInBounds_toArray, List.set_cons_zero, List.set_cons_succ]
        refine lin_list (i := 13) (by kernel_rfl) rfl (fun w16 k16 Q2 hQ => ?_)
        have hog16 := HO.out.2.2.2.kept (HK12.out.1.nil (HZ.out.1.nil (H15.out.nil k16)))
        have hspZ16 := hspZ.kept k16
        have H16 := hid (H15.out.nil k16)
        clear hspZ
        go_wp2_with (at_builtin; go_must (refine wpList_appendR rfl _ _ 28 rfl 31 _ 9 120 Tryd.underlying28 infoVal rfl (by decide) go j co css.flatten rfl hog16 _ 1 1 _ rfl hspZ16 ?_ ?_ ?_ ?_ ?_))
        · rfl
        · (intro u hu; simp only [List.mem_cons, List.not_mem_nil, or_false] at hu; rcases hu with rfl | rfl | rfl | rfl | rfl | rfl | rfl | rfl | rfl <;> rfl)
        · omega
        · omega
        intro go' co' w17 ho17 hk17 hg17
        have H17 := hid (And.intro ho17 (And.intro hk17 hg17))
        clear ho17 hk17 hg17 hog16 hspZ16
        go_wp2_with fail
        refine hQ.out _ _ ((hS14.nil k16).trans H17.out.2.1 (fun x hx _ => List.mem_cons.2 (.inr hx))) (fun hS17 => ?_)
        clear hQ hS14 k16
        try simp only [Act.put, List.setIfInBounds_toArray, List.set_cons_zero, List.set_cons_succ]
        refine lin_val (i := 14) (v := ?_) rfl (by kernel_rfl) (by kernel_rfl) (by kernel_rfl) (fun _ _ _ h => h) hSS hS17 rfl (fun W' hSw => ?_) ?_
        rotate_left
        · go_simp; first | done | with_reducible rfl
        try simp only [Act.put, List.setIfInBounds_toArray, List.set_cons_zero, List.set_cons_succ]
        refine lin_done (by kernel_rfl) (fun wq kq => ?_) _
        have HQ := hid kq
        clear kq hS17 hSS
        go_wp2_with fail
        go_roundw
        case rel =>
          obtain ⟨hG, htk, htl, hown⟩ := HO.out
          obtain ⟨ho17, hk17, hg17⟩ := H17.out
          have hn2 := hG.snoc HK12.out.1 HZ.out.1 HZ.out.2 H16.out (by rw [htl]; exact ho17) hk17 hg17
          rw [htl, ← htk] at hn2
          exact ⟨_, go', co', j + 1, hn2.later HQ.out, by go_num, by omega⟩
        case measure => simp [RowKit.intOf]; omega
    · have hje : j = n := by omega
      subst hje
      have hall : (labs (maskAtL ms) pl k keys 0 kids).take j = labs (maskAtL ms) pl k keys 0 kids := List.take_of_length_le (by rw [hml]; exact Nat.le_refl _)
      rw [hall] at hG
      have f7 := hc.free 7
      have x0 := hc.cell 0; have x1 := hc.cell 1; have x2 := hc.cell 2; have x3 := hc.cell 3; have x4 := hc.cell 4; have x5 := hc.cell 5; have x6 := hc.cell 6; have x7 := hc.cell 7; have x8 := hc.cell 8
      have hp : Kp [gv] wr (wr.setCell ⟨gv, 7, none⟩ (.slice (some ⟨go, 0, none⟩) j co)) := kp_put (Kp.refl _ _) _ _ (.inr (by simp)) _
      have hroom : VRoom (gr) (wr.setCell ⟨gv, 7, none⟩ (.slice (some ⟨go, 0, none⟩) j co)) := by
        obtain ⟨cs, h1, h2⟩ := H0.out.2.2.2.2.kept hG.kp
        exact ⟨cs, h1.keep hp (by have := HG.out.2.2; simp; omega), h2⟩
      obtain ⟨a0, a1, a2, a3, a4, a5, a6, a7, a8, ⟨r0, r1, r2, r3, r4, r5, r6, r7, r8⟩, ⟨g0, g1, g2, g3, g4, g5, g6, g7, g8⟩⟩ := hroom.cells
      have z1 : decide ((j : Int) < (j : Int)) = false := decide_eq_false (by omega)
      have z1n : decide (j < j) = false := decide_eq_false (Nat.lt_irrefl _)
      have hgne : gv ≠ gr := by rw [HG.out.2.2]; omega
      have HE := hid (And.intro hG (And.intro hml (And.intro hkW (And.intro hA (And.intro hPA (And.intro hnk hgne))))))
      clear hB hr ih hfk hn hc hcP hkW hG hA hPA hnk hml htl hall hp hroom hlt
      go_wp2_with fail
      refine bodyPost_ret (v := .agg #[.int .i64 (k : Int), .int .u64 (fm : Int), .bool (vN num), .string ⟨(vD num).toArray⟩, .int .i64 (vS num), .string ⟨t.toArray⟩, .slice A nk ck, .slice (some ⟨go, 0, none⟩) j co, .int .i64 (code : Int)])
        (by simp [results, Tryd.results58, go_sem, r0, r1, r2, r3, r4, r5, r6, r7, r8]) rfl ⟨[.int .i64 (k : Int), .int .u64 (fm : Int), .bool (vN num), .string ⟨(vD num).toArray⟩, .int .i64 (vS num), .string ⟨t.toArray⟩, .slice A nk ck, .slice (some ⟨go, 0, none⟩) j co, .int .i64 (code : Int)], rfl, ?_, ?_⟩
      all_goals obtain ⟨hG, hml, hkW, hA, hPA, hnk, hgne⟩ := HE.out
      all_goals have hkE := kp_nine (kp_put (Kp.refl [gv, gr] wr) gv 7 (.inr (by simp)) (.slice (some ⟨go, 0, none⟩) j co)) (gr) (.inr (by simp)) (.int .i64 (k : Int)) (.int .u64 (fm : Int)) (.bool (vN num)) (.string ⟨(vD num).toArray⟩) (.int .i64 (vS num)) (.string ⟨t.toArray⟩) (.slice A nk ck) (.slice (some ⟨go, 0, none⟩) j co) (.int .i64 (code : Int))
      · have hs0 := H0.out.2.1
        have hold := hG.old
        have hlt := hG.lt
        have hsz := hkW.size
        have hsE : wr.heap.size ≤ _ := hkE.size
        have hKs := HK.out.size
        have hgv2 := HG.out.2.1
        have hgr2 := HG.out.2.2
        have ho := hG.own
        unfold nine at hsE
        obtain ⟨hkid, hreps⟩ := hG.trees.kids (g := go) (c := co) (by rw [hml]; rw [hml] at ho; exact ho)
        rw [hml] at hkid
        have hA' := KeysAt.mk (w := nine (wr.setCell ⟨gv, 7, none⟩ (.slice (some ⟨go, 0, none⟩) j co)) (gr) (.int .i64 (k : Int)) (.int .u64 (fm : Int)) (.bool (vN num)) (.string ⟨(vD num).toArray⟩) (.int .i64 (vS num)) (.string ⟨t.toArray⟩) (.slice A nk ck) (.slice (some ⟨go, 0, none⟩) j co) (.int .i64 (code : Int))) hA.le hA.top (fun i x hi => by
          obtain ⟨ga, ea, hat⟩ := (hA.kept hkW).at_ i x hi
          have := hPA _ ea
          exact ⟨ga, ea, hkE.cell hat (by dsimp only at this; simp; omega)⟩)
        have hB' := KidsAt.mk (w := nine (wr.setCell ⟨gv, 7, none⟩ (.slice (some ⟨go, 0, none⟩) j co)) (gr) (.int .i64 (k : Int)) (.int .u64 (fm : Int)) (.bool (vN num)) (.string ⟨(vD num).toArray⟩) (.int .i64 (vS num)) (.string ⟨t.toArray⟩) (.slice A nk ck) (.slice (some ⟨go, 0, none⟩) j co) (.int .i64 (code : Int))) (B := some ⟨go, 0, none⟩) (ks := fun i => (css[i]?).getD []) hkid.le hkid.top (fun i hi => by
          obtain ⟨gb, eb, hat⟩ := hkid.at_ i hi
          injection eb with eb
          injection eb with eb
          subst eb
          exact ⟨go, rfl, fun jj u hu => hkE.cell (hat jj u hu) (by simp; omega)⟩)
        have hfin := RepS.mk (P := fun x => x < w.heap.size ∨ (W.heap.size ≤ x ∧ x < (nine (wr.setCell ⟨gv, 7, none⟩ (.slice (some ⟨go, 0, none⟩) j co)) (gr) (.int .i64 (k : Int)) (.int .u64 (fm : Int)) (.bool (vN num)) (.string ⟨(vD num).toArray⟩) (.int .i64 (vS num)) (.string ⟨t.toArray⟩) (.slice A nk ck) (.slice (some ⟨go, 0, none⟩) j co) (.int .i64 (code : Int))).heap.size))
          k fm num t keys (labs (maskAtL ms) pl k keys 0 kids) code A ck (some ⟨go, 0, none⟩) co _ hA' (by rw [hml]; exact hB') (fun ad e => .inl (hPA ad e)) (fun ad e => by injection e with e; subst e; exact .inr ⟨by dsimp only; omega, by unfold nine; dsimp only; omega⟩)
          (fun i v hv => ((hreps i v hv).keep hkE (fun x hx hp => by simp at hx; rcases hp.1 with h | h <;> omega)).mono (fun x hp => by rcases hp.1 with h | h; exact .inl h; exact .inr ⟨by omega, by unfold nine; omega⟩))
        rw [hml, ← hnk] at hfin
        exact hfin
      · exact kp_nine (kp_put hkW _ _ (.inl (by rw [HG.out.2.1]; exact Nat.le_succ _)) _) _ (.inl (by rw [HG.out.2.2, HG.out.2.1]; omega)) _ _ _ _ _ _ _ _ _
theorem label_rep {w : World} {Ac : Option Addr} {nc cc : Nat} {Am : Option Addr} {cm : Nat} {ms : List (List StI × Nat)} {tok : ByteArray} {fu qu : Int} (hm : MarksAt w Am cm ms) {P : Nat → Prop} {v : Vl} {cs : List Value} (hP : ∀ x, P x → x < w.heap.size) (h : RepS w P v cs) :
    LabelAt w Ac nc cc Am cm ms tok fu qu v cs := by
  induction h with
  | mk k m num t keys kids code A ck B cb ks hA hB hPA hPB hr ih =>
    exact label_step w Ac nc cc Am cm ms tok fu qu hm k m num t keys kids code A ck B cb ks hA (fun ad e => hP _ (hPA ad e)) hB (fun i v hv => (hr i v hv).rep) ih
end Go.Proofs.YtpeldjihalldkaaDoor
