/- RedactViews: of documents that are marked by a policy the view tells whether they look the same; for a clearance of all nothing is hidden; a greater clearance sees what a lesser one does. -/
import Derived.Test.YtpeldjihalldkaaDoorTMore
import Derived.Test.YtpeldjihalldkaaDoorTRPrint
import Derived.Test.YtpeldjihalldkaaDoorTHoles
import Derived.Test.YtpeldjihalldkaaDoorTPlaceSame
import Derived.Test.YtpeldjihalldkaaDoorTLabel
import Derived.Test.YtpeldjihalldkaaDoorTMay8
namespace Go.Proofs.YtpeldjihalldkaaDoor
open Go Go.RowKit Go.Lib

section
variable {P : Program} {ops : Array Oper} {Q : Exit → Act → World → Prop} {md : Region.Mode} {S : World → Prop}
/-- One of two comes up: each is walked. -/
theorem lin_two_list {i j : Nat} {oi oj : Oper} {fuel : Nat} {listed : Array Bool} {a : Act} {w : World} (hr : Region.ready md ops listed = [i, j]) (hi : ops.toList[i]? = some oi) (hj : ops.toList[j]? = some oj)
    (h1 : ∀ w1, Kp [] w w1 → ∀ Q' : Exit → Act → World → Prop, Shut (∀ a w, S w → (S w → wpAnyK P md ops Q S fuel (listed.setIfInBounds i true) a w) → Q' .normal a w) → wpList P ops Q' [oi] a w1)
    (h2 : ∀ w1, Kp [] w w1 → ∀ Q' : Exit → Act → World → Prop, Shut (∀ a w, S w → (S w → wpAnyK P md ops Q S fuel (listed.setIfInBounds j true) a w) → Q' .normal a w) → wpList P ops Q' [oj] a w1) :
    wpAnyK P md ops Q S (fuel + 1) listed a w :=
  ⟨fun h0 => (by rw [hr] at h0; cases h0), fun l hl w1 k1 => by
    rw [hr] at hl
    rcases (show l = i ∨ l = j by simpa using hl) with rfl | rfl
    · exact wpOp_of_list (at_list hi) (h1 w1 k1 _ (fun a w hS hW => .inl ⟨hS, hW hS⟩))
    · exact wpOp_of_list (at_list hj) (h2 w1 k1 _ (fun a w hS hW => .inl ⟨hS, hW hS⟩))⟩
end
/-- A tree is as it was where a block was written that begins with 0: none of its blocks does. -/
theorem Rep.other {w w' : World} {v : Vl} {cs : List Value} (h : Rep w v cs) {g : Nat} (hf : FineV v) (k : Kp [g] w w') (h0 : w.cell? ⟨g, 0, none⟩ = some (.int .i64 0)) : Rep w' v cs := by
  induction h with
  | mk k' m num t keys kids code A ck B cb ks hA hB hr ih =>
    have hfk := fine_kid hf
    refine .mk k' m num t keys kids code A ck B cb ks ⟨hA.le, hA.top, fun i x hx => ?_⟩ ⟨hB.le, hB.top, fun i hi => ?_⟩ fun i v hv => ih i v hv (hfk v (at_mem hv))
    · obtain ⟨ga, e, hc⟩ := hA.at_ i x hx
      refine ⟨ga, e, k.cell hc ?_⟩
      intro hg
      have hg : ga = g := List.mem_singleton.1 hg
      have hi := (List.getElem?_eq_some_iff.1 hx).1
      obtain ⟨g', e', hc'⟩ := hA.at_ 0 keys[0] (List.getElem?_eq_getElem (by omega))
      rw [e] at e'
      injection e' with e'
      injection e' with e'
      rw [← e', hg, h0] at hc'
      injection hc' with hc'
      cases hc'
    · obtain ⟨gb, e, hc⟩ := hB.at_ i hi
      refine ⟨gb, e, fun j u hu => k.cell (hc j u hu) ?_⟩
      intro hg
      have hg : gb = g := List.mem_singleton.1 hg
      obtain ⟨v0, hv0⟩ := at_some (show 0 < kids.length by omega)
      obtain ⟨g', e', hc'⟩ := hB.at_ 0 (by omega)
      rw [e] at e'
      injection e' with e'
      injection e' with e'
      have hr0 := hr 0 v0 hv0
      have hf0 := hfk v0 (at_mem hv0)
      obtain ⟨k0, m0, num0, t0, keys0, kids0, code0⟩ := v0
      have hk0 : 1 ≤ k0 := by cases hf0; omega
      have hz : (ks 0)[0]? = some (.int .i64 (k0 : Int)) := by
        generalize ks 0 = c0 at hr0
        cases hr0
        rfl
      have h2 := hc' 0 _ hz
      rw [← e', hg, Nat.mul_zero, h0] at h2
      injection h2 with h2
      injection h2 with _ h2
      omega
set_option maxRecDepth 100000 in
set_option maxHeartbeats 6400000 in
theorem labeltop_any {w : World} {Ac : Option Addr} {nc cc : Nat} {Am : Option Addr} {cm : Nat} {ms : List (List StI × Nat)} {tok : ByteArray} {fu qu : Int} (hm : MarksAt w Am cm ms) {P : Nat → Prop} {v : Vl} {cs : List Value} (hP : ∀ x, P x → x < w.heap.size) (h : RepS w P v cs) (hf : FineV v) (hz : sizeV v ≤ 1000000) (W : World) (hK : Kp [] w W) :
    Calls Tryd.prog 27 #[.agg #[.slice Ac nc cc, .slice Am ms.length cm, .string tok, .int .i64 fu, .int .i64 qu], .agg cs.toArray] W fun e w' => ∃ cs', e = .returned (.agg cs'.toArray) ∧ Rep w' (labV (maskAtL ms) [] v) cs' ∧ Kp [] W w' := by
  have ql := label_rep (Ac := Ac) (nc := nc) (cc := cc) (tok := tok) (fu := fu) (qu := qu) hm hP h hf
  obtain ⟨ak, am, an, ad, az, ax, aA, ank, ack, aB, anb, acb, aco, e1⟩ := h.rep.isV
  rw [e1] at ql ⊢
  obtain ⟨nm, hnm⟩ : ∃ n, n = ms.length := ⟨_, rfl⟩
  rw [← hnm]
  obtain ⟨W2, hW2⟩ : ∃ W2, W2 = (((W.alloc (.cells #[.slice Ac nc cc, .slice Am nm cm, .string tok, .int .i64 fu, .int .i64 qu] 52)).alloc (.cells #[.int .i64 ak, .int .u64 am, .bool an, .string ad, .int .i64 az, .string ax, .slice aA ank ack, .slice aB anb acb, .int .i64 aco] 31)).alloc (.cells #[.int .i64 0, .int .u64 0, .bool false, .string ⟨#[]⟩, .int .i64 0, .string ⟨#[]⟩, .slice none 0 0, .slice none 0 0, .int .i64 0] 31)).alloc (.cells #[] 42) := ⟨_, rfl⟩
  have hk2 : Kp [] W W2 := by rw [hW2]; exact ((((Kp.refl _ _).alloc _).alloc _).alloc _).alloc _
  have hcR : VRoom (W.heap.size + 1 + 1) W2 := by
    have := (VRoom.fresh ((W.alloc (.cells #[.slice Ac nc cc, .slice Am nm cm, .string tok, .int .i64 fu, .int .i64 qu] 52)).alloc (.cells #[.int .i64 ak, .int .u64 am, .bool an, .string ad, .int .i64 az, .string ax, .slice aA ank ack, .slice aB anb acb, .int .i64 aco] 31)) (.int .i64 0) (.int .u64 0) (.bool false) (.string ⟨#[]⟩) (.int .i64 0) (.string ⟨#[]⟩) (.slice none 0 0) (.slice none 0 0) (.int .i64 0)).kept ((Kp.refl _ _).alloc (.cells #[] 42))
    rw [hW2]
    simpa using this
  have hst : StepsAt W2 (fun _ => True) (.slice (some ⟨W.heap.size + 1 + 1 + 1, 0, none⟩) 0 0) [] := ⟨_, 0, rfl, Nat.le_refl _, by decide, Span.nil _ _, fun ad h => by injection h with h; subst h; exact ⟨rfl, True.intro, by rw [hW2]; simp⟩⟩
  have q := ql W2 (fun _ => True) _ [] (hK.nil hk2) hst (by simpa using hz)
  rw [← hnm] at q
  have hsz2 : W2.heap.size = W.heap.size + 4 := by rw [hW2]; simp
  have hws := hK.size
  have HW2 := hid hW2
  have HK2 := hid (And.intro hk2 (And.intro hcR (And.intro hsz2 hws)))
  clear h hf hz hK hm ql e1 hW2 hk2 hst hcR hsz2 hws hnm hP
  go_enter Tryd.func27, Tryd.ntmps27
  go_wp2_with fail
  try rw [← HW2.out]
  (with_reducible refine q.mono ?_)
  rintro e w3 ⟨cs', rfl, hrs, k3⟩
  obtain ⟨bk, bm, bn, bd, bz, bx, bA, bnk, bck, bB, bnb, bcb, bco, rfl⟩ := hrs.rep.isV
  obtain ⟨a0, a1, a2, a3, a4, a5, a6, a7, a8, ⟨r0, r1, r2, r3, r4, r5, r6, r7, r8⟩, ⟨g0, g1, g2, g3, g4, g5, g6, g7, g8⟩⟩ := (HK2.out.2.1.kept k3).cells
  have HE := hid (And.intro hrs (HK2.out.1.nil k3))
  clear hrs k3 q
  go_wp2_with fail
  refine bodyPost_ret (v := .agg #[.int .i64 bk, .int .u64 bm, .bool bn, .string bd, .int .i64 bz, .string bx, .slice bA bnk bck, .slice bB bnb bcb, .int .i64 bco])
    (by simp [results, Tryd.results27, go_sem, r0, r1, r2, r3, r4, r5, r6, r7, r8]) rfl ⟨[.int .i64 bk, .int .u64 bm, .bool bn, .string bd, .int .i64 bz, .string bx, .slice bA bnk bck, .slice bB bnb bcb, .int .i64 bco], rfl, ?_, ?_⟩
  · have h2 := HK2.out.2.2
    exact (HE.out.1.keep (kp_nine (Kp.refl [W.heap.size + 1 + 1] w3) _ (.inr (by simp)) _ _ _ _ _ _ _ _ _) (fun x hx hp => by simp at hx; rcases hp with h | h <;> omega)).rep
  · exact kp_nine HE.out.2 _ (.inl (by omega)) _ _ _ _ _ _ _ _ _
theorem hidden_mask9 {w : World} {v : Vl} {cs : List Value} (h : Rep w v cs) (hf : FineV v) (W : World) (cl : Nat) (hcl : cl < 18446744073709551616) :
    Calls Tryd.prog 16 #[.agg cs.toArray, .int .u64 (cl : Int)] W fun e w' => e = .returned (.bool (hidB (maskV v) cl)) ∧ Kp [] W w' := by
  cases h with
  | mk k m num t keys kids code A ck B cb ks hA hB hr => exact hidden_cells W (k : Int) m (vN num) (vD num) (vS num) t A _ ck B _ cb (code : Int) cl (fine_mask hf) hcl
theorem show_all (h h' : Txt) (v : Vl) (hf : FineV v) : showL 18446744073709551615 h v = showL 18446744073709551615 h' v := by
  rw [← bare_show (fun m h => hid_all h) 0 [] h v hf, ← bare_show (fun m h => hid_all h) 0 [] h' v hf]
set_option maxRecDepth 100000 in
set_option maxHeartbeats 25600000 in
theorem viewslaw_any (w : World) (Ac : Option Addr) (cc : Nat) (C : List Txt) (hC : RawsAt w Ac cc C) (Am : Option Addr) (cm : Nat) (ms : List (List StI × Nat)) (hm : MarksAt w Am cm ms) (hs : ∀ m ∈ ms, ∀ s ∈ m.1, s.2.1.length ≤ 9223372036854775000)
    (tok : Txt) (htok : tok.length ≤ 9223372036854775000) (fu qu : Int) (A : Option Addr) (c : Nat) (l : List Itm) (hl : ItemsAt w A c l) (A' : Option Addr) (c' : Nat) (l' : List Itm) (hl' : ItemsAt w A' c' l') (c0 c1 : Nat) (hc0 : c0 < 18446744073709551616) (hc1 : c1 < 18446744073709551616) :
    Calls Tryd.prog 8 #[.agg #[.slice Ac C.length cc, .slice Am ms.length cm, .string ⟨tok.toArray⟩, .int .i64 fu, .int .i64 qu], .agg #[.slice A l.length c, .slice A' l'.length c'], .agg #[.int .u64 (c0 : Int), .int .u64 (c1 : Int)]] w fun e w' => e = .returned (.bool true) ∧ Kp [] w w' := by
  obtain ⟨w0, hw0⟩ : ∃ w0, w0 = ((w.alloc (.cells #[.slice Ac C.length cc, .slice Am ms.length cm, .string ⟨tok.toArray⟩, .int .i64 fu, .int .i64 qu] 52)).alloc (.cells #[.slice A l.length c, .slice A' l'.length c'] 54)).alloc (.cells #[.int .u64 (c0 : Int), .int .u64 (c1 : Int)] 55) := ⟨_, rfl⟩
  have hk0 : Kp [] w w0 := by rw [hw0]; exact (((Kp.refl _ _).alloc _).alloc _).alloc _
  have q1 := shown9_any w0
  have qm := fun W (k : Kp [] w0 W) => may8_w W Ac cc C (hC.kept (hk0.nil k)) Am cm ms (hm.kept (hk0.nil k)) hs tok htok fu qu
  have qb1 := fun W (k : Kp [] w0 W) => built_any W A c l (hl.kept (hk0.nil k))
  have qb2 := fun W (k : Kp [] w0 W) => built_any W A' c' l' (hl'.kept (hk0.nil k))
  obtain ⟨nc, hnc⟩ : ∃ n, n = C.length := ⟨_, rfl⟩
  obtain ⟨nm, hnm⟩ : ∃ n, n = ms.length := ⟨_, rfl⟩
  obtain ⟨N, hN⟩ : ∃ N, N = l.length := ⟨_, rfl⟩
  obtain ⟨N', hN'⟩ : ∃ N, N = l'.length := ⟨_, rfl⟩
  simp only [← hnc, ← hnm] at qm hw0 ⊢
  rw [← hN] at qb1 hw0 ⊢
  rw [← hN'] at qb2 hw0 ⊢
  obtain ⟨gp, hgp⟩ : ∃ g, g = w.heap.size := ⟨_, rfl⟩
  obtain ⟨gx, hgx⟩ : ∃ g, g = gp + 1 := ⟨_, rfl⟩
  obtain ⟨gc, hgc⟩ : ∃ g, g = gx + 1 := ⟨_, rfl⟩
  have hcP : Cells w0 gp 52 [.slice Ac nc cc, .slice Am nm cm, .string ⟨tok.toArray⟩, .int .i64 fu, .int .i64 qu] := by rw [hw0, hgp]; exact ((Cells.fresh w 52 _).alloc _).alloc _
  have hcX : Cells w0 gx 54 [.slice A N c, .slice A' N' c'] := by rw [hw0, hgx, hgp]; exact (Cells.fresh1 w _ 54 _).alloc _
  have hcC : Cells w0 gc 55 [.int .u64 (c0 : Int), .int .u64 (c1 : Int)] := by
    have := Cells.fresh1 (w.alloc (.cells #[.slice Ac nc cc, .slice Am nm cm, .string ⟨tok.toArray⟩, .int .i64 fu, .int .i64 qu] 52)) (.cells #[.slice A N c, .slice A' N' c'] 54) 55 [.int .u64 (c0 : Int), .int .u64 (c1 : Int)]
    rw [hw0, hgc, hgx, hgp]
    simpa using this
  have HM0 := hid (And.intro (hm.kept hk0) hm.ok)
  have HNM := hid hnm
  have HQB := hid (And.intro qb1 qb2)
  have HW0 := hid hw0
  have HGG := hid (And.intro hgp (And.intro hgx hgc))
  have H0 := hid (And.intro hk0 (And.intro hcP (And.intro hcX hcC)))
  have HCL := hid (And.intro hc0 hc1)
  clear hC hm hs htok hl hl' hc0 hc1 hnc hnm hN hN' hw0 hgp hgx hgc hcP hcX hcC hk0 qb1 qb2
  go_enter Tryd.func8, Tryd.ntmps8
  go_upto_region 1 with fail
  rw [← HW0.out]
  try simp only [← HGG.out.1]
  try simp only [← HGG.out.2.1]
  try simp only [← HGG.out.2.2]
  go_wp2_with fail
  (with_reducible refine q1.mono ?_)
  rintro e w1 ⟨rfl, k1⟩
  have qm1 := qm w1 k1
  have hcP := H0.out.2.1.keep k1 (by simp)
  have e0 := hcP.cell 0; have e1 := hcP.cell 1; have e2 := hcP.cell 2; have e3 := hcP.cell 3; have e4 := hcP.cell 4
  have HK1 := hid k1
  clear k1 q1 qm hcP
  go_wp2_with fail
  (with_reducible refine qm1.mono ?_)
  rintro e w2 ⟨⟨z, rfl⟩, k2⟩
  have hk02 := HK1.out.nil k2
  have hcP := H0.out.2.1.keep hk02 (by simp)
  have hcX := H0.out.2.2.1.keep hk02 (by simp)
  have H2 := hid hk02
  clear e0 e1 e2 e3 e4 k2 qm1 hk02
  by_cases hz : z = 0
  · have z0 : (z != 0) = false := by rw [hz]; rfl
    clear hz
    have q2 := fun W (k : Kp [] w2 W) => HQB.out.1 W (H2.out.nil k)
    have HM := hid (HM0.out.1.kept H2.out)
    have e0 := hcP.cell 0; have e1 := hcP.cell 1; have e2 := hcP.cell 2; have e3 := hcP.cell 3; have e4 := hcP.cell 4
    have xi := hcX.cell 0
    simp only [List.getElem?_cons_zero, List.getElem?_cons_succ] at xi e0 e1 e2 e3 e4
    clear hcP hcX
    go_upto_region 4 with fail
    go_cut [8] (fun v wx => ∃ (gS : Nat) (va : Vl) (cs : List Value), v = .pointer (some ⟨gS, 0, none⟩) ∧ FineV va ∧ sizeV va ≤ 81 ∧ Cells wx gS 31 cs ∧ Rep wx (labV (maskAtL ms) [] va) cs ∧ Kp [] w2 wx)
    case first =>
      refine lin_start (fun W' => Kp [] w2 W') (Stays.kp _ _) (by kernel_rfl) (Kp.refl _ _).drew (fun hSS hS => ?_)
      refine lin_val (i := 0) (v := ?_) rfl (by kernel_rfl) (by kernel_rfl) (by kernel_rfl) (fun _ _ _ h => h) hSS hS rfl (fun W' hSw => ?_) ?_
      rotate_left
      · have e0 := hSw.cell e0 (by simp); have e1 := hSw.cell e1 (by simp); have e2 := hSw.cell e2 (by simp); have e3 := hSw.cell e3 (by simp); have e4 := hSw.cell e4 (by simp); go_simp; first | done | with_reducible rfl
      try simp only [Act.put, List.setIfInBounds_toArray, List.set_cons_zero, List.set_cons_succ]
      refine lin_val (i := 1) (v := ?_) rfl (by kernel_rfl) (by kernel_rfl) (by kernel_rfl) (fun _ _ _ h => h) hSS hS rfl (fun W' hSw => ?_) ?_
      rotate_left
      · go_simp; first | done | with_reducible rfl
      try simp only [Act.put, List.setIfInBounds_toArray, List.set_cons_zero, List.set_cons_succ]
      refine lin_val (i := 2) (v := ?_) rfl (by kernel_rfl) (by kernel_rfl) (by kernel_rfl) (fun _ _ _ h => h) hSS hS rfl (fun W' hSw => ?_) ?_
      rotate_left
      · have xi := hSw.cell xi (by simp); go_simp; first | done | with_reducible rfl
      try simp only [Act.put, List.setIfInBounds_toArray, List.set_cons_zero, List.set_cons_succ]
      have HK0 := hid (Kp.refl [] w2 |>.drew)
      clear e0 e1 e2 e3 e4 xi
      refine lin_two_list (i := 3) (j := 5) (by kernel_rfl) rfl rfl (fun w8 k8 Q2 hQ => ?_) (fun w8 k8 Q2 hQ => ?_)
      · skip
        have hkx := HK0.out.nil k8
        have qb := q2 w8 hkx
        have HKX := hid hkx
        clear hkx k8
        go_wp2_with fail
        (with_reducible refine qb.mono ?_)
        rintro e wB ⟨va, ca, rfl, hrsa, hfa, hza, kB⟩
        obtain ⟨ak, am, an, ad, az, ax, aA, ank, ack, aB, anb, acb, aco, rfl⟩ := hrsa.rep.isV
        have HB := hid (And.intro hrsa (And.intro hfa (And.intro hza (HKX.out.nil kB))))
        clear qb hrsa hfa hza kB
        go_wp2_with fail
        refine hQ.out _ _ HB.out.2.2.2 (fun hSb => ?_)
        clear hQ hS
        try simp only [Act.put, List.setIfInBounds_toArray, List.set_cons_zero, List.set_cons_succ]
        refine lin_two_list (i := 4) (j := 5) (by kernel_rfl) rfl rfl (fun w9 k9 Q2 hQ => ?_) (fun w9 k9 Q2 hQ => ?_)
        · skip
          have hmk := HM.out.kept (HB.out.2.2.2)
          have ql := labeltop_any (Ac := Ac) (nc := nc) (cc := cc) (tok := ⟨tok.toArray⟩) (fu := fu) (qu := qu) hmk (fun _ h => h.2) HB.out.1 HB.out.2.1 (by have := HB.out.2.2.1; omega) w9 (k9)
          rw [← HNM.out] at ql
          clear hmk
          go_wp2_with fail
          (with_reducible refine ql.mono ?_)
          rintro e wL ⟨cl', rfl, hrl, kL⟩
          obtain ⟨bk, bm, bn, bd, bz, bx, bA, bnk, bck, bB, bnb, bcb, bco, rfl⟩ := hrl.isV
          have HL := hid (And.intro hrl (HB.out.2.2.2.nil (k9.nil kL)))
          clear ql hrl kL k9
          go_wp2_with fail
          refine hQ.out _ _ HL.out.2 (fun hSl => ?_)
          clear hQ hSb
          try simp only [Act.put, List.setIfInBounds_toArray, List.set_cons_zero, List.set_cons_succ]
          refine lin_list (i := 5) (by kernel_rfl) rfl (fun w10 k10 Q2 hQ => ?_)
          go_wp2_with fail
          obtain ⟨gS, hgS⟩ : ∃ gS, gS = w10.heap.size := ⟨_, rfl⟩
          obtain ⟨wS, hwS⟩ : ∃ wS, wS = w10.alloc (.cells #[.int .i64 0, .int .u64 0, .bool false, .string ⟨#[]⟩, .int .i64 0, .string ⟨#[]⟩, .slice none 0 0, .slice none 0 0, .int .i64 0] 31) := ⟨_, rfl⟩
          have hcS0 : Cells wS gS 31 [.int .i64 0, .int .u64 0, .bool false, .string ⟨#[]⟩, .int .i64 0, .string ⟨#[]⟩, .slice none 0 0, .slice none 0 0, .int .i64 0] := by rw [hwS, hgS]; exact Cells.fresh w10 31 _
          have hkS0 : Kp [] w10 wS := by rw [hwS]; exact (Kp.refl _ _).alloc _
          have HS := hid (And.intro hcS0 (And.intro (HL.out.1.kept (k10.nil hkS0)) (HL.out.2.nil (k10.nil hkS0))))
          have HGS : Hid (w2.heap.size ≤ gS) := hid (by rw [hgS]; exact (HL.out.2.nil k10).size)
          rw [← hwS]
          try rw [← hgS]
          refine hQ.out _ _ HS.out.2.2 (fun hSs => ?_)
          clear hQ hSl hwS hgS hcS0 hkS0 k10 hSs
          try simp only [Act.put, List.setIfInBounds_toArray, List.set_cons_zero, List.set_cons_succ]
          refine lin_last (i := 6) (by kernel_rfl) rfl (by kernel_rfl) (fun wZ kZ K hK => ?_)
          have hcS := HS.out.1.keep kZ (by simp)
          have hrZ := HS.out.2.1.kept kZ
          have hkZ := HS.out.2.2.nil kZ
          have o0 := hcS.cell 0; have o1 := hcS.cell 1; have o2 := hcS.cell 2; have o3 := hcS.cell 3; have o4 := hcS.cell 4; have o5 := hcS.cell 5; have o6 := hcS.cell 6; have o7 := hcS.cell 7; have o8 := hcS.cell 8
          have f0 := hcS.free 0; have f1 := hcS.free 1; have f2 := hcS.free 2; have f3 := hcS.free 3; have f4 := hcS.free 4; have f5 := hcS.free 5; have f6 := hcS.free 6; have f7 := hcS.free 7; have f8 := hcS.free 8
          simp only [List.getElem?_cons_zero, List.getElem?_cons_succ] at o0 o1 o2 o3 o4 o5 o6 o7 o8
          have HCS := hid (And.intro hcS (And.intro hrZ hkZ))
          clear hcS hrZ hkZ kZ
          go_simp
          refine hK.out _ _ ?_
          clear hK K hSS f0 f1 f2 f3 f4 f5 f6 f7 f8 o0 o1 o2 o3 o4 o5 o6 o7 o8
          go_wp2_with fail
          go_meet
          have hk9 := kp_nine (Kp.refl [gS] wZ) gS (.inr (by simp)) (Value.int .i64 bk) (Value.int .u64 bm) (Value.bool bn) (Value.string bd) (Value.int .i64 bz) (Value.string bx) (Value.slice bA bnk bck) (Value.slice bB bnb bcb) (Value.int .i64 bco)
          exact ⟨gS, va, _, rfl, HB.out.2.1, HB.out.2.2.1, (((((((((HCS.out.1.put 0 (Value.int .i64 bk)).put 1 (Value.int .u64 bm)).put 2 (Value.bool bn)).put 3 (Value.string bd)).put 4 (Value.int .i64 bz)).put 5 (Value.string bx)).put 6 (Value.slice bA bnk bck)).put 7 (Value.slice bB bnb bcb)).put 8 (Value.int .i64 bco)), HCS.out.2.1.other (lab_fine (fun at_ => maskAt_lt ms at_ HM.out.ok) va HB.out.2.1 []) hk9 (HCS.out.1.cell 0), HCS.out.2.2.fresh hk9 HGS.out⟩
        · skip
          go_wp2_with fail
          obtain ⟨gS, hgS⟩ : ∃ gS, gS = w9.heap.size := ⟨_, rfl⟩
          obtain ⟨wS, hwS⟩ : ∃ wS, wS = w9.alloc (.cells #[.int .i64 0, .int .u64 0, .bool false, .string ⟨#[]⟩, .int .i64 0, .string ⟨#[]⟩, .slice none 0 0, .slice none 0 0, .int .i64 0] 31) := ⟨_, rfl⟩
          have hcS0 : Cells wS gS 31 [.int .i64 0, .int .u64 0, .bool false, .string ⟨#[]⟩, .int .i64 0, .string ⟨#[]⟩, .slice none 0 0, .slice none 0 0, .int .i64 0] := by rw [hwS, hgS]; exact Cells.fresh w9 31 _
          have hkS0 : Kp [] w9 wS := by rw [hwS]; exact (Kp.refl _ _).alloc _
          have HS := hid (And.intro hcS0 (And.intro (k9.nil hkS0) (HB.out.2.2.2.nil (k9.nil hkS0))))
          have HGS : Hid (w2.heap.size ≤ gS) := hid (by rw [hgS]; exact (HB.out.2.2.2.nil k9).size)
          rw [← hwS]
          try rw [← hgS]
          refine hQ.out _ _ HS.out.2.2 (fun hSs => ?_)
          clear hQ hSb hwS hgS hcS0 hkS0 k9
          try simp only [Act.put, List.setIfInBounds_toArray, List.set_cons_zero, List.set_cons_succ]
          refine lin_list (i := 4) (by kernel_rfl) rfl (fun w10 k10 Q2 hQ => ?_)
          have hmk := HM.out.kept (HB.out.2.2.2)
          have ql := labeltop_any (Ac := Ac) (nc := nc) (cc := cc) (tok := ⟨tok.toArray⟩) (fu := fu) (qu := qu) hmk (fun _ h => h.2) HB.out.1 HB.out.2.1 (by have := HB.out.2.2.1; omega) w10 (HS.out.2.1.nil k10)
          rw [← HNM.out] at ql
          clear hmk
          go_wp2_with fail
          (with_reducible refine ql.mono ?_)
          rintro e wL ⟨cl', rfl, hrl, kL⟩
          obtain ⟨bk, bm, bn, bd, bz, bx, bA, bnk, bck, bB, bnb, bcb, bco, rfl⟩ := hrl.isV
          have HL := hid (And.intro (HS.out.1.keep (k10.nil kL) (by simp)) (And.intro hrl (HS.out.2.2.nil (k10.nil kL))))
          clear ql hrl kL k10
          go_wp2_with fail
          refine hQ.out _ _ HL.out.2.2 (fun hSl => ?_)
          clear hQ hSs hSl
          try simp only [Act.put, List.setIfInBounds_toArray, List.set_cons_zero, List.set_cons_succ]
          refine lin_last (i := 6) (by kernel_rfl) rfl (by kernel_rfl) (fun wZ kZ K hK => ?_)
          have hcS := HL.out.1.keep kZ (by simp)
          have hrZ := HL.out.2.1.kept kZ
          have hkZ := HL.out.2.2.nil kZ
          have o0 := hcS.cell 0; have o1 := hcS.cell 1; have o2 := hcS.cell 2; have o3 := hcS.cell 3; have o4 := hcS.cell 4; have o5 := hcS.cell 5; have o6 := hcS.cell 6; have o7 := hcS.cell 7; have o8 := hcS.cell 8
          have f0 := hcS.free 0; have f1 := hcS.free 1; have f2 := hcS.free 2; have f3 := hcS.free 3; have f4 := hcS.free 4; have f5 := hcS.free 5; have f6 := hcS.free 6; have f7 := hcS.free 7; have f8 := hcS.free 8
          simp only [List.getElem?_cons_zero, List.getElem?_cons_succ] at o0 o1 o2 o3 o4 o5 o6 o7 o8
          have HCS := hid (And.intro hcS (And.intro hrZ hkZ))
          clear hcS hrZ hkZ kZ
          go_simp
          refine hK.out _ _ ?_
          clear hK K hSS f0 f1 f2 f3 f4 f5 f6 f7 f8 o0 o1 o2 o3 o4 o5 o6 o7 o8
          go_wp2_with fail
          go_meet
          have hk9 := kp_nine (Kp.refl [gS] wZ) gS (.inr (by simp)) (Value.int .i64 bk) (Value.int .u64 bm) (Value.bool bn) (Value.string bd) (Value.int .i64 bz) (Value.string bx) (Value.slice bA bnk bck) (Value.slice bB bnb bcb) (Value.int .i64 bco)
          exact ⟨gS, va, _, rfl, HB.out.2.1, HB.out.2.2.1, (((((((((HCS.out.1.put 0 (Value.int .i64 bk)).put 1 (Value.int .u64 bm)).put 2 (Value.bool bn)).put 3 (Value.string bd)).put 4 (Value.int .i64 bz)).put 5 (Value.string bx)).put 6 (Value.slice bA bnk bck)).put 7 (Value.slice bB bnb bcb)).put 8 (Value.int .i64 bco)), HCS.out.2.1.other (lab_fine (fun at_ => maskAt_lt ms at_ HM.out.ok) va HB.out.2.1 []) hk9 (HCS.out.1.cell 0), HCS.out.2.2.fresh hk9 HGS.out⟩
      · skip
        go_wp2_with fail
        obtain ⟨gS, hgS⟩ : ∃ gS, gS = w8.heap.size := ⟨_, rfl⟩
        obtain ⟨wS, hwS⟩ : ∃ wS, wS = w8.alloc (.cells #[.int .i64 0, .int .u64 0, .bool false, .string ⟨#[]⟩, .int .i64 0, .string ⟨#[]⟩, .slice none 0 0, .slice none 0 0, .int .i64 0] 31) := ⟨_, rfl⟩
        have hcS0 : Cells wS gS 31 [.int .i64 0, .int .u64 0, .bool false, .string ⟨#[]⟩, .int .i64 0, .string ⟨#[]⟩, .slice none 0 0, .slice none 0 0, .int .i64 0] := by rw [hwS, hgS]; exact Cells.fresh w8 31 _
        have hkS0 : Kp [] w8 wS := by rw [hwS]; exact (Kp.refl _ _).alloc _
        have HS := hid (And.intro hcS0 (HK0.out.nil (k8.nil hkS0)))
        have HGS : Hid (w2.heap.size ≤ gS) := hid (by rw [hgS]; exact (HK0.out.nil k8).size)
        rw [← hwS]
        try rw [← hgS]
        refine hQ.out _ _ HS.out.2 (fun hSs => ?_)
        clear hQ hS hwS hgS hcS0 hkS0 k8
        try simp only [Act.put, List.setIfInBounds_toArray, List.set_cons_zero, List.set_cons_succ]
        have HK1 := hid HS.out.2
        refine lin_list (i := 3) (by kernel_rfl) rfl (fun w9 k9 Q2 hQ => ?_)
        have HCA := hid (HS.out.1.keep k9 (by simp))
        have hkx := HK1.out.nil k9
        have qb := q2 w9 hkx
        have HKX := hid hkx
        clear hkx k9
        go_wp2_with fail
        (with_reducible refine qb.mono ?_)
        rintro e wB ⟨va, ca, rfl, hrsa, hfa, hza, kB⟩
        obtain ⟨ak, am, an, ad, az, ax, aA, ank, ack, aB, anb, acb, aco, rfl⟩ := hrsa.rep.isV
        have HB := hid (And.intro hrsa (And.intro hfa (And.intro hza (HKX.out.nil kB))))
        have HCB := hid (HCA.out.keep kB (by simp))
        clear qb hrsa hfa hza kB
        go_wp2_with fail
        refine hQ.out _ _ HB.out.2.2.2 (fun hSb => ?_)
        clear hQ hSs
        try simp only [Act.put, List.setIfInBounds_toArray, List.set_cons_zero, List.set_cons_succ]
        refine lin_list (i := 4) (by kernel_rfl) rfl (fun w10 k10 Q2 hQ => ?_)
        have hmk := HM.out.kept (HB.out.2.2.2)
        have ql := labeltop_any (Ac := Ac) (nc := nc) (cc := cc) (tok := ⟨tok.toArray⟩) (fu := fu) (qu := qu) hmk (fun _ h => h.2) HB.out.1 HB.out.2.1 (by have := HB.out.2.2.1; omega) w10 (k10)
        rw [← HNM.out] at ql
        clear hmk
        go_wp2_with fail
        (with_reducible refine ql.mono ?_)
        rintro e wL ⟨cl', rfl, hrl, kL⟩
        obtain ⟨bk, bm, bn, bd, bz, bx, bA, bnk, bck, bB, bnb, bcb, bco, rfl⟩ := hrl.isV
        have HL := hid (And.intro (HCB.out.keep (k10.nil kL) (by simp)) (And.intro hrl (HB.out.2.2.2.nil (k10.nil kL))))
        clear ql hrl kL k10
        go_wp2_with fail
        refine hQ.out _ _ HL.out.2.2 (fun hSl => ?_)
        clear hQ hSb hSl
        try simp only [Act.put, List.setIfInBounds_toArray, List.set_cons_zero, List.set_cons_succ]
        refine lin_last (i := 6) (by kernel_rfl) rfl (by kernel_rfl) (fun wZ kZ K hK => ?_)
        have hcS := HL.out.1.keep kZ (by simp)
        have hrZ := HL.out.2.1.kept kZ
        have hkZ := HL.out.2.2.nil kZ
        have o0 := hcS.cell 0; have o1 := hcS.cell 1; have o2 := hcS.cell 2; have o3 := hcS.cell 3; have o4 := hcS.cell 4; have o5 := hcS.cell 5; have o6 := hcS.cell 6; have o7 := hcS.cell 7; have o8 := hcS.cell 8
        have f0 := hcS.free 0; have f1 := hcS.free 1; have f2 := hcS.free 2; have f3 := hcS.free 3; have f4 := hcS.free 4; have f5 := hcS.free 5; have f6 := hcS.free 6; have f7 := hcS.free 7; have f8 := hcS.free 8
        simp only [List.getElem?_cons_zero, List.getElem?_cons_succ] at o0 o1 o2 o3 o4 o5 o6 o7 o8
        have HCS := hid (And.intro hcS (And.intro hrZ hkZ))
        clear hcS hrZ hkZ kZ
        go_simp
        refine hK.out _ _ ?_
        clear hK K hSS f0 f1 f2 f3 f4 f5 f6 f7 f8 o0 o1 o2 o3 o4 o5 o6 o7 o8
        go_wp2_with fail
        go_meet
        have hk9 := kp_nine (Kp.refl [gS] wZ) gS (.inr (by simp)) (Value.int .i64 bk) (Value.int .u64 bm) (Value.bool bn) (Value.string bd) (Value.int .i64 bz) (Value.string bx) (Value.slice bA bnk bck) (Value.slice bB bnb bcb) (Value.int .i64 bco)
        exact ⟨gS, va, _, rfl, HB.out.2.1, HB.out.2.2.1, (((((((((HCS.out.1.put 0 (Value.int .i64 bk)).put 1 (Value.int .u64 bm)).put 2 (Value.bool bn)).put 3 (Value.string bd)).put 4 (Value.int .i64 bz)).put 5 (Value.string bx)).put 6 (Value.slice bA bnk bck)).put 7 (Value.slice bB bnb bcb)).put 8 (Value.int .i64 bco)), HCS.out.2.1.other (lab_fine (fun at_ => maskAt_lt ms at_ HM.out.ok) va HB.out.2.1 []) hk9 (HCS.out.1.cell 0), HCS.out.2.2.fresh hk9 HGS.out⟩
    case' rest => obtain ⟨ga, va, ca, rfl, hfa, hza, hcA, hrA, hk2c⟩ := hcut
    case' rest => clear q2 xi e0 e1 e2 e3 e4
    obtain ⟨w4, hw4⟩ : ∃ w4 : World, w4 = wc := ⟨_, rfl⟩
    rw [← hw4] at hcA hrA hk2c ⊢
    clear hw4 HM
    have hk04 := H2.out.nil hk2c
    have q2 := fun W (k : Kp [] w4 W) => HQB.out.2 W (hk04.nil k)
    have HM := hid (HM0.out.1.kept hk04)
    have hcP := H0.out.2.1.keep hk04 (by simp)
    have hcX := H0.out.2.2.1.keep hk04 (by simp)
    have e0 := hcP.cell 0; have e1 := hcP.cell 1; have e2 := hcP.cell 2; have e3 := hcP.cell 3; have e4 := hcP.cell 4
    have xi := hcX.cell 1
    simp only [List.getElem?_cons_zero, List.getElem?_cons_succ] at xi e0 e1 e2 e3 e4
    have HA := hid (And.intro hfa (And.intro hza (And.intro hcA (And.intro hrA hk04))))
    clear hcP hcX hfa hza hcA hrA hk2c hk04
    go_upto_region 5 with fail
    go_cut [9] (fun v wx => ∃ (gS : Nat) (va : Vl) (cs : List Value), v = .pointer (some ⟨gS, 0, none⟩) ∧ FineV va ∧ sizeV va ≤ 81 ∧ Cells wx gS 31 cs ∧ Rep wx (labV (maskAtL ms) [] va) cs ∧ Kp [] w4 wx)
    case first =>
      refine lin_start (fun W' => Kp [] w4 W') (Stays.kp _ _) (by kernel_rfl) (Kp.refl _ _).drew (fun hSS hS => ?_)
      refine lin_val (i := 0) (v := ?_) rfl (by kernel_rfl) (by kernel_rfl) (by kernel_rfl) (fun _ _ _ h => h) hSS hS rfl (fun W' hSw => ?_) ?_
      rotate_left
      · have e0 := hSw.cell e0 (by simp); have e1 := hSw.cell e1 (by simp); have e2 := hSw.cell e2 (by simp); have e3 := hSw.cell e3 (by simp); have e4 := hSw.cell e4 (by simp); go_simp; first | done | with_reducible rfl
      try simp only [Act.put, List.setIfInBounds_toArray, List.set_cons_zero, List.set_cons_succ]
      refine lin_val (i := 1) (v := ?_) rfl (by kernel_rfl) (by kernel_rfl) (by kernel_rfl) (fun _ _ _ h => h) hSS hS rfl (fun W' hSw => ?_) ?_
      rotate_left
      · go_simp; first | done | with_reducible rfl
      try simp only [Act.put, List.setIfInBounds_toArray, List.set_cons_zero, List.set_cons_succ]
      refine lin_val (i := 2) (v := ?_) rfl (by kernel_rfl) (by kernel_rfl) (by kernel_rfl) (fun _ _ _ h => h) hSS hS rfl (fun W' hSw => ?_) ?_
      rotate_left
      · have xi := hSw.cell xi (by simp); go_simp; first | done | with_reducible rfl
      try simp only [Act.put, List.setIfInBounds_toArray, List.set_cons_zero, List.set_cons_succ]
      have HK0 := hid (Kp.refl [] w4 |>.drew)
      clear e0 e1 e2 e3 e4 xi
      refine lin_two_list (i := 3) (j := 5) (by kernel_rfl) rfl rfl (fun w8 k8 Q2 hQ => ?_) (fun w8 k8 Q2 hQ => ?_)
      · skip
        have hkx := HK0.out.nil k8
        have qb := q2 w8 hkx
        have HKX := hid hkx
        clear hkx k8
        go_wp2_with fail
        (with_reducible refine qb.mono ?_)
        rintro e wB ⟨va, ca, rfl, hrsa, hfa, hza, kB⟩
        obtain ⟨ak, am, an, ad, az, ax, aA, ank, ack, aB, anb, acb, aco, rfl⟩ := hrsa.rep.isV
        have HB := hid (And.intro hrsa (And.intro hfa (And.intro hza (HKX.out.nil kB))))
        clear qb hrsa hfa hza kB
        go_wp2_with fail
        refine hQ.out _ _ HB.out.2.2.2 (fun hSb => ?_)
        clear hQ hS
        try simp only [Act.put, List.setIfInBounds_toArray, List.set_cons_zero, List.set_cons_succ]
        refine lin_two_list (i := 4) (j := 5) (by kernel_rfl) rfl rfl (fun w9 k9 Q2 hQ => ?_) (fun w9 k9 Q2 hQ => ?_)
        · skip
          have hmk := HM.out.kept (HB.out.2.2.2)
          have ql := labeltop_any (Ac := Ac) (nc := nc) (cc := cc) (tok := ⟨tok.toArray⟩) (fu := fu) (qu := qu) hmk (fun _ h => h.2) HB.out.1 HB.out.2.1 (by have := HB.out.2.2.1; omega) w9 (k9)
          rw [← HNM.out] at ql
          clear hmk
          go_wp2_with fail
          (with_reducible refine ql.mono ?_)
          rintro e wL ⟨cl', rfl, hrl, kL⟩
          obtain ⟨bk, bm, bn, bd, bz, bx, bA, bnk, bck, bB, bnb, bcb, bco, rfl⟩ := hrl.isV
          have HL := hid (And.intro hrl (HB.out.2.2.2.nil (k9.nil kL)))
          clear ql hrl kL k9
          go_wp2_with fail
          refine hQ.out _ _ HL.out.2 (fun hSl => ?_)
          clear hQ hSb
          try simp only [Act.put, List.setIfInBounds_toArray, List.set_cons_zero, List.set_cons_succ]
          refine lin_list (i := 5) (by kernel_rfl) rfl (fun w10 k10 Q2 hQ => ?_)
          go_wp2_with fail
          obtain ⟨gS, hgS⟩ : ∃ gS, gS = w10.heap.size := ⟨_, rfl⟩
          obtain ⟨wS, hwS⟩ : ∃ wS, wS = w10.alloc (.cells #[.int .i64 0, .int .u64 0, .bool false, .string ⟨#[]⟩, .int .i64 0, .string ⟨#[]⟩, .slice none 0 0, .slice none 0 0, .int .i64 0] 31) := ⟨_, rfl⟩
          have hcS0 : Cells wS gS 31 [.int .i64 0, .int .u64 0, .bool false, .string ⟨#[]⟩, .int .i64 0, .string ⟨#[]⟩, .slice none 0 0, .slice none 0 0, .int .i64 0] := by rw [hwS, hgS]; exact Cells.fresh w10 31 _
          have hkS0 : Kp [] w10 wS := by rw [hwS]; exact (Kp.refl _ _).alloc _
          have HS := hid (And.intro hcS0 (And.intro (HL.out.1.kept (k10.nil hkS0)) (HL.out.2.nil (k10.nil hkS0))))
          have HGS : Hid (w4.heap.size ≤ gS) := hid (by rw [hgS]; exact (HL.out.2.nil k10).size)
          rw [← hwS]
          try rw [← hgS]
          refine hQ.out _ _ HS.out.2.2 (fun hSs => ?_)
          clear hQ hSl hwS hgS hcS0 hkS0 k10 hSs
          try simp only [Act.put, List.setIfInBounds_toArray, List.set_cons_zero, List.set_cons_succ]
          refine lin_last (i := 6) (by kernel_rfl) rfl (by kernel_rfl) (fun wZ kZ K hK => ?_)
          have hcS := HS.out.1.keep kZ (by simp)
          have hrZ := HS.out.2.1.kept kZ
          have hkZ := HS.out.2.2.nil kZ
          have o0 := hcS.cell 0; have o1 := hcS.cell 1; have o2 := hcS.cell 2; have o3 := hcS.cell 3; have o4 := hcS.cell 4; have o5 := hcS.cell 5; have o6 := hcS.cell 6; have o7 := hcS.cell 7; have o8 := hcS.cell 8
          have f0 := hcS.free 0; have f1 := hcS.free 1; have f2 := hcS.free 2; have f3 := hcS.free 3; have f4 := hcS.free 4; have f5 := hcS.free 5; have f6 := hcS.free 6; have f7 := hcS.free 7; have f8 := hcS.free 8
          simp only [List.getElem?_cons_zero, List.getElem?_cons_succ] at o0 o1 o2 o3 o4 o5 o6 o7 o8
          have HCS := hid (And.intro hcS (And.intro hrZ hkZ))
          clear hcS hrZ hkZ kZ
          go_simp
          refine hK.out _ _ ?_
          clear hK K hSS f0 f1 f2 f3 f4 f5 f6 f7 f8 o0 o1 o2 o3 o4 o5 o6 o7 o8
          go_wp2_with fail
          go_meet
          have hk9 := kp_nine (Kp.refl [gS] wZ) gS (.inr (by simp)) (Value.int .i64 bk) (Value.int .u64 bm) (Value.bool bn) (Value.string bd) (Value.int .i64 bz) (Value.string bx) (Value.slice bA bnk bck) (Value.slice bB bnb bcb) (Value.int .i64 bco)
          exact ⟨gS, va, _, rfl, HB.out.2.1, HB.out.2.2.1, (((((((((HCS.out.1.put 0 (Value.int .i64 bk)).put 1 (Value.int .u64 bm)).put 2 (Value.bool bn)).put 3 (Value.string bd)).put 4 (Value.int .i64 bz)).put 5 (Value.string bx)).put 6 (Value.slice bA bnk bck)).put 7 (Value.slice bB bnb bcb)).put 8 (Value.int .i64 bco)), HCS.out.2.1.other (lab_fine (fun at_ => maskAt_lt ms at_ HM.out.ok) va HB.out.2.1 []) hk9 (HCS.out.1.cell 0), HCS.out.2.2.fresh hk9 HGS.out⟩
        · skip
          go_wp2_with fail
          obtain ⟨gS, hgS⟩ : ∃ gS, gS = w9.heap.size := ⟨_, rfl⟩
          obtain ⟨wS, hwS⟩ : ∃ wS, wS = w9.alloc (.cells #[.int .i64 0, .int .u64 0, .bool false, .string ⟨#[]⟩, .int .i64 0, .string ⟨#[]⟩, .slice none 0 0, .slice none 0 0, .int .i64 0] 31) := ⟨_, rfl⟩
          have hcS0 : Cells wS gS 31 [.int .i64 0, .int .u64 0, .bool false, .string ⟨#[]⟩, .int .i64 0, .string ⟨#[]⟩, .slice none 0 0, .slice none 0 0, .int .i64 0] := by rw [hwS, hgS]; exact Cells.fresh w9 31 _
          have hkS0 : Kp [] w9 wS := by rw [hwS]; exact (Kp.refl _ _).alloc _
          have HS := hid (And.intro hcS0 (And.intro (k9.nil hkS0) (HB.out.2.2.2.nil (k9.nil hkS0))))
          have HGS : Hid (w4.heap.size ≤ gS) := hid (by rw [hgS]; exact (HB.out.2.2.2.nil k9).size)
          rw [← hwS]
          try rw [← hgS]
          refine hQ.out _ _ HS.out.2.2 (fun hSs => ?_)
          clear hQ hSb hwS hgS hcS0 hkS0 k9
          try simp only [Act.put, List.setIfInBounds_toArray, List.set_cons_zero, List.set_cons_succ]
          refine lin_list (i := 4) (by kernel_rfl) rfl (fun w10 k10 Q2 hQ => ?_)
          have hmk := HM.out.kept (HB.out.2.2.2)
          have ql := labeltop_any (Ac := Ac) (nc := nc) (cc := cc) (tok := ⟨tok.toArray⟩) (fu := fu) (qu := qu) hmk (fun _ h => h.2) HB.out.1 HB.out.2.1 (by have := HB.out.2.2.1; omega) w10 (HS.out.2.1.nil k10)
          rw [← HNM.out] at ql
          clear hmk
          go_wp2_with fail
          (with_reducible refine ql.mono ?_)
          rintro e wL ⟨cl', rfl, hrl, kL⟩
          obtain ⟨bk, bm, bn, bd, bz, bx, bA, bnk, bck, bB, bnb, bcb, bco, rfl⟩ := hrl.isV
          have HL := hid (And.intro (HS.out.1.keep (k10.nil kL) (by simp)) (And.intro hrl (HS.out.2.2.nil (k10.nil kL))))
          clear ql hrl kL k10
          go_wp2_with fail
          refine hQ.out _ _ HL.out.2.2 (fun hSl => ?_)
          clear hQ hSs hSl
          try simp only [Act.put, List.setIfInBounds_toArray, List.set_cons_zero, List.set_cons_succ]
          refine lin_last (i := 6) (by kernel_rfl) rfl (by kernel_rfl) (fun wZ kZ K hK => ?_)
          have hcS := HL.out.1.keep kZ (by simp)
          have hrZ := HL.out.2.1.kept kZ
          have hkZ := HL.out.2.2.nil kZ
          have o0 := hcS.cell 0; have o1 := hcS.cell 1; have o2 := hcS.cell 2; have o3 := hcS.cell 3; have o4 := hcS.cell 4; have o5 := hcS.cell 5; have o6 := hcS.cell 6; have o7 := hcS.cell 7; have o8 := hcS.cell 8
          have f0 := hcS.free 0; have f1 := hcS.free 1; have f2 := hcS.free 2; have f3 := hcS.free 3; have f4 := hcS.free 4; have f5 := hcS.free 5; have f6 := hcS.free 6; have f7 := hcS.free 7; have f8 := hcS.free 8
          simp only [List.getElem?_cons_zero, List.getElem?_cons_succ] at o0 o1 o2 o3 o4 o5 o6 o7 o8
          have HCS := hid (And.intro hcS (And.intro hrZ hkZ))
          clear hcS hrZ hkZ kZ
          go_simp
          refine hK.out _ _ ?_
          clear hK K hSS f0 f1 f2 f3 f4 f5 f6 f7 f8 o0 o1 o2 o3 o4 o5 o6 o7 o8
          go_wp2_with fail
          go_meet
          have hk9 := kp_nine (Kp.refl [gS] wZ) gS (.inr (by simp)) (Value.int .i64 bk) (Value.int .u64 bm) (Value.bool bn) (Value.string bd) (Value.int .i64 bz) (Value.string bx) (Value.slice bA bnk bck) (Value.slice bB bnb bcb) (Value.int .i64 bco)
          exact ⟨gS, va, _, rfl, HB.out.2.1, HB.out.2.2.1, (((((((((HCS.out.1.put 0 (Value.int .i64 bk)).put 1 (Value.int .u64 bm)).put 2 (Value.bool bn)).put 3 (Value.string bd)).put 4 (Value.int .i64 bz)).put 5 (Value.string bx)).put 6 (Value.slice bA bnk bck)).put 7 (Value.slice bB bnb bcb)).put 8 (Value.int .i64 bco)), HCS.out.2.1.other (lab_fine (fun at_ => maskAt_lt ms at_ HM.out.ok) va HB.out.2.1 []) hk9 (HCS.out.1.cell 0), HCS.out.2.2.fresh hk9 HGS.out⟩
      · skip
        go_wp2_with fail
        obtain ⟨gS, hgS⟩ : ∃ gS, gS = w8.heap.size := ⟨_, rfl⟩
        obtain ⟨wS, hwS⟩ : ∃ wS, wS = w8.alloc (.cells #[.int .i64 0, .int .u64 0, .bool false, .string ⟨#[]⟩, .int .i64 0, .string ⟨#[]⟩, .slice none 0 0, .slice none 0 0, .int .i64 0] 31) := ⟨_, rfl⟩
        have hcS0 : Cells wS gS 31 [.int .i64 0, .int .u64 0, .bool false, .string ⟨#[]⟩, .int .i64 0, .string ⟨#[]⟩, .slice none 0 0, .slice none 0 0, .int .i64 0] := by rw [hwS, hgS]; exact Cells.fresh w8 31 _
        have hkS0 : Kp [] w8 wS := by rw [hwS]; exact (Kp.refl _ _).alloc _
        have HS := hid (And.intro hcS0 (HK0.out.nil (k8.nil hkS0)))
        have HGS : Hid (w4.heap.size ≤ gS) := hid (by rw [hgS]; exact (HK0.out.nil k8).size)
        rw [← hwS]
        try rw [← hgS]
        refine hQ.out _ _ HS.out.2 (fun hSs => ?_)
        clear hQ hS hwS hgS hcS0 hkS0 k8
        try simp only [Act.put, List.setIfInBounds_toArray, List.set_cons_zero, List.set_cons_succ]
        have HK1 := hid HS.out.2
        refine lin_list (i := 3) (by kernel_rfl) rfl (fun w9 k9 Q2 hQ => ?_)
        have HCA := hid (HS.out.1.keep k9 (by simp))
        have hkx := HK1.out.nil k9
        have qb := q2 w9 hkx
        have HKX := hid hkx
        clear hkx k9
        go_wp2_with fail
        (with_reducible refine qb.mono ?_)
        rintro e wB ⟨va, ca, rfl, hrsa, hfa, hza, kB⟩
        obtain ⟨ak, am, an, ad, az, ax, aA, ank, ack, aB, anb, acb, aco, rfl⟩ := hrsa.rep.isV
        have HB := hid (And.intro hrsa (And.intro hfa (And.intro hza (HKX.out.nil kB))))
        have HCB := hid (HCA.out.keep kB (by simp))
        clear qb hrsa hfa hza kB
        go_wp2_with fail
        refine hQ.out _ _ HB.out.2.2.2 (fun hSb => ?_)
        clear hQ hSs
        try simp only [Act.put, List.setIfInBounds_toArray, List.set_cons_zero, List.set_cons_succ]
        refine lin_list (i := 4) (by kernel_rfl) rfl (fun w10 k10 Q2 hQ => ?_)
        have hmk := HM.out.kept (HB.out.2.2.2)
        have ql := labeltop_any (Ac := Ac) (nc := nc) (cc := cc) (tok := ⟨tok.toArray⟩) (fu := fu) (qu := qu) hmk (fun _ h => h.2) HB.out.1 HB.out.2.1 (by have := HB.out.2.2.1; omega) w10 (k10)
        rw [← HNM.out] at ql
        clear hmk
        go_wp2_with fail
        (with_reducible refine ql.mono ?_)
        rintro e wL ⟨cl', rfl, hrl, kL⟩
        obtain ⟨bk, bm, bn, bd, bz, bx, bA, bnk, bck, bB, bnb, bcb, bco, rfl⟩ := hrl.isV
        have HL := hid (And.intro (HCB.out.keep (k10.nil kL) (by simp)) (And.intro hrl (HB.out.2.2.2.nil (k10.nil kL))))
        clear ql hrl kL k10
        go_wp2_with fail
        refine hQ.out _ _ HL.out.2.2 (fun hSl => ?_)
        clear hQ hSb hSl
        try simp only [Act.put, List.setIfInBounds_toArray, List.set_cons_zero, List.set_cons_succ]
        refine lin_last (i := 6) (by kernel_rfl) rfl (by kernel_rfl) (fun wZ kZ K hK => ?_)
        have hcS := HL.out.1.keep kZ (by simp)
        have hrZ := HL.out.2.1.kept kZ
        have hkZ := HL.out.2.2.nil kZ
        have o0 := hcS.cell 0; have o1 := hcS.cell 1; have o2 := hcS.cell 2; have o3 := hcS.cell 3; have o4 := hcS.cell 4; have o5 := hcS.cell 5; have o6 := hcS.cell 6; have o7 := hcS.cell 7; have o8 := hcS.cell 8
        have f0 := hcS.free 0; have f1 := hcS.free 1; have f2 := hcS.free 2; have f3 := hcS.free 3; have f4 := hcS.free 4; have f5 := hcS.free 5; have f6 := hcS.free 6; have f7 := hcS.free 7; have f8 := hcS.free 8
        simp only [List.getElem?_cons_zero, List.getElem?_cons_succ] at o0 o1 o2 o3 o4 o5 o6 o7 o8
        have HCS := hid (And.intro hcS (And.intro hrZ hkZ))
        clear hcS hrZ hkZ kZ
        go_simp
        refine hK.out _ _ ?_
        clear hK K hSS f0 f1 f2 f3 f4 f5 f6 f7 f8 o0 o1 o2 o3 o4 o5 o6 o7 o8
        go_wp2_with fail
        go_meet
        have hk9 := kp_nine (Kp.refl [gS] wZ) gS (.inr (by simp)) (Value.int .i64 bk) (Value.int .u64 bm) (Value.bool bn) (Value.string bd) (Value.int .i64 bz) (Value.string bx) (Value.slice bA bnk bck) (Value.slice bB bnb bcb) (Value.int .i64 bco)
        exact ⟨gS, va, _, rfl, HB.out.2.1, HB.out.2.2.1, (((((((((HCS.out.1.put 0 (Value.int .i64 bk)).put 1 (Value.int .u64 bm)).put 2 (Value.bool bn)).put 3 (Value.string bd)).put 4 (Value.int .i64 bz)).put 5 (Value.string bx)).put 6 (Value.slice bA bnk bck)).put 7 (Value.slice bB bnb bcb)).put 8 (Value.int .i64 bco)), HCS.out.2.1.other (lab_fine (fun at_ => maskAt_lt ms at_ HM.out.ok) va HB.out.2.1 []) hk9 (HCS.out.1.cell 0), HCS.out.2.2.fresh hk9 HGS.out⟩
    case' rest => obtain ⟨gb, vb, cb', rfl, hfb, hzb, hcB, hrB, hk4c⟩ := hcut
    case' rest => clear q2 xi e0 e1 e2 e3 e4
    obtain ⟨w6, hw6⟩ : ∃ w6 : World, w6 = wc := ⟨_, rfl⟩
    rw [← hw6] at hcB hrB hk4c ⊢
    clear hw6 HM
    obtain ⟨hfa, hza, hcA, hrA, hk04⟩ := HA.out
    have hcA := hcA.keep hk4c (by simp)
    have hrA := hrA.kept hk4c
    have hk06 := hk04.nil hk4c
    have hmlt := fun at_ => maskAt_lt ms at_ HM0.out.2
    obtain ⟨f, hf⟩ : ∃ f, f = maskAtL ms := ⟨_, rfl⟩
    rw [← hf] at hrA hrB hmlt
    have hfA := lab_fine hmlt va hfa []
    have hfB := lab_fine hmlt vb hfb []
    have hzA : sizeV (labV f [] va) ≤ 1000000 := by rw [lab_size]; omega
    have hzB : sizeV (labV f [] vb) ≤ 1000000 := by rw [lab_size]; omega
    have hva := view_alike (cl := c0) hfA hfB [] (lab_lab f va []) (lab_lab f vb [])
    obtain ⟨a, ha⟩ : ∃ a, a = labV f [] va := ⟨_, rfl⟩
    obtain ⟨b, hb⟩ : ∃ b, b = labV f [] vb := ⟨_, rfl⟩
    rw [← ha] at hrA hfA hzA hva
    rw [← hb] at hrB hfB hzB hva
    clear HA hk04 hk4c hf hmlt hfa hza hfb hzb ha hb
    obtain ⟨ak, am, an, ad, az, ax, aA, ank, ack, aB, anb, acb, aco, eA⟩ := hrA.isV
    obtain ⟨bk, bm, bn, bd, bz, bx, bA, bnk, bck, bB, bnb, bcb, bco, eB⟩ := hrB.isV
    subst eA eB
    have HT := hid (And.intro hrA (And.intro hrB (And.intro hfA (And.intro hfB (And.intro hzA hzB)))))
    have hcC := H0.out.2.2.2.keep hk06 (by simp)
    have qva := fun W (k : Kp [] w6 W) => view_any hrA hfA hzA W k c0 HCL.out.1
    have qvb := fun W (k : Kp [] w6 W) => view_any hrB hfB hzB W k c0 HCL.out.1
    have qal := fun W (k : Kp [] w6 W) => alike_any (hrA.kept k) (hrB.kept k) hfA hfB c0 HCL.out.1
    obtain ⟨S1, hS1⟩ : ∃ S, S = showL c0 [35] a := ⟨_, rfl⟩
    obtain ⟨S2, hS2⟩ : ∃ S, S = showL c0 [35] b := ⟨_, rfl⟩
    obtain ⟨bl, hbl⟩ : ∃ x, x = alikeL c0 a b := ⟨_, rfl⟩
    simp only [← hS1] at qva
    simp only [← hS2] at qvb
    simp only [← hbl] at qal
    rw [← hS1, ← hS2, ← hbl] at hva
    have H6 := hid (And.intro (H0.out.1.nil hk06) (And.intro hcA (And.intro hcB hcC)))
    have HBL := hid hbl
    have a0 := hcA.cell 0; have a1 := hcA.cell 1; have a2 := hcA.cell 2; have a3 := hcA.cell 3; have a4 := hcA.cell 4; have a5 := hcA.cell 5; have a6 := hcA.cell 6; have a7 := hcA.cell 7; have a8 := hcA.cell 8
    have b0 := hcB.cell 0; have b1 := hcB.cell 1; have b2 := hcB.cell 2; have b3 := hcB.cell 3; have b4 := hcB.cell 4; have b5 := hcB.cell 5; have b6 := hcB.cell 6; have b7 := hcB.cell 7; have b8 := hcB.cell 8
    have y0 := hcC.cell 0
    simp only [List.getElem?_cons_zero] at y0
    clear hrA hrB hfA hfB hzA hzB hcA hcB hcC hk06 hS1 hS2 hbl
    go_upto_region 6 with fail
    refine lin_start (fun w' => w'.cell? ⟨ga, 0, none⟩ = some (Value.int .i64 ak) ∧ w'.cell? ⟨ga, 1, none⟩ = some (Value.int .u64 am) ∧ w'.cell? ⟨ga, 2, none⟩ = some (Value.bool an) ∧ w'.cell? ⟨ga, 3, none⟩ = some (Value.string ad) ∧ w'.cell? ⟨ga, 4, none⟩ = some (Value.int .i64 az) ∧ w'.cell? ⟨ga, 5, none⟩ = some (Value.string ax) ∧ w'.cell? ⟨ga, 6, none⟩ = some (Value.slice aA ank ack) ∧ w'.cell? ⟨ga, 7, none⟩ = some (Value.slice aB anb acb) ∧ w'.cell? ⟨ga, 8, none⟩ = some (Value.int .i64 aco) ∧ w'.cell? ⟨gb, 0, none⟩ = some (Value.int .i64 bk) ∧ w'.cell? ⟨gb, 1, none⟩ = some (Value.int .u64 bm) ∧ w'.cell? ⟨gb, 2, none⟩ = some (Value.bool bn) ∧ w'.cell? ⟨gb, 3, none⟩ = some (Value.string bd) ∧ w'.cell? ⟨gb, 4, none⟩ = some (Value.int .i64 bz) ∧ w'.cell? ⟨gb, 5, none⟩ = some (Value.string bx) ∧ w'.cell? ⟨gb, 6, none⟩ = some (Value.slice bA bnk bck) ∧ w'.cell? ⟨gb, 7, none⟩ = some (Value.slice bB bnb bcb) ∧ w'.cell? ⟨gb, 8, none⟩ = some (Value.int .i64 bco) ∧ w'.cell? ⟨gc, 0, none⟩ = some (Value.int .u64 (c0 : Int)) ∧ Kp [] w6 w') ((Stays.cell _ _).and ((Stays.cell _ _).and ((Stays.cell _ _).and ((Stays.cell _ _).and ((Stays.cell _ _).and ((Stays.cell _ _).and ((Stays.cell _ _).and ((Stays.cell _ _).and ((Stays.cell _ _).and ((Stays.cell _ _).and ((Stays.cell _ _).and ((Stays.cell _ _).and ((Stays.cell _ _).and ((Stays.cell _ _).and ((Stays.cell _ _).and ((Stays.cell _ _).and ((Stays.cell _ _).and ((Stays.cell _ _).and ((Stays.cell _ _).and ((Stays.kp _ _))))))))))))))))))))) (by kernel_rfl) ⟨a0, a1, a2, a3, a4, a5, a6, a7, a8, b0, b1, b2, b3, b4, b5, b6, b7, b8, y0, (Kp.refl _ _).drew⟩ (fun hSS hS => ?_)
    refine lin_val (i := 0) (v := ?_) rfl (by kernel_rfl) (by kernel_rfl) (by kernel_rfl) (fun _ _ _ h => h) hSS hS rfl (fun w hSw => ?_) ?_
    rotate_left
    · obtain ⟨q0, q1, q2, q3, q4, q5, q6, q7, q8, q9, q10, q11, q12, q13, q14, q15, q16, q17, q18, q19⟩ := hSw; go_simp; first | done | with_reducible rfl
    simp only [Act.put, List.setIfInBounds_toArray, List.set_cons_zero, List.set_cons_succ]
    refine lin_val (i := 1) (v := ?_) rfl (by kernel_rfl) (by kernel_rfl) (by kernel_rfl) (fun _ _ _ h => h) hSS hS rfl (fun w hSw => ?_) ?_
    rotate_left
    · obtain ⟨q0, q1, q2, q3, q4, q5, q6, q7, q8, q9, q10, q11, q12, q13, q14, q15, q16, q17, q18, q19⟩ := hSw; go_simp; first | done | with_reducible rfl
    simp only [Act.put, List.setIfInBounds_toArray, List.set_cons_zero, List.set_cons_succ]
    refine lin_val (i := 2) (v := ?_) rfl (by kernel_rfl) (by kernel_rfl) (by kernel_rfl) (fun _ _ _ h => h) hSS hS rfl (fun w hSw => ?_) ?_
    rotate_left
    · obtain ⟨q0, q1, q2, q3, q4, q5, q6, q7, q8, q9, q10, q11, q12, q13, q14, q15, q16, q17, q18, q19⟩ := hSw; go_simp; first | done | with_reducible rfl
    simp only [Act.put, List.setIfInBounds_toArray, List.set_cons_zero, List.set_cons_succ]
    refine lin_call (i := 3) rfl (by kernel_rfl) (by kernel_rfl) (by kernel_rfl) (fun _ _ _ h => h) hSS hS rfl (fun w hSw => by obtain ⟨q0, q1, q2, q3, q4, q5, q6, q7, q8, q9, q10, q11, q12, q13, q14, q15, q16, q17, q18, q19⟩ := hSw; exact qva w q19) (fun w hSw => ?_) ?_
    · obtain ⟨q0, q1, q2, q3, q4, q5, q6, q7, q8, q9, q10, q11, q12, q13, q14, q15, q16, q17, q18, q19⟩ := hSw; go_simp
    simp only [Act.put, List.setIfInBounds_toArray, List.set_cons_zero, List.set_cons_succ]
    refine lin_val (i := 4) (v := ?_) rfl (by kernel_rfl) (by kernel_rfl) (by kernel_rfl) (fun _ _ _ h => h) hSS hS rfl (fun w hSw => ?_) ?_
    rotate_left
    · obtain ⟨q0, q1, q2, q3, q4, q5, q6, q7, q8, q9, q10, q11, q12, q13, q14, q15, q16, q17, q18, q19⟩ := hSw; go_simp; first | done | with_reducible rfl
    simp only [Act.put, List.setIfInBounds_toArray, List.set_cons_zero, List.set_cons_succ]
    refine lin_val (i := 5) (v := ?_) rfl (by kernel_rfl) (by kernel_rfl) (by kernel_rfl) (fun _ _ _ h => h) hSS hS rfl (fun w hSw => ?_) ?_
    rotate_left
    · obtain ⟨q0, q1, q2, q3, q4, q5, q6, q7, q8, q9, q10, q11, q12, q13, q14, q15, q16, q17, q18, q19⟩ := hSw; go_simp; first | done | with_reducible rfl
    simp only [Act.put, List.setIfInBounds_toArray, List.set_cons_zero, List.set_cons_succ]
    refine lin_val (i := 6) (v := ?_) rfl (by kernel_rfl) (by kernel_rfl) (by kernel_rfl) (fun _ _ _ h => h) hSS hS rfl (fun w hSw => ?_) ?_
    rotate_left
    · obtain ⟨q0, q1, q2, q3, q4, q5, q6, q7, q8, q9, q10, q11, q12, q13, q14, q15, q16, q17, q18, q19⟩ := hSw; go_simp; first | done | with_reducible rfl
    simp only [Act.put, List.setIfInBounds_toArray, List.set_cons_zero, List.set_cons_succ]
    refine lin_call (i := 7) rfl (by kernel_rfl) (by kernel_rfl) (by kernel_rfl) (fun _ _ _ h => h) hSS hS rfl (fun w hSw => by obtain ⟨q0, q1, q2, q3, q4, q5, q6, q7, q8, q9, q10, q11, q12, q13, q14, q15, q16, q17, q18, q19⟩ := hSw; exact qvb w q19) (fun w hSw => ?_) ?_
    · obtain ⟨q0, q1, q2, q3, q4, q5, q6, q7, q8, q9, q10, q11, q12, q13, q14, q15, q16, q17, q18, q19⟩ := hSw; go_simp
    simp only [Act.put, List.setIfInBounds_toArray, List.set_cons_zero, List.set_cons_succ]
    refine lin_val (i := 8) (v := ?_) rfl (by kernel_rfl) (by kernel_rfl) (by kernel_rfl) (fun _ _ _ h => h) hSS hS rfl (fun w hSw => ?_) ?_
    rotate_left
    · obtain ⟨q0, q1, q2, q3, q4, q5, q6, q7, q8, q9, q10, q11, q12, q13, q14, q15, q16, q17, q18, q19⟩ := hSw; go_simp; first | done | with_reducible rfl
    simp only [Act.put, List.setIfInBounds_toArray, List.set_cons_zero, List.set_cons_succ]
    refine lin_val (i := 9) (v := ?_) rfl (by kernel_rfl) (by kernel_rfl) (by kernel_rfl) (fun _ _ _ h => h) hSS hS rfl (fun w hSw => ?_) ?_
    rotate_left
    · obtain ⟨q0, q1, q2, q3, q4, q5, q6, q7, q8, q9, q10, q11, q12, q13, q14, q15, q16, q17, q18, q19⟩ := hSw; go_simp; first | done | with_reducible rfl
    simp only [Act.put, List.setIfInBounds_toArray, List.set_cons_zero, List.set_cons_succ]
    refine lin_done (by kernel_rfl) (fun w7 kw7 => ?_) _
    clear hS hSS
    have hk7 : Kp [] w6 w7 := (Kp.refl _ _).drew.nil kw7
    have qal7 := qal w7 hk7
    replace a0 := hk7.cell a0 (by simp); replace a1 := hk7.cell a1 (by simp); replace a2 := hk7.cell a2 (by simp); replace a3 := hk7.cell a3 (by simp); replace a4 := hk7.cell a4 (by simp); replace a5 := hk7.cell a5 (by simp); replace a6 := hk7.cell a6 (by simp); replace a7 := hk7.cell a7 (by simp); replace a8 := hk7.cell a8 (by simp)
    replace b0 := hk7.cell b0 (by simp); replace b1 := hk7.cell b1 (by simp); replace b2 := hk7.cell b2 (by simp); replace b3 := hk7.cell b3 (by simp); replace b4 := hk7.cell b4 (by simp); replace b5 := hk7.cell b5 (by simp); replace b6 := hk7.cell b6 (by simp); replace b7 := hk7.cell b7 (by simp); replace b8 := hk7.cell b8 (by simp)
    replace y0 := hk7.cell y0 (by simp)
    have HK7 := hid hk7
    clear hva kw7 hk7 qva qvb qal
    go_wp2_with fail
    (with_reducible refine qal7.mono ?_)
    rintro e w8 ⟨rfl, k8⟩
    have hk8 := HK7.out.nil k8
    have hrA := HT.out.1.kept hk8
    have qvl := fun W (k : Kp [] w8 W) => view_any hrA HT.out.2.2.1 HT.out.2.2.2.2.1 W k 18446744073709551615 (by decide)
    have qpr := fun W (k : Kp [] w8 W) => printr_any hrA HT.out.2.2.1 HT.out.2.2.2.2.1 W k
    have qho := fun W (k : Kp [] w8 W) => holes_any hrA HT.out.2.2.1 HT.out.2.2.2.2.1 W k 18446744073709551615 (by decide)
    simp only [holes_all (fun m h => hid_all h) a HT.out.2.2.1] at qho
    simp only [show_all [35] [] a HT.out.2.2.1] at qvl
    simp only [show ((18446744073709551615 : Nat) : Int) = 18446744073709551615 from rfl] at qvl qho
    obtain ⟨S3, hS3⟩ : ∃ S, S = showL 18446744073709551615 [] a := ⟨_, rfl⟩
    simp only [← hS3] at qvl qpr
    have hcA := H6.out.2.1.keep hk8 (by simp)
    clear a0 a1 a2 a3 a4 a5 a6 a7 a8 b0 b1 b2 b3 b4 b5 b6 b7 b8 y0
    have a0 := hcA.cell 0; have a1 := hcA.cell 1; have a2 := hcA.cell 2; have a3 := hcA.cell 3; have a4 := hcA.cell 4; have a5 := hcA.cell 5; have a6 := hcA.cell 6; have a7 := hcA.cell 7; have a8 := hcA.cell 8
    have H8 := hid (And.intro (H6.out.1.nil hk8) hk8)
    clear hcA hk8 k8 hrA hS3 qal7
    go_upto_region 8 with fail
    refine lin_start (fun W' => Kp [] w8 W') (Stays.kp _ _) (by kernel_rfl) (Kp.refl _ _).drew (fun hSS hS => ?_)
    refine lin_val (i := 0) (v := ?_) rfl (by kernel_rfl) (by kernel_rfl) (by kernel_rfl) (fun _ _ _ h => h) hSS hS rfl (fun W' hSw => ?_) ?_
    rotate_left
    · have a0 := hSw.cell a0 (by simp); have a1 := hSw.cell a1 (by simp); have a2 := hSw.cell a2 (by simp); have a3 := hSw.cell a3 (by simp); have a4 := hSw.cell a4 (by simp); have a5 := hSw.cell a5 (by simp); have a6 := hSw.cell a6 (by simp); have a7 := hSw.cell a7 (by simp); have a8 := hSw.cell a8 (by simp); go_simp; first | done | with_reducible rfl
    try simp only [Act.put, List.setIfInBounds_toArray, List.set_cons_zero, List.set_cons_succ]
    refine lin_val (i := 2) (v := ?_) rfl (by kernel_rfl) (by kernel_rfl) (by kernel_rfl) (fun _ _ _ h => h) hSS hS rfl (fun W' hSw => ?_) ?_
    rotate_left
    · have a0 := hSw.cell a0 (by simp); have a1 := hSw.cell a1 (by simp); have a2 := hSw.cell a2 (by simp); have a3 := hSw.cell a3 (by simp); have a4 := hSw.cell a4 (by simp); have a5 := hSw.cell a5 (by simp); have a6 := hSw.cell a6 (by simp); have a7 := hSw.cell a7 (by simp); have a8 := hSw.cell a8 (by simp); go_simp; first | done | with_reducible rfl
    try simp only [Act.put, List.setIfInBounds_toArray, List.set_cons_zero, List.set_cons_succ]
    refine lin_call (i := 1) rfl (by kernel_rfl) (by kernel_rfl) (by kernel_rfl) (fun _ _ _ h => h) hSS hS rfl (fun W' hSw => qvl W' hSw) (fun W' hSw => ?_) ?_
    · go_simp
    try simp only [Act.put, List.setIfInBounds_toArray, List.set_cons_zero, List.set_cons_succ]
    refine lin_call (i := 3) rfl (by kernel_rfl) (by kernel_rfl) (by kernel_rfl) (fun _ _ _ h => h) hSS hS rfl (fun W' hSw => qpr W' hSw) (fun W' hSw => ?_) ?_
    · go_simp
    try simp only [Act.put, List.setIfInBounds_toArray, List.set_cons_zero, List.set_cons_succ]
    refine lin_val (i := 4) (v := ?_) rfl (by kernel_rfl) (by kernel_rfl) (by kernel_rfl) (fun _ _ _ h => h) hSS hS rfl (fun W' hSw => ?_) ?_
    rotate_left
    · go_simp; first | done | with_reducible rfl
    try simp only [Act.put, List.setIfInBounds_toArray, List.set_cons_zero, List.set_cons_succ]
    refine lin_val (i := 5) (v := ?_) rfl (by kernel_rfl) (by kernel_rfl) (by kernel_rfl) (fun _ _ _ h => h) hSS hS rfl (fun W' hSw => ?_) ?_
    rotate_left
    · go_simp; first | done | with_reducible rfl
    try simp only [Act.put, List.setIfInBounds_toArray, List.set_cons_zero, List.set_cons_succ]
    refine lin_val (i := 6) (v := ?_) rfl (by kernel_rfl) (by kernel_rfl) (by kernel_rfl) (fun _ _ _ h => h) hSS hS rfl (fun W' hSw => ?_) ?_
    rotate_left
    · have a0 := hSw.cell a0 (by simp); have a1 := hSw.cell a1 (by simp); have a2 := hSw.cell a2 (by simp); have a3 := hSw.cell a3 (by simp); have a4 := hSw.cell a4 (by simp); have a5 := hSw.cell a5 (by simp); have a6 := hSw.cell a6 (by simp); have a7 := hSw.cell a7 (by simp); have a8 := hSw.cell a8 (by simp); go_simp; first | done | with_reducible rfl
    try simp only [Act.put, List.setIfInBounds_toArray, List.set_cons_zero, List.set_cons_succ]
    refine lin_list (i := 7) (by kernel_rfl) rfl (fun w9 k9 Q2 hQ => ?_)
    have hk9 : Kp [] w8 w9 := (Kp.refl _ _).drew.nil k9
    have qa := qho w9 hk9
    have HK9 := hid hk9
    clear hk9 k9 qho
    go_wp2_with fail
    (with_reducible refine qa.mono ?_)
    rintro e w10 ⟨vp, rfl, hp, k10⟩
    obtain ⟨Ap, cp, rfl, -, -, -⟩ := hp.cells
    have HK10 := hid (HK9.out.nil k10)
    clear hp k10 qa
    go_wp2_with fail
    refine hQ.out _ _ HK10.out (fun hSb => ?_)
    clear hQ hS
    try simp only [Act.put, List.setIfInBounds_toArray, List.set_cons_zero, List.set_cons_succ]
    refine lin_val (i := 8) (v := ?_) rfl (by kernel_rfl) (by kernel_rfl) (by kernel_rfl) (fun _ _ _ h => h) hSS hSb rfl (fun W' hSw => ?_) ?_
    rotate_left
    · go_simp; first | done | with_reducible rfl
    try simp only [Act.put, List.setIfInBounds_toArray, List.set_cons_zero, List.set_cons_succ]
    refine lin_val (i := 9) (v := ?_) rfl (by kernel_rfl) (by kernel_rfl) (by kernel_rfl) (fun _ _ _ h => h) hSS hSb rfl (fun W' hSw => ?_) ?_
    rotate_left
    · go_simp; first | done | with_reducible rfl
    try simp only [Act.put, List.setIfInBounds_toArray, List.set_cons_zero, List.set_cons_succ]
    refine lin_val (i := 10) (v := ?_) rfl (by kernel_rfl) (by kernel_rfl) (by kernel_rfl) (fun _ _ _ h => h) hSS hSb rfl (fun W' hSw => ?_) ?_
    rotate_left
    · go_simp; first | done | with_reducible rfl
    try simp only [Act.put, List.setIfInBounds_toArray, List.set_cons_zero, List.set_cons_succ]
    refine lin_val (i := 11) (v := ?_) rfl (by kernel_rfl) (by kernel_rfl) (by kernel_rfl) (fun _ _ _ h => h) hSS hSb rfl (fun W' hSw => ?_) ?_
    rotate_left
    · go_simp; first | done | with_reducible rfl
    try simp only [Act.put, List.setIfInBounds_toArray, List.set_cons_zero, List.set_cons_succ]
    refine lin_done (by kernel_rfl) (fun w11 k11 => ?_) _
    have hk11 : Kp [] w8 w11 := HK10.out.nil k11
    clear k11 hSb hSS a0 a1 a2 a3 a4 a5 a6 a7 a8
    have hk611 := H8.out.2.nil hk11
    have hkw11 := H8.out.1.nil hk11
    have hcA := H6.out.2.1.keep hk611 (by simp)
    have hcB := H6.out.2.2.1.keep hk611 (by simp)
    have hcC := H6.out.2.2.2.keep hk611 (by simp)
    have hrA := HT.out.1.kept hk611
    have hrB := HT.out.2.1.kept hk611
    have hor := u64_or_nat c0 c1 (by simpa using HCL.out.1) (by simpa using HCL.out.2)
    have hcb : c0 ||| c1 < 18446744073709551616 := Nat.or_lt_two_pow (n := 64) HCL.out.1 HCL.out.2
    obtain ⟨cb, hcbe⟩ : ∃ cb, cb = c0 ||| c1 := ⟨_, rfl⟩
    rw [← hcbe] at hor hcb
    have qal := fun W (k : Kp [] w11 W) => alike_any (hrA.kept k) (hrB.kept k) HT.out.2.2.1 HT.out.2.2.2.1 cb hcb
    have qh1 := fun W => hidden_mask9 hrA HT.out.2.2.1 W cb hcb
    have qh2 := fun W => hidden_mask9 hrA HT.out.2.2.1 W c0 HCL.out.1
    obtain ⟨bA, hbA⟩ : ∃ x, x = alikeL cb a b := ⟨_, rfl⟩
    obtain ⟨h1, hh1⟩ : ∃ x, x = hidB (maskV a) cb := ⟨_, rfl⟩
    obtain ⟨h2, hh2⟩ : ∃ x, x = hidB (maskV a) c0 := ⟨_, rfl⟩
    simp only [← hbA] at qal
    simp only [← hh1] at qh1
    simp only [← hh2] at qh2
    have hless : bA = true → bl = true := by
      rw [hbA, HBL.out, hcbe]
      exact alike_less (fun m h => hid_or h) a b
    have hhid : h1 = true → h2 = true := by
      rw [hh1, hh2, hcbe]
      exact hid_or
    have HL := hid (And.intro hless (And.intro hhid hkw11))
    have a0 := hcA.cell 0; have a1 := hcA.cell 1; have a2 := hcA.cell 2; have a3 := hcA.cell 3; have a4 := hcA.cell 4; have a5 := hcA.cell 5; have a6 := hcA.cell 6; have a7 := hcA.cell 7; have a8 := hcA.cell 8
    have b0 := hcB.cell 0; have b1 := hcB.cell 1; have b2 := hcB.cell 2; have b3 := hcB.cell 3; have b4 := hcB.cell 4; have b5 := hcB.cell 5; have b6 := hcB.cell 6; have b7 := hcB.cell 7; have b8 := hcB.cell 8
    have y0 := hcC.cell 0
    have y1 := hcC.cell 1
    simp only [List.getElem?_cons_zero, List.getElem?_cons_succ] at y0 y1
    have q10 := qal w11 (Kp.refl _ _)
    have HC11 := hid (And.intro hcA hcC)
    clear hcA hcB hcC hrA hrB hcb hcbe hbA hh1 hh2 hless hhid hk611 hkw11 hk11 qal
    go_wp2_with fail
    (with_reducible refine q10.mono ?_)
    rintro e w12 ⟨rfl, k12⟩
    have HK12 := hid (And.intro (HL.out.2.2.nil k12) k12)
    have hcA := HC11.out.1.keep k12 (by simp)
    have hcC := HC11.out.2.keep k12 (by simp)
    clear a0 a1 a2 a3 a4 a5 a6 a7 a8 b0 b1 b2 b3 b4 b5 b6 b7 b8 y0 y1 k12 q10
    have a0 := hcA.cell 0; have a1 := hcA.cell 1; have a2 := hcA.cell 2; have a3 := hcA.cell 3; have a4 := hcA.cell 4; have a5 := hcA.cell 5; have a6 := hcA.cell 6; have a7 := hcA.cell 7; have a8 := hcA.cell 8
    have HCC := hid (And.intro hcA hcC)
    clear hcA hcC
    cases bA with
    | false =>
      go_wp2_with fail
      (with_reducible refine (qh1 _).mono ?_)
      rintro e w13 ⟨rfl, k13⟩
      have HK13 := hid (HK12.out.1.nil k13)
      have hcA := (HCC.out.1.keep k13 (by simp))
      have hcC := (HCC.out.2.keep k13 (by simp))
      clear a0 a1 a2 a3 a4 a5 a6 a7 a8 k13
      have a0 := hcA.cell 0; have a1 := hcA.cell 1; have a2 := hcA.cell 2; have a3 := hcA.cell 3; have a4 := hcA.cell 4; have a5 := hcA.cell 5; have a6 := hcA.cell 6; have a7 := hcA.cell 7; have a8 := hcA.cell 8
      have y0 := hcC.cell 0
      simp only [List.getElem?_cons_zero] at y0
      clear hcA hcC
      cases h1 with
      | false =>
        go_wp2_with fail
        go_ret
        exact ⟨rfl, HK13.out⟩
      | true =>
        have h2t := HL.out.2.1 rfl
        subst h2t
        go_wp2_with fail
        (with_reducible refine (qh2 _).mono ?_)
        rintro e w14 ⟨rfl, k14⟩
        have HK14 := hid (HK13.out.nil k14)
        clear a0 a1 a2 a3 a4 a5 a6 a7 a8 k14 y0
        go_wp2_with fail
        go_ret
        exact ⟨rfl, HK14.out⟩
    | true =>
      have hbt := HL.out.1 rfl
      subst hbt
      go_wp2_with fail
      (with_reducible refine (qh1 _).mono ?_)
      rintro e w13 ⟨rfl, k13⟩
      have HK13 := hid (HK12.out.1.nil k13)
      have hcA := (HCC.out.1.keep k13 (by simp))
      have hcC := (HCC.out.2.keep k13 (by simp))
      clear a0 a1 a2 a3 a4 a5 a6 a7 a8 k13
      have a0 := hcA.cell 0; have a1 := hcA.cell 1; have a2 := hcA.cell 2; have a3 := hcA.cell 3; have a4 := hcA.cell 4; have a5 := hcA.cell 5; have a6 := hcA.cell 6; have a7 := hcA.cell 7; have a8 := hcA.cell 8
      have y0 := hcC.cell 0
      simp only [List.getElem?_cons_zero] at y0
      clear hcA hcC
      cases h1 with
      | false =>
        go_wp2_with fail
        go_ret
        exact ⟨rfl, HK13.out⟩
      | true =>
        have h2t := HL.out.2.1 rfl
        subst h2t
        go_wp2_with fail
        (with_reducible refine (qh2 _).mono ?_)
        rintro e w14 ⟨rfl, k14⟩
        have HK14 := hid (HK13.out.nil k14)
        clear a0 a1 a2 a3 a4 a5 a6 a7 a8 k14 y0
        go_wp2_with fail
        go_ret
        exact ⟨rfl, HK14.out⟩
  · have z0 : (z != 0) = true := bne_iff_ne.2 hz
    clear hz hcP hcX
    go_wp2_with fail
    go_ret
    exact ⟨rfl, H0.out.1.nil H2.out⟩
end Go.Proofs.YtpeldjihalldkaaDoor
