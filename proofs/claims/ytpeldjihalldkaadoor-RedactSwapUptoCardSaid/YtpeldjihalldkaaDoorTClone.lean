/- Clone: the document's answer. -/
import Derived.Test.YtpeldjihalldkaaDoorTBareW
namespace Go.Proofs.YtpeldjihalldkaaDoor
open Go Go.RowKit Go.Lib

theorem keys_span {w : World} {A : Option Addr} {c : Nat} {l : List Txt} (h : KeysAt w A c l) : Span w A (l.map fun x => Value.string ⟨x.toArray⟩) := fun j u hu => by
  rw [List.getElem?_map] at hu
  obtain ⟨x, hx, rfl⟩ := Option.map_eq_some_iff.1 hu
  obtain ⟨g, e, hc⟩ := h.at_ j x hx
  refine ⟨_, e, ?_⟩
  rcases Nat.eq_zero_or_pos j with h0 | h0
  · subst h0; exact hc
  · simpa [Addr.add, Nat.ne_of_gt h0] using hc
theorem keys_own {w : World} {g n c : Nat} {l : List Txt} (h : OwnN w 9 1 (.slice (some ⟨g, 0, none⟩) n c) n (l.map fun x => Value.string ⟨x.toArray⟩)) (hn : n = l.length) : KeysAt w (some ⟨g, 0, none⟩) c l := by
  obtain ⟨A, c2, e, h1, h2, h3, -⟩ := h.shape
  injection e with e1 e2 e3
  subst e1 e3
  refine ⟨by omega, h3, fun i x hx => ⟨g, rfl, ?_⟩⟩
  obtain ⟨ad, e, hc⟩ := h1 i _ (by rw [List.getElem?_map, hx]; rfl)
  injection e with e
  subst e
  rcases Nat.eq_zero_or_pos i with h0 | h0
  · subst h0; exact hc
  · simpa [Addr.add, Nat.ne_of_gt h0] using hc
/-- A copy of a tree, by its top: its kids lie in a block of their own. -/
structure CloneTop (w W w' : World) (keys : List Txt) (kids : List Vl) (A : Option Addr) (ck g c : Nat) (ks : Nat → List Value) : Prop where
  ky : KeysAt w' A ck keys
  kk : ∀ ad, A = some ad → W.heap.size ≤ ad.block ∧ ad.block < w'.heap.size ∧ ad.block ≠ g
  kd : KidsAt w' (some ⟨g, 0, none⟩) c kids.length ks
  kr : ∀ (i : Nat) v, kids[i]? = some v → RepS w' (fun x => (x < w.heap.size ∨ (W.heap.size ≤ x ∧ x < w'.heap.size)) ∧ x ≠ g) v (ks i)
  g1 : W.heap.size ≤ g
  g2 : g < w'.heap.size
  block : ∃ cs, Cells w' g 31 cs
theorem CloneTop.rep {w W w' : World} {k m : Nat} {num : Option Dc} {t : Txt} {keys : List Txt} {kids : List Vl} {code : Nat} {A : Option Addr} {ck g c : Nat} {ks : Nat → List Value} (h : CloneTop w W w' keys kids A ck g c ks) :
    RepS w' (fun x => x < w.heap.size ∨ (W.heap.size ≤ x ∧ x < w'.heap.size)) (.mk k m num t keys kids code) (vC k m (vN num) (vD num) (vS num) t A keys.length ck (some ⟨g, 0, none⟩) kids.length c code) :=
  .mk k m num t keys kids code A ck _ c ks h.ky h.kd (fun ad e => .inr ⟨(h.kk ad e).1, (h.kk ad e).2.1⟩) (fun ad e => by injection e with e; subst e; exact .inr ⟨h.g1, h.g2⟩) (fun i v hv => (h.kr i v hv).mono fun x hx => hx.1)
/-- What Clone does for a tree at any later world. -/
def CloneAt (w : World) (v : Vl) (cs : List Value) : Prop := FineV v → ∀ W, Kp [] w W →
  Calls Tryd.prog 28 #[.agg cs.toArray] W fun e w' => ∃ cs', e = .returned (.agg cs'.toArray) ∧ RepS w' (fun x => x < w.heap.size ∨ (W.heap.size ≤ x ∧ x < w'.heap.size)) v cs' ∧ Kp [] W w'
set_option maxRecDepth 100000 in
set_option maxHeartbeats 12800000 in
theorem clone_step (w : World) (k m : Nat) (num : Option Dc) (t : Txt) (keys : List Txt) (kids : List Vl) (code : Nat) (A : Option Addr) (ck : Nat) (B : Option Addr) (cb : Nat) (ks : Nat → List Value)
    (hA : KeysAt w A ck keys) (hB : KidsAt w B cb kids.length ks) (hr : ∀ (i : Nat) v, kids[i]? = some v → Rep w v (ks i)) (ih : ∀ (i : Nat) v, kids[i]? = some v → CloneAt w v (ks i))
    (hf : FineV (.mk k m num t keys kids code)) (W : World) (hK : Kp [] w W) :
    Calls Tryd.prog 28 #[.agg (vC k m (vN num) (vD num) (vS num) t A keys.length ck B kids.length cb code).toArray] W fun e w' => ∃ A' ck' g c ks', e = .returned (.agg (vC k m (vN num) (vD num) (vS num) t A' keys.length ck' (some ⟨g, 0, none⟩) kids.length c code).toArray) ∧ CloneTop w W w' keys kids A' ck' g c ks' ∧ Kp [] W w' := by
  have l1 := hB.le
  have l2 := hB.top
  have hfk := fine_kid hf
  have hmany : kids.length ≤ 10 := by cases hf; assumption
  have hkeys : keys.length ≤ 10 := by
    cases hf with
    | mk _ _ _ _ _ _ _ hk hm hn hn0 ht ht0 hkl hk0 hks hkd hc hcode hc0 hc8 hmany hf =>
      by_cases h7 : k = 7
      · rw [hkl h7]; exact hmany
      · rw [hk0 h7]; exact Nat.zero_le _
  unfold vC
  obtain ⟨nk, hnk⟩ : ∃ x, x = keys.length := ⟨_, rfl⟩
  obtain ⟨n, hn⟩ : ∃ x, x = kids.length := ⟨_, rfl⟩
  rw [← hn] at l1 hmany
  rw [← hnk] at hkeys
  simp only [← hnk, ← hn]
  obtain ⟨W0, hW0⟩ : ∃ W0, W0 = (W.alloc (.cells #[.int .i64 (k : Int), .int .u64 (m : Int), .bool (vN num), .string ⟨(vD num).toArray⟩, .int .i64 (vS num), .string ⟨t.toArray⟩, .slice A nk ck, .slice B n cb, .int .i64 (code : Int)] 31)).alloc (.cells #[.int .i64 0, .int .u64 0, .bool false, .string ⟨#[]⟩, .int .i64 0, .string ⟨#[]⟩, .slice none 0 0, .slice none 0 0, .int .i64 0] 31) := ⟨_, rfl⟩
  have hk0 : Kp [] W W0 := by rw [hW0]; exact ((Kp.refl _ _).alloc _).alloc _
  have hs0 : W0.heap.size = W.heap.size + 2 := by rw [hW0]; simp
  have hc0 : Cells W0 W.heap.size 31 [.int .i64 (k : Int), .int .u64 (m : Int), .bool (vN num), .string ⟨(vD num).toArray⟩, .int .i64 (vS num), .string ⟨t.toArray⟩, .slice A nk ck, .slice B n cb, .int .i64 (code : Int)] := by rw [hW0]; exact (Cells.fresh W 31 _).alloc _
  have hroom : VRoom (W.heap.size + 1) W0 := by
    have := VRoom.fresh (W.alloc (.cells #[.int .i64 (k : Int), .int .u64 (m : Int), .bool (vN num), .string ⟨(vD num).toArray⟩, .int .i64 (vS num), .string ⟨t.toArray⟩, .slice A nk ck, .slice B n cb, .int .i64 (code : Int)] 31)) (.int .i64 0) (.int .u64 0) (.bool false) (.string ⟨#[]⟩) (.int .i64 0) (.string ⟨#[]⟩) (.slice none 0 0) (.slice none 0 0) (.int .i64 0)
    rw [hW0]
    simpa using this
  have HX := hid (And.intro (hA.kept hK) (And.intro (hB.kept hK) (And.intro hr (And.intro ih (And.intro hK (And.intro hfk (And.intro hn hnk)))))))
  have H0 := hid (And.intro hk0 (And.intro hs0 (And.intro hc0 hroom)))
  have HW0 := hid hW0
  clear hA hB hr ih hK hfk hf hn hnk hk0 hs0 hc0 hroom hW0
  go_enter Tryd.func28, Tryd.ntmps28
  go_wp2_with fail
  go_loopw [3, 4] (fun va vi wr => ∃ (css : List (List Value)) (g c j : Nat), Grow w W0 wr va (kids.take j) css g c ∧ vi = .int .i64 (j : Int) ∧ j ≤ n) (fun _ vi _ => n - (RowKit.intOf vi).toNat)
  case atStart =>
    refine ⟨[], W.heap.size + 2, 0, 0, ⟨rfl, ?_, by rw [H0.out.2.1]; exact Nat.le_refl _, ?_, ⟨rfl, fun i v c h => by cases h⟩, ?_, Nat.le_trans HX.out.2.2.2.2.1.size H0.out.1.size⟩, rfl, Nat.zero_le _⟩
    · rw [← HW0.out]
      exact own_empty W0 (by rw [H0.out.2.1])
    · rw [← HW0.out]
      simp [H0.out.2.1]
    · rw [← HW0.out]
      exact (Kp.refl _ _).alloc _
  case round =>
    obtain ⟨css, g, c, j, hG, rfl, hj⟩ := hrel
    obtain ⟨hA, hB, hr, ih, hK, hfk, hn, hnk⟩ := HX.out
    have hml : kids.length = n := hn.symm
    have htl : (kids.take j).length = j := by rw [List.length_take, hml]; omega
    have hgv := hG.v
    rw [htl] at hgv
    subst hgv
    have hkW := H0.out.1.nil hG.kp
    have hc := H0.out.2.2.1.keep hG.kp (by simp)
    have x7 := hc.cell 7
    by_cases hjn : j < n
    · have hjk : j < kids.length := by omega
      obtain ⟨v, hv⟩ := at_some hjk
      obtain ⟨gg, rfl, p⟩ := (hB.kept hkW).at_ j hjk
      have q := ih j v hv (hfk v (at_mem hv)) wr (hK.nil hkW)
      obtain ⟨ak, am, an, ad, az, ax, aA, ank, ack, aB, anb, acb, aco, e1⟩ := (hr j v hv).isV
      rw [e1] at p q
      have p0 := p 0 _ rfl
      have p1 := p 1 _ rfl
      have p2 := p 2 _ rfl
      have p3 := p 3 _ rfl
      have p4 := p 4 _ rfl
      have p5 := p 5 _ rfl
      have p6 := p 6 _ rfl
      have p7 := p 7 _ rfl
      have p8 := p 8 _ rfl
      simp only [Nat.add_zero] at p0
      have htk : kids.take (j + 1) = kids.take j ++ [v] := by rw [List.take_add_one, hv]; rfl
      have hown : OwnN wr 31 9 (.slice (some ⟨g, 0, none⟩) j c) j css.flatten := by have := hG.own; rw [htl] at this; exact this
      have hcj : j ≤ c := by obtain ⟨_, _, e, _, h, _⟩ := hown.shape; injection e with _ _ e; omega
      have HG := hid (And.intro hG (And.intro htk (And.intro htl hown)))
      have e9 : j * 9 = 9 * j := Nat.mul_comm _ _
      have jn : (j : Int) < (n : Int) := by omega
      have z1 : decide ((j : Int) < (n : Int)) = true := decide_eq_true jn
      have z1n : decide (j < n) = true := decide_eq_true hjn
      clear p e1 hA hB hr ih hK hfk hn hnk hc hkW hv hjk hG htk htl hml hown
      go_wp2_with fail
      (with_reducible refine q.mono ?_)
      rintro e w3 ⟨cs', rfl, hrs, k3⟩
      obtain ⟨bk, bm, bn, bd, bz, bx, bA, bnk, bck, bB, bnb, bcb, bco, rfl⟩ := hrs.rep.isV
      have HS := hid (And.intro hrs k3)
      have hown3 := HG.out.2.2.2.kept k3
      clear hrs k3 q p0 p1 p2 p3 p4 p5 p6 p7 p8 x7
      go_wp2_with (at_builtin; go_must (refine wpList_appendR rfl _ _ 28 rfl 31 _ 9 120 Tryd.underlying28 infoVal rfl (by decide) g j c css.flatten rfl (hown3.kept ((Kp.refl _ _).alloc _)) _ 1 1 _ rfl (Span.of_new _ _ _ _) ?_ ?_ ?_ ?_ ?_))
      · rfl
      · (intro u hu; simp only [List.mem_cons, List.not_mem_nil, or_false] at hu; rcases hu with rfl | rfl | rfl | rfl | rfl | rfl | rfl | rfl | rfl <;> rfl)
      · omega
      · omega
      intro g' c' w' ho hk hg
      have HO := hid (And.intro ho (And.intro hk hg))
      clear ho hk hg hown3
      go_wp2_with fail
      go_roundw
      case rel =>
        obtain ⟨ho, hk, hg⟩ := HO.out
        obtain ⟨hG, htk, htl, -⟩ := HG.out
        have hn2 := hG.snoc (Kp.refl _ _) HS.out.2 HS.out.1 ((Kp.refl _ _).alloc _) (by rw [htl]; exact ho) hk (by simpa using hg)
        rw [htl, ← htk] at hn2
        exact ⟨_, g', c', j + 1, hn2, by go_num, by omega⟩
      case measure => simp [RowKit.intOf]; omega
    · have hje : j = n := by omega
      subst hje
      have hall : kids.take j = kids := List.take_of_length_le (by rw [hml]; exact Nat.le_refl _)
      rw [hall] at hG
      have y6 := hc.cell 6
      simp only [List.getElem?_cons_zero, List.getElem?_cons_succ] at y6
      have x6 := fun o => ((Kp.refl [] wr).alloc o).cell y6 (by simp)
      have z1 : decide ((j : Int) < (j : Int)) = false := decide_eq_false (by omega)
      have z1n : decide (j < j) = false := decide_eq_false (Nat.lt_irrefl _)
      obtain ⟨ws, hws⟩ : ∃ ws, ws = keys.map fun x => Value.string ⟨x.toArray⟩ := ⟨_, rfl⟩
      have hsp := keys_span (hA.kept hkW)
      rw [← hws] at hsp
      have hwl : ws.length = nk * 1 := by rw [hws, List.length_map, hnk, Nat.mul_one]
      have hw1 : ∀ u ∈ ws, u.oneCell' = true := by
        intro u hu
        rw [hws] at hu
        obtain ⟨x, _, rfl⟩ := List.mem_map.1 hu
        rfl
      have HE := hid (And.intro hG (And.intro hml (And.intro hkW (And.intro hc (And.intro hnk (And.intro hK hws))))))
      clear hA hB hr ih hK hfk hn hnk hc hkW hG hml htl hall hjn hws y6
      go_wp2_with (at_builtin; go_must (refine wpList_appendR rfl _ _ 27 rfl 9 (.string ⟨#[]⟩) 1 16 Tryd.underlying27 (by kernel_rfl) rfl (by decide) wr.heap.size 0 0 [] rfl (OwnN.of_cells (n := 0) (Cells.fresh wr 9 []) rfl (by decide)) _ nk ck ws rfl (hsp.kept ((Kp.refl _ _).alloc _)) hwl hw1 ?_ ?_ ?_))
      · omega
      · omega
      intro g3 c3 wB ho hkB hg3
      try simp only [Nat.zero_add, List.nil_append] at ho
      obtain ⟨hG, hml, hkW, hc, hnk, hK, hws⟩ := HE.out
      have hkA : Kp [] wr (wr.alloc (.cells #[] 9)) := (Kp.refl _ _).alloc _
      have hkrB : Kp [] wr wB := hkA.fresh hkB (Nat.le_refl _)
      have hs1 : (wr.alloc (.cells #[] 9)).heap.size = wr.heap.size + 1 := by simp
      try rw [hs1] at hg3
      have hgo : wr.heap.size ≤ g3 := by rcases hg3 with h | h <;> omega
      have hcB := hc.keep hkrB (by simp)
      have hlB := ho.lt g3 rfl
      have x0 := hcB.cell 0; have x1 := hcB.cell 1; have x2 := hcB.cell 2; have x3 := hcB.cell 3; have x4 := hcB.cell 4; have x5 := hcB.cell 5; have y6 := hcB.cell 6; have y7 := hcB.cell 7; have x8 := hcB.cell 8
      have f6 := hcB.free 6; have f7 := hcB.free 7
      have hp : Kp [W.heap.size] wB ((wB.setCell ⟨W.heap.size, 6, none⟩ (.slice (some ⟨g3, 0, none⟩) nk c3)).setCell ⟨W.heap.size, 7, none⟩ (.slice (some ⟨g, 0, none⟩) j c)) := kp_put (kp_put (Kp.refl _ _) _ _ (.inr (by simp)) _) _ _ (.inr (by simp)) _
      have hroom : VRoom (W.heap.size + 1) ((wB.setCell ⟨W.heap.size, 6, none⟩ (.slice (some ⟨g3, 0, none⟩) nk c3)).setCell ⟨W.heap.size, 7, none⟩ (.slice (some ⟨g, 0, none⟩) j c)) := by
        obtain ⟨cs, h1, h2⟩ := H0.out.2.2.2.kept (hG.kp.nil hkrB)
        exact ⟨cs, h1.keep hp (by simp), h2⟩
      obtain ⟨a0, a1, a2, a3, a4, a5, a6, a7, a8, ⟨r0, r1, r2, r3, r4, r5, r6, r7, r8⟩, ⟨g0, g1, g2, g3', g4, g5, g6, g7, g8⟩⟩ := hroom.cells
      have HF := hid (And.intro ho (And.intro hkrB (And.intro hgo hlB)))
      clear hG hml hkW hc hnk hK hws hkA hkB hkrB hs1 hg3 hgo hcB hlB hp hroom ho hsp hwl hw1 x6 x7
      go_wp2_with fail
      refine bodyPost_ret (v := .agg #[.int .i64 (k : Int), .int .u64 (m : Int), .bool (vN num), .string ⟨(vD num).toArray⟩, .int .i64 (vS num), .string ⟨t.toArray⟩, .slice (some ⟨g3, 0, none⟩) nk c3, .slice (some ⟨g, 0, none⟩) j c, .int .i64 (code : Int)])
        (by simp [results, Tryd.results28, go_sem, r0, r1, r2, r3, r4, r5, r6, r7, r8]) rfl ?_
      obtain ⟨hG, hml, hkW, hc, hnk, hK, hws⟩ := HE.out
      obtain ⟨ho, hkrB, hgo, hlB⟩ := HF.out
      have hkE := kp_nine (kp_put (kp_put (Kp.refl [W.heap.size, W.heap.size + 1] wB) W.heap.size 6 (.inr (by simp)) (.slice (some ⟨g3, 0, none⟩) nk c3)) W.heap.size 7 (.inr (by simp)) (.slice (some ⟨g, 0, none⟩) j c)) (W.heap.size + 1) (.inr (by simp)) (.int .i64 (k : Int)) (.int .u64 (m : Int)) (.bool (vN num)) (.string ⟨(vD num).toArray⟩) (.int .i64 (vS num)) (.string ⟨t.toArray⟩) (.slice (some ⟨g3, 0, none⟩) nk c3) (.slice (some ⟨g, 0, none⟩) j c) (.int .i64 (code : Int))
      have hsE : wB.heap.size ≤ _ := hkE.size
      have hkW2 := hkW.nil hkrB
      have hs0 := H0.out.2.1
      have hold := hG.old
      have hlt := hG.lt
      have hsz := hkW.size
      have hsB := hkrB.size
      unfold nine at hsE
      have hKs := hK.size
      have hGB := hG.later hkrB
      have hoB := hGB.own
      obtain ⟨hkid, hreps⟩ := hGB.trees.kids (g := g) (c := c) (by rw [hml]; rw [hml] at hoB; exact hoB)
      rw [hml] at hkid
      rw [hws] at ho
      have hkey := keys_own ho hnk
      refine ⟨some ⟨g3, 0, none⟩, c3, g, c, (fun i => (css[i]?).getD []), rfl, ⟨?_, fun ad e => ?_, ?_, fun i v hv => ?_, by omega, ?_, ?_⟩, ?_⟩
      · exact ⟨hkey.le, hkey.top, fun i x hi => by
          obtain ⟨ga, ea, hat⟩ := hkey.at_ i x hi
          injection ea with ea
          injection ea with ea
          subst ea
          exact ⟨g3, rfl, hkE.cell hat (by simp; omega)⟩⟩
      · injection e with e
        subst e
        exact ⟨by dsimp only; omega, by dsimp only; omega, by dsimp only; omega⟩
      · rw [hml]
        exact ⟨hkid.le, hkid.top, fun i hi => by
          obtain ⟨gb, eb, hat⟩ := hkid.at_ i hi
          injection eb with eb
          injection eb with eb
          subst eb
          exact ⟨g, rfl, fun jj u hu => hkE.cell (hat jj u hu) (by simp; omega)⟩⟩
      · exact ((hreps i v hv).keep hkE (fun x hx hp => by simp at hx; rcases hp.1 with h | h <;> omega)).mono (fun x hp => ⟨by rcases hp.1 with h | h; exact .inl h; exact .inr ⟨by omega, by omega⟩, hp.2⟩)
      · omega
      · rw [hml] at hoB
        obtain ⟨-, hsh⟩ := hoB
        rcases hsh with ⟨h1, _⟩ | ⟨gb, cap, cur, e, _, hcur, _⟩
        · cases h1
        · injection e with e1 e2 e3
          injection e1 with e1
          injection e1 with e1
          subst e1
          have hcc : Cells wB g 31 cur.toList := by simpa [Cells] using hcur
          exact ⟨_, hcc.keep hkE (by simp; omega)⟩
      · exact kp_nine (kp_put (kp_put hkW2 _ _ (.inl (Nat.le_refl _)) _) _ _ (.inl (Nat.le_refl _)) _) _ (.inl (Nat.le_succ _)) _ _ _ _ _ _ _ _ _
theorem clone_rep4 {w : World} {P : Nat → Prop} {v : Vl} {cs : List Value} (h : RepS w P v cs) : CloneAt w v cs := by
  induction h with
  | mk k m num t keys kids code A ck B cb ks hA hB hPA hPB hr ih =>
    intro hf W hK
    refine (clone_step w k m num t keys kids code A ck B cb ks hA hB (fun i v hv => (hr i v hv).rep) ih hf W hK).mono ?_
    rintro e w' ⟨A', ck', g, c, ks', rfl, ht, hk⟩
    exact ⟨_, rfl, ht.rep, hk⟩
/-- Clone, by its top. -/
theorem clone_top {w : World} {P : Nat → Prop} {k m : Nat} {num : Option Dc} {t : Txt} {keys : List Txt} {kids : List Vl} {code : Nat} {cs : List Value} (h : RepS w P (.mk k m num t keys kids code) cs) (hf : FineV (.mk k m num t keys kids code)) (W : World) (hK : Kp [] w W) :
    Calls Tryd.prog 28 #[.agg cs.toArray] W fun e w' => ∃ A' ck' g c ks', e = .returned (.agg (vC k m (vN num) (vD num) (vS num) t A' keys.length ck' (some ⟨g, 0, none⟩) kids.length c code).toArray) ∧ CloneTop w W w' keys kids A' ck' g c ks' ∧ Kp [] W w' := by
  cases h with
  | mk _ _ _ _ _ _ _ A ck B cb ks hA hB hPA hPB hr =>
    exact clone_step w k m num t keys kids code A ck B cb ks hA hB (fun i v hv => (hr i v hv).rep) (fun i v hv => clone_rep4 (hr i v hv)) hf W hK
end Go.Proofs.YtpeldjihalldkaaDoor
