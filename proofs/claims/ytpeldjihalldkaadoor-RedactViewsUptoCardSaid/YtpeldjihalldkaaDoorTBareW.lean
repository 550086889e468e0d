/- Bare: the document's answer. -/
import Derived.Test.YtpeldjihalldkaaDoorTBare
namespace Go.Proofs.YtpeldjihalldkaaDoor
open Go Go.RowKit Go.Lib

/-- What Bare does for a tree at any later world. -/
def BareAt (w : World) (v : Vl) (cs : List Value) : Prop := FineV v → ∀ W, Kp [] w W →
  Calls Tryd.prog 32 #[.agg cs.toArray] W fun e w' => ∃ cs', e = .returned (.agg cs'.toArray) ∧ RepS w' (fun x => x < w.heap.size ∨ (W.heap.size ≤ x ∧ x < w'.heap.size)) (bareV v) cs' ∧ Kp [] W w'
set_option maxRecDepth 100000 in
set_option maxHeartbeats 12800000 in
theorem bare_step (w : World) (k m : Nat) (num : Option Dc) (t : Txt) (keys : List Txt) (kids : List Vl) (code : Nat) (A : Option Addr) (ck : Nat) (B : Option Addr) (cb : Nat) (ks : Nat → List Value)
    (hA : KeysAt w A ck keys) (hPA : ∀ ad, A = some ad → ad.block < w.heap.size) (hB : KidsAt w B cb kids.length ks) (hr : ∀ (i : Nat) v, kids[i]? = some v → Rep w v (ks i)) (ih : ∀ (i : Nat) v, kids[i]? = some v → BareAt w v (ks i))
    (hf : FineV (.mk k m num t keys kids code)) (W : World) (hK : Kp [] w W) :
    Calls Tryd.prog 32 #[.agg (vC k m (vN num) (vD num) (vS num) t A keys.length ck B kids.length cb code).toArray] W fun e w' => ∃ cs', e = .returned (.agg cs'.toArray) ∧ RepS w' (fun x => x < w.heap.size ∨ (W.heap.size ≤ x ∧ x < w'.heap.size)) (.mk k 0 num t keys (bares kids) code) cs' ∧ Kp [] W w' := by
  skip
  have l1 := hB.le
  have l2 := hB.top
  have hfk := fine_kid hf
  have hmany : kids.length ≤ 10 := by cases hf; assumption
  unfold vC
  obtain ⟨nk, hnk⟩ : ∃ x, x = keys.length := ⟨_, rfl⟩
  obtain ⟨n, hn⟩ : ∃ x, x = kids.length := ⟨_, rfl⟩
  rw [← hn] at l1 hmany
  simp only [← hnk, ← hn]
  obtain ⟨W0, hW0⟩ : ∃ W0, W0 = (W.alloc (.cells #[.int .i64 (k : Int), .int .u64 0, .bool (vN num), .string ⟨(vD num).toArray⟩, .int .i64 (vS num), .string ⟨t.toArray⟩, .slice A nk ck, .slice B n cb, .int .i64 (code : Int)] 31)).alloc (.cells #[.int .i64 0, .int .u64 0, .bool false, .string ⟨#[]⟩, .int .i64 0, .string ⟨#[]⟩, .slice none 0 0, .slice none 0 0, .int .i64 0] 31) := ⟨_, rfl⟩
  have hk0 : Kp [] W W0 := by rw [hW0]; exact ((Kp.refl _ _).alloc _).alloc _
  have hs0 : W0.heap.size = W.heap.size + 2 := by rw [hW0]; simp
  have hc0 : Cells W0 W.heap.size 31 [.int .i64 (k : Int), .int .u64 0, .bool (vN num), .string ⟨(vD num).toArray⟩, .int .i64 (vS num), .string ⟨t.toArray⟩, .slice A nk ck, .slice B n cb, .int .i64 (code : Int)] := by rw [hW0]; exact (Cells.fresh W 31 _).alloc _
  have hroom : VRoom (W.heap.size + 1) W0 := by
    have := VRoom.fresh (W.alloc (.cells #[.int .i64 (k : Int), .int .u64 0, .bool (vN num), .string ⟨(vD num).toArray⟩, .int .i64 (vS num), .string ⟨t.toArray⟩, .slice A nk ck, .slice B n cb, .int .i64 (code : Int)] 31)) (.int .i64 0) (.int .u64 0) (.bool false) (.string ⟨#[]⟩) (.int .i64 0) (.string ⟨#[]⟩) (.slice none 0 0) (.slice none 0 0) (.int .i64 0)
    rw [hW0]
    simpa using this
  have HX := hid (And.intro (hA.kept hK) (And.intro hPA (And.intro (hB.kept hK) (And.intro hr (And.intro ih (And.intro hK (And.intro hfk (And.intro hn hnk))))))))
  have H0 := hid (And.intro hk0 (And.intro hs0 (And.intro hc0 hroom)))
  have HW0 := hid hW0
  clear hA hPA hB hr ih hK hfk hf hn hnk hk0 hs0 hc0 hroom hW0
  go_enter Tryd.func32, Tryd.ntmps32
  go_wp2_with fail
  go_loopw [3, 4] (fun va vi wr => ∃ (css : List (List Value)) (g c j : Nat), Grow w W0 wr va ((bares kids).take j) css g c ∧ vi = .int .i64 (j : Int) ∧ j ≤ n) (fun _ vi _ => n - (RowKit.intOf vi).toNat)
  case atStart =>
    refine ⟨[], W.heap.size + 2, 0, 0, ⟨rfl, ?_, by rw [H0.out.2.1]; exact Nat.le_refl _, ?_, ⟨rfl, fun i v c h => by cases h⟩, ?_, Nat.le_trans HX.out.2.2.2.2.2.1.size H0.out.1.size⟩, rfl, Nat.zero_le _⟩
    · rw [← HW0.out]
      exact own_empty W0 (by rw [H0.out.2.1])
    · rw [← HW0.out]
      simp [H0.out.2.1]
    · rw [← HW0.out]
      exact (Kp.refl _ _).alloc _
  case round =>
    obtain ⟨css, g, c, j, hG, rfl, hj⟩ := hrel
    obtain ⟨hA, hPA, hB, hr, ih, hK, hfk, hn, hnk⟩ := HX.out
    have hml : (bares kids).length = n := by rw [bares_map, List.length_map, hn]
    have htl : ((bares kids).take j).length = j := by rw [List.length_take, hml]; omega
    have hgv := hG.v
    rw [htl] at hgv
    subst hgv
    have hkW := H0.out.1.nil hG.kp
    have hc := H0.out.2.2.1.keep hG.kp (by simp)
    have x7 := hc.cell 7
    by_cases hjn : j < n
    · have hjk : j < kids.length := by omega
      obtain ⟨v, hv⟩ := at_some hjk
      obtain ⟨gg, rfl, p⟩ := (hB.kept hkW).at_ j hjk
      have q := ih j v hv (hfk v (at_mem hv)) wr (hK.nil hkW)
      obtain ⟨ak, am, an, ad, az, ax, aA, ank, ack, aB, anb, acb, aco, e1⟩ := (hr j v hv).isV
      rw [e1] at p q
      have p0 := p 0 _ rfl
      have p1 := p 1 _ rfl
      have p2 := p 2 _ rfl
      have p3 := p 3 _ rfl
      have p4 := p 4 _ rfl
      have p5 := p 5 _ rfl
      have p6 := p 6 _ rfl
      have p7 := p 7 _ rfl
      have p8 := p 8 _ rfl
      simp only [Nat.add_zero] at p0
      have htk : (bares kids).take (j + 1) = (bares kids).take j ++ [bareV v] := by rw [List.take_add_one, bares_map, List.getElem?_map, hv]; rfl
      have hown : OwnN wr 31 9 (.slice (some ⟨g, 0, none⟩) j c) j css.flatten := by have := hG.own; rw [htl] at this; exact this
      have hcj : j ≤ c := by obtain ⟨_, _, e, _, h, _⟩ := hown.shape; injection e with _ _ e; omega
      have HG := hid (And.intro hG (And.intro htk (And.intro htl hown)))
      have e9 : j * 9 = 9 * j := Nat.mul_comm _ _
      have jn : (j : Int) < (n : Int) := by omega
      have z1 : decide ((j : Int) < (n : Int)) = true := decide_eq_true jn
      have z1n : decide (j < n) = true := decide_eq_true hjn
      clear p e1 hA hPA hB hr ih hK hfk hn hnk hc hkW hv hjk hG htk htl hml hown
      go_wp2_with fail
      (with_reducible refine q.mono ?_)
      rintro e w3 ⟨cs', rfl, hrs, k3⟩
      obtain ⟨bk, bm, bn, bd, bz, bx, bA, bnk, bck, bB, bnb, bcb, bco, rfl⟩ := hrs.rep.isV
      have HS := hid (And.intro hrs k3)
      have hown3 := HG.out.2.2.2.kept k3
      clear hrs k3 q p0 p1 p2 p3 p4 p5 p6 p7 p8 x7
      go_wp2_with (at_builtin; go_must (refine wpList_appendR rfl _ _ 28 rfl 31 _ 9 120 Tryd.underlying28 infoVal rfl (by decide) g j c css.flatten rfl (hown3.kept ((Kp.refl _ _).alloc _)) _ 1 1 _ rfl (Span.of_new _ _ _ _) ?_ ?_ ?_ ?_ ?_))
      · rfl
      · (intro u hu; simp only [List.mem_cons, List.not_mem_nil, or_false] at hu; rcases hu with rfl | rfl | rfl | rfl | rfl | rfl | rfl | rfl | rfl <;> rfl)
      · omega
      · omega
      intro g' c' w' ho hk hg
      have HO := hid (And.intro ho (And.intro hk hg))
      clear ho hk hg hown3
      go_wp2_with fail
      go_roundw
      case rel =>
        obtain ⟨ho, hk, hg⟩ := HO.out
        obtain ⟨hG, htk, htl, -⟩ := HG.out
        have hn2 := hG.snoc (Kp.refl _ _) HS.out.2 HS.out.1 ((Kp.refl _ _).alloc _) (by rw [htl]; exact ho) hk (by simpa using hg)
        rw [htl, ← htk] at hn2
        exact ⟨_, g', c', j + 1, hn2, by go_num, by omega⟩
      case measure => simp [RowKit.intOf]; omega
    · have hje : j = n := by omega
      subst hje
      have hall : (bares kids).take j = bares kids := List.take_of_length_le (by rw [hml]; exact Nat.le_refl _)
      rw [hall] at hG
      have f7 := hc.free 7
      have x0 := hc.cell 0
      have x1 := hc.cell 1
      have x2 := hc.cell 2
      have x3 := hc.cell 3
      have x4 := hc.cell 4
      have x5 := hc.cell 5
      have x6 := hc.cell 6
      have x8 := hc.cell 8
      have hp : Kp [W.heap.size] wr (wr.setCell ⟨W.heap.size, 7, none⟩ (.slice (some ⟨g, 0, none⟩) j c)) := kp_put (Kp.refl _ _) _ _ (.inr (by simp)) _
      have hroom : VRoom (W.heap.size + 1) (wr.setCell ⟨W.heap.size, 7, none⟩ (.slice (some ⟨g, 0, none⟩) j c)) := by
        obtain ⟨cs, h1, h2⟩ := H0.out.2.2.2.kept hG.kp
        exact ⟨cs, h1.keep hp (by simp), h2⟩
      obtain ⟨a0, a1, a2, a3, a4, a5, a6, a7, a8, ⟨r0, r1, r2, r3, r4, r5, r6, r7, r8⟩, ⟨g0, g1, g2, g3, g4, g5, g6, g7, g8⟩⟩ := hroom.cells
      have z1 : decide ((j : Int) < (j : Int)) = false := decide_eq_false (by omega)
      have z1n : decide (j < j) = false := decide_eq_false (Nat.lt_irrefl _)
      have HE := hid (And.intro hG (And.intro hml (And.intro hkW (And.intro hA (And.intro hPA (And.intro hnk hK))))))
      clear hB hr ih hK hfk hn hc hkW hG hA hPA hnk hml htl hall hjn hp hroom
      go_wp2_with fail
      refine bodyPost_ret (v := .agg #[.int .i64 (k : Int), .int .u64 0, .bool (vN num), .string ⟨(vD num).toArray⟩, .int .i64 (vS num), .string ⟨t.toArray⟩, .slice A nk ck, .slice (some ⟨g, 0, none⟩) j c, .int .i64 (code : Int)])
        (by simp [results, Tryd.results32, go_sem, r0, r1, r2, r3, r4, r5, r6, r7, r8]) rfl ⟨[.int .i64 (k : Int), .int .u64 0, .bool (vN num), .string ⟨(vD num).toArray⟩, .int .i64 (vS num), .string ⟨t.toArray⟩, .slice A nk ck, .slice (some ⟨g, 0, none⟩) j c, .int .i64 (code : Int)], rfl, ?_, ?_⟩
      all_goals obtain ⟨hG, hml, hkW, hA, hPA, hnk, hK⟩ := HE.out
      all_goals have hkE := kp_nine (kp_put (Kp.refl [W.heap.size, W.heap.size + 1] wr) W.heap.size 7 (.inr (by simp)) (.slice (some ⟨g, 0, none⟩) j c)) (W.heap.size + 1) (.inr (by simp)) (.int .i64 (k : Int)) (.int .u64 0) (.bool (vN num)) (.string ⟨(vD num).toArray⟩) (.int .i64 (vS num)) (.string ⟨t.toArray⟩) (.slice A nk ck) (.slice (some ⟨g, 0, none⟩) j c) (.int .i64 (code : Int))
      · have hs0 := H0.out.2.1
        have hold := hG.old
        have hlt := hG.lt
        have hsz := hkW.size
        have hsE := hkE.size
        have hKs := hK.size
        have ho := hG.own
        obtain ⟨hkid, hreps⟩ := hG.trees.kids (g := g) (c := c) (by rw [hml]; rw [hml] at ho; exact ho)
        rw [hml] at hkid
        have hA' : KeysAt _ A ck keys := ⟨hA.le, hA.top, fun i x hi => by
          obtain ⟨ga, ea, hat⟩ := (hA.kept hkW).at_ i x hi
          have := hPA _ ea
          exact ⟨ga, ea, hkE.cell hat (by dsimp only at this; simp; omega)⟩⟩
        have hB' : KidsAt _ (some ⟨g, 0, none⟩) c j _ := ⟨hkid.le, hkid.top, fun i hi => by
          obtain ⟨gb, eb, hat⟩ := hkid.at_ i hi
          injection eb with eb
          injection eb with eb
          subst eb
          exact ⟨g, rfl, fun jj u hu => hkE.cell (hat jj u hu) (by simp; omega)⟩⟩
        have hfin := RepS.mk (P := fun x => x < w.heap.size ∨ (W.heap.size ≤ x ∧ x < (nine (wr.setCell ⟨W.heap.size, 7, none⟩ (.slice (some ⟨g, 0, none⟩) j c)) (W.heap.size + 1) (.int .i64 (k : Int)) (.int .u64 0) (.bool (vN num)) (.string ⟨(vD num).toArray⟩) (.int .i64 (vS num)) (.string ⟨t.toArray⟩) (.slice A nk ck) (.slice (some ⟨g, 0, none⟩) j c) (.int .i64 (code : Int))).heap.size))
          k 0 num t keys (bares kids) code A ck (some ⟨g, 0, none⟩) c _ hA' (by rw [hml]; exact hB') (fun ad e => .inl (hPA ad e)) (fun ad e => by injection e with e; subst e; exact .inr ⟨by dsimp only; omega, by dsimp only; omega⟩)
          (fun i v hv => ((hreps i v hv).keep hkE (fun x hx hp => by simp at hx; rcases hp.1 with h | h <;> omega)).mono (fun x hp => by rcases hp.1 with h | h; exact .inl h; exact .inr ⟨by omega, by omega⟩))
        rw [hml, ← hnk] at hfin
        exact hfin
      · exact kp_nine (kp_put hkW _ _ (.inl (Nat.le_refl _)) _) _ (.inl (Nat.le_succ _)) _ _ _ _ _ _ _ _ _
theorem bare_rep4 {w : World} {P : Nat → Prop} {v : Vl} {cs : List Value} (hP : ∀ x, P x → x < w.heap.size) (h : RepS w P v cs) : BareAt w v cs := by
  induction h with
  | mk k m num t keys kids code A ck B cb ks hA hB hPA hPB hr ih =>
    intro hf W hK
    have q := bare_step w k m num t keys kids code A ck B cb ks hA (fun ad e => hP _ (hPA ad e)) hB (fun i v hv => (hr i v hv).rep) ih hf W hK
    unfold bareV
    exact q
end Go.Proofs.YtpeldjihalldkaaDoor
