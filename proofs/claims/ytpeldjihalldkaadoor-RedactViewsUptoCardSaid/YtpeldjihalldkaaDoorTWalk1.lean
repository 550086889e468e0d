/- The closure of Holes: a place more. -/
import Derived.Test.YtpeldjihalldkaaDoorTSteps
namespace Go.Proofs.YtpeldjihalldkaaDoor
open Go Go.RowKit Go.Lib

theorem slice_one (A : Option Addr) (n c : Nat) : ∀ u ∈ [Value.slice A n c], u.oneCell' = true := by
  intro u hu
  rw [List.mem_singleton.1 hu]
  rfl
/-- The row of places is as it was, or a new block's. -/
def Later (w : World) (G G' : Option Nat) : Prop := ∀ g, G' = some g → G = some g ∨ w.heap.size ≤ g
section
variable {P : Program} {w : World}
/-- 'append' onto a slice without room: a new block. -/
theorem run_append_full (t ty e : TypeId) (i : TypeInfo) (z : Value) (size bytes : Nat) (ht : P.underlying t = some (.slice e)) (hi : P.info? e = some i) (hz : i.zero = some z)
    (hsize : i.size = size) (hby : i.bytes = bytes) (hzs : z.cells.size = size) (ad0 : Addr) (n : Nat) (xs : List Value) (hxl : xs.length = n * size) (hxs : ∀ j u, xs[j]? = some u → w.cell? (ad0.add j) = some u)
    (ad : Addr) (m c : Nat) (news : List Value) (hl : news.length = m * size) (hnews : ∀ j u, news[j]? = some u → w.cell? (ad.add j) = some u)
    (hm : 0 < m) (h63 : n + m ≤ maxLen) (hbytes : (n + m) * bytes ≤ 140737488355328) :
    ∃ c' w', (Builtin.append_ #[t, t] ty #[.slice (some ad0) n n, .slice (some ad) m c]).run P w = .ok (.slice (some ⟨w.heap.size, 0, none⟩) (n + m) c') w' ∧
      w'.ownsRow 0 e size (.slice (some ⟨w.heap.size, 0, none⟩) (n + m) c') (n + m) (xs ++ news) ∧ w.grownBy w' none := by
  subst hsize
  subst hby
  have hsmall : n + m ≤ 9223372036854775807 := by simp only [maxLen] at h63; omega
  have hlen : (xs ++ news).length = (n + m) * i.size := by rw [List.length_append, hxl, hl, Nat.add_mul]
  have hr := run_append_grow (P := P) w t ty e i z ht hi hz ad0 n n xs hxl hxs ad m c news hl hnews (by omega) (by omega) (growslice_fits (by omega) hbytes)
  have hge := grownCap_ge w (n + m) n e
  have hcm : grownCap w (n + m) n e ≤ maxLen := grownCap_le_maxLen w (n + m) n e h63
  refine ⟨_, _, hr, ⟨hlen, .inr ⟨w.heap.size, _, _, rfl, Nat.zero_le _, heap_alloc_new w.drew _, hge, hcm, ?_, ?_⟩⟩, ⟨rfl, rfl, rfl, by simp, fun k hk _ => ((Kp.refl [] w).drew.alloc _).block k hk (by simp)⟩⟩
  · simp only [Array.size_append, List.size_toArray, size_zeroCells, hzs, hxl, hl, ← Nat.add_mul]
    congr 1
    omega
  · simp only [Array.toList_append, List.append_assoc]
    rw [← List.append_assoc, ← hlen]
    exact List.take_left
theorem wpList_appendFull {ops : Array Oper} {rest : List Oper} {o : Oper} {a : Act} {Q : Exit → Act → World → Prop} (hgd : o.guard = none) (s x : Operand) (t : TypeId)
    (ho : o.op = .call { callee := .builtin .append, args := #[s, x], argTypes := #[t, t] })
    (e : TypeId) (z : Value) (size bytes : Nat) (ht : P.underlying t = some (.slice e)) (h2 : (P.info? e).map (fun i => (i.zero, i.size, i.bytes)) = some (some z, size, bytes)) (hz : z.cells.size = size) (hsz : 0 < size)
    (A : Option Addr) (n : Nat) (xs : List Value) (hs : a.eval s = .slice A n n) (hxs : Span w A xs) (hxl : xs.length = n * size) (hA : A = none → n = 0)
    (ad : Addr) (m c : Nat) (news : List Value) (hx : a.eval x = .slice (some ad) m c) (hr : Span w (some ad) news) (hm : news.length = m * size) (h1 : ∀ u ∈ news, u.oneCell' = true) (hm0 : 0 < m)
    (h63 : n + m ≤ 9223372036854775807) (hbytes : (n + m) * bytes ≤ 140737488355328)
    (h : ∀ g' c' w', OwnN w' e size (.slice (some ⟨g', 0, none⟩) (n + m) c') (n + m) (xs ++ news) → Kp [] w w' → g' = w.heap.size → wpList P ops Q rest (a.put o.dst (.slice (some ⟨g', 0, none⟩) (n + m) c')) w') :
    wpList P ops Q (o :: rest) a w := by
  cases A with
  | none =>
    obtain rfl := hA rfl
    obtain rfl : xs = [] := List.eq_nil_of_length_eq_zero (by simpa using hxl)
    refine wpList_appendN hgd s x t ho e z size bytes ht h2 hz hsz _ 0 [] hs (OwnN.nil _ _ _) ad m c news hx hr hm h1 h63 hbytes (fun v' w' hv hk hb => ?_)
    have hlen := hv.length
    obtain ⟨A', c', rfl, hsp, -, -, hA'⟩ := hv.shape
    have hpos : 0 < ([] ++ news : List Value).length := by rw [hlen]; exact Nat.mul_pos (by omega) hsz
    obtain ⟨ad', e', -⟩ := hsp.get hpos
    subst e'
    obtain ⟨e1, e2⟩ := hA' ad' rfl
    rcases hb with hb | hb
    · cases hb
    · rw [e2] at hb
      injection hb with hb
      obtain ⟨bk, of, pr⟩ := ad'
      injection e1 with _ e3 e4
      have hb : bk = w.heap.size := hb
      subst e3 e4
      exact h bk c' w' hv hk hb
  | some ad0 =>
    obtain ⟨i, hi, hz0, hz1, hz2⟩ := info_parts h2
    refine wpList_plain hgd fun K hK => ?_
    obtain ⟨c', w', hrun, r1, r2⟩ := run_append_full (P := P) (w := w) t o.type e i z size bytes ht hi hz0 hz1 hz2 hz ad0 n xs hxl (fun j u hj => by obtain ⟨ad', e, hc⟩ := hxs j u hj; injection e with e; subst e; exact hc) ad m c news hm
      (fun j u hj => by obtain ⟨ad', e, hc⟩ := hr j u hj; injection e with e; subst e; exact hc) hm0 (by simpa [maxLen] using h63) hbytes
    unfold Oper.wp
    simp [execOp, ho, resolve, invoke, builtin, hs, hx, hrun, Result.andThen]
    exact hK _ _ (h w.heap.size c' w' r1 (Kp.of_grown r2 (by intro k hk; cases hk)) rfl)
end
set_option maxRecDepth 100000 in
set_option maxHeartbeats 6400000 in
theorem closh_any (w : World) (b : Nat) (G : Option Nat) (l : List (List Stp)) (h : Led w b G l) (hl : l.length ≤ 1000000) (hd : Bool) (v : Value) (p : List Stp) (hp : StepsAt w (fun x => x ≠ b ∧ some x ≠ G) v p) :
    Calls Tryd.prog 41 #[.bool hd, v, .pointer (some ⟨b, 0, none⟩)] w fun e w' => e = .returned (.tuple #[]) ∧ ∃ G', Led w' b G' (if hd then l ++ [p] else l) ∧ Kp (b :: G.toList) w w' ∧ Later w G G' := by
  obtain ⟨v0, vs, h1, h2, h3, h4, h5⟩ := h.ex
  have hbs : b < w.heap.size := (Array.getElem?_eq_some_iff.1 h1).1
  have HP := hid hp
  obtain ⟨A, c, rfl, -, -, -, -⟩ := hp.ex
  have H := hid h
  cases hd with
  | false =>
    clear h h1 h2 h3 h4 h5 hp
    go_enter Tryd.func41, Tryd.ntmps41
    go_wp2_with fail
    go_end0
    exact ⟨rfl, G, H.out, Kp.refl _ _, fun g hg => .inl hg⟩
  | true =>
    have hc0 := fun o => ((Kp.refl [] w).alloc o).cell (h1.cell 0) (by simp)
    have hvl : vs.length = l.length := by obtain ⟨_, _, _, _, _, h, _⟩ := h4.shape; exact h
    obtain ⟨A0, c0, rfl, -, hA0, -, -⟩ := h4.shape
    have hc00 := h1.cell 0
    simp only [List.getElem?_cons_zero] at hc00
    have H5 := hid (And.intro h1 (And.intro h2 (And.intro h3 (And.intro h5 hvl))))
    obtain ⟨n, hn⟩ : ∃ n, n = l.length := ⟨_, rfl⟩
    obtain ⟨m, hm⟩ : ∃ m, m = p.length := ⟨_, rfl⟩
    rw [← hn] at h4 hl
    simp only [← hn] at hc0 hc00 H5
    simp only [← hm] at HP ⊢
    have HN := hid (And.intro hn hm)
    clear h h1 h2 h3 h5 hp hvl hn hm
    go_enter Tryd.func41, Tryd.ntmps41
    go_wp2_with (at_builtin; go_must (refine wpList_append1 rfl _ _ 34 rfl 40 (.slice none 0 0) 24 Tryd.underlying34 placesInfo rfl _ _ _ rfl (h4.kept ((Kp.refl _ _).alloc _)) _ 1 1 [.slice A m c] rfl (Span.of_new w _ _ _) rfl (slice_one _ _ _) ?_ ?_ ?_))
    · omega
    · omega
    intro v1 w2 ho2 hk2 hb2
    have hkA : Kp [] w (w.alloc (.cells #[.slice A m c] 40)) := (Kp.refl _ _).alloc _
    obtain ⟨q1, q2, q3, q5, q6⟩ := H5.out
    rw [q2] at hk2 hb2
    have hkw : Kp G.toList w w2 := ((hkA.mono (by simp)).trans hk2 (fun x hx _ => hx))
    have hbG : b ∉ G.toList := by
      intro hm2
      exact q3 (Option.mem_toList.1 hm2)
    have hcb := q1.keep hkw hbG
    have x0 := hcb.cell 0
    have fr := hcb.free 0
    obtain ⟨A1, c1, rfl, -, -, -, -⟩ := ho2.shape
    obtain ⟨G', hG'⟩ : ∃ G', G' = (Value.slice A1 (n + 1) c1).ownBlock := ⟨_, rfl⟩
    have hGb : G' ≠ some b := by
      rw [hG']
      rcases hb2 with hb2 | hb2
      · rw [hb2]; exact q3
      · rw [hb2]
        intro e
        injection e with e
        have : w.heap.size + 1 = b := by simpa using e
        omega
    have hlt : Later w G G' := by
      intro g hg
      rw [hG'] at hg
      rcases hb2 with hb2 | hb2
      · rw [hb2] at hg; exact .inl hg
      · rw [hb2] at hg
        injection hg with hg
        refine .inr ?_
        have : w.heap.size + 1 = g := by simpa using hg
        omega
    have hput : Cells (w2.setCell ⟨b, 0, none⟩ (.slice A1 (n + 1) c1)) b 34 [.slice A1 (n + 1) c1] := hcb.put 0 _
    have hk3 : Kp [b] w2 (w2.setCell ⟨b, 0, none⟩ (.slice A1 (n + 1) c1)) := (Kp.refl _ _).setCell (fun _ => by simp) _
    have ho3 := ho2.keep hk3 (fun g hg hm2 => by rw [← hG'] at hg; rw [List.mem_singleton.1 hm2] at hg; exact hGb hg)
    have hnew : ∀ s p', StepsAt w (fun x => x ≠ b ∧ some x ≠ G) s p' → StepsAt (w2.setCell ⟨b, 0, none⟩ (.slice A1 (n + 1) c1)) (fun x => x ≠ b ∧ some x ≠ G') s p' := by
      intro s p' hs
      have h1 : StepsAt w (fun x => x ≠ b ∧ some x ≠ G ∧ some x ≠ G') s p' := hs.mono (fun x hx hT => ⟨hT.1, hT.2, fun e => by
        rcases hlt x e.symm with h | h
        · exact hT.2 h.symm
        · omega⟩)
      have h2 := h1.keep hkw (fun x hx hT => hT.2.1 (Option.mem_toList.1 hx).symm)
      have h3 := h2.keep hk3 (fun x hx hT => hT.1 (List.mem_singleton.1 hx))
      exact h3.mono (fun x _ hT => ⟨hT.1, hT.2.2⟩)
    have hled : Led (w2.setCell ⟨b, 0, none⟩ (.slice A1 (n + 1) c1)) b G' (l ++ [p]) := by
      refine ⟨.slice A1 (n + 1) c1, vs ++ [.slice A m c], hput, hG'.symm, hGb, by rw [List.length_append, List.length_singleton, ← HN.out.1]; exact ho3, fun i s p' hs hp' => hnew s p' ?_⟩
      rcases Nat.lt_or_ge i l.length with h | h
      · rw [List.getElem?_append_left (by rw [q6]; have := HN.out.1; omega)] at hs
        rw [List.getElem?_append_left h] at hp'
        exact q5 i s p' hs hp'
      · have hi : i = l.length := by
          have h2 := (List.getElem?_eq_some_iff.1 hp').1
          rw [List.length_append, List.length_singleton] at h2
          omega
        have h6 : vs.length = l.length := by rw [q6]; exact HN.out.1
        rw [List.getElem?_append_right (by omega), hi, h6, Nat.sub_self] at hs
        rw [List.getElem?_append_right (by omega), hi, Nat.sub_self] at hp'
        injection hs with hs
        injection hp' with hp'
        rw [← hs, ← hp']
        exact HP.out
    have hkE : Kp (b :: G.toList) w (w2.setCell ⟨b, 0, none⟩ (.slice A1 (n + 1) c1)) := (hkw.mono (fun x hx => List.mem_cons_of_mem _ hx)).trans hk3 (fun x hx _ => by rw [List.mem_singleton.1 hx]; exact List.mem_cons_self)
    have HE := hid (And.intro hled (And.intro hkE hlt))
    clear hled hkE hlt hnew ho3 hput hk3 hGb hG' hcb hbG hkw q1 q2 q3 q5 q6 hkA hk2 hb2 ho2 h4
    go_wp2_with fail
    go_end0
    exact ⟨rfl, G', HE.out.1, HE.out.2.1, HE.out.2.2⟩
theorem Led.blt {w : World} {b : Nat} {G : Option Nat} {l : List (List Stp)} (h : Led w b G l) : b < w.heap.size := by
  obtain ⟨v, vs, h1, -⟩ := h.ex
  exact (Array.getElem?_eq_some_iff.1 h1).1
theorem Led.glt {w : World} {b : Nat} {G : Option Nat} {l : List (List Stp)} (h : Led w b G l) : ∀ g, G = some g → g < w.heap.size := by
  obtain ⟨v, vs, h1, h2, h3, h4, h5⟩ := h.ex
  intro g hg
  exact h4.lt g (h2.trans hg)
theorem StepsAt.later {w w' : World} {b : Nat} {G G' : Option Nat} {v : Value} {p : List Stp} (h : StepsAt w (fun x => x ≠ b ∧ some x ≠ G) v p) (k : Kp (b :: G.toList) w w') (hl : Later w G G') : StepsAt w' (fun x => x ≠ b ∧ some x ≠ G') v p := by
  have h1 : StepsAt w (fun x => x ≠ b ∧ some x ≠ G ∧ some x ≠ G') v p := h.mono (fun x hx hT => ⟨hT.1, hT.2, fun e => by
    rcases hl x e.symm with h | h
    · exact hT.2 h.symm
    · omega⟩)
  have h2 := h1.keep k (fun x hx hT => by
    rcases List.mem_cons.1 hx with h | h
    · exact hT.1 h
    · exact hT.2.1 (Option.mem_toList.1 h).symm)
  exact h2.mono (fun x _ hT => ⟨hT.1, hT.2.2⟩)
theorem Later.refl (w : World) (G : Option Nat) : Later w G G := fun _ h => .inl h
theorem Later.trans {w w1 : World} {G G1 G2 : Option Nat} (h : Later w G G1) (h1 : Later w1 G1 G2) (hs : w.heap.size ≤ w1.heap.size) : Later w G G2 := by
  intro g hg
  rcases h1 g hg with h2 | h2
  · exact h g h2
  · exact .inr (Nat.le_trans hs h2)
theorem walk_trans {w w1 w2 : World} {b : Nat} {G G1 : Option Nat} (k : Kp (b :: G.toList) w w1) (h : Later w G G1) (k1 : Kp (b :: G1.toList) w1 w2) : Kp (b :: G.toList) w w2 :=
  k.trans k1 (fun x hx hlt => by
    rcases List.mem_cons.1 hx with e | e
    · rw [e]; exact List.mem_cons_self
    · rcases h x (Option.mem_toList.1 e) with h2 | h2
      · exact List.mem_cons_of_mem _ (Option.mem_toList.2 h2)
      · omega)
theorem walk_nil {w w1 w2 : World} {b : Nat} {G : Option Nat} (k : Kp [] w w1) (k1 : Kp (b :: G.toList) w1 w2) (hb : w.heap.size ≤ b) (hG : ∀ g, G = some g → w.heap.size ≤ g) : Kp [] w w2 :=
  k.trans k1 (fun x hx hlt => by
    rcases List.mem_cons.1 hx with e | e
    · omega
    · have := hG x (Option.mem_toList.1 e)
      omega)
theorem holesK_cons (cl : Nat) (at_ : List Stp) (k : Nat) (keys : List Txt) (i : Nat) (v : Vl) (r : List Vl) : holesK cl at_ k keys i (v :: r) = holesL cl (at_ ++ [stp k keys i]) v ++ holesK cl at_ k keys (i + 1) r := by
  conv => lhs; unfold holesK
theorem holesK_app (cl : Nat) (at_ : List Stp) (k : Nat) (keys : List Txt) : ∀ (l r : List Vl) (i : Nat), holesK cl at_ k keys i (l ++ r) = holesK cl at_ k keys i l ++ holesK cl at_ k keys (i + l.length) r
  | [], r, i => by simp [holesK]
  | v :: l, r, i => by
    show holesK cl at_ k keys i (v :: (l ++ r)) = _
    rw [holesK_cons, holesK_cons, holesK_app cl at_ k keys l r (i + 1), List.append_assoc, List.length_cons, show i + 1 + l.length = i + (l.length + 1) by omega]
theorem holesK_take (cl : Nat) (at_ : List Stp) (k : Nat) (keys : List Txt) (kids : List Vl) (j : Nat) (v : Vl) (hv : kids[j]? = some v) : holesK cl at_ k keys 0 (kids.take (j + 1)) = holesK cl at_ k keys 0 (kids.take j) ++ holesL cl (at_ ++ [stp k keys j]) v := by
  have hl : j < kids.length := at_len hv
  rw [List.take_add_one, hv]
  show holesK cl at_ k keys 0 (kids.take j ++ [v]) = _
  rw [holesK_app, List.length_take_of_le (Nat.le_of_lt hl), Nat.zero_add]
  congr 1
  simp [holesK]
theorem holes_many (cl : Nat) : ∀ v, ∀ at_, (holesL cl at_ v).length ≤ sizeV v := by
  refine Vl.ind fun k m num t keys kids code ih at_ => ?_
  unfold holesL sizeV
  split
  · rw [List.length_singleton]; omega
  · have h : ∀ (l : List Vl) (i : Nat), (∀ v ∈ l, ∀ at_, (holesL cl at_ v).length ≤ sizeV v) → (holesK cl at_ k keys i l).length ≤ sizes l := by
      intro l
      induction l with
      | nil => intro i _; simp [holesK]
      | cons v r ih2 =>
        intro i h
        unfold holesK sizes
        rw [List.length_append]
        have h1 := h v (by simp) (at_ ++ [stp k keys i])
        have h2 := ih2 (i + 1) fun u hu => h u (by simp [hu])
        omega
    have := h kids 0 ih
    omega
theorem sizes_take : ∀ (l : List Vl) (j : Nat) (v : Vl), l[j]? = some v → sizes (l.take j) + sizeV v ≤ sizes l
  | [], _, _, h => by cases h
  | u :: r, 0, v, h => by
    injection h with h
    subst h
    simp [sizes]
  | u :: r, j + 1, v, h => by
    have := sizes_take r j v h
    rw [List.take_succ_cons]
    unfold sizes
    omega
theorem holesK_many (cl : Nat) (at_ : List Stp) (k : Nat) (keys : List Txt) : ∀ (l : List Vl) (i : Nat), (holesK cl at_ k keys i l).length ≤ sizes l
  | [], i => by simp [holesK]
  | v :: r, i => by
    have h1 := holes_many cl v (at_ ++ [stp k keys i])
    have h2 := holesK_many cl at_ k keys r (i + 1)
    unfold holesK sizes
    rw [List.length_append]
    omega
theorem StepsAt.span {w : World} {T : Nat → Prop} {A : Option Addr} {n c : Nat} {p : List Stp} (h : StepsAt w T (.slice A n c) p) : Span w A (stCs p) ∧ (A = none → n = 0) := by
  obtain ⟨A', c', e, h1, h2, h3, h4⟩ := h.ex
  injection e with e1 e2 e3
  subst e1 e2 e3
  refine ⟨h3, ?_⟩
  rintro rfl
  rcases Nat.eq_zero_or_pos p.length with h0 | h0
  · exact h0
  · obtain ⟨ad, e, -⟩ := h3.get (j := 0) (by rw [stCs_len]; omega)
    cases e
end Go.Proofs.YtpeldjihalldkaaDoor
