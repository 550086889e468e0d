/- A machine's add. -/
import Derived.Test.YtaaikjedagnjbaaGMach
import Derived.Deep.Cut
namespace Go.Proofs.Ytaaikjedagnjbaa
open Go Go.RowKit Go.Lib

/-- What a machine owns later: as before, or new; nothing else was written. -/
structure Grew (w : World) (E : Nat → Prop) (w' : World) (E' : Nat → Prop) : Prop where
  own : ∀ x, E' x → E x ∨ w.heap.size ≤ x
  kq : Kq E w w'
theorem Grew.refl (w : World) (E : Nat → Prop) : Grew w E w E := ⟨fun _ h => .inl h, Kq.refl _ _⟩
theorem Grew.trans {w w1 w2 : World} {E E1 E2 : Nat → Prop} (h : Grew w E w1 E1) (h1 : Grew w1 E1 w2 E2) : Grew w E w2 E2 :=
  ⟨fun x hx => by
    rcases h1.own x hx with h2 | h2
    · exact h.own x h2
    · exact .inr (Nat.le_trans h.kq.size h2), h.kq.trans h1.kq (fun x hx hlt => by
    rcases h.own x hx with h2 | h2
    · exact h2
    · omega)⟩
theorem Grew.after {w w1 w2 : World} {E E2 : Nat → Prop} (k : Kp [] w w1) (h : Grew w1 E w2 E2) : Grew w E w2 E2 :=
  ⟨fun x hx => by
    rcases h.own x hx with h2 | h2
    · exact .inl h2
    · exact .inr (Nat.le_trans k.size h2), (Kq.of k).trans h.kq (fun _ hx _ => hx)⟩
theorem Grew.then {w w1 w2 : World} {E E1 : Nat → Prop} (h : Grew w E w1 E1) (k : Kp [] w1 w2) : Grew w E w2 E1 := h.trans ⟨fun _ hx => .inl hx, Kq.of k⟩
/-- A state more. -/
theorem mach_snoc {w0 w1 w2 : World} {mb : Nat} {E R : Nat → Prop} {M : List St} {v0 v' : Value} {cs : List Stc} {st : St} {c : Stc}
    (hown : E mb) (hlt : ∀ x, E x → x < w0.heap.size) (hap : ∀ x, E x → ¬ R x) (hR : ∀ x, R x → x < w0.heap.size)
    (h3 : cs.length = M.length) (h4 : v0.ownBlock ≠ some mb) (h5 : ∀ g, v0.ownBlock = some g → E g)
    (h6 : ∀ (i : Nat) st c, M[i]? = some st → cs[i]? = some c → TkAt w0 (fun x => E x ∨ R x) c.t st.tk ∧ WhAt w0 (fun x => E x ∨ R x) c.h st.wh ∧ Own w0 3 c.n st.nx.length (ints st.nx) ∧ c.t.oneCell' = true ∧ c.h.oneCell' = true ∧ c.n.oneCell' = true ∧ ∀ g, c.n.ownBlock = some g → E g ∧ g ≠ mb ∧ v0.ownBlock ≠ some g)
    (h7 : ∀ (i j : Nat) c c' g, cs[i]? = some c → cs[j]? = some c' → c.n.ownBlock = some g → c'.n.ownBlock = some g → i = j)
    (k01 : Kp [] w0 w1) (k12 : Kp v0.ownBlock.toList w1 w2) (hv' : OwnN w2 75 3 v' (M.length + 1) (stcs cs ++ c.cs)) (hb : v'.ownBlock = v0.ownBlock ∨ v'.ownBlock = some w1.heap.size)
    (hcm : Cells w0 mb 67 [v0]) (c1 : c.t = .nilFunc ∧ st.tk = none) (c2 : c.h = .nilFunc ∧ st.wh = none) (c3 : Own w1 3 c.n st.nx.length (ints st.nx)) (c4 : ∀ g, c.n.ownBlock = some g → w0.heap.size ≤ g ∧ g < w1.heap.size) (c5 : c.n.oneCell' = true) :
    ∃ E', MachAt (w2.setCell ⟨mb, 0, none⟩ v') mb E' R (M ++ [st]) ∧ Grew w0 E (w2.setCell ⟨mb, 0, none⟩ v') E' := by
  obtain ⟨w3, hw3⟩ : ∃ w3, w3 = w2.setCell ⟨mb, 0, none⟩ v' := ⟨_, rfl⟩
  have k23 : Kp [mb] w2 w3 := by rw [hw3]; exact (Kp.refl _ _).setCell (fun _ => by simp) _
  have s01 := k01.size
  have s12 := k12.size
  have s23 := k23.size
  have hmb := hlt mb hown
  have k02 : Kp v0.ownBlock.toList w0 w2 := (k01.mono (by simp)).trans k12 (fun x hx _ => hx)
  have k03 : Kp (mb :: v0.ownBlock.toList) w0 w3 := (k02.mono (fun x hx => List.mem_cons_of_mem _ hx)).trans k23 (fun x hx _ => by rw [List.mem_singleton.1 hx]; exact List.mem_cons_self)
  have hin : ∀ x, x ∈ mb :: v0.ownBlock.toList → E x := by
    intro x hx
    rcases List.mem_cons.1 hx with h | h
    · rw [h]; exact hown
    · exact h5 x (Option.mem_toList.1 h)
  have hkq : Kq E w0 w3 := ⟨_, hin, k03⟩
  have hmbv : mb ∉ v0.ownBlock.toList := fun h => h4 (Option.mem_toList.1 h)
  rw [← hw3]
  have hvlt : ∀ g, v'.ownBlock = some g → g < w2.heap.size := fun g hg => hv'.lt g hg
  have hv'mb : v'.ownBlock ≠ some mb := by
    rcases hb with h | h
    · rw [h]; exact h4
    · rw [h]; intro e; injection e with e; omega
  refine ⟨fun x => E x ∨ c.n.ownBlock = some x ∨ (v'.ownBlock = some x), ⟨⟨v', cs ++ [c], ?_, ?_, ?_, hv'mb, fun g hg => .inr (.inr hg), ?_, ?_⟩, .inl hown, ?_, ?_⟩, ⟨?_, hkq⟩⟩
  · have h := ((hcm.keep k02 hmbv).put 0 v')
    rw [hw3]
    exact h
  · rw [List.length_append, List.length_singleton, stcs_snoc]
    exact hv'.keep k23 (fun g hg hm => by rw [List.mem_singleton.1 hm] at hg; exact hv'mb hg)
  · rw [List.length_append, List.length_append, h3]; rfl
  · intro i st' c' hst hc
    have hkO : Kq (fun x => (E x ∨ R x) ∨ w0.heap.size ≤ x) w0 w3 := hkq.mono fun x hx => .inl (.inl hx)
    have hO : ∀ x, ((E x ∨ c.n.ownBlock = some x ∨ v'.ownBlock = some x) ∨ R x) → (E x ∨ R x) ∨ w0.heap.size ≤ x := fun x hx => by
      rcases hx with (hx | hx | hx) | hx
      · exact .inl (.inl hx)
      · exact .inr (c4 x hx).1
      · rcases hb with h | h
        · rw [h] at hx; exact .inl (.inl (h5 x hx))
        · rw [h] at hx; injection hx with hx; exact .inr (by omega)
      · exact .inl (.inr hx)
    rcases Nat.lt_or_ge i M.length with hi | hi
    · rw [List.getElem?_append_left hi] at hst
      rw [List.getElem?_append_left (by omega)] at hc
      obtain ⟨a1, a2, a3, b1, b2, b3, a4⟩ := h6 i st' c' hst hc
      refine ⟨a1.later hkO hO, a2.later hkO hO, a3.keep k03 (fun g hg hm => ?_), b1, b2, b3, fun g hg => ⟨.inl (a4 g hg).1, (a4 g hg).2.1, ?_⟩⟩
      · rcases List.mem_cons.1 hm with h | h
        · exact (a4 g hg).2.1 h
        · exact (a4 g hg).2.2 (Option.mem_toList.1 h)
      · rcases hb with h | h
        · rw [h]; exact (a4 g hg).2.2
        · rw [h]; intro e; injection e with e; have := hlt g (a4 g hg).1; omega
    · have hie : i = M.length := by
        have := (List.getElem?_eq_some_iff.1 hst).1
        rw [List.length_append, List.length_singleton] at this
        omega
      subst hie
      rw [List.getElem?_append_right (Nat.le_refl _), Nat.sub_self] at hst
      rw [List.getElem?_append_right (by omega), h3, Nat.sub_self] at hc
      injection hst with hst
      injection hc with hc
      subst hst hc
      refine ⟨by rw [c1.2]; exact c1.1, by rw [c2.2]; exact c2.1, (c3.keep k12 (fun g hg hm => ?_)).keep k23 (fun g hg hm => ?_), by rw [c1.1]; rfl, by rw [c2.1]; rfl, c5, fun g hg => ⟨.inr (.inl hg), ?_, ?_⟩⟩
      · have := hlt g (h5 g (Option.mem_toList.1 hm)); have := (c4 g hg).1; omega
      · have := (c4 g hg).1; rw [List.mem_singleton.1 hm] at this; omega
      · have := (c4 g hg).1; omega
      · rcases hb with h | h
        · rw [h]; intro e; have := hlt g (h5 g e); have := (c4 g hg).1; omega
        · rw [h]; intro e; injection e with e; have := (c4 g hg).2; omega
  · intro i j c' c'' g hi hj hg hg'
    have old : ∀ (i : Nat) c', i < M.length → (cs ++ [c])[i]? = some c' → c'.n.ownBlock = some g → g < w0.heap.size ∧ cs[i]? = some c' := by
      intro i c' hlt' hc hg
      rw [List.getElem?_append_left (by omega)] at hc
      have hst : M[i]? = some M[i] := List.getElem?_eq_getElem hlt'
      exact ⟨hlt g ((h6 i _ c' hst hc).2.2.2.2.2.2 g hg).1, hc⟩
    have new : ∀ (i : Nat) c', M.length ≤ i → (cs ++ [c])[i]? = some c' → c'.n.ownBlock = some g → w0.heap.size ≤ g ∧ i = M.length := by
      intro i c' hle hc hg
      have hl := (List.getElem?_eq_some_iff.1 hc).1
      rw [List.length_append, List.length_singleton] at hl
      have hie : i = M.length := by omega
      subst hie
      rw [List.getElem?_append_right (by omega), h3, Nat.sub_self] at hc
      injection hc with hc
      subst hc
      exact ⟨(c4 g hg).1, rfl⟩
    rcases Nat.lt_or_ge i M.length with h | h
    · obtain ⟨a, b⟩ := old i c' h hi hg
      rcases Nat.lt_or_ge j M.length with h' | h'
      · obtain ⟨a', b'⟩ := old j c'' h' hj hg'
        exact h7 i j c' c'' g b b' hg hg'
      · obtain ⟨a', b'⟩ := new j c'' h' hj hg'
        omega
    · obtain ⟨a, b⟩ := new i c' h hi hg
      rcases Nat.lt_or_ge j M.length with h' | h'
      · obtain ⟨a', b'⟩ := old j c'' h' hj hg'
        omega
      · obtain ⟨a', b'⟩ := new j c'' h' hj hg'
        omega
  · intro x hx
    rcases hx with hx | hx | hx
    · have := hlt x hx; omega
    · have := (c4 x hx).2; omega
    · have := hvlt x hx; omega
  · intro x hx hr
    rcases hx with hx | hx | hx
    · exact hap x hx hr
    · have := (c4 x hx).1; have := hR x hr; omega
    · rcases hb with h | h
      · rw [h] at hx; exact hap x (h5 x hx) hr
      · rw [h] at hx; injection hx with hx; have := hR x hr; omega
  · intro x hx
    rcases hx with hx | hx | hx
    · exact .inl hx
    · exact .inr (c4 x hx).1
    · rcases hb with h | h
      · rw [h] at hx; exact .inl (h5 x hx)
      · rw [h] at hx; injection hx with hx; exact .inr (by omega)
set_option maxRecDepth 100000 in
set_option maxHeartbeats 6400000 in
theorem add_any (w0 w : World) (mb : Nat) (E R : Nat → Prop) (M : List St) (h : MachAt w0 mb E R M) (hM : M.length ≤ 1000000) (k : Kp [] w0 w) (hR : ∀ x, R x → x < w0.heap.size) (v : Value) (nx : List Nat) (hv : Own w 3 v nx.length (ints nx)) (hvb : ∀ g, v.ownBlock = some g → w0.heap.size ≤ g) :
    Calls Try.prog 41 #[.pointer (some ⟨mb, 0, none⟩), v] w fun e w' => e = .returned (.int .i64 (M.length : Int)) ∧ ∃ E', MachAt w' mb E' R (M ++ [⟨none, none, nx⟩]) ∧ Grew w0 E w' E' := by
  obtain ⟨v0, cs, h1, h2, h3, h4, h5, h6, h7⟩ := h.ex
  have hvlt := hv.lt
  have hone : v.oneCell' = true := by obtain ⟨_, _, rfl, _⟩ := hv.shape; rfl
  have HF := hid (And.intro h.own (And.intro h.lt (And.intro h.apart (And.intro hR (And.intro h2 (And.intro h3 (And.intro h4 (And.intro h5 (And.intro h6 (And.intro h7 (And.intro h1 (And.intro k (And.intro hvb (And.intro hvlt (And.intro hv hone)))))))))))))))
  have ho := h2.kept k
  have hcm := h1.keep k (by simp)
  obtain ⟨A0, c0, rfl, -, hc0, hc1, -⟩ := h2.shape
  obtain ⟨Av, cv, rfl, -, -, -, -⟩ := hv.shape
  have x0 := hcm.cell 0
  simp only [List.getElem?_cons_zero] at x0
  have xx0 := fun o => ((Kp.refl [] w).alloc o).cell x0 (by simp)
  obtain ⟨n, hn⟩ : ∃ n, n = M.length := ⟨_, rfl⟩
  obtain ⟨nv, hnv⟩ : ∃ n, n = nx.length := ⟨_, rfl⟩
  rw [← hnv]
  rw [← hn] at ho x0 hM hc0 ⊢
  simp only [← hn] at xx0
  simp only [← hn, ← hnv] at HF
  have HN := hid (And.intro hn hnv)
  clear h h1 h2 h3 h4 h5 h6 h7 hv hvb hvlt hR k hn hnv hone
  go_enter Try.func41, Try.ntmps41
  go_wp2_with (at_builtin; go_must (refine wpList_appendN rfl _ _ 65 rfl 75 (.agg #[.nilFunc, .nilFunc, .slice none 0 0]) 3 40 Try.underlying65 stateInfo rfl (by decide) _ n (stcs cs) rfl (ho.kept ((Kp.refl _ _).alloc _)) _ 1 1 [.nilFunc, .nilFunc, .slice Av nv cv] rfl (Span.of_new w _ _ _) rfl (by simp [Value.oneCell']) ?_ ?_ ?_))
  · omega
  · omega
  intro v' w2 ho2 k2 hb
  obtain ⟨f1, f2, f3, f4, f5, f6, f7, f8, f9, f10, f11, f12, f13, f14, f15, f16⟩ := HF.out
  have hk1 : Kp [] w0 (w.alloc (.cells #[.nilFunc, .nilFunc, .slice Av nv cv] 75)) := f12.alloc _
  have hs1 : (w.alloc (.cells #[.nilFunc, .nilFunc, .slice Av nv cv] 75)).heap.size = w.heap.size + 1 := by simp
  have hfin := mach_snoc (M := M) (st := ⟨none, none, nx⟩) (c := ⟨.nilFunc, .nilFunc, .slice Av nv cv⟩) (v' := v') f1 f2 f3 f4 (by rw [f6, HN.out.1]) f7 f8 f9 f10 hk1 k2 (by rw [← HN.out.1]; exact ho2) (by rw [hs1]; exact hb) f11 ⟨rfl, rfl⟩ ⟨rfl, rfl⟩
    (by rw [← HN.out.2]; exact f15.kept ((Kp.refl _ _).alloc _)) (fun g hg => ⟨f13 g hg, by rw [hs1]; have := f14 g hg; omega⟩) f16
  have hmbv : mb ∉ (Value.slice A0 n c0).ownBlock.toList := fun h => f7 (Option.mem_toList.1 h)
  have hcm2 := (f11.keep hk1 (by simp)).keep k2 hmbv
  have y0 := hcm2.cell 0
  have fr := hcm2.free 0
  obtain ⟨A2, c2, rfl, -, -, -, -⟩ := ho2.shape
  have HE := hid hfin
  have w1s : IntKind.i64.wrap (((n + 1 : Nat) : Int) - 1) = (n : Int) := by rw [IntWalk.i64_in _ (by omega)]; omega
  clear f1 f2 f3 f4 f5 f6 f7 f8 f9 f10 f11 f12 f13 f14 f15 f16 hk1 hs1 hfin hmbv hcm2 ho2 k2 hb ho hcm x0 xx0
  go_wp2_with fail
  go_ret
  exact ⟨rfl, HE.out⟩
end Go.Proofs.Ytaaikjedagnjbaa
