/- A machine whose state is told what it takes, or where it goes on. -/
import Derived.Test.YtaaikjedagnjbaaGNext
namespace Go.Proofs.Ytaaikjedagnjbaa
open Go Go.RowKit Go.Lib

theorem mach_fn {w : World} {mb : Nat} {E R : Nat → Prop} {M : List St} {i : Nat} {st : St} (h : MachAt w mb E R M) (hst : M[i]? = some st) (j : Nat) (hj : j < 3) (u : Value) (st' : St) (hnx : st'.nx = st.nx)
    (ht : ∀ c : Stc, TkAt w (fun x => E x ∨ R x) c.t st.tk → WhAt w (fun x => E x ∨ R x) c.h st.wh → c.t.oneCell' = true → c.h.oneCell' = true →
      ∃ c' : Stc, c'.cs = c.cs.set j u ∧ c'.n = c.n ∧ TkAt w (fun x => E x ∨ R x) c'.t st'.tk ∧ WhAt w (fun x => E x ∨ R x) c'.h st'.wh ∧ c'.t.oneCell' = true ∧ c'.h.oneCell' = true) :
    ∃ sb cap, w.cell? ⟨mb, 0, none⟩ = some (.slice (some ⟨sb, 0, none⟩) M.length cap) ∧ w.frozen? ⟨sb, 3 * i + j, none⟩ = false ∧ (∃ v, w.cell? ⟨sb, 3 * i + j, none⟩ = some v) ∧ cap ≤ 9223372036854775807 ∧
      MachAt (w.setCell ⟨sb, 3 * i + j, none⟩ u) mb E R (M.set i st') ∧ Grew w E (w.setCell ⟨sb, 3 * i + j, none⟩ u) E := by
  obtain ⟨v0, cs, h1, h2, h3, h4, h5, h6, h7⟩ := h.ex
  have him : i < M.length := (List.getElem?_eq_some_iff.1 hst).1
  obtain ⟨c, hc⟩ : ∃ c, cs[i]? = some c := ⟨_, List.getElem?_eq_getElem (by omega)⟩
  obtain ⟨A0, c0, rfl, hsp0, hc0, hc1, hA0⟩ := h2.shape
  have hx2 := stcs_at cs i c hc
  obtain ⟨ad, rfl, -⟩ := hsp0 _ _ (hx2 2 (by decide))
  obtain ⟨e4, -⟩ := hA0 ad rfl
  obtain ⟨sb, of, pr⟩ := ad
  injection e4 with e7 e5 e6
  subst e5 e6
  clear e7
  have x0 := h1.cell 0
  simp only [List.getElem?_cons_zero] at x0
  have hE5 : E sb := h5 sb rfl
  have h4' : sb ≠ mb := fun e => h4 (by rw [e]; rfl)
  have hbl : ∃ cur, Cells w sb 75 cur ∧ 3 * i + j < cur.length := by
    obtain ⟨hl, hsh⟩ := h2
    rcases hsh with ⟨h1, _⟩ | ⟨gb, cap, cur, e, _, hcur, hn, _, hs, _⟩
    · cases h1
    · injection e with e1 e2 e3
      injection e1 with e1
      injection e1 with e1
      subst e1
      have hcc : Cells w sb 75 cur.toList := by simpa [Cells] using hcur
      refine ⟨_, hcc, ?_⟩
      rw [Array.length_toList, hs]
      have : M.length * 3 ≤ cap * 3 := Nat.mul_le_mul_right _ hn
      omega
  obtain ⟨cur, hcur, hclt⟩ := hbl
  obtain ⟨w3, hw3⟩ : ∃ w3, w3 = w.setCell ⟨sb, 3 * i + j, none⟩ u := ⟨_, rfl⟩
  have k : Kp [sb] w w3 := by rw [hw3]; exact (Kp.refl _ _).setCell (fun _ => by simp) _
  have hkq : Kq E w w3 := ⟨[sb], fun x hx => by rw [List.mem_singleton.1 hx]; exact hE5, k⟩
  have hkO : Kq (fun x => (E x ∨ R x) ∨ w.heap.size ≤ x) w w3 := hkq.mono fun x hx => .inl (.inl hx)
  have hO : ∀ x, (E x ∨ R x) → (E x ∨ R x) ∨ w.heap.size ≤ x := fun x hx => .inl hx
  refine ⟨sb, c0, x0, hcur.free _, ⟨_, (hcur.cell _).trans (List.getElem?_eq_getElem hclt)⟩, hc1, ?_⟩
  rw [← hw3]
  have hci := h6 i st c hst hc
  obtain ⟨c', d1, d2, d3, d4, d5, d6⟩ := ht c hci.1 hci.2.1 hci.2.2.2.1 hci.2.2.2.2.1
  have hset : (stcs cs).set (3 * i + j) u = stcs (cs.set i c') := stcs_set cs i c c' j u hc hj d1
  refine ⟨⟨⟨.slice (some ⟨sb, 0, none⟩) M.length c0, cs.set i c', h1.keep k (by simpa using Ne.symm h4'), ?_, by rw [List.length_set, List.length_set, h3], h4, h5, ?_, ?_⟩, h.own, fun x hx => ?_, h.apart⟩, ⟨fun x hx => .inl hx, hkq⟩⟩
  · rw [List.length_set, ← hset, hw3]
    exact h2.put (by omega) u
  · intro m st'' c'' hst' hc'
    rw [List.getElem?_set] at hst' hc'
    by_cases hij : i = m
    · subst hij
      rw [if_pos rfl, if_pos him] at hst'
      rw [if_pos rfl, if_pos (by omega)] at hc'
      injection hst' with hst'
      injection hc' with hc'
      subst hst' hc'
      have hn : ∀ g, c'.n.ownBlock = some g → g ∉ [sb] := fun g hg hm => by
        rw [List.mem_singleton.1 hm] at hg
        rw [d2] at hg
        exact (hci.2.2.2.2.2.2 sb hg).2.2 rfl
      refine ⟨d3.later hkO hO, d4.later hkO hO, ?_, d5, d6, by rw [d2]; exact hci.2.2.2.2.2.1, by rw [d2]; exact hci.2.2.2.2.2.2⟩
      rw [hnx]
      have := hci.2.2.1
      rw [← d2] at this
      exact this.keep k hn
    · rw [if_neg hij] at hst' hc'
      obtain ⟨a1, a2, a3, b1, b2, b3, a4⟩ := h6 m st'' c'' hst' hc'
      refine ⟨a1.later hkO hO, a2.later hkO hO, a3.keep k (fun g hg hm => ?_), b1, b2, b3, a4⟩
      rw [List.mem_singleton.1 hm] at hg
      exact (a4 sb hg).2.2 rfl
  · intro m m' a a' g hm hm' hg hg'
    have key : ∀ (m : Nat) a, (cs.set i c')[m]? = some a → ∃ b, cs[m]? = some b ∧ b.n = a.n := by
      intro m a hm
      rw [List.getElem?_set] at hm
      by_cases hij : i = m
      · subst hij
        rw [if_pos rfl, if_pos (by omega)] at hm
        injection hm with hm
        subst hm
        exact ⟨c, hc, d2.symm⟩
      · rw [if_neg hij] at hm
        exact ⟨a, hm, rfl⟩
    obtain ⟨b, p1, p2⟩ := key m a hm
    obtain ⟨b', p3, p4⟩ := key m' a' hm'
    exact h7 m m' b b' g p1 p3 (by rw [p2]; exact hg) (by rw [p4]; exact hg')
  · exact Nat.lt_of_lt_of_le (h.lt x hx) k.size
/-- It takes some runes. -/
theorem mach_takes {w : World} {mb : Nat} {E R : Nat → Prop} {M : List St} {i : Nat} {st : St} (h : MachAt w mb E R M) (hst : M[i]? = some st) (u : Value) (f : Nat → Bool) (hu : FnT w (fun x => E x ∨ R x) u f) :
    ∃ sb cap, w.cell? ⟨mb, 0, none⟩ = some (.slice (some ⟨sb, 0, none⟩) M.length cap) ∧ w.frozen? ⟨sb, 3 * i + 0, none⟩ = false ∧ (∃ v, w.cell? ⟨sb, 3 * i + 0, none⟩ = some v) ∧ cap ≤ 9223372036854775807 ∧
      MachAt (w.setCell ⟨sb, 3 * i + 0, none⟩ u) mb E R (M.set i { st with tk := some f }) ∧ Grew w E (w.setCell ⟨sb, 3 * i + 0, none⟩ u) E :=
  mach_fn h hst 0 (by decide) u _ rfl fun c a b c1 c2 => ⟨⟨u, c.h, c.n⟩, rfl, rfl, hu, b, by obtain ⟨_, _, rfl, _⟩ := hu; rfl, c2⟩
/-- It goes on at some places. -/
theorem mach_where {w : World} {mb : Nat} {E R : Nat → Prop} {M : List St} {i : Nat} {st : St} (h : MachAt w mb E R M) (hst : M[i]? = some st) (u : Value) (f : Nat → Nat → Bool) (hu : FnW w (fun x => E x ∨ R x) u f) :
    ∃ sb cap, w.cell? ⟨mb, 0, none⟩ = some (.slice (some ⟨sb, 0, none⟩) M.length cap) ∧ w.frozen? ⟨sb, 3 * i + 1, none⟩ = false ∧ (∃ v, w.cell? ⟨sb, 3 * i + 1, none⟩ = some v) ∧ cap ≤ 9223372036854775807 ∧
      MachAt (w.setCell ⟨sb, 3 * i + 1, none⟩ u) mb E R (M.set i { st with wh := some f }) ∧ Grew w E (w.setCell ⟨sb, 3 * i + 1, none⟩ u) E :=
  mach_fn h hst 1 (by decide) u _ rfl fun c a b c1 c2 => ⟨⟨c.t, u, c.n⟩, rfl, rfl, a, hu, c1, by obtain ⟨_, _, rfl, _⟩ := hu; rfl⟩
/-- Other blocks may be written now: of those that were there, no others. -/
theorem MachAt.move {w w' : World} {mb : Nat} {E R R' : Nat → Prop} {M : List St} (h : MachAt w mb E R M) (k : Kq R w w') (hr : ∀ x, R x → x < w.heap.size) (hr' : ∀ x, R' x → R x ∨ w.heap.size ≤ x) : MachAt w' mb E R' M := by
  have h0 := h.keep k (fun _ a => a) (fun _ a => .inl a) hr
  obtain ⟨v, cs, h1, h2, h3, h4, h5, h6, h7⟩ := h.ex
  obtain ⟨S, hS, kp⟩ := k
  have hnS : ∀ x, E x → x ∉ S := fun x hx hm => h.apart x hx (hS x hm)
  have hkq : Kq (fun x => (E x ∨ R x) ∨ w.heap.size ≤ x) w w' := ⟨S, fun x hx => .inl (.inr (hS x hx)), kp⟩
  have hO : ∀ x, (E x ∨ R' x) → (E x ∨ R x) ∨ w.heap.size ≤ x := fun x hx => by
    rcases hx with hx | hx
    · exact .inl (.inl hx)
    · rcases hr' x hx with h | h
      · exact .inl (.inr h)
      · exact .inr h
  refine ⟨⟨v, cs, h1.keep kp (hnS mb h.own), h2.keep kp (fun g hg => hnS g (h5 g hg)), h3, h4, h5, fun i st c hst hc => ?_, h7⟩, h.own, h0.lt, fun x hx hrx => ?_⟩
  · obtain ⟨a1, a2, a3, b1, b2, b3, a4⟩ := h6 i st c hst hc
    exact ⟨a1.later hkq hO, a2.later hkq hO, a3.keep kp (fun g hg => hnS g (a4 g hg).1), b1, b2, b3, a4⟩
  · rcases hr' x hrx with h1 | h1
    · exact h.apart x hx h1
    · have := h.lt x hx; omega
end Go.Proofs.Ytaaikjedagnjbaa
