/- A reader over its machine: what a method is given, and what it leaves. -/
import Derived.Test.YtaaikjedagnjbaaGOne
import Derived.Test.YtaaikjedagnjbaaGItems1
import Derived.Test.YtaaikjedagnjbaaGSize
namespace Go.Proofs.Ytaaikjedagnjbaa
open Go Go.RowKit Go.Lib

/-- A machine, and a reader over it. R: other blocks that may be written, the reader's one among them; N: where the runes lie that are left. -/
structure Ready (w : World) (rb mb : Nat) (N E R : Nat → Prop) (M : List St) (L : List Nat) (d : Nat) (bad : Bool) : Prop where
  mach : MachAt w mb E R M
  rd : RdAt w rb mb N L d bad
  rR : R rb
  lt : ∀ x, R x → x < w.heap.size
  nE : ∀ x, N x → ¬ E x ∧ x < w.heap.size
/-- What the machine owns later; of old blocks only its own, and the reader's, were written. -/
structure Rew (w : World) (E : Nat → Prop) (rb : Nat) (w' : World) (E' : Nat → Prop) : Prop where
  own : ∀ x, E' x → E x ∨ w.heap.size ≤ x
  kq : Kq (fun x => E x ∨ x = rb) w w'
theorem Rew.refl (w : World) (E : Nat → Prop) (rb : Nat) : Rew w E rb w E := ⟨fun _ h => .inl h, Kq.refl _ _⟩
theorem Rew.trans {w w1 w2 : World} {E E1 E2 : Nat → Prop} {rb : Nat} (h : Rew w E rb w1 E1) (h1 : Rew w1 E1 rb w2 E2) : Rew w E rb w2 E2 :=
  ⟨fun x hx => by
    rcases h1.own x hx with h2 | h2
    · exact h.own x h2
    · exact .inr (Nat.le_trans h.kq.size h2), h.kq.trans h1.kq (fun x hx hlt => by
    rcases hx with hx | hx
    · rcases h.own x hx with h2 | h2
      · exact .inl h2
      · omega
    · exact .inr hx)⟩
theorem Rew.of_grew {w w1 : World} {E E1 : Nat → Prop} (rb : Nat) (h : Grew w E w1 E1) : Rew w E rb w1 E1 := ⟨h.own, h.kq.mono fun _ hx => .inl hx⟩
theorem Rew.of_kp {w w1 : World} (E : Nat → Prop) (rb : Nat) (h : Kp [rb] w w1) : Rew w E rb w1 E := ⟨fun _ hx => .inl hx, ⟨[rb], fun x hx => .inr (List.mem_singleton.1 hx), h⟩⟩
theorem Rew.of_kept {w w1 : World} (E : Nat → Prop) (rb : Nat) (h : Kp [] w w1) : Rew w E rb w1 E := .of_kp E rb (h.mono (by simp))
/-- A block made since was written. -/
theorem Rew.fresh {w w1 w2 : World} {E E1 : Nat → Prop} {rb g : Nat} (h : Rew w E rb w1 E1) (k : Kp [g] w1 w2) (hg : w.heap.size ≤ g) : Rew w E rb w2 E1 := by
  obtain ⟨S, hS, kk⟩ := h.kq
  exact ⟨h.own, S, hS, kk.fresh k hg⟩
/-- A block that is no one's later is none before, and none now. -/
theorem Rew.out {w w' : World} {E E' : Nat → Prop} {rb b : Nat} (g : Rew w E rb w' E') (hb : b < w.heap.size) (h : ¬ E b) : ¬ E' b := fun hh => by
  rcases g.own b hh with h' | h'
  · exact h h'
  · omega
theorem Rew.cells {w w' : World} {E E' : Nat → Prop} {rb b : Nat} {t : TypeId} {cs : List Value} (g : Rew w E rb w' E') (hc : Cells w b t cs) (hE : ¬ E b) (hb : b ≠ rb) : Cells w' b t cs :=
  g.kq.cells hc (fun h => by rcases h with h | h; exact hE h; exact hb h)
section
variable {w w' : World} {rb mb d : Nat} {N E R : Nat → Prop} {M : List St} {L : List Nat} {bad : Bool}
theorem Ready.rE (h : Ready w rb mb N E R M L d bad) : ¬ E rb := fun hh => h.mach.apart rb hh h.rR
theorem Ready.fresh (h : Ready w rb mb N E R M L d bad) {g : Nat} (hg : w.heap.size ≤ g) : ¬ E g := fun hh => absurd (h.mach.lt _ hh) (by omega)
/-- Blocks were made; some of them may be written from now on. -/
theorem Ready.move (h : Ready w rb mb N E R M L d bad) (k : Kp [] w w') {R' : Nat → Prop} (hr : ∀ x, R' x → R x ∨ (w.heap.size ≤ x ∧ x < w'.heap.size)) (hrb : R' rb) : Ready w' rb mb N E R' M L d bad :=
  ⟨h.mach.move (Kq.of k) h.lt (fun x hx => by rcases hr x hx with h | h; exact .inl h; exact .inr h.1), h.rd.kept k, hrb,
    fun x hx => by
      rcases hr x hx with h1 | h1
      · exact Nat.lt_of_lt_of_le (h.lt x h1) k.size
      · exact h1.2, fun x hx => ⟨(h.nE x hx).1, Nat.lt_of_lt_of_le (h.nE x hx).2 k.size⟩⟩
/-- Fewer blocks may be written. -/
theorem Ready.less (h : Ready w rb mb N E R M L d bad) {R' : Nat → Prop} (hr : ∀ x, R' x → R x) (hrb : R' rb) : Ready w rb mb N E R' M L d bad :=
  h.move (Kp.refl _ _) (fun x hx => .inl (hr x hx)) hrb
theorem Ready.kept (h : Ready w rb mb N E R M L d bad) (k : Kp [] w w') : Ready w' rb mb N E R M L d bad := h.move k (fun _ hx => .inl hx) h.rR
/-- A block that may be written was, that is no rune's and not the reader's. -/
theorem Ready.wrote (h : Ready w rb mb N E R M L d bad) {g : Nat} (k : Kp [g] w w') (hg : R g) (hrb : g ≠ rb) (hN : ¬ N g) : Ready w' rb mb N E R M L d bad :=
  ⟨h.mach.keep ⟨[g], fun x hx => by rw [List.mem_singleton.1 hx]; exact hg, k⟩ (fun _ a => a) (fun _ a => .inl a) h.lt, h.rd.kq k (by simpa using Ne.symm hrb) (fun x hx hm => hN (by rw [← List.mem_singleton.1 hm]; exact hx)), h.rR,
    fun x hx => Nat.lt_of_lt_of_le (h.lt x hx) k.size, fun x hx => ⟨(h.nE x hx).1, Nat.lt_of_lt_of_le (h.nE x hx).2 k.size⟩⟩
/-- The reader was written. -/
theorem Ready.read (h : Ready w rb mb N E R M L d bad) (k : Kp [rb] w w') {L' : List Nat} {d' : Nat} {bad' : Bool} (hr : RdAt w' rb mb N L' d' bad') : Ready w' rb mb N E R M L' d' bad' :=
  ⟨h.mach.keep ⟨[rb], fun x hx => by rw [List.mem_singleton.1 hx]; exact h.rR, k⟩ (fun _ a => a) (fun _ a => .inl a) h.lt, hr, h.rR,
    fun x hx => Nat.lt_of_lt_of_le (h.lt x hx) k.size, fun x hx => ⟨(h.nE x hx).1, Nat.lt_of_lt_of_le (h.nE x hx).2 k.size⟩⟩
/-- The machine was written. -/
theorem Ready.grew (h : Ready w rb mb N E R M L d bad) {E' : Nat → Prop} {M' : List St} (m : MachAt w' mb E' R M') (g : Grew w E w' E') : Ready w' rb mb N E' R M' L d bad :=
  ⟨m, h.rd.under g.kq h.rE (fun x hx => (h.nE x hx).1), h.rR, fun x hx => Nat.lt_of_lt_of_le (h.lt x hx) g.kq.size,
    fun x hx => ⟨g.out (h.nE x hx).2 (h.nE x hx).1, Nat.lt_of_lt_of_le (h.nE x hx).2 g.kq.size⟩⟩
theorem Ready.mb_ne (h : Ready w rb mb N E R M L d bad) : mb ≠ rb := fun e => h.rE (e ▸ h.mach.own)
end
/-- The result's cells are written, and it is given back. -/
theorem Ready.result {w w5 : World} {rb mb d gc : Nat} {N E E1 R : Nat → Prop} {M : List St} {L : List Nat} {bad : Bool} {u v : Value} (h : Ready w5 rb mb N E1 (fun x => R x ∨ x = gc) M L d bad) (hR : R rb) (hgr : gc ≠ rb) (hgN : ¬ N gc) (hg : w.heap.size ≤ gc)
    (hr : Rew w E rb w5 E1) (hc : Cells w5 gc 50 [u, v]) (f l : Value) :
    ∃ w6, w6 = (w5.setCell ⟨gc, 0, none⟩ f).setCell ⟨gc, 1, none⟩ l ∧ Ready w6 rb mb N E1 R M L d bad ∧ Rew w E rb w6 E1 ∧ Cells w6 gc 50 [f, l] := by
  have k : Kp [gc] w5 ((w5.setCell ⟨gc, 0, none⟩ f).setCell ⟨gc, 1, none⟩ l) := ((Kp.refl _ _).setCell (fun _ => by simp) _).setCell (fun _ => by simp) _
  exact ⟨_, rfl, (h.wrote k (.inr rfl) hgr hgN).less (fun x hx => .inl hx) hR, hr.fresh k hg, (hc.put 0 _).put 1 _⟩
def partV (f l : Nat) : Value := .agg #[.int .i64 (f : Int), .int .i64 (l : Int)]
/-- A part was read, and the machine grew by it; or the reader is marked. wt M' + 16 · what is left + a ≤ before + b. -/
structure Got (w : World) (rb mb : Nat) (N E R : Nat → Prop) (M : List St) (L : List Nat) (d a b : Nat) (res : Option (Re × List Nat)) (e : Ending) (w' : World) : Prop where
  ex : ∃ (f l : Nat) (E' : Nat → Prop) (M' : List St) (L' : List Nat) (d' : Nat) (bad : Bool), e = .returned (partV f l) ∧ Ready w' rb mb N E' R M' L' d' bad ∧ Rew w E rb w' E' ∧
    (bad = false → ∀ q, q < M.length → M'[q]? = M[q]?) ∧ M.length ≤ M'.length ∧ f < M'.length ∧ l < M'.length ∧ wt M' + 16 * L'.length + a ≤ wt M + 16 * L.length + b ∧ L'.length ≤ L.length ∧ d ≤ d' ∧ d' ≤ 7 ∧ bad = res.isNone ∧
    ∀ re r, res = some (re, r) → d' = d ∧ L' = r ∧ Frag M' M.length M'.length f l re
/-- One rune's part. -/
theorem got_rune {w w' : World} {rb mb d : Nat} {N E E' R : Nat → Prop} {M : List St} {L L' : List Nat} {st : St} {bad : Bool} {res : Option (Re × List Nat)} (hst : st.nx = [M.length])
    (h : Ready w' rb mb N E' R (M ++ [⟨none, none, []⟩, st]) L' d bad) (r : Rew w E rb w' E') (hL : L'.length ≤ L.length) (hd : d ≤ 7) (hb : bad = res.isNone)
    (hf : ∀ re r, res = some (re, r) → L' = r ∧ Frag (M ++ [⟨none, none, []⟩, st]) M.length (M.length + 2) (M.length + 1) M.length re) :
    Got w rb mb N E R M L d 0 3 res (.returned (partV (M.length + 1) M.length)) w' := by
  have hl : (M ++ [(⟨none, none, []⟩ : St), st]).length = M.length + 2 := by simp
  have hw : wt (M ++ [(⟨none, none, []⟩ : St), st]) = wt M + 3 := by rw [wt_append]; simp [wt, hst]
  refine ⟨⟨_, _, E', _, L', d, bad, rfl, h, r, fun _ q hq => List.getElem?_append_left hq, by omega, by omega, by omega, by omega, hL, Nat.le_refl _, hd, hb, fun re r e => ?_⟩⟩
  obtain ⟨h1, h2⟩ := hf re r e
  exact ⟨rfl, h1, by rw [hl]; exact h2⟩
theorem cls_frag (M : List St) (g : Nat → Bool) : Frag (M ++ [⟨none, none, []⟩, { (⟨none, none, [M.length]⟩ : St) with tk := some g }]) M.length (M.length + 2) (M.length + 1) M.length (.cls g) := by
  refine frag_cls ?_ ?_
  · rw [List.getElem?_append_right (Nat.le_refl _), Nat.sub_self]; rfl
  · rw [List.getElem?_append_right (by omega), Nat.add_sub_cancel_left]; rfl
theorem where_frag (M : List St) (g : Nat → Nat → Bool) {r : Re} (hr : ∀ s i j, Mt s r i j ↔ j = i ∧ g i s.length = true) : Frag (M ++ [⟨none, none, []⟩, { (⟨none, none, [M.length]⟩ : St) with wh := some g }]) M.length (M.length + 2) (M.length + 1) M.length r := by
  refine frag_where hr ?_ ?_
  · rw [List.getElem?_append_right (Nat.le_refl _), Nat.sub_self]; rfl
  · rw [List.getElem?_append_right (by omega), Nat.add_sub_cancel_left]; rfl
end Go.Proofs.Ytaaikjedagnjbaa
