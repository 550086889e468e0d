/- A reader over its machine: what a method is given, and what it leaves. -/
import Derived.Test.YtaaikjedagnjbaaRG
import Derived.Test.YtaaikjedagnjbaaGItems1
import Derived.Test.YtaaikjedagnjbaaRA
import Derived.Test.YtaaikjedagnjbaaCut
namespace Go.Proofs.Ytaaikjedagnjbaa
open Go Go.RowKit Go.Lib

/-- A machine, and a reader over it. R: other blocks that may be written, the reader's one among them; N: where the runes lie that are left. -/
structure Ready (w : World) (rb mb : Nat) (N E R : Nat → Prop) (M : List St) (L : List Nat) (d : Nat) (bad : Bool) : Prop where
  mach : MachAt w mb E R M
  rd : RdAt w rb mb N L d bad
  rR : R rb
  lt : ∀ x, R x → x < w.heap.size
  nE : ∀ x, N x → ¬ E x ∧ x < w.heap.size
/-- What the machine owns later; of old blocks only its own, and the reader's, were written. -/
structure Rew (w : World) (E : Nat → Prop) (rb : Nat) (w' : World) (E' : Nat → Prop) : Prop where
  own : ∀ x, E' x → E x ∨ w.heap.size ≤ x
  kq : Kq (fun x => E x ∨ x = rb) w w'
theorem Rew.refl (w : World) (E : Nat → Prop) (rb : Nat) : Rew w E rb w E := ⟨fun _ h => .inl h, Kq.refl _ _⟩
theorem Rew.trans {w w1 w2 : World} {E E1 E2 : Nat → Prop} {rb : Nat} (h : Rew w E rb w1 E1) (h1 : Rew w1 E1 rb w2 E2) : Rew w E rb w2 E2 :=
  ⟨fun x hx => by
    rcases h1.own x hx with h2 | h2
    · exact h.own x h2
    · exact .inr (Nat.le_trans h.kq.size h2), h.kq.trans h1.kq (fun x hx hlt => by
    rcases hx with hx | hx
    · rcases h.own x hx with h2 | h2
      · exact .inl h2
      · omega
    · exact .inr hx)⟩
theorem Rew.of_grew {w w1 : World} {E E1 : Nat → Prop} (rb : Nat) (h : Grew w E w1 E1) : Rew w E rb w1 E1 := ⟨h.own, h.kq.mono fun _ hx => .inl hx⟩
theorem Rew.of_kp {w w1 : World} (E : Nat → Prop) (rb : Nat) (h : Kp [rb] w w1) : Rew w E rb w1 E := ⟨fun _ hx => .inl hx, ⟨[rb], fun _ hx => .inr (List.mem_singleton.1 hx), h⟩⟩
theorem Rew.of_kept {w w1 : World} (E : Nat → Prop) (rb : Nat) (h : Kp [] w w1) : Rew w E rb w1 E := .of_kp E rb (h.mono (by simp))
/-- A block made since was written. -/
theorem Rew.fresh {w w1 w2 : World} {E E1 : Nat → Prop} {rb g : Nat} (h : Rew w E rb w1 E1) (k : Kp [g] w1 w2) (hg : w.heap.size ≤ g) : Rew w E rb w2 E1 := by
  obtain ⟨S, hS, kk⟩ := h.kq
  exact ⟨h.own, S, hS, kk.fresh k hg⟩
/-- A block that is no one's later is none before, and none now. -/
theorem Rew.out {w w' : World} {E E' : Nat → Prop} {rb b : Nat} (g : Rew w E rb w' E') (hb : b < w.heap.size) (h : ¬ E b) : ¬ E' b := fun hh => by
  rcases g.own b hh with h' | h'
  · exact h h'
  · omega
theorem Rew.cells {w w' : World} {E E' : Nat → Prop} {rb b : Nat} {t : TypeId} {cs : List Value} (g : Rew w E rb w' E') (hc : Cells w b t cs) (hE : ¬ E b) (hb : b ≠ rb) : Cells w' b t cs :=
  g.kq.cells hc (fun h => by rcases h with h | h; exact hE h; exact hb h)
section
variable {w w' : World} {rb mb d : Nat} {N E R : Nat → Prop} {M : List St} {L : List Nat} {bad : Bool}
theorem Ready.rE (h : Ready w rb mb N E R M L d bad) : ¬ E rb := fun hh => h.mach.apart rb hh h.rR
theorem Ready.fresh (h : Ready w rb mb N E R M L d bad) {g : Nat} (hg : w.heap.size ≤ g) : ¬ E g := fun hh => absurd (h.mach.lt _ hh) (by omega)
/-- Blocks were made; some of them may be written from now on. -/
theorem Ready.move (h : Ready w rb mb N E R M L d bad) (k : Kp [] w w') {R' : Nat → Prop} (hr : ∀ x, R' x → R x ∨ (w.heap.size ≤ x ∧ x < w'.heap.size)) (hrb : R' rb) : Ready w' rb mb N E R' M L d bad :=
  ⟨h.mach.move (Kq.of k) h.lt (fun x hx => by rcases hr x hx with h | h; exact .inl h; exact .inr h.1), h.rd.kept k, hrb,
    fun x hx => by
      rcases hr x hx with h1 | h1
      · exact Nat.lt_of_lt_of_le (h.lt x h1) k.size
      · exact h1.2, fun x hx => ⟨(h.nE x hx).1, Nat.lt_of_lt_of_le (h.nE x hx).2 k.size⟩⟩
/-- Fewer blocks may be written. -/
theorem Ready.less (h : Ready w rb mb N E R M L d bad) {R' : Nat → Prop} (hr : ∀ x, R' x → R x) (hrb : R' rb) : Ready w rb mb N E R' M L d bad :=
  h.move (Kp.refl _ _) (fun x hx => .inl (hr x hx)) hrb
theorem Ready.kept (h : Ready w rb mb N E R M L d bad) (k : Kp [] w w') : Ready w' rb mb N E R M L d bad := h.move k (fun _ hx => .inl hx) h.rR
/-- A block that may be written was, that is no rune's and not the reader's. -/
theorem Ready.wrote (h : Ready w rb mb N E R M L d bad) {g : Nat} (k : Kp [g] w w') (hg : R g) (hrb : g ≠ rb) (hN : ¬ N g) : Ready w' rb mb N E R M L d bad :=
  ⟨h.mach.keep ⟨[g], fun x hx => by rw [List.mem_singleton.1 hx]; exact hg, k⟩ (fun _ a => a) (fun _ a => .inl a) h.lt, h.rd.kq k (by simpa using Ne.symm hrb) (fun x hx hm => hN (by rw [← List.mem_singleton.1 hm]; exact hx)), h.rR,
    fun x hx => Nat.lt_of_lt_of_le (h.lt x hx) k.size, fun x hx => ⟨(h.nE x hx).1, Nat.lt_of_lt_of_le (h.nE x hx).2 k.size⟩⟩
/-- The reader was written. -/
theorem Ready.read (h : Ready w rb mb N E R M L d bad) (k : Kp [rb] w w') {L' : List Nat} {d' : Nat} {bad' : Bool} (hr : RdAt w' rb mb N L' d' bad') : Ready w' rb mb N E R M L' d' bad' :=
  ⟨h.mach.keep ⟨[rb], fun x hx => by rw [List.mem_singleton.1 hx]; exact h.rR, k⟩ (fun _ a => a) (fun _ a => .inl a) h.lt, hr, h.rR,
    fun x hx => Nat.lt_of_lt_of_le (h.lt x hx) k.size, fun x hx => ⟨(h.nE x hx).1, Nat.lt_of_lt_of_le (h.nE x hx).2 k.size⟩⟩
/-- The machine was written. -/
theorem Ready.grew (h : Ready w rb mb N E R M L d bad) {E' : Nat → Prop} {M' : List St} (m : MachAt w' mb E' R M') (g : Grew w E w' E') : Ready w' rb mb N E' R M' L d bad :=
  ⟨m, h.rd.under g.kq h.rE (fun x hx => (h.nE x hx).1), h.rR, fun x hx => Nat.lt_of_lt_of_le (h.lt x hx) g.kq.size,
    fun x hx => ⟨g.out (h.nE x hx).2 (h.nE x hx).1, Nat.lt_of_lt_of_le (h.nE x hx).2 g.kq.size⟩⟩
theorem Ready.mb_ne (h : Ready w rb mb N E R M L d bad) : mb ≠ rb := fun e => h.rE (e ▸ h.mach.own)
end
/-- The result's cells are written, and it is given back. -/
theorem Ready.result {w w5 : World} {rb mb d gc : Nat} {N E E1 R : Nat → Prop} {M : List St} {L : List Nat} {bad : Bool} {u v : Value} (h : Ready w5 rb mb N E1 (fun x => R x ∨ x = gc) M L d bad) (hR : R rb) (hgr : gc ≠ rb) (hgN : ¬ N gc) (hg : w.heap.size ≤ gc)
    (hr : Rew w E rb w5 E1) (hc : Cells w5 gc 50 [u, v]) (f l : Value) :
    ∃ w6, w6 = (w5.setCell ⟨gc, 0, none⟩ f).setCell ⟨gc, 1, none⟩ l ∧ Ready w6 rb mb N E1 R M L d bad ∧ Rew w E rb w6 E1 ∧ Cells w6 gc 50 [f, l] := by
  have k : Kp [gc] w5 ((w5.setCell ⟨gc, 0, none⟩ f).setCell ⟨gc, 1, none⟩ l) := ((Kp.refl _ _).setCell (fun _ => by simp) _).setCell (fun _ => by simp) _
  exact ⟨_, rfl, (h.wrote k (.inr rfl) hgr hgN).less (fun x hx => .inl hx) hR, hr.fresh k hg, (hc.put 0 _).put 1 _⟩
def partV (f l : Nat) : Value := .agg #[.int .i64 (f : Int), .int .i64 (l : Int)]
/-- A part was read, and the machine grew by it; or the reader is marked. wt M' + 16 · what is left + a ≤ before + b. -/
structure Got (w : World) (rb mb : Nat) (N E R : Nat → Prop) (M : List St) (L : List Nat) (d a b : Nat) (res : Option (Re × List Nat)) (e : Ending) (w' : World) : Prop where
  ex : ∃ (f l : Nat) (E' : Nat → Prop) (M' : List St) (L' : List Nat) (d' : Nat) (bad : Bool), e = .returned (partV f l) ∧ Ready w' rb mb N E' R M' L' d' bad ∧ Rew w E rb w' E' ∧
    (bad = false → ∀ q, q < M.length → M'[q]? = M[q]?) ∧ M.length ≤ M'.length ∧ f < M'.length ∧ l < M'.length ∧ wt M' + 16 * L'.length + a ≤ wt M + 16 * L.length + b ∧ L'.length ≤ L.length ∧ d ≤ d' ∧ d' ≤ 7 ∧ bad = res.isNone ∧
    ∀ re r, res = some (re, r) → d' = d ∧ L' = r ∧ Frag M' M.length M'.length f l re
/-- One rune's part. -/
theorem got_rune {w w' : World} {rb mb d : Nat} {N E E' R : Nat → Prop} {M : List St} {L L' : List Nat} {st : St} {bad : Bool} {res : Option (Re × List Nat)} (hst : st.nx = [M.length])
    (h : Ready w' rb mb N E' R (M ++ [⟨none, none, []⟩, st]) L' d bad) (r : Rew w E rb w' E') (hL : L'.length ≤ L.length) (hd : d ≤ 7) (hb : bad = res.isNone)
    (hf : ∀ re r, res = some (re, r) → L' = r ∧ Frag (M ++ [⟨none, none, []⟩, st]) M.length (M.length + 2) (M.length + 1) M.length re) :
    Got w rb mb N E R M L d 0 3 res (.returned (partV (M.length + 1) M.length)) w' := by
  have hl : (M ++ [(⟨none, none, []⟩ : St), st]).length = M.length + 2 := by simp
  have hw : wt (M ++ [(⟨none, none, []⟩ : St), st]) = wt M + 3 := by rw [wt_append]; simp [wt, hst]
  refine ⟨⟨_, _, E', _, L', d, bad, rfl, h, r, fun _ q hq => List.getElem?_append_left hq, by omega, by omega, by omega, by omega, hL, Nat.le_refl _, hd, hb, fun re r e => ?_⟩⟩
  obtain ⟨h1, h2⟩ := hf re r e
  exact ⟨rfl, h1, by rw [hl]; exact h2⟩
theorem cls_frag (M : List St) (g : Nat → Bool) : Frag (M ++ [⟨none, none, []⟩, { (⟨none, none, [M.length]⟩ : St) with tk := some g }]) M.length (M.length + 2) (M.length + 1) M.length (.cls g) := by
  refine frag_cls ?_ ?_
  · rw [List.getElem?_append_right (Nat.le_refl _), Nat.sub_self]; rfl
  · rw [List.getElem?_append_right (by omega), Nat.add_sub_cancel_left]; rfl
theorem where_frag (M : List St) (g : Nat → Nat → Bool) {r : Re} (hr : ∀ s i j, Mt s r i j ↔ j = i ∧ g i s.length = true) : Frag (M ++ [⟨none, none, []⟩, { (⟨none, none, [M.length]⟩ : St) with wh := some g }]) M.length (M.length + 2) (M.length + 1) M.length r := by
  refine frag_where hr ?_ ?_
  · rw [List.getElem?_append_right (Nat.le_refl _), Nat.sub_self]; rfl
  · rw [List.getElem?_append_right (by omega), Nat.add_sub_cancel_left]; rfl
end Go.Proofs.Ytaaikjedagnjbaa

/- The reader's slashed. -/
namespace Go.Proofs.Ytaaikjedagnjbaa
open Go Go.RowKit Go.Lib

theorem cutA_block {A : Option Addr} {l m s : Nat} {ad : Addr} (h : cutA A l m s = some ad) : ∃ a', A = some a' ∧ a'.block = ad.block := by
  unfold cutA at h
  split at h
  · exact ⟨ad, h, rfl⟩
  · obtain ⟨a', e1, e2⟩ := Option.map_eq_some_iff.1 h
    exact ⟨a', e1, by rw [← e2, add_block]⟩
/-- The next rune is taken. -/
theorem RdAt.cut {w : World} {rb mb d c n : Nat} {N : Nat → Prop} {L : List Nat} {bad : Bool} {A : Option Addr} (k : Nat) (hc : Cells w rb 69 [.pointer (some ⟨mb, 0, none⟩), .slice A n c, .int .i64 (d : Int), .bool bad])
    (hs : Span w A (runesV L)) (hn : n = L.length) (h1 : n ≤ c) (h2 : c ≤ 9223372036854775807) (h3 : ∀ ad, A = some ad → N ad.block ∧ ad.block ≠ rb) (hk : k ≤ n) :
    RdAt (w.setCell ⟨rb, 1, none⟩ (.slice (cutA A k c 1) (n - k) (c - k))) rb mb N (L.drop k) d bad := by
  have hb : ∀ ad, cutA A k c 1 = some ad → N ad.block ∧ ad.block ≠ rb := fun ad e => by
    obtain ⟨a', e1, e2⟩ := cutA_block e
    rw [← e2]
    exact h3 a' e1
  refine ⟨cutA A k c 1, c - k, ?_, ?_, by rw [List.length_drop]; omega, by omega, hb⟩
  · rw [List.length_drop, ← hn]
    exact hc.put 1 _
  · have := hs.cut k (cap := c) (by simp only [runesV, List.length_map]; omega)
    have e : (runesV L).drop k = runesV (L.drop k) := by simp [runesV, List.map_drop]
    rw [e] at this
    exact this.setCell (fun ad e => (hb ad e).2) _
set_option maxRecDepth 100000 in
set_option maxHeartbeats 6400000 in
theorem slashed_any (w : World) (rb mb : Nat) (N E R : Nat → Prop) (M : List St) (L : List Nat) (d : Nat) (h : Ready w rb mb N E R M L d false) (hM : M.length ≤ 900000) (hd : d ≤ 7) :
    Calls Try.prog 62 #[.pointer (some ⟨rb, 0, none⟩)] w fun e w' => Got w rb mb N E R M L d 0 3 (slashR L) e w' := by
  have hmf : ∀ (fn : Fn) (first cap : Array Value) (w : World), (Instr.makeFunc fn first cap).run Try.prog w = .ok (.func fn first cap) w := fun _ _ _ _ => rfl
  obtain ⟨gc, hgc⟩ : ∃ g, g = w.heap.size := ⟨_, rfl⟩
  obtain ⟨w0, hw0⟩ : ∃ w0, w0 = w.alloc (.cells #[.int .i64 0, .int .i64 0] 50) := ⟨_, rfl⟩
  have k0 : Kp [] w w0 := by rw [hw0]; exact (Kp.refl _ _).alloc _
  have c0 : Cells w0 gc 50 [.int .i64 0, .int .i64 0] := by rw [hw0, hgc]; exact Cells.fresh w 50 _
  have h0 : Ready w0 rb mb N E (fun x => R x ∨ x = gc) M L d false := h.move k0 (fun x hx => by
    rcases hx with hx | hx
    · exact .inl hx
    · exact .inr ⟨by omega, by rw [hx]; exact c0.lt⟩) (.inl h.rR)
  have hgE : ¬ E gc := h.fresh (by omega)
  have hgr : gc ≠ rb := fun e => absurd (h.lt rb h.rR) (by omega)
  have hgN : ¬ N gc := fun e => absurd (h.nE gc e).2 (by omega)
  have q1 := peek_any w0 rb mb N L d false h0.rd
  have hr0 : -1 ≤ peekR false L := by
    cases L with
    | nil => decide
    | cons a r => show (-1 : Int) ≤ (a : Int); omega
  have q2 := class_any w0 (peekR false L) hr0
  have hpk : classR (peekR false L).toNat = [] ∨ (∃ a r, L = a :: r ∧ classR a ≠ [] ∧ (peekR false L).toNat = a) := by
    cases L with
    | nil => exact .inl rfl
    | cons a r =>
      by_cases hca : classR a = []
      · exact .inl hca
      · exact .inr ⟨a, r, rfl, hca, rfl⟩
  have hsl : classR (peekR false L).toNat = [] → slashR L = (escOf L).map fun p => (.cls fun c => decide (c = p.1), p.2) := by
    cases L with
    | nil => intro _; rfl
    | cons a r =>
      intro hca
      have hca : classR a = [] := hca
      rw [slash_cons, if_neg (by simp [hca])]
      show _ = ((escR a).map fun x => (x, r)).map _
      rw [Option.map_map]
      rfl
  obtain ⟨pk, hpk0⟩ : ∃ p, p = peekR false L := ⟨_, rfl⟩
  rw [← hpk0] at q1 q2 hpk hsl
  have HH := hid (And.intro h (And.intro hM (And.intro hd (And.intro k0 (And.intro hgE (And.intro hgr (And.intro hgN (And.intro hsl (Nat.le_of_eq hgc.symm)))))))))
  have HR0 := hid h0
  have HC0 := hid c0
  have HW0 := hid hw0
  have HGC := hid hgc
  have HPK := hid hpk0
  clear h h0 c0 hw0 hgc hM hd k0 hgE hgr hgN hr0 hsl hpk0
  go_enter Try.func62, Try.ntmps62
  go_upto_region 1 with fail
  rw [← HW0.out]
  try rw [← HGC.out]
  clear HW0 HGC
  go_wp2_with fail
  (with_reducible refine q1.mono ?_)
  clear q1
  rintro e w1 ⟨rfl, hw1⟩
  rw [hw1]
  clear hw1
  go_wp2_with fail
  (with_reducible refine q2.mono ?_)
  clear q2
  rintro e w2 ⟨v, rfl, hs2, k2, hv2, hv3, hv4⟩
  obtain ⟨gb, hgb⟩ : ∃ g, g = w2.heap.size := ⟨_, rfl⟩
  obtain ⟨w3, hw3⟩ : ∃ w3, w3 = w2.alloc (.cells #[v] 99) := ⟨_, rfl⟩
  have k3 : Kp [] w2 w3 := by rw [hw3]; exact (Kp.refl _ _).alloc _
  have c3 : Cells w3 gb 99 [v] := by rw [hw3, hgb]; exact Cells.fresh w2 99 _
  have r3 := HR0.out.kept (k2.nil k3)
  have p3 := HC0.out.keep (k2.nil k3) (by simp)
  have K3 := HH.out.2.2.2.1.nil (k2.nil k3)
  have HW3 := hid hw3
  have HGB := hid hgb
  have hgb0 : w0.heap.size ≤ gb := by rw [hgb]; exact k2.size
  rcases hpk with hpk | ⟨a, r, hL, hca, hpa⟩
  · obtain rfl := hv3 hpk
    have HS := hid (And.intro (HH.out.2.2.2.2.2.2.2.1 hpk) (And.intro r3 (And.intro p3 K3)))
    have qe := escaped_any w3 rb mb N L d r3.rd
    have y3 := c3.cell 0
    simp only [List.getElem?_cons_zero] at y3
    clear hs2 k2 hv2 hv3 hv4 hw3 hgb k3 c3 r3 p3 K3 hpk hgb0
    obtain ⟨o, ho⟩ : ∃ o, o = escOf L := ⟨_, rfl⟩
    rw [← ho] at qe
    have HO := hid ho
    clear ho
    go_upto_region 2 with fail
    rw [← HW3.out]
    try rw [← HGB.out]
    clear HW3 HGB
    go_wp2_with fail
    (with_reducible refine qe.mono ?_)
    clear qe y3
    intro e w4 ht
    obtain ⟨x, L4, bad, rfl, k4, rd4, hx, hL4⟩ : ∃ (x : Nat) (L4 : List Nat) (bad : Bool), e = .returned (.int .i32 (x : Int)) ∧ Kp [rb] w3 w4 ∧ RdAt w4 rb mb N L4 d bad ∧ bad = o.isNone ∧ ((∀ p, o = some p → p = (x, L4)) ∧ L4.length ≤ L.length) := by
      cases o with
      | none =>
        obtain ⟨a1, a2, a3⟩ := ht
        exact ⟨0, L, true, a2, a1, a3, rfl, (fun p e => by cases e), Nat.le_refl _⟩
      | some p =>
        obtain ⟨x, r⟩ := p
        obtain ⟨a1, a2, a3⟩ := ht
        refine ⟨x, r, false, a2, a1, a3, rfl, (fun p e => by injection e with e; exact e.symm), ?_⟩
        have ho := HO.out
        cases L with
        | nil => cases ho
        | cons c l =>
          have ho : some (x, r) = (escR c).map fun x => (x, l) := ho
          obtain ⟨y, hy, e⟩ := Option.map_eq_some_iff.1 ho.symm
          injection e with _ e
          subst e
          simp
    clear ht
    have r4 := HS.out.2.1.read k4 rd4
    have p4 := HS.out.2.2.1.keep k4 (by simpa using HH.out.2.2.2.2.2.1)
    have K4 := (Rew.of_kept E rb HS.out.2.2.2).trans (Rew.of_kp E rb k4)
    have qo := one_any w4 rb mb N E _ M L4 d bad r4.mach HH.out.2.1 r4.lt r4.rd x
    have H4 := hid (And.intro r4 (And.intro p4 (And.intro K4 (And.intro hx hL4))))
    clear r4 p4 K4 hx hL4 k4 rd4
    go_wp2_with fail
    (with_reducible refine qo.mono ?_)
    clear qo
    rintro e w5 ⟨rfl, E1, m5, g5⟩
    have r5 := H4.out.1.grew m5 g5
    have p5 := g5.kq.cells H4.out.2.1 HH.out.2.2.2.2.1
    have K5 := H4.out.2.2.1.trans (Rew.of_grew rb g5)
    obtain ⟨w6, hw6, r6, K6, c6⟩ := r5.result HH.out.1.rR HH.out.2.2.2.2.2.1 HH.out.2.2.2.2.2.2.1 HH.out.2.2.2.2.2.2.2.2 K5 p5 (.int .i64 ((M.length : Int) + 1)) (.int .i64 (M.length : Int))
    have HE := hid (And.intro r6 (And.intro K6 c6))
    have HY := hid hw6
    have y0 := p5.cell 0
    have y1 := p5.cell 1
    have f0 := p5.free 0
    have f1 := p5.free 1
    simp only [List.getElem?_cons_zero, List.getElem?_cons_succ] at y0 y1
    clear r5 p5 K5 r6 K6 c6 hw6 m5 g5
    go_wp2_with fail
    rw [← HY.out]
    refine bodyPost_ret (results_cell_row rfl _ _ gc 50 _ _ _ rfl HE.out.2.2 Try.underlying50 rfl (by kernel_rfl)) rfl ?_
    refine got_rune rfl HE.out.1 HE.out.2.1 H4.out.2.2.2.2.2 HH.out.2.2.1 (by rw [H4.out.2.2.2.1, HS.out.1, ← HO.out]; cases o <;> rfl) (fun re r e => ?_)
    rw [HS.out.1, ← HO.out] at e
    obtain ⟨p, hp, e⟩ := Option.map_eq_some_iff.1 e
    have hp := H4.out.2.2.2.2.1 p hp
    subst hp
    injection e with e1 e2
    subst e1 e2
    exact ⟨rfl, cls_frag M _⟩
  · subst hL
    rw [hpa] at hs2 hv4
    obtain ⟨g, n0, cc, rfl⟩ := hv4 hca
    have hg0 := hv2 g rfl
    obtain ⟨A, c, hc, hs, h1, h2, h3⟩ := r3.rd.ex
    obtain ⟨n, hn⟩ : ∃ n, n = (a :: r).length := ⟨_, rfl⟩
    have hn1 : n = r.length + 1 := by rw [hn]; rfl
    rw [← hn] at hc h1
    have x1 := hc.cell 1
    have f1 := hc.free 1
    have y3 := c3.cell 0
    simp only [List.getElem?_cons_zero, List.getElem?_cons_succ] at x1 y3
    obtain ⟨w4, hw4⟩ : ∃ w4, w4 = w3.setCell ⟨rb, 1, none⟩ (.slice (cutA A 1 c 1) (n - 1) (c - 1)) := ⟨_, rfl⟩
    have k4 : Kp [rb] w3 w4 := by rw [hw4]; exact (Kp.refl _ _).setCell (fun _ => by simp) _
    have rd4 : RdAt w4 rb mb N r d false := by rw [hw4]; exact RdAt.cut 1 hc hs hn h1 h2 h3 (by omega)
    have r4 := r3.read k4 rd4
    have p4 := p3.keep k4 (by simpa using HH.out.2.2.2.2.2.1)
    have K4 := (Rew.of_kept E rb K3).trans (Rew.of_kp E rb k4)
    have hgbr : gb ≠ rb := fun e => absurd (HR0.out.lt rb (.inl HH.out.1.rR)) (by omega)
    have hgr2 : g ≠ rb := fun e => absurd (HR0.out.lt rb (.inl HH.out.1.rR)) (by omega)
    have hfn := slash1_fn w4 (fun x => E x ∨ (R x ∨ x = gc)) gb g n0 cc (classR a) ((c3.keep k4 (by simpa using hgbr)).cell 0) (fun hh => by
        rcases hh with hh | hh
        · exact absurd (HR0.out.mach.lt _ hh) (by omega)
        · exact absurd (HR0.out.lt _ hh) (by omega)) (c3.keep k4 (by simpa using hgbr)).lt
      (OwnN.keep (OwnN.kept hs2 k3) k4 (fun g' e => by injection e with e; subst e; simpa using hgr2)) (fun hh => by
        rcases hh with hh | hh
        · exact absurd (HR0.out.mach.lt _ hh) (by omega)
        · exact absurd (HR0.out.lt _ hh) (by omega)) (by unfold classR; split; decide; split; decide; split; decide; decide)
    have q5 := mrune_any w4 mb E _ M r4.mach HH.out.2.1 r4.lt _ _ hfn
    obtain ⟨A4, c4, hc4, -, -, -, -⟩ := rd4.ex
    have z0 := hc4.cell 0
    simp only [List.getElem?_cons_zero] at z0
    have HW4 := hid hw4
    have b0 : (1 : Int) ≤ (n : Int) := by omega
    have b1 : decide ((1 : Int) ≤ (n : Int)) = true := decide_eq_true b0
    have b2 : 1 ≤ n := by omega
    have b3 : c ≤ 9223372036854775807 := by omega
    have H4 := hid (And.intro r4 (And.intro p4 (And.intro K4 hca)))
    clear hs2 k2 hv2 hv3 hv4 hw3 hgb k3 c3 r3 p3 K3 hpa hgb0 hca hg0 hc hs h1 h2 h3 hn hn1 hw4 k4 rd4 r4 p4 K4 hgbr hgr2 hfn hc4 A4 c4
    go_upto_region 2 with fail
    rw [← HW3.out]
    try rw [← HGB.out]
    clear HW3 HGB
    go_upto_region 4 with fail
    rw [← HW4.out]
    clear HW4 x1 f1 y3 b0 b1 b2 b3
    go_wp2_with fail
    (with_reducible refine q5.mono ?_)
    clear q5 z0
    rintro e w5 ⟨rfl, E1, m5, g5⟩
    have r5 := H4.out.1.grew m5 g5
    have p5 := g5.kq.cells H4.out.2.1 HH.out.2.2.2.2.1
    have K5 := H4.out.2.2.1.trans (Rew.of_grew rb g5)
    obtain ⟨w6, hw6, r6, K6, c6⟩ := r5.result HH.out.1.rR HH.out.2.2.2.2.2.1 HH.out.2.2.2.2.2.2.1 HH.out.2.2.2.2.2.2.2.2 K5 p5 (.int .i64 ((M.length : Int) + 1)) (.int .i64 (M.length : Int))
    have HE := hid (And.intro r6 (And.intro K6 c6))
    have HY := hid hw6
    have y0 := p5.cell 0
    have y1 := p5.cell 1
    have f0 := p5.free 0
    have f1 := p5.free 1
    simp only [List.getElem?_cons_zero, List.getElem?_cons_succ] at y0 y1
    clear r5 p5 K5 r6 K6 c6 hw6 m5 g5
    go_wp2_with fail
    rw [← HY.out]
    refine bodyPost_ret (results_cell_row rfl _ _ gc 50 _ _ _ rfl HE.out.2.2 Try.underlying50 rfl (by kernel_rfl)) rfl ?_
    have hsl : slashR (a :: r) = some (.cls (inR (classR a)), r) := by rw [slash_cons, if_pos H4.out.2.2.2]
    refine got_rune rfl HE.out.1 HE.out.2.1 (by simp) HH.out.2.2.1 (by rw [hsl]; rfl) (fun re r' e => ?_)
    rw [hsl] at e
    injection e with e
    injection e with e1 e2
    subst e1 e2
    exact ⟨rfl, cls_frag M _⟩
end Go.Proofs.Ytaaikjedagnjbaa

