/- The reader's items: what they are. -/
import Derived.Test.YtaaikjedagnjbaaRF
import Derived.Deep.DeepCutAuto
namespace Go.Proofs.Ytaaikjedagnjbaa
open Go Go.RowKit Go.Lib

/-- One item but a class: its runes. -/
def pairR (l : List Nat) : Option ((Nat × Nat) × List Nat) :=
  match singleR l with
  | none => none
  | some (lo, r) => match r with
    | [] => some ((lo, lo), [])
    | c :: r' => if c = 45 then (match singleR r' with | none => none | some (hi, r'') => if hi < lo then none else some ((lo, hi), r'')) else some ((lo, lo), c :: r')
/-- Whether an item is a class. -/
def clsB (l : List Nat) : Bool := decide (l.head? = some 92 ∧ classR ((l.drop 1).headD 0) ≠ [])
theorem item_cls {l : List Nat} (h : clsB l = true) : itemR l = some (classR ((l.drop 1).headD 0), l.drop 2) := by
  unfold itemR
  rw [if_pos (of_decide_eq_true h)]
theorem item_pair {l : List Nat} (h : clsB l = false) : itemR l = (pairR l).map fun p => ([p.1], p.2) := by
  unfold itemR pairR
  rw [if_neg (of_decide_eq_false h)]
  cases singleR l with
  | none => rfl
  | some p =>
    obtain ⟨lo, r⟩ := p
    cases r with
    | nil => rfl
    | cons c r' =>
      dsimp only
      split
      · cases singleR r' with
        | none => rfl
        | some q =>
          obtain ⟨hi, r''⟩ := q
          dsimp only
          split <;> rfl
      · rfl
/-- Items up to a bracket, behind some. -/
def itemsOf (acc : List (Nat × Nat)) (l : List Nat) : Option (List (Nat × Nat) × List Nat) := itemsR (l.length + 1) acc l
theorem itemsOf_nil (acc : List (Nat × Nat)) : itemsOf acc [] = none := rfl
theorem itemsOf_end (acc : List (Nat × Nat)) (r : List Nat) : itemsOf acc (93 :: r) = some (acc, r) := by
  unfold itemsOf
  unfold itemsR
  simp
theorem itemsOf_cons (acc : List (Nat × Nat)) {c : Nat} (r : List Nat) (hc : c ≠ 93) : itemsOf acc (c :: r) = (itemR (c :: r)).bind fun p => itemsOf (acc ++ p.1) p.2 := by
  unfold itemsOf
  conv => lhs; unfold itemsR
  simp only [if_neg hc]
  cases h : itemR (c :: r) with
  | none => rfl
  | some p =>
    obtain ⟨x, l1⟩ := p
    have h2 : l1.length < (c :: r).length := item_len h
    show itemsR (c :: r).length (acc ++ x) l1 = itemsR (l1.length + 1) (acc ++ x) l1
    exact items_fuel _ _ (acc ++ x) l1 h2 (Nat.lt_succ_self _)
theorem itemsOf_none {acc : List (Nat × Nat)} {l : List Nat} (h : hits [93] false l = false) (hi : itemR l = none) : itemsOf acc l = none := by
  cases l with
  | nil => rfl
  | cons c r =>
    have hc : c ≠ 93 := fun e => by subst e; cases h
    rw [itemsOf_cons acc r hc, hi]; rfl
theorem itemsOf_some {acc x : List (Nat × Nat)} {l l1 : List Nat} (h : hits [93] false l = false) (hi : itemR l = some (x, l1)) : itemsOf acc l = itemsOf (acc ++ x) l1 := by
  cases l with
  | nil => have := item_len hi; simp at this
  | cons c r =>
    have hc : c ≠ 93 := fun e => by subst e; cases h
    rw [itemsOf_cons acc r hc, hi]; rfl
/-- What stands behind a bracket, by its items. -/
def brackOf (nt : Bool) : Option (List (Nat × Nat) × List Nat) → Option (Re × List Nat)
  | none => none
  | some (s, l1) => if s = [] then none else some (.cls fun c => inR s c != nt, l1)
theorem brack_of (L : List Nat) (nt : Bool) (h : nt = hits [94] false L) : brackR L = brackOf nt (itemsOf [] (if nt then L.tail else L)) := by
  unfold brackR
  cases L with
  | nil => subst h; rfl
  | cons c r =>
    by_cases hc : c = 94
    · subst hc
      subst h
      show (match itemsR ((94 :: r).length + 1) [] r with | none => none | some (s, l1) => if s = [] then none else some (Re.cls fun c => inR s c != true, l1)) = brackOf true (itemsOf [] r)
      unfold itemsOf
      rw [items_fuel ((94 :: r).length + 1) (r.length + 1) [] r (by simp only [List.length_cons]; omega) (by omega)]
      rfl
    · have e1 : nt = false := by
        rw [h]
        show (!false && ([94] : List UInt8).any fun b => b.toNat == c) = false
        simp
        omega
      subst e1
      have e2 : ¬ (c :: r).head? = some 94 := by simpa using hc
      rw [if_neg e2]
      have e3 : decide ((c :: r).head? = some 94) = false := decide_eq_false e2
      rw [e3]
      rfl
theorem items_got {w w' : World} {rb mb d : Nat} {N E E' R : Nat → Prop} {M : List St} {L Lt : List Nat} {acc : List (Nat × Nat)} {nt bad bo : Bool} {res : Option (Re × List Nat)} {its : Option (List (Nat × Nat) × List Nat)} {e : Ending}
    (hres : res = brackOf nt its) (hi : (bad = true ∧ its = none) ∨ (bad = false ∧ its = some (acc, Lt))) (he : e = .returned (partV (M.length + 1) M.length)) (hbo : bo = (bad || decide (acc.length = 0)))
    (h : Ready w' rb mb N E' R (M ++ [⟨none, none, []⟩, { (⟨none, none, [M.length]⟩ : St) with tk := some fun c => inR acc c != nt }]) Lt d bo) (r : Rew w E rb w' E') (hL : Lt.length ≤ L.length) (hd : d ≤ 7) :
    Got w rb mb N E R M L d 0 3 res e w' := by
  subst he
  have hb : bo = res.isNone := by
    rw [hres, hbo]
    rcases hi with ⟨rfl, rfl⟩ | ⟨rfl, rfl⟩
    · rfl
    · simp only [Bool.false_or, brackOf]
      by_cases ha : acc = []
      · rw [if_pos ha, ha]; rfl
      · rw [if_neg ha]
        have : acc.length ≠ 0 := fun e => ha (List.eq_nil_of_length_eq_zero e)
        rw [decide_eq_false this]; rfl
  refine got_rune rfl h r hL hd hb (fun re r' e => ?_)
  rw [hres] at e
  rcases hi with ⟨rfl, rfl⟩ | ⟨rfl, rfl⟩
  · cases e
  · simp only [brackOf] at e
    split at e
    · cases e
    · injection e with e
      injection e with e1 e2
      subst e1 e2
      exact ⟨rfl, cls_frag M _⟩
theorem spanInfo : (Try.prog.info? 102).map (fun i => (i.zero, i.size, i.bytes)) = some (some (.agg #[.int .i32 0, .int .i32 0]), 2, 8) := by kernel_rfl
theorem spansV_snoc (l m : List (Nat × Nat)) : spansV (l ++ m) = spansV l ++ spansV m := by simp [spansV]
theorem spansV_one (l : List (Nat × Nat)) : ∀ u ∈ spansV l, u.oneCell' = true := by
  intro u hu
  obtain ⟨s, _, hs⟩ := List.mem_flatMap.1 hu
  simp only [spanV, List.mem_cons, List.not_mem_nil, or_false] at hs
  rcases hs with h | h <;> rw [h] <;> rfl
theorem class_len (c : Nat) : (classR c).length ≤ 4 := by unfold classR; split; decide; split; decide; split; decide; decide
theorem cls_shape {l : List Nat} (h : clsB l = true) : ∃ b r, l = 92 :: b :: r ∧ classR b ≠ [] := by
  obtain ⟨h1, h2⟩ := of_decide_eq_true h
  cases l with
  | nil => cases h1
  | cons a r =>
    injection h1 with h1
    subst h1
    cases r with
    | nil => exact absurd rfl h2
    | cons b r => exact ⟨b, r, rfl, h2⟩
end Go.Proofs.Ytaaikjedagnjbaa

/- The reader's items. -/
namespace Go.Proofs.Ytaaikjedagnjbaa
open Go Go.RowKit Go.Lib

set_option maxRecDepth 100000 in
set_option maxHeartbeats 12800000 in
theorem items_any (w : World) (rb mb : Nat) (N E R : Nat → Prop) (M : List St) (L : List Nat) (d : Nat) (h : Ready w rb mb N E R M L d false) (hM : M.length ≤ 900000) (hd : d ≤ 7) (hL : L.length ≤ 1000) :
    Calls Try.prog 56 #[.pointer (some ⟨rb, 0, none⟩)] w fun e w' => Got w rb mb N E R M L d 0 3 (brackR L) e w' := by
  have hmf : ∀ (fn : Fn) (first cap : Array Value) (w : World), (Instr.makeFunc fn first cap).run Try.prog w = .ok (.func fn first cap) w := fun _ _ _ _ => rfl
  obtain ⟨gc, hgc⟩ : ∃ g, g = w.heap.size := ⟨_, rfl⟩
  obtain ⟨w0, hw0⟩ : ∃ w0, w0 = w.alloc (.cells #[.int .i64 0, .int .i64 0] 50) := ⟨_, rfl⟩
  have k0 : Kp [] w w0 := by rw [hw0]; exact (Kp.refl _ _).alloc _
  have c0 : Cells w0 gc 50 [.int .i64 0, .int .i64 0] := by rw [hw0, hgc]; exact Cells.fresh w 50 _
  have h0 : Ready w0 rb mb N E (fun x => R x ∨ x = gc) M L d false := h.move k0 (fun x hx => by
    rcases hx with hx | hx
    · exact .inl hx
    · exact .inr ⟨by omega, by rw [hx]; exact c0.lt⟩) (.inl h.rR)
  have hgE : ¬ E gc := h.fresh (by omega)
  have hgr : gc ≠ rb := fun e => absurd (h.lt rb h.rR) (by omega)
  have hgN : ¬ N gc := fun e => absurd (h.nE gc e).2 (by omega)
  have qn := next_any w0 rb mb N L d false h0.rd ⟨#[94]⟩ (ascii_of _ (by decide)) (by decide)
  obtain ⟨nt, hnt⟩ : ∃ b, b = hits (⟨#[94]⟩ : ByteArray).data.toList false L := ⟨_, rfl⟩
  rw [← hnt] at qn
  have hbr := brack_of L nt hnt
  obtain ⟨L1, hL1⟩ : ∃ L1, L1 = if nt then L.tail else L := ⟨_, rfl⟩
  rw [← hL1] at qn hbr
  have hl1 : L1.length ≤ L.length := by rw [hL1]; split <;> simp
  obtain ⟨pk, hpk⟩ : ∃ p, p = peekR false L := ⟨_, rfl⟩
  rw [← hpk] at qn
  have HH := hid (And.intro h (And.intro hM (And.intro hd (And.intro k0 (And.intro hgE (And.intro hgr (And.intro hgN (Nat.le_of_eq hgc.symm))))))))
  have HR0 := hid h0
  have HC0 := hid c0
  have HW0 := hid hw0
  have HGC := hid hgc
  have HB := hid hbr
  have HL1 := hid hl1
  have HL := hid hL
  clear h h0 c0 hw0 hgc hM hd k0 hgE hgr hgN hnt hbr hL1 hl1 hpk hL
  go_enter Try.func56, Try.ntmps56
  go_upto_region 1 with fail
  rw [← HW0.out]
  try rw [← HGC.out]
  clear HW0 HGC
  go_wp2_with fail
  (with_reducible refine qn.mono ?_)
  clear qn
  rintro e w1 ⟨rfl, rd1, k1⟩
  have r1 := HR0.out.read k1 rd1
  have p1 := HC0.out.keep k1 (by simpa using HH.out.2.2.2.2.2.1)
  have K1 := (Rew.of_kept E rb HH.out.2.2.2.1).trans (Rew.of_kp E rb k1)
  have H1 := hid (And.intro r1 (And.intro p1 K1))
  obtain ⟨nb, hnb⟩ : ∃ g, g = w1.heap.size := ⟨_, rfl⟩
  obtain ⟨w2, hw2⟩ : ∃ w2, w2 = w1.alloc (.cells #[.bool nt] 4) := ⟨_, rfl⟩
  have k2 : Kp [] w1 w2 := by rw [hw2]; exact (Kp.refl _ _).alloc _
  have c2 : Cells w2 nb 4 [.bool nt] := by rw [hw2, hnb]; exact Cells.fresh w1 4 _
  have s2 : w2.heap.size = w1.heap.size + 1 := by rw [hw2]; simp
  obtain ⟨lb, hlb⟩ : ∃ g, g = w2.heap.size := ⟨_, rfl⟩
  obtain ⟨w3, hw3⟩ : ∃ w3, w3 = w2.alloc (.cells #[.slice none 0 0] 99) := ⟨_, rfl⟩
  have k3 : Kp [] w2 w3 := by rw [hw3]; exact (Kp.refl _ _).alloc _
  have c3 : Cells w3 lb 99 [.slice none 0 0] := by rw [hw3, hlb]; exact Cells.fresh w2 99 _
  have H3L : Hid (lb < w3.heap.size) := hid (by rw [hw3, hlb]; simp)
  have H1S : Hid (w0.heap.size ≤ w1.heap.size) := hid k1.size
  have H3 : Hid (Kp [] w1 w3 ∧ w1.heap.size ≤ nb ∧ w1.heap.size ≤ lb ∧ nb ≠ lb ∧ Cells w3 nb 4 [.bool nt]) := hid ⟨k2.nil k3, by omega, by omega, by omega, c2.keep k3 (by simp)⟩
  have HI : Hid (Kp [rb, lb] w3 w3 ∧ RdAt w3 rb mb N L1 d false ∧ Cells w3 lb 99 [.slice none 0 0] ∧ SpansAt w3 (.slice none 0 0) [] ∧ (∀ g, (Value.slice none 0 0).ownBlock = some g → w3.heap.size ≤ g) ∧ 4 * L1.length ≤ 4000) :=
    hid ⟨Kp.refl _ _, rd1.kept (k2.nil k3), c3, OwnN.nil _ _ _, (fun g e => by cases e), by have := HL.out; have := HL1.out; omega⟩
  have HW2 := hid hw2
  have HW3 := hid hw3
  have HNB := hid hnb
  have HLB := hid hlb
  clear rd1 k1 r1 p1 K1 hnb hw2 k2 c2 s2 hlb hw3 k3 c3
  go_upto_region 2 with fail
  rw [← HW2.out]
  try rw [← HNB.out]
  go_wp2_with fail
  rw [← HW3.out]
  try rw [← HLB.out]
  clear HW2 HW3 HNB HLB
  go_loopg [6, 7, 8, 9, 10] 2000 (fun g _ _ _ _ _ wr => ∃ v acc Lr bad, (Kp [rb, lb] w3 wr ∧ RdAt wr rb mb N Lr d bad ∧ Cells wr lb 99 [v] ∧ SpansAt wr v acc ∧ (∀ g, v.ownBlock = some g → w3.heap.size ≤ g) ∧ acc.length + 4 * Lr.length ≤ 4000 + (if bad then 1 else 0) ∧ Lr.length ≤ L1.length ∧
    itemsOf [] L1 = (if bad then none else itemsOf acc Lr)) ∧ (if bad then 0 else Lr.length + 1) ≤ g)
  case atStart =>
    obtain ⟨i1, i2, i3, i4, i5, i6⟩ := HI.out
    exact ⟨_, [], L1, false, ⟨i1, i2, i3, i4, i5, by simpa using i6, Nat.le_refl _, rfl⟩, by have := HL.out; have := HL1.out; simp; omega⟩
  case round =>
    obtain ⟨v, acc, Lr, bad, ⟨kr, rdr, clr, spr, newr, hacr, hLr, hresr⟩, hms⟩ := hrel
    obtain ⟨A, c, hc, -, -, -, -⟩ := rdr.ex
    have x3 := hc.cell 3
    simp only [List.getElem?_cons_zero, List.getElem?_cons_succ] at x3
    cases bad with
    | true =>
      simp only [if_true] at hacr hresr
      have HX : Hid (Kp [rb, lb] w3 wr ∧ RdAt wr rb mb N Lr d true ∧ Cells wr lb 99 [v] ∧ SpansAt wr v acc ∧ (∀ g, v.ownBlock = some g → w3.heap.size ≤ g) ∧ acc.length ≤ 5000 ∧ Lr.length ≤ L1.length ∧ itemsOf [] L1 = none) := hid ⟨kr, rdr, clr, spr, newr, by omega, hLr, hresr⟩
      clear kr rdr clr spr newr hacr hLr hresr hms hc A c HI x3
      obtain ⟨kt, rdt, clt, spt, newt, hac, hLr, hres⟩ := HX.out
      obtain ⟨Av, cv, rfl, -, hcv, -, -⟩ := OwnN.shape spt
      obtain ⟨na, hna⟩ : ∃ n, n = acc.length := ⟨_, rfl⟩
      obtain ⟨z, hz⟩ : ∃ z, z = decide (na = 0) := ⟨_, rfl⟩
      have ez : ((na : Int) == 0) = z := by rw [hz, Bool.eq_iff_iff, beq_iff_eq, decide_eq_true_eq]; omega
      obtain ⟨A, c, hc, -, -, -, -⟩ := rdt.ex
      have x3 := hc.cell 3
      have f3 := hc.free 3
      have t0 := clt.cell 0
      simp only [List.getElem?_cons_zero, List.getElem?_cons_succ] at x3 t0
      obtain ⟨w16, hw16⟩ : ∃ w16, w16 = wr.setCell ⟨rb, 3, none⟩ (.bool true) := ⟨_, rfl⟩
      have k16 : Kp [rb] wr w16 := by rw [hw16]; exact (Kp.refl _ _).setCell (fun _ => by simp) _
      have rd16 : RdAt w16 rb mb N Lr d true := by rw [hw16]; exact rdt.mark _
      have kt2 : Kp [rb, lb] w3 w16 := kt.trans k16 (fun x hx _ => by simp at hx; simp [hx])
      obtain ⟨k13, hnb1, hlb1, hnl, c2⟩ := H3.out
      have k116 : Kp [rb] w1 w16 := ((k13.mono (by simp) : Kp [rb, lb] w1 w3).trans kt2 (fun _ hx _ => hx)).less (fun x hx hlt => by
        rcases List.mem_cons.1 hx with h | h
        · exact List.mem_singleton.2 h
        · have := List.mem_singleton.1 h; omega)
      have r16 := H1.out.1.read k116 rd16
      have p16 := H1.out.2.1.keep k116 (by simpa using HH.out.2.2.2.2.2.1)
      have K16 := (H1.out.2.2).trans (Rew.of_kp E rb k116)
      have hgbr : lb ≠ rb := fun e => absurd (H1.out.1.lt rb (.inl HH.out.1.rR)) (by omega)
      have hlb16 : Cells w16 lb 99 _ := clt.keep k16 (by simpa using hgbr)
      have hnb16 : Cells w16 nb 4 _ := c2.keep kt2 (by
        have := H1.out.1.lt rb (.inl HH.out.1.rR)
        simp only [List.mem_cons, List.not_mem_nil, or_false, not_or]
        exact ⟨by omega, hnl⟩)
      have hnewO : ∀ x, w1.heap.size ≤ x → ¬ (E x ∨ (R x ∨ x = gc)) := fun x hx hh => by
        rcases hh with hh | hh
        · exact absurd (H1.out.1.mach.lt _ hh) (by omega)
        · exact absurd (H1.out.1.lt _ hh) (by omega)
      have hfn := items1_fn w16 (fun x => E x ∨ (R x ∨ x = gc)) lb nb _ nt acc (hlb16.cell 0) (hnewO _ hlb1) hlb16.lt (hnb16.cell 0) (hnewO _ hnb1) hnb16.lt
        (OwnN.keep spt k16 (fun g e => by have := newt g e; have := H1.out.1.lt rb (.inl HH.out.1.rR); have := k13.size; simp; omega)) (fun g e => hnewO g (by have := newt g e; have := k13.size; omega)) (by omega)
      have q5 := mrune_any w16 mb E _ M r16.mach HH.out.2.1 r16.lt _ _ hfn
      obtain ⟨A4, c4, hc4, -, -, -, -⟩ := rd16.ex
      have z0 := hc4.cell 0
      simp only [List.getElem?_cons_zero] at z0
      have HW16 := hid hw16
      rw [← hna] at t0
      have H16 := hid (And.intro r16 (And.intro p16 (And.intro K16 (And.intro hLr (And.intro hres (And.intro hna hz))))))
      clear kt rdt clt spt newt hac hLr hres hcv hna hz hc hw16 k16 rd16 kt2 k13 hnb1 hlb1 hnl c2 k116 r16 p16 K16 hgbr hlb16 hnb16 hnewO hfn hc4 A4 c4 A c HX
      go_upto_region 17 with fail
      rw [← HW16.out]
      clear HW16 x3 f3 t0 ez
      go_wp2_with fail
      (with_reducible refine q5.mono ?_)
      clear q5 z0
      rintro e w5 ⟨rfl, E1, m5, g5⟩
      have r5 := H16.out.1.grew m5 g5
      have p5 := g5.kq.cells H16.out.2.1 HH.out.2.2.2.2.1
      have K5 := H16.out.2.2.1.trans (Rew.of_grew rb g5)
      obtain ⟨w6, hw6, r6, K6, c6⟩ := r5.result HH.out.1.rR HH.out.2.2.2.2.2.1 HH.out.2.2.2.2.2.2.1 HH.out.2.2.2.2.2.2.2 K5 p5 (.int .i64 ((M.length : Int) + 1)) (.int .i64 (M.length : Int))
      have HE := hid (And.intro r6 (And.intro K6 c6))
      have HY := hid hw6
      have y0 := p5.cell 0
      have y1 := p5.cell 1
      have f0 := p5.free 0
      have f1 := p5.free 1
      simp only [List.getElem?_cons_zero, List.getElem?_cons_succ] at y0 y1
      clear r5 p5 K5 r6 K6 c6 hw6 m5 g5
      go_wp2_with fail
      rw [← HY.out]
      refine bodyPost_ret (results_cell_row rfl _ _ gc 50 _ _ _ rfl HE.out.2.2 Try.underlying50 rfl (by kernel_rfl)) rfl ?_
      obtain ⟨-, -, -, hLr, hres, hna, hz⟩ := H16.out
      exact items_got HB.out (.inl ⟨rfl, hres⟩) rfl rfl HE.out.1 HE.out.2.1 (Nat.le_trans hLr HL1.out) HH.out.2.2.1
    | false =>
      simp only [Bool.false_eq_true, if_false] at hacr hresr hms
      have q4 := next_any wr rb mb N Lr d false rdr ⟨#[93]⟩ (ascii_of _ (by decide)) (by decide)
      obtain ⟨hit, hhit⟩ : ∃ b, b = hits (⟨#[93]⟩ : ByteArray).data.toList false Lr := ⟨_, rfl⟩
      rw [← hhit] at q4
      obtain ⟨pr, hpr⟩ : ∃ p, p = peekR false Lr := ⟨_, rfl⟩
      rw [← hpr] at q4
      have HRR := hid (And.intro kr (And.intro clr (And.intro spr (And.intro newr (And.intro hacr (And.intro hLr (And.intro hresr hms)))))))
      clear kr rdr clr spr newr hacr hLr hresr hms hc A c HI hpr
      have HIT := hid hhit
      clear hhit
      cases hit with
      | true =>
        simp only [if_true] at q4
        go_upto_region 4 with fail
        clear x3
        go_wp2_with fail
        (with_reducible refine q4.mono ?_)
        clear q4
        rintro e w4 ⟨rfl, rd4, k4⟩
        obtain ⟨kr, clr, spr, newr, hacr, hLr, hresr, hms⟩ := HRR.out
        obtain ⟨Lt, hLt⟩ : ∃ Lt, Lr = 93 :: Lt := by
          have := HIT.out
          cases Lr with
          | nil => cases this
          | cons a r =>
            have : true = (!false && ([93] : List UInt8).any fun b => b.toNat == a) := this
            simp at this
            exact ⟨r, by rw [this]⟩
        have hgbr : lb ≠ rb := fun e => absurd (H1.out.1.lt rb (.inl HH.out.1.rR)) (by have := H3.out.2.2.1; omega)
        have HX : Hid (Kp [rb, lb] w3 w4 ∧ RdAt w4 rb mb N Lt d false ∧ Cells w4 lb 99 [v] ∧ SpansAt w4 v acc ∧ (∀ g, v.ownBlock = some g → w3.heap.size ≤ g) ∧ acc.length ≤ 5000 ∧ Lt.length ≤ L1.length ∧ itemsOf [] L1 = some (acc, Lt)) :=
          hid ⟨kr.trans k4 (fun x hx _ => by simp at hx; simp [hx]), by rw [hLt] at rd4; exact rd4, clr.keep k4 (by simpa using hgbr), OwnN.keep spr k4 (fun g e => by have := newr g e; have := H1.out.1.lt rb (.inl HH.out.1.rR); have := H3.out.1.size; simp; omega), newr, by omega, by rw [hLt] at hLr; simp at hLr; omega, by rw [hresr, hLt, itemsOf_end]⟩
        clear kr clr spr newr hacr hLr hresr hms hgbr rd4 k4 hLt
        obtain ⟨kt, rdt, clt, spt, newt, hac, hLt, hres⟩ := HX.out
        obtain ⟨Av, cv, rfl, -, hcv, -, -⟩ := OwnN.shape spt
        obtain ⟨na, hna⟩ : ∃ n, n = acc.length := ⟨_, rfl⟩
        obtain ⟨z, hz⟩ : ∃ z, z = decide (na = 0) := ⟨_, rfl⟩
        have ez : ((na : Int) == 0) = z := by rw [hz, Bool.eq_iff_iff, beq_iff_eq, decide_eq_true_eq]; omega
        obtain ⟨A, c, hc, -, -, -, -⟩ := rdt.ex
        have x3 := hc.cell 3
        have f3 := hc.free 3
        have t0 := clt.cell 0
        simp only [List.getElem?_cons_zero, List.getElem?_cons_succ] at x3 t0
        obtain ⟨w16, hw16⟩ : ∃ w16, w16 = w4.setCell ⟨rb, 3, none⟩ (.bool z) := ⟨_, rfl⟩
        have k16 : Kp [rb] w4 w16 := by rw [hw16]; exact (Kp.refl _ _).setCell (fun _ => by simp) _
        have rd16 : RdAt w16 rb mb N Lt d z := by rw [hw16]; exact rdt.mark _
        have kt2 : Kp [rb, lb] w3 w16 := kt.trans k16 (fun x hx _ => by simp at hx; simp [hx])
        obtain ⟨k13, hnb1, hlb1, hnl, c2⟩ := H3.out
        have k116 : Kp [rb] w1 w16 := ((k13.mono (by simp) : Kp [rb, lb] w1 w3).trans kt2 (fun _ hx _ => hx)).less (fun x hx hlt => by
          rcases List.mem_cons.1 hx with h | h
          · exact List.mem_singleton.2 h
          · have := List.mem_singleton.1 h; omega)
        have r16 := H1.out.1.read k116 rd16
        have p16 := H1.out.2.1.keep k116 (by simpa using HH.out.2.2.2.2.2.1)
        have K16 := (H1.out.2.2).trans (Rew.of_kp E rb k116)
        have hgbr : lb ≠ rb := fun e => absurd (H1.out.1.lt rb (.inl HH.out.1.rR)) (by omega)
        have hlb16 : Cells w16 lb 99 _ := clt.keep k16 (by simpa using hgbr)
        have hnb16 : Cells w16 nb 4 _ := c2.keep kt2 (by
          have := H1.out.1.lt rb (.inl HH.out.1.rR)
          simp only [List.mem_cons, List.not_mem_nil, or_false, not_or]
          exact ⟨by omega, hnl⟩)
        have hnewO : ∀ x, w1.heap.size ≤ x → ¬ (E x ∨ (R x ∨ x = gc)) := fun x hx hh => by
          rcases hh with hh | hh
          · exact absurd (H1.out.1.mach.lt _ hh) (by omega)
          · exact absurd (H1.out.1.lt _ hh) (by omega)
        have hfn := items1_fn w16 (fun x => E x ∨ (R x ∨ x = gc)) lb nb _ nt acc (hlb16.cell 0) (hnewO _ hlb1) hlb16.lt (hnb16.cell 0) (hnewO _ hnb1) hnb16.lt
          (OwnN.keep spt k16 (fun g e => by have := newt g e; have := H1.out.1.lt rb (.inl HH.out.1.rR); have := k13.size; simp; omega)) (fun g e => hnewO g (by have := newt g e; have := k13.size; omega)) (by omega)
        have q5 := mrune_any w16 mb E _ M r16.mach HH.out.2.1 r16.lt _ _ hfn
        obtain ⟨A4, c4, hc4, -, -, -, -⟩ := rd16.ex
        have z0 := hc4.cell 0
        simp only [List.getElem?_cons_zero] at z0
        have HW16 := hid hw16
        rw [← hna] at t0
        have H16 := hid (And.intro r16 (And.intro p16 (And.intro K16 (And.intro hLt (And.intro hres (And.intro hna hz))))))
        clear kt rdt clt spt newt hac hLt hres hcv hna hz hc hw16 k16 rd16 kt2 k13 hnb1 hlb1 hnl c2 k116 r16 p16 K16 hgbr hlb16 hnb16 hnewO hfn hc4 A4 c4 A c HX
        go_upto_region 17 with fail
        rw [← HW16.out]
        clear HW16 x3 f3 t0 ez
        go_wp2_with fail
        (with_reducible refine q5.mono ?_)
        clear q5 z0
        rintro e w5 ⟨rfl, E1, m5, g5⟩
        have r5 := H16.out.1.grew m5 g5
        have p5 := g5.kq.cells H16.out.2.1 HH.out.2.2.2.2.1
        have K5 := H16.out.2.2.1.trans (Rew.of_grew rb g5)
        obtain ⟨w6, hw6, r6, K6, c6⟩ := r5.result HH.out.1.rR HH.out.2.2.2.2.2.1 HH.out.2.2.2.2.2.2.1 HH.out.2.2.2.2.2.2.2 K5 p5 (.int .i64 ((M.length : Int) + 1)) (.int .i64 (M.length : Int))
        have HE := hid (And.intro r6 (And.intro K6 c6))
        have HY := hid hw6
        have y0 := p5.cell 0
        have y1 := p5.cell 1
        have f0 := p5.free 0
        have f1 := p5.free 1
        simp only [List.getElem?_cons_zero, List.getElem?_cons_succ] at y0 y1
        clear r5 p5 K5 r6 K6 c6 hw6 m5 g5
        go_wp2_with fail
        rw [← HY.out]
        refine bodyPost_ret (results_cell_row rfl _ _ gc 50 _ _ _ rfl HE.out.2.2 Try.underlying50 rfl (by kernel_rfl)) rfl ?_
        obtain ⟨-, -, -, hLt, hres, hna, hz⟩ := H16.out
        exact items_got HB.out (.inr ⟨rfl, hres⟩) rfl (by rw [hz, hna]; rfl) HE.out.1 HE.out.2.1 (Nat.le_trans hLt HL1.out) HH.out.2.2.1
      | false =>
        simp only [Bool.false_eq_true, if_false] at q4
        go_upto_region 4 with fail
        clear x3
        go_wp2_with fail
        (with_reducible refine q4.mono ?_)
        clear q4
        rintro e w4 ⟨rfl, rd4, k4⟩
        obtain ⟨kr, clr, spr, newr, hacr, hLr, hresr, hms⟩ := HRR.out
        have hgbr : lb ≠ rb := fun e => absurd (H1.out.1.lt rb (.inl HH.out.1.rR)) (by have := H3.out.2.2.1; omega)
        have hvr : ∀ g, v.ownBlock = some g → g ∉ [rb] := fun g e => by have := newr g e; have := H1.out.1.lt rb (.inl HH.out.1.rR); have := H3.out.1.size; simp; omega
        have H4 : Hid (Kp [rb, lb] w3 w4 ∧ RdAt w4 rb mb N Lr d false ∧ Cells w4 lb 99 [v] ∧ SpansAt w4 v acc) := hid ⟨kr.trans k4 (fun x hx _ => by simp at hx; simp [hx]), rd4, clr.keep k4 (by simpa using hgbr), OwnN.keep spr k4 hvr⟩
        have HV := hid (And.intro newr (And.intro hacr (And.intro hLr (And.intro hresr (And.intro hms (And.intro hgbr hvr))))))
        clear kr clr spr newr hacr hLr hresr hms hgbr hvr rd4 k4 HRR
        go_upto_region 6 with fail
        go_cut [51] (fun v51 wx => v51 = .bool (clsB Lr) ∧ Kp [] w4 wx)
        case first =>
          obtain ⟨A, c, hc, hs, h1, h2, h3⟩ := H4.out.2.1.ex
          have x1 := hc.cell 1
          simp only [List.getElem?_cons_zero, List.getElem?_cons_succ] at x1
          rcases Lr with _ | ⟨a, _ | ⟨b, r⟩⟩
          · simp only [List.length_nil] at x1
            clear hc hs h1 h2 h3
            go_wp2_with fail
            go_meet
            exact ⟨rfl, Kp.refl _ _⟩
          · simp only [List.length_singleton] at x1
            clear hc hs h1 h2 h3
            go_wp2_with fail
            go_meet
            exact ⟨by simp [clsB, classR], Kp.refl _ _⟩
          · obtain ⟨ad, rfl, y0⟩ := hs 0 (.int .i32 (a : Int)) rfl
            obtain ⟨ad', e', y1⟩ := hs 1 (.int .i32 (b : Int)) rfl
            injection e' with e'
            subst e'
            have ea : ad.add 0 = ad := by simp [Addr.add]
            rw [ea] at y0
            have ea1 : ad.add 1 = ⟨ad.block, ad.off + 1, none⟩ := by simp [Addr.add]
            rw [ea1] at y1
            clear ea1
            obtain ⟨n, hn⟩ : ∃ n, n = (a :: b :: r).length := ⟨_, rfl⟩
            have hn1 : 1 < n := by rw [hn]; simp
            rw [← hn] at x1 h1
            have b0 : (0 : Int) < (n : Int) := by omega
            have b1 : (1 : Int) < (n : Int) := by omega
            have b2 : decide ((1 : Int) < (n : Int)) = true := decide_eq_true b1
            have b3 : decide ((0 : Int) < (n : Int)) = true := decide_eq_true b0
            clear hc hs h1 h2 h3 hn ea
            by_cases ha : a = 92
            · subst ha
              simp only [show ((92 : Nat) : Int) = 92 from rfl] at y0
              have qc := class_any w4 (b : Int) (by omega)
              have ec : clsB (92 :: b :: r) = decide (classR b ≠ []) := by simp [clsB]
              have HEC := hid ec
              clear ec
              go_wp2_with fail
              (with_reducible refine qc.mono ?_)
              clear qc
              rintro e w5 ⟨v5, rfl, -, k5, -, n5, m5⟩
              have e5 : (b : Int).toNat = b := rfl
              rw [e5] at n5 m5
              have HK5 := hid k5
              clear k5 x1 y0 y1
              by_cases hcb : classR b = []
              · obtain rfl := n5 hcb
                clear n5 m5
                go_wp2_with fail
                go_meet
                exact ⟨by rw [HEC.out]; simp [hcb], HK5.out⟩
              · obtain ⟨g5, n5', c5, rfl⟩ := m5 hcb
                clear n5 m5
                go_wp2_with fail
                go_meet
                exact ⟨by rw [HEC.out]; simp [hcb], HK5.out⟩
            · have g0 : ((a : Int) == 92) = false := beq_eq_false_iff_ne.2 (by omega)
              have ec : clsB (a :: b :: r) = false := by simp [clsB, ha]
              have HEC := hid ec
              clear ec
              go_wp2_with fail
              go_meet
              exact ⟨by rw [HEC.out], Kp.refl _ _⟩
        case rest =>
          obtain ⟨rfl, kc⟩ := hcut
          have HC5 : Hid (Kp [rb, lb] w3 wc ∧ RdAt wc rb mb N Lr d false ∧ Cells wc lb 99 [v] ∧ SpansAt wc v acc) := hid ⟨H4.out.1.nil kc, H4.out.2.1.kept kc, H4.out.2.2.1.keep kc (by simp), OwnN.kept H4.out.2.2.2 kc⟩
          clear kc H4
          obtain ⟨cb, hcb⟩ : ∃ b, b = clsB Lr := ⟨_, rfl⟩
          rw [← hcb]
          have HCB := hid hcb
          clear hcb
          cases cb with
          | true =>
            go_upto_region 7 with fail
            obtain ⟨b, r, hLb, hcb⟩ := cls_shape HCB.out.symm
            obtain ⟨A, c, hc, hs, h1, h2, h3⟩ := HC5.out.2.1.ex
            obtain ⟨ad, rfl, y1⟩ := hs 1 (.int .i32 (b : Int)) (by rw [hLb]; rfl)
            have ea1 : ad.add 1 = ⟨ad.block, ad.off + 1, none⟩ := by simp [Addr.add]
            rw [ea1] at y1
            clear ea1
            obtain ⟨n, hn⟩ : ∃ n, n = Lr.length := ⟨_, rfl⟩
            have hn2 : n = r.length + 2 := by rw [hn, hLb]; rfl
            rw [← hn] at hc h1
            have x1 := hc.cell 1
            have f1 := hc.free 1
            have ylb := HC5.out.2.2.1.cell 0
            simp only [List.getElem?_cons_zero, List.getElem?_cons_succ] at x1 ylb
            have hnlb : lb ∉ v.ownBlock.toList := fun hm => by have := HV.out.1 _ (Option.mem_toList.1 hm); have := H3L.out; omega
            have hnrb : rb ∉ v.ownBlock.toList := fun hm => HV.out.2.2.2.2.2.2 _ (Option.mem_toList.1 hm) (by simp)
            have hnad : ad.block ∉ v.ownBlock.toList := fun hm => by
              have := HV.out.1 _ (Option.mem_toList.1 hm)
              have h5 := (HH.out.1.nE _ (h3 ad rfl).1).2
              have := HH.out.2.2.2.1.size
              have := H1S.out
              have := H3.out.1.size
              omega
            obtain ⟨na, hna⟩ : ∃ n, n = acc.length := ⟨_, rfl⟩
            have hsa := HC5.out.2.2.2
            unfold SpansAt at hsa
            rw [← hna] at hsa
            have hna4 : na ≤ 4000 := by have := HV.out.2.1; omega
            have b1 : (1 : Int) < (n : Int) := by omega
            have qc := fun W => class_any W (b : Int) (by omega)
            simp only [show ((b : Int)).toNat = b from rfl] at qc
            have HSA := hid hsa
            have HNA := hid hna
            have HD := hid (And.intro hLb (And.intro hcb (And.intro hn2 (And.intro hn (And.intro hs (And.intro h1 (And.intro h2 (And.intro h3 hc))))))))
            have HNN := hid (And.intro hnlb hnrb)
            clear hsa hna hLb hcb hn2 hn hs h1 h2 h3 hc
            refine lin_start (fun W' => Kp v.ownBlock.toList wc W') (Stays.kp _ _) (by kernel_rfl) (Kp.refl _ _).drew (fun hSS hS => ?_)
            refine lin_val (i := 0) (v := ?_) rfl (by kernel_rfl) (by kernel_rfl) (by kernel_rfl) (by kernel_rfl) (fun _ _ _ h => h) hSS hS rfl (fun W' hSw => ?_) ?_
            rotate_left
            · have ylb := hSw.cell ylb hnlb; go_simp; first | done | with_reducible rfl
            try simp only [Act.put, List.setIfInBounds_toArray, List.set_cons_zero, List.set_cons_succ]
            refine lin_val (i := 1) (v := ?_) rfl (by kernel_rfl) (by kernel_rfl) (by kernel_rfl) (by kernel_rfl) (fun _ _ _ h => h) hSS hS rfl (fun W' hSw => ?_) ?_
            rotate_left
            · go_simp; first | done | with_reducible rfl
            try simp only [Act.put, List.setIfInBounds_toArray, List.set_cons_zero, List.set_cons_succ]
            refine lin_val (i := 2) (v := ?_) rfl (by kernel_rfl) (by kernel_rfl) (by kernel_rfl) (by kernel_rfl) (fun _ _ _ h => h) hSS hS rfl (fun W' hSw => ?_) ?_
            rotate_left
            · go_simp; first | done | with_reducible rfl
            try simp only [Act.put, List.setIfInBounds_toArray, List.set_cons_zero, List.set_cons_succ]
            refine lin_val (i := 3) (v := ?_) rfl (by kernel_rfl) (by kernel_rfl) (by kernel_rfl) (by kernel_rfl) (fun _ _ _ h => h) hSS hS rfl (fun W' hSw => ?_) ?_
            rotate_left
            · go_simp; first | done | with_reducible rfl
            try simp only [Act.put, List.setIfInBounds_toArray, List.set_cons_zero, List.set_cons_succ]
            refine lin_val (i := 4) (v := ?_) rfl (by kernel_rfl) (by kernel_rfl) (by kernel_rfl) (by kernel_rfl) (fun _ _ _ h => h) hSS hS rfl (fun W' hSw => ?_) ?_
            rotate_left
            · have x1 := hSw.cell x1 hnrb; go_simp; first | done | with_reducible rfl
            try simp only [Act.put, List.setIfInBounds_toArray, List.set_cons_zero, List.set_cons_succ]
            refine lin_val (i := 5) (v := ?_) rfl (by kernel_rfl) (by kernel_rfl) (by kernel_rfl) (by kernel_rfl) (fun _ _ _ h => h) hSS hS rfl (fun W' hSw => ?_) ?_
            rotate_left
            · go_simp; first | done | with_reducible rfl
            try simp only [Act.put, List.setIfInBounds_toArray, List.set_cons_zero, List.set_cons_succ]
            refine lin_val (i := 6) (v := ?_) rfl (by kernel_rfl) (by kernel_rfl) (by kernel_rfl) (by kernel_rfl) (fun _ _ _ h => h) hSS hS rfl (fun W' hSw => ?_) ?_
            rotate_left
            · have y1 := hSw.cell y1 hnad; go_simp; first | done | with_reducible rfl
            try simp only [Act.put, List.setIfInBounds_toArray, List.set_cons_zero, List.set_cons_succ]
            refine lin_list (i := 7) (by kernel_rfl) rfl (fun w8 k8 Q2 hQ => ?_)
            have hk8 : Kp [] wc w8 := (Kp.refl _ _).drew.nil k8
            clear k8 y1 hnad
            go_wp2_with fail
            (with_reducible refine (qc w8).mono ?_)
            clear qc
            rintro e w9 ⟨v9, rfl, s9, k9, -, -, m9⟩
            obtain ⟨g9, n9, c9, hv9⟩ := m9 HD.out.2.1
            have k09 := hk8.nil k9
            have H9 := hid (And.intro k09 (And.intro s9 hv9))
            clear m9 s9 k9 hk8 k09 hv9
            go_wp2_with fail
            refine hQ.out _ _ (H9.out.1.mono (by simp)) (fun hS9 => ?_)
            clear hQ hS
            try simp only [Act.put, List.setIfInBounds_toArray, List.set_cons_zero, List.set_cons_succ]
            refine lin_list (i := 8) (by kernel_rfl) rfl (fun w10 k10 Q2 hQ => ?_)
            obtain ⟨A9, c9', e9, sp9, -, -, -⟩ := (OwnN.kept H9.out.2.1 k10).shape
            have k010 := H9.out.1.nil k10
            have ho10 := HSA.out.kept k010
            have hm9 : (classR b).length ≤ 4 := class_len b
            obtain ⟨m9, hm9'⟩ : ∃ m, m = (classR b).length := ⟨_, rfl⟩
            rw [← hm9'] at e9 hm9
            have e10 := e9.symm.trans H9.out.2.2
            injection e10 with e11 e12 e13
            rw [e11] at sp9
            rw [e11] at e9
            have hl9 : (spansV (classR b)).length = m9 * 2 := by have := H9.out.2.1.length; rw [← hm9'] at this; exact this
            subst e9
            have H10 := hid (And.intro k010 hm9')
            clear k10 k010 hm9' e11 e12 e13
            go_wp2_with (at_builtin; go_must (refine wpList_appendN rfl _ _ 99 rfl 102 (.agg #[.int .i32 0, .int .i32 0]) 2 8 Try.underlying99 spanInfo rfl (by decide) _ na (spansV acc) rfl ho10 _ m9 c9' (spansV (classR b)) rfl sp9 hl9 (spansV_one _) ?_ ?_ ?_))
            · omega
            · omega
            intro v11 w11 ho11 k11 hb11
            obtain ⟨A11, c11, rfl, -, -, -, -⟩ := ho11.shape
            have k011 := (H10.out.1.mono (by simp) : Kp v.ownBlock.toList wc w10).trans k11 (fun x hx _ => hx)
            have H11 := hid (And.intro k011 (And.intro ho11 (And.intro hb11 H10.out.1.size)))
            clear ho11 k11 hb11 ho10 sp9 hl9 k011 hm9
            go_wp2_with fail
            refine hQ.out _ _ H11.out.1 (fun hS11 => ?_)
            clear hQ hS9
            try simp only [Act.put, List.setIfInBounds_toArray, List.set_cons_zero, List.set_cons_succ]
            refine lin_last (i := 9) (by kernel_rfl) rfl (by kernel_rfl) (fun w12 k12 K hK => ?_)
            have k012 := H11.out.1.nil k12
            have ylb2 := k012.cell ylb hnlb
            have flb := (HC5.out.2.2.1.keep k012 hnlb).free 0
            have H12 := hid (And.intro k012 (H11.out.2.1.kept k12))
            clear k12 k012
            go_simp
            refine hK.out _ _ ?_
            clear hK K hS11 hSS ylb2 flb ylb x1 hnlb hnrb f1
            obtain ⟨k012, ho12⟩ := H12.out
            obtain ⟨hLb, hcb, hn2, hn, hs, h1, h2, h3, hc⟩ := HD.out
            have hbl : ∀ ad', some ad = some ad' → ad'.block ∉ v.ownBlock.toList := fun ad' e hm => by
              injection e with e
              subst e
              have := HV.out.1 _ (Option.mem_toList.1 hm)
              have h5 := (HH.out.1.nE _ (h3 ad rfl).1).2
              have := HH.out.2.2.2.1.size
              have := H1S.out
              have := H3.out.1.size
              omega
            obtain ⟨w13, hw13⟩ : ∃ w13, w13 = w12.setCell ⟨lb, 0, none⟩ (.slice A11 (na + m9) c11) := ⟨_, rfl⟩
            have k13 : Kp [lb] w12 w13 := by rw [hw13]; exact (Kp.refl _ _).setCell (fun _ => by simp) _
            have hblb : ∀ ad', some ad = some ad' → ad'.block ∉ [lb] := fun ad' e hm => by
              injection e with e
              subst e
              have := List.mem_singleton.1 hm
              have h5 := (HH.out.1.nE _ (h3 ad rfl).1).2
              have := HH.out.2.2.2.1.size
              have := H1S.out
              have := H3.out.2.2.1
              omega
            have hc13 := (hc.keep k012 HNN.out.2).keep k13 (by simpa using Ne.symm HV.out.2.2.2.2.2.1)
            have hs13 := (hs.keep k012 hbl).keep k13 hblb
            have hcl13 : Cells w13 lb 99 [.slice A11 (na + m9) c11] := by rw [hw13]; exact (HC5.out.2.2.1.keep k012 HNN.out.1).put 0 _
            have hnl : ∀ g, (Value.slice A11 (na + m9) c11).ownBlock = some g → w3.heap.size ≤ g := fun g e => by
              rcases H11.out.2.2.1 with h | h
              · rw [h] at e; exact HV.out.1 g e
              · rw [h] at e; injection e with e; have := HC5.out.1.size; have := H11.out.2.2.2; omega
            have hlb3 := H3L.out
            have ho13 := ho12.keep k13 (fun g e hm => by have := hnl g e; have := List.mem_singleton.1 hm; omega)
            have x1 := hc13.cell 1
            have f1 := hc13.free 1
            simp only [List.getElem?_cons_zero, List.getElem?_cons_succ] at x1
            obtain ⟨w14, hw14⟩ : ∃ w14, w14 = w13.setCell ⟨rb, 1, none⟩ (.slice (cutA (some ad) 2 c 1) (n - 2) (c - 2)) := ⟨_, rfl⟩
            have rd14 : RdAt w14 rb mb N (Lr.drop 2) d false := by rw [hw14]; exact RdAt.cut 2 hc13 hs13 hn h1 h2 h3 (by omega)
            have k14 : Kp [rb] w13 w14 := by rw [hw14]; exact (Kp.refl _ _).setCell (fun _ => by simp) _
            have hcl14 := hcl13.keep k14 (by simpa using HV.out.2.2.2.2.2.1)
            have hrb3 : rb < w3.heap.size := by have := H1.out.1.lt rb (.inl HH.out.1.rR); have := H3.out.1.size; omega
            have ho14 := ho13.keep k14 (fun g e hm => by have := hnl g e; have := List.mem_singleton.1 hm; omega)
            have kw : Kp [rb, lb] w3 w14 := by
              have ka : Kp [rb, lb] w3 w12 := HC5.out.1.trans k012 (fun x hx hlt => by have := HV.out.1 x (Option.mem_toList.1 hx); omega)
              have kb := ka.trans k13 (fun x hx _ => by simp at hx; simp [hx])
              exact kb.trans k14 (fun x hx _ => by simp at hx; simp [hx])
            have HW13 := hid hw13
            have HW14 := hid hw14
            have HZ := hid (And.intro kw (And.intro rd14 (And.intro hcl14 (And.intro ho14 hnl))))
            have b0 : (2 : Int) ≤ (n : Int) := by omega
            have b1 : decide ((2 : Int) ≤ (n : Int)) = true := decide_eq_true b0
            have b2 : 2 ≤ n := by omega
            have b3 : c ≤ 9223372036854775807 := by omega
            clear k012 ho12 hLb hcb hn2 hn hs h1 h2 h3 hc hbl hblb hw13 k13 hc13 hs13 hcl13 hnl hlb3 ho13 hw14 rd14 k14 hcl14 hrb3 ho14 kw
            rw [← HW13.out]
            clear HW13
            go_wp2_with fail
            rw [← HW14.out]
            clear HW14
            go_roundg (gk - 1)
            case measure => have := HV.out.2.2.2.2.1; omega
            case rel =>
              obtain ⟨kw, rd14, hcl14, ho14, hnl⟩ := HZ.out
              obtain ⟨newr, hacr, hLr, hresr, hms, hgbr, hvr⟩ := HV.out
              obtain ⟨hLb, hcb, hn2, hn, -⟩ := HD.out
              have hal : (acc ++ classR b).length = na + m9 := by rw [List.length_append, ← HNA.out, ← H10.out.2]
              have hm4 : m9 ≤ 4 := by rw [H10.out.2]; exact class_len b
              have hdl : (Lr.drop 2).length = Lr.length - 2 := List.length_drop
              refine ⟨_, acc ++ classR b, Lr.drop 2, false, ⟨kw, rd14, hcl14, ?_, hnl, ?_, by omega, ?_⟩, ?_⟩
              · unfold SpansAt
                rw [hal, spansV_snoc]
                exact ho14
              · simp only [Bool.false_eq_true, if_false]
                rw [hal, hdl, HNA.out]
                omega
              · simp only [Bool.false_eq_true, if_false]
                rw [hresr]
                have e := item_cls HCB.out.symm
                rw [itemsOf_some HIT.out.symm e, hLb]
                rfl
              · simp only [Bool.false_eq_true, if_false]
                omega
          | false =>
            go_upto_region 9 with fail
            have qs := single_any wc rb mb N Lr d HC5.out.2.1
            obtain ⟨o, ho⟩ : ∃ o, o = singleR Lr := ⟨_, rfl⟩
            rw [← ho] at qs
            have HO := hid ho
            clear ho
            go_wp2_with fail
            (with_reducible refine qs.mono ?_)
            clear qs
            intro e w6 ht
            obtain ⟨x, L6, bad6, rfl, k6, rd6, hl6, hx6⟩ : ∃ (x : Nat) (L6 : List Nat) (bad6 : Bool), e = .returned (.int .i32 (x : Int)) ∧ Kp [rb] wc w6 ∧ RdAt w6 rb mb N L6 d bad6 ∧ L6.length ≤ Lr.length ∧ singleR Lr = (if bad6 = true then none else some (x, L6)) := by
              cases o with
              | none =>
                obtain ⟨a1, a2, L', a3, a4⟩ := ht
                exact ⟨0, L', true, a2, a1, a4, a3, HO.out.symm⟩
              | some p =>
                obtain ⟨x, r⟩ := p
                obtain ⟨a1, a2, a3⟩ := ht
                exact ⟨x, r, false, a2, a1, a3, Nat.le_of_lt (single_len HO.out.symm), HO.out.symm⟩
            clear ht
            obtain ⟨sb, hsb⟩ : ∃ g, g = w6.heap.size := ⟨_, rfl⟩
            obtain ⟨w7, hw7⟩ : ∃ w7, w7 = w6.alloc (.cells #[.int .i32 (x : Int), .int .i32 (x : Int)] 102) := ⟨_, rfl⟩
            have k7 : Kp [] w6 w7 := by rw [hw7]; exact (Kp.refl _ _).alloc _
            have c7 : Cells w7 sb 102 [.int .i32 (x : Int), .int .i32 (x : Int)] := by rw [hw7, hsb]; exact Cells.fresh w6 102 _
            have q8 := next_any w7 rb mb N L6 d bad6 (rd6.kept k7) ⟨#[45]⟩ (ascii_of _ (by decide)) (by decide)
            obtain ⟨hit2, hhit2⟩ : ∃ b, b = hits (⟨#[45]⟩ : ByteArray).data.toList bad6 L6 := ⟨_, rfl⟩
            rw [← hhit2] at q8
            obtain ⟨pr2, hpr2⟩ : ∃ p, p = peekR bad6 L6 := ⟨_, rfl⟩
            rw [← hpr2] at q8
            have H7 := hid (And.intro (k6.nil k7) (And.intro c7 (And.intro hl6 (And.intro hx6 (And.intro (show wc.heap.size ≤ sb by rw [hsb]; exact k6.size) hhit2)))))
            have HW7 := hid hw7
            have HSB := hid hsb
            clear k6 rd6 hl6 hx6 hsb hw7 k7 c7 hhit2 hpr2
            go_upto_region 11 with fail
            rw [← HW7.out]
            try rw [← HSB.out]
            clear HW7 HSB
            go_wp2_with fail
            (with_reducible refine q8.mono ?_)
            clear q8
            rintro e w8 ⟨rfl, rd8, k8⟩
            have hsr : sb ≠ rb := fun e => absurd (H1.out.1.lt rb (.inl HH.out.1.rR)) (by have := H7.out.2.2.2.2.1; have := HC5.out.1.size; have := H3.out.1.size; omega)
            have c8 := H7.out.2.1.keep k8 (by simpa using hsr)
            have H8 := hid (And.intro (H7.out.1.trans k8 (fun x hx _ => hx)) (And.intro c8 (And.intro rd8 hsr)))
            have s0 := c8.cell 0
            have s1 := c8.cell 1
            have g1 := c8.free 1
            simp only [List.getElem?_cons_zero, List.getElem?_cons_succ] at s0 s1
            clear rd8 k8 c8 hsr
            go_upto_if 80 with fail
            go_cut [] (fun wx => ∃ (y : Nat) (L9 : List Nat) (bad9 : Bool), Kp [rb] wc wx ∧ Cells wx sb 102 [.int .i32 (x : Int), .int .i32 (y : Int)] ∧ RdAt wx rb mb N L9 d bad9 ∧ L9.length ≤ Lr.length ∧ pairR Lr = (if (bad9 || decide (y < x)) = true then none else some ((x, y), L9)))
            case first =>
              cases hit2 with
              | false =>
                go_wp2_with fail
                go_meet
                obtain ⟨k8, c8, rd8, hsr⟩ := H8.out
                simp only [Bool.false_eq_true, if_false] at rd8
                refine ⟨x, L6, bad6, k8, c8, rd8, H7.out.2.2.1, ?_⟩
                have e1 := H7.out.2.2.2.1
                have e2 := H7.out.2.2.2.2.2
                unfold pairR
                rw [e1]
                cases bad6 with
                | true => rfl
                | false =>
                  simp only [Bool.false_eq_true, if_false, Bool.false_or, Nat.lt_irrefl, decide_false]
                  cases L6 with
                  | nil => rfl
                  | cons a r =>
                    have e2 : false = (!false && ([45] : List UInt8).any fun b => b.toNat == a) := e2
                    have : ¬ a = 45 := by simp at e2; omega
                    simp [this]
              | true =>
                obtain ⟨L7, hL7, hb6⟩ : ∃ L7, L6 = 45 :: L7 ∧ bad6 = false := by
                  have e2 := H7.out.2.2.2.2.2
                  cases L6 with
                  | nil => cases e2
                  | cons a r =>
                    have e2 : true = (!bad6 && ([45] : List UInt8).any fun b => b.toNat == a) := e2
                    simp at e2
                    exact ⟨r, by rw [e2.2], e2.1⟩
                subst hL7 hb6
                have rd8 := H8.out.2.2.1
                simp only [if_true, List.tail_cons] at rd8
                have q9 := single_any w8 rb mb N L7 d rd8
                obtain ⟨o2, ho2⟩ : ∃ o, o = singleR L7 := ⟨_, rfl⟩
                rw [← ho2] at q9
                have HO2 := hid ho2
                clear ho2 rd8
                go_upto_region 13 with fail
                clear s0 s1 g1
                go_wp2_with fail
                (with_reducible refine q9.mono ?_)
                clear q9
                intro e w9 ht
                obtain ⟨y, L9, bad9, rfl, k9, rd9, hl9, hx9⟩ : ∃ (y : Nat) (L9 : List Nat) (bad9 : Bool), e = .returned (.int .i32 (y : Int)) ∧ Kp [rb] w8 w9 ∧ RdAt w9 rb mb N L9 d bad9 ∧ L9.length ≤ L7.length ∧ singleR L7 = (if bad9 = true then none else some (y, L9)) := by
                  cases o2 with
                  | none =>
                    obtain ⟨a1, a2, L', a3, a4⟩ := ht
                    exact ⟨0, L', true, a2, a1, a4, a3, HO2.out.symm⟩
                  | some p =>
                    obtain ⟨y, r⟩ := p
                    obtain ⟨a1, a2, a3⟩ := ht
                    exact ⟨y, r, false, a2, a1, a3, Nat.le_of_lt (single_len HO2.out.symm), HO2.out.symm⟩
                clear ht
                have c9 := H8.out.2.1.keep k9 (by simpa using H8.out.2.2.2)
                have g1 := c9.free 1
                have s1 := c9.cell 1
                simp only [List.getElem?_cons_zero, List.getElem?_cons_succ] at s1
                have H9 := hid (And.intro (H8.out.1.trans k9 (fun x hx _ => hx)) (And.intro c9 (And.intro rd9 (And.intro hl9 hx9))))
                clear k9 rd9 hl9 hx9 c9
                go_wp2_with fail
                go_meet
                obtain ⟨k9, c9, rd9, hl9, hx9⟩ := H9.out
                have e1 := H7.out.2.2.2.1
                have e3 := H7.out.2.2.1
                simp only [Bool.false_eq_true, if_false, List.length_cons] at e1 e3
                have hNb : ∀ x, N x → x ∉ [sb] := fun x hx hm => by
                  have := List.mem_singleton.1 hm
                  have h5 := (HH.out.1.nE _ hx).2
                  have := HH.out.2.2.2.1.size
                  have := H1S.out
                  have := H3.out.1.size
                  have := HC5.out.1.size
                  have := H7.out.2.2.2.2.1
                  omega
                have ks : Kp [sb] w9 (w9.setCell ⟨sb, 1, none⟩ (.int .i32 (y : Int))) := (Kp.refl _ _).setCell (fun _ => by simp) _
                refine ⟨y, L9, bad9, (k9.fresh ks H7.out.2.2.2.2.1), c9.put 1 _, rd9.kq ks (by simpa using Ne.symm H8.out.2.2.2) hNb, by omega, ?_⟩
                unfold pairR
                rw [e1]
                dsimp only
                rw [if_pos rfl, hx9]
                cases bad9 with
                | true => rfl
                | false =>
                  simp only [Bool.false_eq_true, if_false, Bool.false_or, decide_eq_true_eq]
            case rest =>
              obtain ⟨y, L9, bad9, k9, c9, rd9, hl9, hp9⟩ := hcut
              clear s0 s1 g1
              obtain ⟨wa, rfl⟩ : ∃ wa : World, wa = wc := ⟨_, rfl⟩
              obtain ⟨A, c, hc, -, -, -, -⟩ := rd9.ex
              have x3 := hc.cell 3
              have f3 := hc.free 3
              have s0 := c9.cell 0
              have s1 := c9.cell 1
              simp only [List.getElem?_cons_zero, List.getElem?_cons_succ] at x3 s0 s1
              obtain ⟨z, hz⟩ : ∃ z, z = decide (y < x) := ⟨_, rfl⟩
              have z1 : decide (y < x) = z := hz.symm
              have z2 : decide ((y : Int) < (x : Int)) = z := by rw [hz]; exact decide_eq_decide.2 (by omega)
              rw [z1] at hp9
              have H9 := hid (And.intro k9 (And.intro c9 (And.intro rd9 (And.intro hl9 hp9))))
              clear k9 c9 rd9 hl9 hp9 hc hz A c
              go_upto_region 14 with fail
              go_cut [] (fun wx => wx = wa.setCell ⟨rb, 3, none⟩ (.bool (bad9 || z)))
              case first =>
                cases bad9 with
                | true =>
                  go_wp2_with fail
                  go_meet
                  rfl
                | false =>
                  go_wp2_with fail
                  go_meet
                  rfl
              case rest =>
                obtain ⟨k9, c9, rd9, hl9, hp9⟩ := H9.out
                obtain ⟨kr5, -, clb5, sp5⟩ := HC5.out
                obtain ⟨newr, hacr, hLr, hresr, hms, hgbr, hvr⟩ := HV.out
                have hsr := H8.out.2.2.2
                have hb10 : Kp [rb] wa wc := by rw [hcut]; exact (Kp.refl _ _).setCell (fun _ => by simp) _
                have rd10 : RdAt wc rb mb N L9 d (bad9 || z) := by rw [hcut]; exact rd9.mark _
                have cl10 := (clb5.keep k9 (by simpa using hgbr)).keep hb10 (by simpa using hgbr)
                have sp10 := (OwnN.keep sp5 k9 hvr).keep hb10 hvr
                have c10 := c9.keep hb10 (by simpa using hsr)
                have k10 : Kp [rb, lb] w3 wc := (kr5.trans k9 (fun x hx _ => by simp at hx; simp [hx])).trans hb10 (fun x hx _ => by simp at hx; simp [hx])
                obtain ⟨na, hna⟩ : ∃ n, n = acc.length := ⟨_, rfl⟩
                rw [← hna] at sp10
                have hna4 : na ≤ 4000 := by omega
                have s0 := c10.cell 0
                have s1 := c10.cell 1
                have ylb := cl10.cell 0
                simp only [List.getElem?_cons_zero, List.getElem?_cons_succ] at s0 s1 ylb
                have H10 := hid (And.intro k10 (And.intro rd10 (And.intro cl10 (And.intro c10 hna))))
                have HSP := hid sp10
                clear k9 c9 rd9 hl9 kr5 clb5 sp5 newr hacr hLr hresr hms hgbr hvr hsr hb10 rd10 cl10 sp10 c10 k10 hna hcut x3 f3 z1 z2 hp9
                go_wp2_with (at_builtin; go_must (refine wpList_appendN rfl _ _ 99 rfl 102 (.agg #[.int .i32 0, .int .i32 0]) 2 8 Try.underlying99 spanInfo rfl (by decide) _ na (spansV acc) rfl (HSP.out.kept ((Kp.refl _ _).alloc _)) _ 1 1 [.int .i32 (x : Int), .int .i32 (y : Int)] rfl (Span.of_new wc _ _ _) rfl (by simp [Value.oneCell']) ?_ ?_ ?_))
                · omega
                · omega
                intro v11 w11 ho11 hk11 hb11
                obtain ⟨A11, c11, rfl, -, -, -, -⟩ := ho11.shape
                obtain ⟨k10, rd10, cl10, c10, hna⟩ := H10.out
                obtain ⟨newr, hacr, hLr, hresr, hms, hgbr, hvr⟩ := HV.out
                have hk11' : Kp v.ownBlock.toList wc w11 := ((Kp.refl _ _).alloc _).trans hk11 (fun x hx _ => hx)
                have hlb3 := H3L.out
                have hnlb : lb ∉ v.ownBlock.toList := fun hm => by have := newr _ (Option.mem_toList.1 hm); omega
                have cl11 := cl10.keep hk11' hnlb
                have ylb2 := cl11.cell 0
                have flb := cl11.free 0
                simp only [List.getElem?_cons_zero] at ylb2
                have hk310 := k10.size
                have hnew11 : ∀ g, (Value.slice A11 (na + 1) c11).ownBlock = some g → w3.heap.size ≤ g := fun g e => by
                  rcases hb11 with h | h
                  · rw [h] at e; exact newr g e
                  · rw [h] at e
                    injection e with e
                    have : wc.heap.size ≤ (wc.alloc (.cells #[.int .i32 (x : Int), .int .i32 (y : Int)] 102)).heap.size := ((Kp.refl [] wc).alloc _).size
                    omega
                obtain ⟨w12, hw12⟩ : ∃ w12, w12 = w11.setCell ⟨lb, 0, none⟩ (.slice A11 (na + 1) c11) := ⟨_, rfl⟩
                have k12 : Kp [lb] w11 w12 := by rw [hw12]; exact (Kp.refl _ _).setCell (fun _ => by simp) _
                have hNl : ∀ x, N x → x ∉ v.ownBlock.toList ∧ x ∉ [lb] := fun x hx => by
                  have h5 := (HH.out.1.nE _ hx).2
                  have := HH.out.2.2.2.1.size
                  have := H1S.out
                  have := H3.out.1.size
                  have := H3.out.2.2.1
                  exact ⟨fun hm => by have := newr _ (Option.mem_toList.1 hm); omega, fun hm => by have := List.mem_singleton.1 hm; omega⟩
                have hrbv : rb ∉ v.ownBlock.toList := fun hm => hvr _ (Option.mem_toList.1 hm) (by simp)
                have rd12 := (rd10.kq hk11' hrbv (fun x hx => (hNl x hx).1)).kq k12 (by simpa using Ne.symm hgbr) (fun x hx => (hNl x hx).2)
                have k312 : Kp [rb, lb] w3 w12 := (k10.trans hk11' (fun x hx hlt => by have := newr x (Option.mem_toList.1 hx); omega)).trans k12 (fun x hx _ => by simp at hx; simp [hx])
                have cl12 : Cells w12 lb 99 [.slice A11 (na + 1) c11] := by rw [hw12]; exact cl11.put 0 _
                have ho12 := ho11.keep k12 (fun g e hm => by have := hnew11 g e; have := List.mem_singleton.1 hm; omega)
                have H12 := hid (And.intro rd12 (And.intro k312 (And.intro cl12 (And.intro ho12 hnew11))))
                have HW12 := hid hw12
                clear k10 rd10 cl10 c10 hna newr hacr hLr hresr hms hgbr hvr hk11' hlb3 hnlb cl11 hk310 hnew11 hw12 k12 hNl hrbv rd12 k312 cl12 ho12 ho11 hk11 hb11 s0 s1 ylb
                go_wp2_with fail
                rw [← HW12.out]
                clear HW12
                go_roundg (gk - 1)
                case measure => have := HV.out.2.2.2.2.1; omega
                case rel =>
                  obtain ⟨rd12, k312, cl12, ho12, hnew⟩ := H12.out
                  obtain ⟨newr, hacr, hLr, hresr, hms, hgbr, hvr⟩ := HV.out
                  have hl9 := H9.out.2.2.2.1
                  have hp9 := H9.out.2.2.2.2
                  have hna := H10.out.2.2.2.2
                  have hal : (acc ++ [(x, y)]).length = na + 1 := by rw [List.length_append, ← hna]; rfl
                  have hit : hits [93] false Lr = false := HIT.out.symm
                  have hip := item_pair HCB.out.symm
                  rw [hp9] at hip
                  refine ⟨_, acc ++ [(x, y)], L9, (bad9 || z), ⟨k312, rd12, cl12, ?_, hnew, ?_, by omega, ?_⟩, ?_⟩
                  · unfold SpansAt
                    rw [hal, spansV_snoc]
                    exact ho12
                  · rw [hal]
                    cases hbz : (bad9 || z)
                    · rw [hbz] at hip
                      simp only [Bool.false_eq_true, if_false, Option.map_some] at hip ⊢
                      have := item_len hip
                      omega
                    · simp only [if_true]
                      omega
                  · rw [hresr]
                    cases hbz : (bad9 || z)
                    · rw [hbz] at hip
                      simp only [Bool.false_eq_true, if_false, Option.map_some] at hip ⊢
                      exact itemsOf_some hit hip
                    · rw [hbz] at hip
                      simp only [if_true, Option.map_none] at hip ⊢
                      exact itemsOf_none hit hip
                  · cases hbz : (bad9 || z)
                    · rw [hbz] at hip
                      simp only [Bool.false_eq_true, if_false, Option.map_some] at hip ⊢
                      have := item_len hip
                      omega
                    · simp only [if_true]
                      omega
end Go.Proofs.Ytaaikjedagnjbaa

