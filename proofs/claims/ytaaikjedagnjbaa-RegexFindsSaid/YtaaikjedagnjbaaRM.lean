/- The document's reader: items, what is kept of them. -/
import Derived.Test.YtaaikjedagnjbaaRJ
import Derived.Test.YtaaikjedagnjbaaRD
import Derived.Deep.DeepCutAuto
namespace Go.Proofs.Ytaaikjedagnjbaa
open Go Go.RowKit Go.Lib

theorem hits_isB {L : List Nat} {a : Nat} {b : UInt8} : hits [b] false (L.drop a) = isB L a b.toNat := by
  unfold isB
  cases h : L[a]? with
  | none =>
    rw [List.drop_eq_nil_of_le (by simpa using h)]
    rfl
  | some x =>
    rw [drop_at h]
    show (!false && ([b] : List UInt8).any fun c => c.toNat == x) = _
    rw [Bool.eq_iff_iff]
    simp
    exact eq_comm
/-- Spans of runes as items. -/
def castI (s : List (Nat × Nat)) : List (Int × Int) := s.map fun p => ((p.1 : Int), (p.2 : Int))
theorem cls_cast (c : Nat) : clsI c = castI (classR c) := rfl
theorem castI_app (s t : List (Nat × Nat)) : castI (s ++ t) = castI s ++ castI t := by unfold castI; rw [List.map_append]
theorem inI_cast (s : List (Nat × Nat)) (c : Nat) : inI2 (castI s) (c : Int) = inR s c := by
  unfold inI2 inR castI
  rw [List.any_map]
  congr 1
  funext p
  show (decide ((p.1 : Int) ≤ (c : Int)) && decide ((c : Int) ≤ (p.2 : Int))) = (decide (p.1 ≤ c) && decide (c ≤ p.2))
  rw [Bool.eq_iff_iff]
  simp only [Bool.and_eq_true, decide_eq_true_eq]
  omega
theorem itemsV_app (s t : List (Int × Int)) : itemsV (s ++ t) = itemsV s ++ itemsV t := by simp [itemsV]
theorem itemsV_one (l : List (Int × Int)) : ∀ u ∈ itemsV l, u.oneCell' = true := by
  intro u hu
  obtain ⟨s, _, hs⟩ := List.mem_flatMap.1 hu
  simp only [List.mem_cons, List.not_mem_nil, or_false] at hs
  rcases hs with h | h <;> rw [h] <;> rfl
theorem itemsV_len (l : List (Int × Int)) : (itemsV l).length = l.length * 2 := by
  induction l with
  | nil => rfl
  | cons p l ih =>
    show (([.int .i64 p.1, .int .i64 p.2] : List Value) ++ itemsV l).length = _
    rw [List.length_append, ih]
    simp only [List.length_cons, List.length_nil]
    omega
theorem itemInfo : (Try.prog.info? 89).map (fun i => (i.zero, i.size, i.bytes)) = some (some (.agg #[.int .i64 0, .int .i64 0]), 2, 16) := by kernel_rfl
/-- A rune, and perhaps another one behind a dash: what they are. -/
theorem pair_end {L : List Nat} {a b1 b2 : Nat} {z1 z2 : Int} (h1 : SingleP L a b1 z1) (h2 : (isB L b1 45 = true ∧ SingleP L (b1 + 1) b2 z2) ∨ (isB L b1 45 = false ∧ b2 = b1 ∧ z2 = z1)) :
    a ≤ b2 ∧ ((z1 < 0 ∨ z2 < z1) → pairR (L.drop a) = none) ∧ (¬ (z1 < 0 ∨ z2 < z1) → ∃ p, pairR (L.drop a) = some (p, L.drop b2) ∧ z1 = (p.1 : Int) ∧ z2 = (p.2 : Int) ∧ a < b2) := by
  have hb : b1 ≤ b2 := by
    rcases h2 with ⟨_, h2⟩ | ⟨_, h2, _⟩
    · unfold SingleP at h2
      split at h2 <;> omega
    · omega
  unfold SingleP at h1
  unfold pairR
  cases hs : singleR (L.drop a) with
  | none =>
    rw [hs] at h1
    have h1 : z1 = -1 ∧ a ≤ b1 := h1
    exact ⟨by omega, fun _ => rfl, fun hn => absurd (.inl (by omega)) hn⟩
  | some p =>
    obtain ⟨lo, r⟩ := p
    rw [hs] at h1
    obtain ⟨e1, e2, e3⟩ : z1 = (lo : Int) ∧ r = L.drop b1 ∧ a < b1 := h1
    subst e2
    refine ⟨by omega, ?_, ?_⟩
    all_goals
      rcases h2 with ⟨hd, h2⟩ | ⟨hd, h2, h3⟩
      · unfold isB at hd
        have hd := beq_iff_eq.1 hd
        rw [drop_at hd]
        dsimp only
        rw [if_pos rfl]
        unfold SingleP at h2
        cases hs2 : singleR (L.drop (b1 + 1)) with
        | none =>
          rw [hs2] at h2
          have h2 : z2 = -1 ∧ b1 + 1 ≤ b2 := h2
          first
          | exact fun _ => rfl
          | exact fun hn => absurd (.inr (by omega)) hn
        | some q =>
          obtain ⟨hi, r2⟩ := q
          rw [hs2] at h2
          obtain ⟨f1, f2, f3⟩ : z2 = (hi : Int) ∧ r2 = L.drop b2 ∧ b1 + 1 < b2 := h2
          dsimp only
          first
          | intro hc
            rw [if_pos (by omega)]
            done
          | intro hc
            rw [if_neg (by omega), f2]
            exact ⟨_, rfl, e1, f1, by omega⟩
      · have hx : ∀ c r, L.drop b1 = c :: r → c ≠ 45 := fun c r e hc => by
          have h4 : L[b1]? = some c := by have := congrArg List.head? e; rwa [List.head?_drop] at this
          unfold isB at hd
          rw [h4, hc] at hd
          simp at hd
        subst h2 h3
        cases hr : L.drop b2 with
        | nil =>
          first
          | exact fun hc => absurd hc (by omega)
          | exact fun _ => ⟨_, rfl, e1, e1, by omega⟩
        | cons c r =>
          dsimp only
          rw [if_neg (hx c r hr)]
          first
          | exact fun hc => absurd hc (by omega)
          | exact fun _ => ⟨_, rfl, e1, e1, by omega⟩
/-- Where the loop of items stands: its memory. -/
structure ItM (w2 : World) (rb pb : Nat) (AR : Option Addr) (cR : Nat) (L : List Nat) (d : Nat) (v : Value) (n : Nat) (cs : List Value) (nt : Bool) (wr : World) (aj : Nat) (bad : Bool) (vL : Value) (acc : List (Int × Int)) : Prop where
  rd : RdS wr rb AR cR L aj d bad v n cs
  kp : Kp [rb, pb] w2 wr
  cells : Cells wr pb 63 (partCs 99 (.slice none 0 0) vL nt)
  row : OwnN wr 89 2 vL acc.length (itemsV acc)
  new : ∀ g, vL.ownBlock = some g → w2.heap.size ≤ g
/-- And what was read. -/
structure ItS (w2 : World) (rb pb : Nat) (AR : Option Addr) (cR : Nat) (L : List Nat) (a1 d : Nat) (v : Value) (n : Nat) (cs : List Value) (nt : Bool) (wr : World) (aj : Nat) (bad : Bool) (vL : Value) (acc : List (Int × Int)) : Prop extends ItM w2 rb pb AR cR L d v n cs nt wr aj bad vL acc where
  le : a1 ≤ aj ∧ acc.length + 4 * a1 ≤ 4 * aj + 1
  no : bad = true → itemsOf [] (L.drop a1) = none
  yes : bad = false → acc.length + 4 * a1 ≤ 4 * aj ∧ ∃ s, acc = castI s ∧ itemsOf [] (L.drop a1) = itemsOf s (L.drop aj)
theorem Rew.local {w w2 wr : World} {E : Nat → Prop} {rb pb : Nat} (h : Rew w E rb w2 E) (k : Kp [rb, pb] w2 wr) (hp : w.heap.size ≤ pb) : Rew w E rb wr E :=
  ⟨h.own, h.kq.trans (E1 := fun x => x = rb ∨ x = pb) ⟨[rb, pb], fun x hx => by simpa using hx, k⟩ fun x hx hl => by
    rcases hx with hx | hx
    · exact .inr hx
    · omega⟩
section
variable {w w2 wr w' : World} {rb pb : Nat} {AR : Option Addr} {cR : Nat} {L : List Nat} {a d n : Nat} {v : Value} {cs : List Value} {nt : Bool} {aj aj' : Nat} {bad bad' : Bool} {vL : Value} {acc : List (Int × Int)} {P : List Pt} {Y : Nat → Prop}
theorem ItM.kept (h : ItM w2 rb pb AR cR L d v n cs nt wr aj bad vL acc) (k : Kp [] wr w') : ItM w2 rb pb AR cR L d v n cs nt w' aj bad vL acc :=
  ⟨h.rd.kept k, h.kp.nil k, h.cells.keep k (by simp), OwnN.kept h.row k, h.new⟩
theorem ItM.step (h : ItM w2 rb pb AR cR L d v n cs nt wr aj bad vL acc) (hpr : pb ≠ rb) (hrw : rb < w2.heap.size) (r : RdS w' rb AR cR L aj' d bad' v n cs) (k : Kp [rb] wr w') : ItM w2 rb pb AR cR L d v n cs nt w' aj' bad' vL acc :=
  ⟨r, h.kp.trans k (fun x hx _ => by simp at hx; simp [hx]), h.cells.keep k (by simpa using hpr), OwnN.keep h.row k (fun g e hm => by have := h.new g e; have := List.mem_singleton.1 hm; omega), h.new⟩
/-- Some items more. -/
theorem ItM.more (h : ItM w2 rb pb AR cR L d v P.length cs nt wr aj bad vL acc) (h0 : PreR w rb AR cR L a d v P Y cs) (hpw : w.heap.size ≤ pb) (hp2 : pb < w2.heap.size) (hs : w.heap.size ≤ w2.heap.size) {w12 : World} {v' : Value} {new : List (Int × Int)} {m : Nat} {wA : World} (kA : Kp [] wr wA)
    (k : Kp vL.ownBlock.toList wA w12) (ho : OwnN w12 89 2 v' (acc.length + m) (itemsV acc ++ itemsV new)) (hm : new.length = m) (hb : v'.ownBlock = vL.ownBlock ∨ v'.ownBlock = some wA.heap.size) :
    ItM w2 rb pb AR cR L d v P.length cs nt (w12.setCell ⟨pb, 2, none⟩ v') aj bad v' (acc ++ new) := by
  have hrb := h0.rd.cell.lt
  have hkk : Kp [pb] w12 (w12.setCell ⟨pb, 2, none⟩ v') := (Kp.refl _ _).setCell (fun _ => by simp) _
  have hout : ∀ x, (x ∈ vL.ownBlock.toList ∨ x = pb) → x ≠ rb ∧ ¬ ownP v x ∧ ∀ ad, AR = some ad → ad.block ≠ x := fun x hx => by
    have hx' : w.heap.size ≤ x := by
      rcases hx with hx | hx
      · have := h.new x (Option.mem_toList.1 hx); omega
      · omega
    exact ⟨by omega, fun hh => by have := h0.rd.own.lt _ hh; omega, fun ad e => by have := (h0.rd.apart ad e).2.2; omega⟩
  have hnp : pb ∉ vL.ownBlock.toList := fun hm' => by have := h.new pb (Option.mem_toList.1 hm'); omega
  have hnew : ∀ g, v'.ownBlock = some g → w2.heap.size ≤ g := fun g e => by
    rcases hb with hb | hb
    · rw [hb] at e; exact h.new g e
    · rw [hb] at e; injection e with e; have := h.kp.size; have := kA.size; omega
  have hA := h.kept kA
  refine ⟨(hA.rd.other k fun x hx => hout x (.inl hx)).other hkk fun x hx => hout x (.inr (List.mem_singleton.1 hx)), ?_, (hA.cells.keep k hnp).put 2 v', ?_, hnew⟩
  · refine (hA.kp.trans k (fun x hx hl => ?_)).trans hkk (fun x hx _ => by simp at hx; simp [hx])
    have := h.new x (Option.mem_toList.1 hx)
    omega
  · rw [List.length_append, hm, itemsV_app]
    exact ho.keep hkk fun g e hm' => by have := hnew g e; have := List.mem_singleton.1 hm'; omega
end
end Go.Proofs.Ytaaikjedagnjbaa

/- The document's reader: items. (printed by tools/gengfitems.py) -/
namespace Go.Proofs.Ytaaikjedagnjbaa
open Go Go.RowKit Go.Lib

theorem cls_no {L : List Nat} {a : Nat} (h : isB L a 92 = false) : clsB (L.drop a) = false := by
  unfold clsB
  rw [List.head?_drop]
  refine decide_eq_false fun hh => ?_
  unfold isB at h
  rw [hh.1] at h
  cases h
theorem cls_short {L : List Nat} {a : Nat} (h : L.length ≤ a + 1) : clsB (L.drop a) = false := by
  unfold clsB
  refine decide_eq_false fun hh => hh.2 ?_
  rw [List.drop_drop, List.drop_eq_nil_of_le h]
  rfl
theorem cls_at {L : List Nat} {a x : Nat} (h : L[a]? = some 92) (hx : L[a + 1]? = some x) : clsB (L.drop a) = decide (0 < (clsI x).length) := by
  unfold clsB
  rw [drop_at h, List.drop_succ_cons, List.drop_zero, drop_at hx]
  rw [Bool.eq_iff_iff, decide_eq_true_eq, decide_eq_true_eq, cls_cast]
  unfold castI
  rw [List.length_map, List.length_pos_iff]
  exact ⟨fun hh => hh.2, fun hh => ⟨rfl, hh⟩⟩
set_option maxRecDepth 100000 in
set_option maxHeartbeats 12800000 in
theorem ritems_any (d a : Nat) (w : World) (rb : Nat) (AR : Option Addr) (cR : Nat) (L : List Nat) (v : Value) (P : List Pt) (Y : Nat → Prop) (cs : List Value) (h : PreR w rb AR cR L a d v P Y cs) :
    Calls Try.prog 52 #[.pointer (some ⟨rb, 0, none⟩)] w (PostR w rb AR cR L a d v P Y (brackR (L.drop a)) 1 true false) := by
  have hL := h.len
  have qt := take_any w rb AR cR L a d false v P.length cs h.rd (by omega) 94
  rw [show ((94 : Nat) : Int) = 94 from rfl] at qt
  obtain ⟨nt, hnt⟩ : ∃ b, b = isB L a 94 := ⟨_, rfl⟩
  rw [← hnt] at qt
  obtain ⟨a1, ha1⟩ : ∃ k, k = if nt then a + 1 else a := ⟨_, rfl⟩
  rw [← ha1] at qt
  have hbr : brackR (L.drop a) = brackOf nt (itemsOf [] (L.drop a1)) := by
    rw [brack_of (L.drop a) nt (by rw [hnt, hits_isB]; rfl), ha1]
    cases nt with
    | true => simp only [if_true, List.tail_drop]
    | false => rfl
  have haa : a ≤ a1 := by rw [ha1]; split <;> omega
  have H := hid h
  have HBR := hid (And.intro haa hbr)
  clear h hnt ha1 hbr haa
  go_enter Try.func52, Try.ntmps52
  go_wp2_with fail
  (with_reducible refine qt.mono ?_)
  clear qt
  rintro e w1 ⟨rfl, r1, k1⟩
  obtain ⟨pb, hpb⟩ : ∃ g, g = w1.heap.size := ⟨_, rfl⟩
  obtain ⟨w2, hw2⟩ : ∃ w2, w2 = w1.alloc (.cells #[.int .u8 99, .slice none 0 0, .slice none 0 0, .bool nt] 63) := ⟨_, rfl⟩
  have k2 : Kp [] w1 w2 := by rw [hw2]; exact (Kp.refl _ _).alloc _
  have c2 : Cells w2 pb 63 (partCs 99 (.slice none 0 0) (.slice none 0 0) nt) := by rw [hw2, hpb]; exact Cells.fresh w1 63 _
  have g2 : Rew w (ownP v) rb w2 (ownP v) := (Rew.of_kp _ _ k1).trans (Rew.of_kept _ _ k2)
  have hp2 : pb < w2.heap.size := c2.lt
  have hpw : w.heap.size ≤ pb := by rw [hpb]; exact k1.size
  have hpr : pb ≠ rb := by have := H.out.rd.cell.lt; omega
  have HA : Hid (Rew w (ownP v) rb w2 (ownP v) ∧ w.heap.size ≤ pb ∧ pb < w2.heap.size ∧ True ∧ pb ≠ rb ∧ a ≤ a1 ∧ brackR (L.drop a) = brackOf nt (itemsOf [] (L.drop a1))) := hid ⟨g2, hpw, hp2, trivial, hpr, HBR.out.1, HBR.out.2⟩
  have HI : Hid (ItS w2 rb pb AR cR L a1 d v P.length cs nt w2 a1 false (.slice none 0 0) []) := hid ⟨⟨r1.kept k2, Kp.refl _ _, c2, OwnN.nil _ _ _, (fun g e => by cases e)⟩, ⟨Nat.le_refl _, by show 0 + _ ≤ _; omega⟩, (fun e => by cases e), fun _ => ⟨by show 0 + _ ≤ _; omega, [], rfl, rfl⟩⟩
  have HW2 := hid (And.intro hw2 hpb)
  clear r1 k1 k2 c2 g2 hp2 hpw hpr hw2 hpb HBR
  go_upto_region 2 with fail
  rw [← HW2.out.1]
  try rw [← HW2.out.2]
  clear HW2
  go_loopg [4, 5] (L.length + 2) (fun gg v4 v5 wx => ∃ (aj : Nat) (bad : Bool) (vL : Value) (acc : List (Int × Int)), ItS w2 rb pb AR cR L a1 d v P.length cs nt wx aj bad vL acc ∧ (bad = false → L.length + 2 ≤ gg + aj) ∧ L.length + 1 ≤ gg + aj)
  case atStart => exact ⟨a1, false, _, [], HI.out, (fun _ => by omega), by omega⟩
  case round =>
    obtain ⟨wo, rfl⟩ : ∃ wo : World, wo = wr := ⟨_, rfl⟩
    obtain ⟨aj, bad, vL, acc, hI, hgg⟩ := hrel
    obtain ⟨x0, x1, -, -, x4⟩ := hI.rd.five
    cases bad with
    | true =>
      have HZ := hid hI.toItM
      have HLE := hid hI.le
      have HNO := hid (hI.no rfl)
      clear hI hgg HI x0 x1
      obtain ⟨Av, cv, rfl, -, hcv, -, -⟩ := OwnN.shape HZ.out.row
      obtain ⟨na, hna⟩ : ∃ n, n = acc.length := ⟨_, rfl⟩
      obtain ⟨z, hz⟩ : ∃ z, z = decide (na = 0) := ⟨_, rfl⟩
      have ez : ((na : Int) == 0) = z := by rw [hz, Bool.eq_iff_iff, beq_iff_eq, decide_eq_true_eq]; omega
      obtain ⟨-, -, -, -, x4⟩ := HZ.out.rd.five
      have f4 := HZ.out.rd.cell.free 4
      have y2 := HZ.out.cells.cell 2
      unfold partCs at y2
      simp only [List.getElem?_cons_zero, List.getElem?_cons_succ] at y2
      rw [← hna] at y2
      obtain ⟨w6, hw6⟩ : ∃ w6, w6 = wo.setCell ⟨rb, 4, none⟩ (.bool true) := ⟨_, rfl⟩
      have k6 : Kp [rb] wo w6 := by rw [hw6]; exact (Kp.refl _ _).setCell (fun _ => by simp) _
      have r6 : RdS w6 rb AR cR L aj d true v P.length cs := by rw [hw6]; exact HZ.out.rd.setBad _
      have hpr : pb ≠ rb := HA.out.2.2.2.2.1
      have c6 : Cells w6 pb 63 (partCs 99 (.slice none 0 0) (.slice Av acc.length cv) nt) := HZ.out.cells.keep k6 (by simpa using hpr)
      have hnP : P.length ≤ 100000 := by have := H.out.room; omega
      have q := put_any w6 rb AR cR L aj d true v P.length cs r6 hnP 99 none Av 0 0 na cv nt
      rw [show ((99 : Nat) : Int) = 99 from rfl] at q
      have y0 := c6.cell 0
      have y1 := c6.cell 1
      have y3 := c6.cell 3
      have y22 := c6.cell 2
      unfold partCs at y0 y1 y3 y22
      simp only [List.getElem?_cons_zero, List.getElem?_cons_succ] at y0 y1 y3 y22
      rw [← hna] at y22
      rw [show ((99 : Nat) : Int) = 99 from rfl] at y0
      have H6 := hid (And.intro k6 (And.intro r6 (And.intro hna hz)))
      have HW := hid hw6
      clear hw6 k6 r6 c6 hna hz hcv hpr hnP
      go_upto_region 13 with fail
      rw [← HW.out]
      clear HW x4 f4 y2 ez
      go_wp2_with fail
      (with_reducible refine q.mono ?_)
      clear q y0 y1 y3 y22
      rintro e w7 ⟨rfl, v7, r7, g7⟩
      have H7 := hid (And.intro r7 g7)
      clear r7 g7
      go_wp2_with fail
      go_ret
      obtain ⟨k6, r6, hna, hz⟩ := H6.out
      obtain ⟨r7, g7⟩ := H7.out
      obtain ⟨g2, hpw, hp2, e2, hpr, hta, hbr⟩ := HA.out
      have gz := (g2.local HZ.out.kp hpw).trans (Rew.of_kp _ _ k6)
      have hle := HLE.out
      have hd := H.out.deep
      exact ⟨P.length, aj, d, true, v7, P.length + 1, _, rfl, r7, gz.trans g7, ⟨by omega, (fun h => by cases h), by omega, Nat.le_refl _, by omega⟩, (fun _ => by rw [hbr, HNO.out]; rfl), (fun h => by cases h)⟩
    | false =>
      have qt := take_any wo rb AR cR L aj d false v P.length cs hI.rd (by omega) 93
      rw [show ((93 : Nat) : Int) = 93 from rfl] at qt
      obtain ⟨t, ht⟩ : ∃ b, b = isB L aj 93 := ⟨_, rfl⟩
      rw [← ht] at qt
      have HT := hid ht
      have HJ := hid (And.intro hI hgg)
      clear ht hI hgg HI
      cases t with
      | true =>
        go_wp2_with fail
        (with_reducible refine qt.mono ?_)
        clear qt
        rintro e w4 ⟨rfl, r4, k4⟩
        have r4 : RdS w4 rb AR cR L (aj + 1) d false v P.length cs := r4
        obtain ⟨b1, s, b2, b3⟩ := HJ.out.1.yes rfl
        have h93 : L[aj]? = some 93 := by have h2 := HT.out.symm; unfold isB at h2; exact beq_iff_eq.1 h2
        have hle := HJ.out.1.le
        have hrw : rb < w2.heap.size := by have := HA.out.1.kq.size; have := H.out.rd.cell.lt; omega
        have HEND : Hid (∃ s, acc = castI s ∧ itemsOf [] (L.drop a1) = some (s, L.drop (aj + 1))) := hid ⟨s, b2, by rw [b3, drop_at h93, itemsOf_end]⟩
        have HZ : Hid (ItM w2 rb pb AR cR L d v P.length cs nt w4 (aj + 1) false vL acc) := hid (HJ.out.1.toItM.step HA.out.2.2.2.2.1 hrw r4 k4)
        have HLE : Hid (a1 ≤ aj + 1 ∧ acc.length + 4 * a1 ≤ 4 * (aj + 1) + 1) := hid ⟨by omega, by omega⟩
        clear r4 k4 b1 b2 b3 h93 hle hrw x0 x1 x4
        obtain ⟨Av, cv, rfl, -, hcv, -, -⟩ := OwnN.shape HZ.out.row
        obtain ⟨na, hna⟩ : ∃ n, n = acc.length := ⟨_, rfl⟩
        obtain ⟨z, hz⟩ : ∃ z, z = decide (na = 0) := ⟨_, rfl⟩
        have ez : ((na : Int) == 0) = z := by rw [hz, Bool.eq_iff_iff, beq_iff_eq, decide_eq_true_eq]; omega
        obtain ⟨-, -, -, -, x4⟩ := HZ.out.rd.five
        have f4 := HZ.out.rd.cell.free 4
        have y2 := HZ.out.cells.cell 2
        unfold partCs at y2
        simp only [List.getElem?_cons_zero, List.getElem?_cons_succ] at y2
        rw [← hna] at y2
        obtain ⟨w6, hw6⟩ : ∃ w6, w6 = w4.setCell ⟨rb, 4, none⟩ (.bool z) := ⟨_, rfl⟩
        have k6 : Kp [rb] w4 w6 := by rw [hw6]; exact (Kp.refl _ _).setCell (fun _ => by simp) _
        have r6 : RdS w6 rb AR cR L (aj + 1) d z v P.length cs := by rw [hw6]; exact HZ.out.rd.setBad _
        have hpr : pb ≠ rb := HA.out.2.2.2.2.1
        have c6 : Cells w6 pb 63 (partCs 99 (.slice none 0 0) (.slice Av acc.length cv) nt) := HZ.out.cells.keep k6 (by simpa using hpr)
        have hnP : P.length ≤ 100000 := by have := H.out.room; omega
        have q := put_any w6 rb AR cR L (aj + 1) d z v P.length cs r6 hnP 99 none Av 0 0 na cv nt
        rw [show ((99 : Nat) : Int) = 99 from rfl] at q
        have y0 := c6.cell 0
        have y1 := c6.cell 1
        have y3 := c6.cell 3
        have y22 := c6.cell 2
        unfold partCs at y0 y1 y3 y22
        simp only [List.getElem?_cons_zero, List.getElem?_cons_succ] at y0 y1 y3 y22
        rw [← hna] at y22
        rw [show ((99 : Nat) : Int) = 99 from rfl] at y0
        have H6 := hid (And.intro k6 (And.intro r6 (And.intro hna hz)))
        have HW := hid hw6
        clear hw6 k6 r6 c6 hna hz hcv hpr hnP
        go_upto_region 13 with fail
        rw [← HW.out]
        clear HW x4 f4 y2 ez
        go_wp2_with fail
        (with_reducible refine q.mono ?_)
        clear q y0 y1 y3 y22
        rintro e w7 ⟨rfl, v7, r7, g7⟩
        have H7 := hid (And.intro r7 g7)
        clear r7 g7
        go_wp2_with fail
        go_ret
        obtain ⟨k6, r6, hna, hz⟩ := H6.out
        obtain ⟨r7, g7⟩ := H7.out
        obtain ⟨g2, hpw, hp2, e2, hpr, hta, hbr⟩ := HA.out
        have gz := (g2.local HZ.out.kp hpw).trans (Rew.of_kp _ _ k6)
        have hle := HLE.out
        have hd := H.out.deep
        obtain ⟨s, hs, he⟩ := HEND.out
        cases z with
        | true =>
          have h0 : acc = [] := List.eq_nil_of_length_eq_zero (by have := of_decide_eq_true hz.symm; omega)
          have hs0 : s = [] := by
            rw [h0] at hs
            unfold castI at hs
            exact List.map_eq_nil_iff.1 hs.symm
          refine ⟨P.length, (aj + 1), d, true, v7, P.length + 1, _, rfl, r7, gz.trans g7, ⟨by omega, (fun h => by cases h), by omega, Nat.le_refl _, by omega⟩, (fun _ => ?_), (fun h => by cases h)⟩
          rw [hbr, he, hs0]
          rfl
        | false =>
          have hne : s ≠ [] := fun e => by
            rw [e] at hs
            have : acc.length = 0 := by rw [hs]; rfl
            have := of_decide_eq_false hz.symm
            omega
          obtain ⟨A', c', e', s2, _, _, h5⟩ := OwnN.shape HZ.out.row
          injection e' with e7 e8 e9
          subst e7 e9
          have hpt : PartsAt w6 (ownY v rb Y) P cs := H.out.parts.rew gz
          have hlA : P.length + 1 = (P ++ [(⟨99, [], acc, nt⟩ : Pt)]).length := by simp
          subst hna
          have hpp := parts_put (k := 99) (K := []) (I := acc) (neg := nt) (A1 := none) (A2 := Av) (c1 := 0) (c2 := cv) hpt g7 (Span.nil _ _) (s2.keep k6 fun ad e hm => by
              have h6 := HZ.out.new _ (h5 ad e).2
              have := List.mem_singleton.1 hm
              have := H.out.rd.cell.lt
              have := g2.kq.size
              omega) (fun ad e => by cases e) (fun ad e => by
              have h6 := HZ.out.new _ (h5 ad e).2
              have h7 := OwnN.lt HZ.out.row _ (h5 ad e).2
              refine ⟨(h5 ad e).1, Nat.lt_of_lt_of_le h7 k6.size, H.out.fresh (Nat.le_trans g2.kq.size h6) fun hh => ?_⟩
              have := H.out.rd.own.lt _ hh
              have := g2.kq.size
              omega) (by simp) (by have := r6.le; have := H.out.len; omega)
          have hidx : (P ++ [(⟨99, [], acc, nt⟩ : Pt)])[P.length]? = some ⟨99, [], acc, nt⟩ := by rw [List.getElem?_append_right (Nat.le_refl _), Nat.sub_self]; rfl
          refine ⟨P.length, (aj + 1), d, false, v7, P.length + 1, _, rfl, r7, gz.trans g7, ⟨by omega, (fun h => by cases h), by omega, Nat.le_refl _, by omega⟩, (fun h => by cases h), fun _ => ⟨rfl, [⟨99, [], acc, nt⟩], _, hlA, hpp, ?_, .cls (f := fun c => inR s c != nt) hidx (fun c => by rw [hs, inI_cast]), fun _ => rfl⟩⟩
          rw [hbr, he]
          unfold brackOf
          dsimp only
          rw [if_neg hne]
      | false =>
        go_wp2_with fail
        (with_reducible refine qt.mono ?_)
        clear qt
        rintro e w4 ⟨rfl, r4, k4⟩
        have r4 : RdS w4 rb AR cR L aj d false v P.length cs := r4
        have hle := HJ.out.1.le
        have hrw : rb < w2.heap.size := by have := HA.out.1.kq.size; have := H.out.rd.cell.lt; omega
        have H93 : Hid (hits [93] false (L.drop aj) = false) := hid (by rw [hits_isB]; exact HT.out.symm)
        have HZ : Hid (ItM w2 rb pb AR cR L d v P.length cs nt w4 aj false vL acc) := hid (HJ.out.1.toItM.step HA.out.2.2.2.2.1 hrw r4 k4)
        have HQ1 : Hid (∀ W', Kp [] w4 W' → Calls Try.prog 37 #[.pointer (some ⟨rb, 0, none⟩), .int .i64 92] W' fun e w' => e = .returned (.bool (isB L aj 92)) ∧ ∃ q, w' = W'.drewN q) := hid (fun W' k => is_any W' rb AR cR L aj d false v P.length cs (r4.kept k) (by omega) 92)
        obtain ⟨x0, x1, -, -, -⟩ := r4.five
        obtain ⟨m, hm⟩ : ∃ m, m = L.length := ⟨_, rfl⟩
        rw [← hm] at x0
        have hlm : aj ≤ m := by rw [hm]; exact r4.le
        have hm2 : m ≤ 1000 := by omega
        have HM := hid hm
        clear r4 k4 hle hrw x4 hm HT
        go_upto_region 3 with fail
        go_cut [49] (fun v49 wx => v49 = .bool (clsB (L.drop aj)) ∧ Kp [] w4 wx)
        case first =>
          obtain ⟨t, ht⟩ : ∃ b, b = isB L aj 92 := ⟨_, rfl⟩
          rw [← ht] at HQ1
          cases t with
          | false =>
            have HCB : Hid (clsB (L.drop aj) = false) := hid (cls_no ht.symm)
            have HQN : Hid (∀ n, Calls Try.prog 37 #[.pointer (some ⟨rb, 0, none⟩), .int .i64 92] (w4.drewN n) fun e w' => e = .returned (.bool false) ∧ ∃ q, w' = (w4.drewN n).drewN q) := hid (fun n => HQ1.out _ ((Kp.refl _ _).drewN n))
            clear ht HQ1
            go_quiet ((go_at_call 37; with_reducible exact Calls.quiet_of (HQN.out _)))
            generalize nq = n1 at *
            go_wp2_with fail
            go_meet
            exact ⟨by rw [HCB.out], (Kp.refl _ _).drewN _⟩
          | true =>
            have h92 : L[aj]? = some 92 := by have h2 := ht.symm; unfold isB at h2; exact beq_iff_eq.1 h2
            have hl92 : aj < m := by rw [HM.out]; exact (List.getElem?_eq_some_iff.1 h92).1
            obtain ⟨a2, ha2⟩ : ∃ k, k = aj + 1 := ⟨_, rfl⟩
            have iw : IntKind.i64.wrap ((aj : Int) + 1) = (a2 : Int) := by rw [IntWalk.i64_in _ (by omega)]; omega
            by_cases hlt : a2 < m
            · obtain ⟨x, hx⟩ : ∃ x, L[a2]? = some x := ⟨_, List.getElem?_eq_getElem (by have := HM.out; omega)⟩
              obtain ⟨ad, rfl, y⟩ := HZ.out.rd.rune hx
              have i0 : (a2 : Int) < (m : Int) := by omega
              have i1 : decide ((a2 : Int) < (m : Int)) = true := decide_eq_true i0
              have i2 : decide (a2 < m) = true := decide_eq_true hlt
              obtain ⟨nc, hnc⟩ : ∃ n, n = (clsI x).length := ⟨_, rfl⟩
              obtain ⟨cb, hcb⟩ : ∃ b, b = decide (0 < nc) := ⟨_, rfl⟩
              have i4 : decide ((0 : Int) < (nc : Int)) = cb := by rw [hcb]; congr 1; rw [eq_iff_iff]; omega
              have i5 : decide (0 < nc) = cb := hcb.symm
              have HCB : Hid (clsB (L.drop aj) = cb) := hid (by rw [cls_at h92 (by rw [← ha2]; exact hx), hcb, hnc])
              have HQC : Hid (∀ W', Kp [] w4 W' → Calls Try.prog 37 #[.pointer (some ⟨rb, 0, none⟩), .int .i64 92] W' fun e w' => e = .returned (.bool true) ∧ Kp [] W' w') := hid (fun W' k => (HQ1.out W' k).mono fun e w' he => ⟨he.1, by obtain ⟨q, hq⟩ := he.2; rw [hq]; exact (Kp.refl _ _).drewN _⟩)
              have HNC := hid hnc
              have HX := hid hx
              clear hcb hnc ht h92 HQ1 hx ha2
              refine lin_start (fun W' => Kp [] w4 W') (Stays.kp _ _) (by kernel_rfl) (Kp.refl _ _).drew (fun hSS hS => ?_)
              refine lin_val (i := 0) (v := ?_) rfl (by kernel_rfl) (by kernel_rfl) (by kernel_rfl) (by kernel_rfl) (fun _ _ _ h => h) hSS hS rfl (fun W' hSw => ?_) ?_
              rotate_left
              · go_simp; first | done | with_reducible rfl
              try simp only [Act.put, List.setIfInBounds_toArray, List.set_cons_zero, List.set_cons_succ]
              refine lin_call (i := 1) rfl (by kernel_rfl) (by kernel_rfl) (by kernel_rfl) (by kernel_rfl) (fun _ _ _ h => h) hSS hS rfl HQC.out (fun W' hSw => ?_) ?_
              · go_simp
              try simp only [Act.put, List.setIfInBounds_toArray, List.set_cons_zero, List.set_cons_succ]
              refine lin_val (i := 2) (v := ?_) rfl (by kernel_rfl) (by kernel_rfl) (by kernel_rfl) (by kernel_rfl) (fun _ _ _ h => h) hSS hS rfl (fun W' hSw => ?_) ?_
              rotate_left
              · go_simp; first | done | with_reducible rfl
              try simp only [Act.put, List.setIfInBounds_toArray, List.set_cons_zero, List.set_cons_succ]
              refine lin_val (i := 3) (v := ?_) rfl (by kernel_rfl) (by kernel_rfl) (by kernel_rfl) (by kernel_rfl) (fun _ _ _ h => h) hSS hS rfl (fun W' hSw => ?_) ?_
              rotate_left
              · go_simp; first | done | with_reducible rfl
              try simp only [Act.put, List.setIfInBounds_toArray, List.set_cons_zero, List.set_cons_succ]
              refine lin_val (i := 4) (v := ?_) rfl (by kernel_rfl) (by kernel_rfl) (by kernel_rfl) (by kernel_rfl) (fun _ _ _ h => h) hSS hS rfl (fun W' hSw => ?_) ?_
              rotate_left
              · go_simp; first | done | with_reducible rfl
              try simp only [Act.put, List.setIfInBounds_toArray, List.set_cons_zero, List.set_cons_succ]
              refine lin_val (i := 5) (v := ?_) rfl (by kernel_rfl) (by kernel_rfl) (by kernel_rfl) (by kernel_rfl) (fun _ _ _ h => h) hSS hS rfl (fun W' hSw => ?_) ?_
              rotate_left
              · go_simp; first | done | with_reducible rfl
              try simp only [Act.put, List.setIfInBounds_toArray, List.set_cons_zero, List.set_cons_succ]
              refine lin_val (i := 6) (v := ?_) rfl (by kernel_rfl) (by kernel_rfl) (by kernel_rfl) (by kernel_rfl) (fun _ _ _ h => h) hSS hS rfl (fun W' hSw => ?_) ?_
              rotate_left
              · have x1 := hSw.cell x1 (by simp); go_simp; first | done | with_reducible rfl
              try simp only [Act.put, List.setIfInBounds_toArray, List.set_cons_zero, List.set_cons_succ]
              refine lin_val (i := 7) (v := ?_) rfl (by kernel_rfl) (by kernel_rfl) (by kernel_rfl) (by kernel_rfl) (fun _ _ _ h => h) hSS hS rfl (fun W' hSw => ?_) ?_
              rotate_left
              · go_simp; first | done | with_reducible rfl
              try simp only [Act.put, List.setIfInBounds_toArray, List.set_cons_zero, List.set_cons_succ]
              refine lin_val (i := 8) (v := ?_) rfl (by kernel_rfl) (by kernel_rfl) (by kernel_rfl) (by kernel_rfl) (fun _ _ _ h => h) hSS hS rfl (fun W' hSw => ?_) ?_
              rotate_left
              · go_simp; first | done | with_reducible rfl
              try simp only [Act.put, List.setIfInBounds_toArray, List.set_cons_zero, List.set_cons_succ]
              refine lin_val (i := 9) (v := ?_) rfl (by kernel_rfl) (by kernel_rfl) (by kernel_rfl) (by kernel_rfl) (fun _ _ _ h => h) hSS hS rfl (fun W' hSw => ?_) ?_
              rotate_left
              · go_simp; first | done | with_reducible rfl
              try simp only [Act.put, List.setIfInBounds_toArray, List.set_cons_zero, List.set_cons_succ]
              refine lin_val (i := 10) (v := ?_) rfl (by kernel_rfl) (by kernel_rfl) (by kernel_rfl) (by kernel_rfl) (fun _ _ _ h => h) hSS hS rfl (fun W' hSw => ?_) ?_
              rotate_left
              · go_simp; first | done | with_reducible rfl
              try simp only [Act.put, List.setIfInBounds_toArray, List.set_cons_zero, List.set_cons_succ]
              refine lin_val (i := 11) (v := ?_) rfl (by kernel_rfl) (by kernel_rfl) (by kernel_rfl) (by kernel_rfl) (fun _ _ _ h => h) hSS hS rfl (fun W' hSw => ?_) ?_
              rotate_left
              · have x0 := hSw.cell x0 (by simp); go_simp; first | done | with_reducible rfl
              try simp only [Act.put, List.setIfInBounds_toArray, List.set_cons_zero, List.set_cons_succ]
              refine lin_val (i := 12) (v := ?_) rfl (by kernel_rfl) (by kernel_rfl) (by kernel_rfl) (by kernel_rfl) (fun _ _ _ h => h) hSS hS rfl (fun W' hSw => ?_) ?_
              rotate_left
              · go_simp; first | done | with_reducible rfl
              try simp only [Act.put, List.setIfInBounds_toArray, List.set_cons_zero, List.set_cons_succ]
              refine lin_val (i := 13) (v := ?_) rfl (by kernel_rfl) (by kernel_rfl) (by kernel_rfl) (by kernel_rfl) (fun _ _ _ h => h) hSS hS rfl (fun W' hSw => ?_) ?_
              rotate_left
              · go_simp; first | done | with_reducible rfl
              try simp only [Act.put, List.setIfInBounds_toArray, List.set_cons_zero, List.set_cons_succ]
              refine lin_val (i := 14) (v := ?_) rfl (by kernel_rfl) (by kernel_rfl) (by kernel_rfl) (by kernel_rfl) (fun _ _ _ h => h) hSS hS rfl (fun W' hSw => ?_) ?_
              rotate_left
              · go_simp; first | done | with_reducible rfl
              try simp only [Act.put, List.setIfInBounds_toArray, List.set_cons_zero, List.set_cons_succ]
              refine lin_val (i := 15) (v := ?_) rfl (by kernel_rfl) (by kernel_rfl) (by kernel_rfl) (by kernel_rfl) (fun _ _ _ h => h) hSS hS rfl (fun W' hSw => ?_) ?_
              rotate_left
              · go_simp; first | done | with_reducible rfl
              try simp only [Act.put, List.setIfInBounds_toArray, List.set_cons_zero, List.set_cons_succ]
              refine lin_val (i := 16) (v := ?_) rfl (by kernel_rfl) (by kernel_rfl) (by kernel_rfl) (by kernel_rfl) (fun _ _ _ h => h) hSS hS rfl (fun W' hSw => ?_) ?_
              rotate_left
              · go_simp; first | done | with_reducible rfl
              try simp only [Act.put, List.setIfInBounds_toArray, List.set_cons_zero, List.set_cons_succ]
              refine lin_val (i := 17) (v := ?_) rfl (by kernel_rfl) (by kernel_rfl) (by kernel_rfl) (by kernel_rfl) (fun _ _ _ h => h) hSS hS rfl (fun W' hSw => ?_) ?_
              rotate_left
              · go_simp; first | done | with_reducible rfl
              try simp only [Act.put, List.setIfInBounds_toArray, List.set_cons_zero, List.set_cons_succ]
              refine lin_val (i := 18) (v := ?_) rfl (by kernel_rfl) (by kernel_rfl) (by kernel_rfl) (by kernel_rfl) (fun _ _ _ h => h) hSS hS rfl (fun W' hSw => ?_) ?_
              rotate_left
              · go_simp; first | done | with_reducible rfl
              try simp only [Act.put, List.setIfInBounds_toArray, List.set_cons_zero, List.set_cons_succ]
              refine lin_val (i := 19) (v := ?_) rfl (by kernel_rfl) (by kernel_rfl) (by kernel_rfl) (by kernel_rfl) (fun _ _ _ h => h) hSS hS rfl (fun W' hSw => ?_) ?_
              rotate_left
              · have x0 := hSw.cell x0 (by simp); go_simp; first | done | with_reducible rfl
              try simp only [Act.put, List.setIfInBounds_toArray, List.set_cons_zero, List.set_cons_succ]
              refine lin_val (i := 20) (v := ?_) rfl (by kernel_rfl) (by kernel_rfl) (by kernel_rfl) (by kernel_rfl) (fun _ _ _ h => h) hSS hS rfl (fun W' hSw => ?_) ?_
              rotate_left
              · go_simp; first | done | with_reducible rfl
              try simp only [Act.put, List.setIfInBounds_toArray, List.set_cons_zero, List.set_cons_succ]
              refine lin_val (i := 21) (v := ?_) rfl (by kernel_rfl) (by kernel_rfl) (by kernel_rfl) (by kernel_rfl) (fun _ _ _ h => h) hSS hS rfl (fun W' hSw => ?_) ?_
              rotate_left
              · go_simp; first | done | with_reducible rfl
              try simp only [Act.put, List.setIfInBounds_toArray, List.set_cons_zero, List.set_cons_succ]
              refine lin_val (i := 22) (v := ?_) rfl (by kernel_rfl) (by kernel_rfl) (by kernel_rfl) (by kernel_rfl) (fun _ _ _ h => h) hSS hS rfl (fun W' hSw => ?_) ?_
              rotate_left
              · go_simp; first | done | with_reducible rfl
              try simp only [Act.put, List.setIfInBounds_toArray, List.set_cons_zero, List.set_cons_succ]
              refine lin_val (i := 23) (v := ?_) rfl (by kernel_rfl) (by kernel_rfl) (by kernel_rfl) (by kernel_rfl) (fun _ _ _ h => h) hSS hS rfl (fun W' hSw => ?_) ?_
              rotate_left
              · have x1 := hSw.cell x1 (by simp); go_simp; first | done | with_reducible rfl
              try simp only [Act.put, List.setIfInBounds_toArray, List.set_cons_zero, List.set_cons_succ]
              refine lin_val (i := 24) (v := ?_) rfl (by kernel_rfl) (by kernel_rfl) (by kernel_rfl) (by kernel_rfl) (fun _ _ _ h => h) hSS hS rfl (fun W' hSw => ?_) ?_
              rotate_left
              · go_simp; first | done | with_reducible rfl
              try simp only [Act.put, List.setIfInBounds_toArray, List.set_cons_zero, List.set_cons_succ]
              refine lin_val (i := 25) (v := ?_) rfl (by kernel_rfl) (by kernel_rfl) (by kernel_rfl) (by kernel_rfl) (fun _ _ _ h => h) hSS hS rfl (fun W' hSw => ?_) ?_
              rotate_left
              · go_simp; first | done | with_reducible rfl
              try simp only [Act.put, List.setIfInBounds_toArray, List.set_cons_zero, List.set_cons_succ]
              refine lin_val (i := 26) (v := ?_) rfl (by kernel_rfl) (by kernel_rfl) (by kernel_rfl) (by kernel_rfl) (fun _ _ _ h => h) hSS hS rfl (fun W' hSw => ?_) ?_
              rotate_left
              · have y := hSw.cell y (by simp); go_simp; first | done | with_reducible rfl
              try simp only [Act.put, List.setIfInBounds_toArray, List.set_cons_zero, List.set_cons_succ]
              refine lin_list (i := 27) (by kernel_rfl) rfl (fun w8 k8 Q2 hQ => ?_)
              have k08 : Kp [] w4 w8 := (Kp.refl _ _).drew.nil k8
              clear k8
              go_wp2_with fail
              (with_reducible refine (classd_any w8 x).mono ?_)
              rintro e w9 ⟨⟨A9, n9, c9, rfl, hn9, -, -, -⟩, k9⟩
              rw [← HNC.out] at hn9
              subst hn9
              have k09 := k08.nil k9
              clear k08 k9
              go_wp2_with fail
              refine hQ.out _ _ k09 (fun hS9 => ?_)
              clear hQ hS k09
              try simp only [Act.put, List.setIfInBounds_toArray, List.set_cons_zero, List.set_cons_succ]
              refine lin_val (i := 28) (v := ?_) rfl (by kernel_rfl) (by kernel_rfl) (by kernel_rfl) (by kernel_rfl) (fun _ _ _ h => h) hSS hS9 rfl (fun W' hSw => ?_) ?_
              rotate_left
              · go_simp; first | done | with_reducible rfl
              try simp only [Act.put, List.setIfInBounds_toArray, List.set_cons_zero, List.set_cons_succ]
              refine lin_val (i := 29) (v := ?_) rfl (by kernel_rfl) (by kernel_rfl) (by kernel_rfl) (by kernel_rfl) (fun _ _ _ h => h) hSS hS9 rfl (fun W' hSw => ?_) ?_
              rotate_left
              · go_simp; first | done | with_reducible rfl
              try simp only [Act.put, List.setIfInBounds_toArray, List.set_cons_zero, List.set_cons_succ]
              refine lin_last (i := 30) (by kernel_rfl) rfl (by kernel_rfl) (fun wz kz K hK => ?_)
              have HKZ := hid (hS9.nil kz)
              clear kz
              go_simp
              refine hK.out _ _ ?_
              clear hK K hS9 hSS x0 x1 y
              go_wp2_with fail
              go_meet
              exact ⟨by rw [HCB.out], HKZ.out⟩
            · have i0 : ¬ (a2 : Int) < (m : Int) := by omega
              have i1 : decide ((a2 : Int) < (m : Int)) = false := decide_eq_false i0
              have i2 : decide (a2 < m) = false := decide_eq_false hlt
              have HCB : Hid (clsB (L.drop aj) = false) := hid (cls_short (by have := HM.out; omega))
              have HQN : Hid (∀ n, Calls Try.prog 37 #[.pointer (some ⟨rb, 0, none⟩), .int .i64 92] (w4.drewN n) fun e w' => e = .returned (.bool true) ∧ ∃ q, w' = (w4.drewN n).drewN q) := hid (fun n => HQ1.out _ ((Kp.refl _ _).drewN n))
              clear ht h92 HQ1 ha2
              go_quiet ((go_at_call 37; with_reducible exact Calls.quiet_of (HQN.out _)))
              generalize nq = n1 at *
              go_wp2_with fail
              go_meet
              exact ⟨by rw [HCB.out], (Kp.refl _ _).drewN _⟩
        case rest =>
          obtain ⟨rfl, kc⟩ := hcut
          have HC := hid (HZ.out.kept kc)
          have HRW : Hid (rb < w2.heap.size ∧ w.heap.size ≤ w2.heap.size) := hid ⟨by have := HA.out.1.kq.size; have := H.out.rd.cell.lt; omega, HA.out.1.kq.size⟩
          clear kc HZ HQ1 x0 x1
          obtain ⟨cb, hcb⟩ : ∃ b, b = clsB (L.drop aj) := ⟨_, rfl⟩
          rw [← hcb]
          obtain ⟨na, hna⟩ : ∃ n, n = acc.length := ⟨_, rfl⟩
          have hsa := HC.out.row
          rw [← hna] at hsa
          have hna4 : na ≤ 4004 := by have := HJ.out.1.le; have := HM.out; omega
          obtain ⟨x0, x1, -, -, x4⟩ := HC.out.rd.five
          rw [← HM.out] at x0
          have y2 := HC.out.cells.cell 2
          unfold partCs at y2
          simp only [List.getElem?_cons_zero, List.getElem?_cons_succ] at y2
          have hnpb : pb ∉ vL.ownBlock.toList := fun hm' => by have := HC.out.new pb (Option.mem_toList.1 hm'); have := HA.out.2.2.1; omega
          have hnrb : rb ∉ vL.ownBlock.toList := fun hm' => by have := HC.out.new rb (Option.mem_toList.1 hm'); have := HRW.out; omega
          have HNA := hid (And.intro hna hcb)
          have HSA := hid hsa
          clear hna hcb hsa
          cases cb with
          | true =>
            obtain ⟨x, r, hLx, hcx⟩ := cls_shape HNA.out.2.symm
            have h92 : L[aj]? = some 92 := by have := congrArg List.head? hLx; rwa [List.head?_drop] at this
            have hx : L[aj + 1]? = some x := by
              have := congrArg (fun l => l[1]?) hLx
              simpa [List.getElem?_drop] using this
            have hl2 : aj + 1 < m := by rw [HM.out]; exact (List.getElem?_eq_some_iff.1 hx).1
            obtain ⟨a2, ha2⟩ : ∃ k, k = aj + 1 := ⟨_, rfl⟩
            obtain ⟨a3, ha3⟩ : ∃ k, k = aj + 2 := ⟨_, rfl⟩
            have iw : IntKind.i64.wrap ((aj : Int) + 1) = (a2 : Int) := by rw [IntWalk.i64_in _ (by omega)]; omega
            have iw3 : IntKind.i64.wrap ((aj : Int) + 2) = (a3 : Int) := by rw [IntWalk.i64_in _ (by omega)]; omega
            rw [← ha2] at hx hl2
            obtain ⟨ad, rfl, y⟩ := HC.out.rd.rune hx
            have i0 : (a2 : Int) < (m : Int) := by omega
            have i1 : decide ((a2 : Int) < (m : Int)) = true := decide_eq_true i0
            have i2 : decide (a2 < m) = true := decide_eq_true hl2
            have hnad : ad.block ∉ vL.ownBlock.toList := fun hm' => by
              have := HC.out.new _ (Option.mem_toList.1 hm')
              have := (H.out.rd.apart ad rfl).2.2
              have := HRW.out
              omega
            have hcl : (clsI x).length = (classR x).length := by rw [cls_cast]; unfold castI; rw [List.length_map]
            have hcl4 : (clsI x).length ≤ 4 := by rw [hcl]; exact class_len x
            have hcl0 : 0 < (clsI x).length := by rw [hcl]; exact List.length_pos_iff.2 hcx
            have HCX := hid (And.intro hLx (And.intro hcx (And.intro ha2 (And.intro ha3 (And.intro hcl4 hcl0)))))
            clear hLx hcx h92 hx ha2 ha3 hcl hcl4 hcl0
            go_upto_region 4 with fail
            refine lin_start (fun W' => Kp vL.ownBlock.toList wc W') (Stays.kp _ _) (by kernel_rfl) (Kp.refl _ _).drew (fun hSS hS => ?_)
            refine lin_val (i := 0) (v := ?_) rfl (by kernel_rfl) (by kernel_rfl) (by kernel_rfl) (by kernel_rfl) (fun _ _ _ h => h) hSS hS rfl (fun W' hSw => ?_) ?_
            rotate_left
            · go_simp; first | done | with_reducible rfl
            try simp only [Act.put, List.setIfInBounds_toArray, List.set_cons_zero, List.set_cons_succ]
            refine lin_val (i := 1) (v := ?_) rfl (by kernel_rfl) (by kernel_rfl) (by kernel_rfl) (by kernel_rfl) (fun _ _ _ h => h) hSS hS rfl (fun W' hSw => ?_) ?_
            rotate_left
            · have y2 := hSw.cell y2 hnpb; go_simp; first | done | with_reducible rfl
            try simp only [Act.put, List.setIfInBounds_toArray, List.set_cons_zero, List.set_cons_succ]
            refine lin_val (i := 2) (v := ?_) rfl (by kernel_rfl) (by kernel_rfl) (by kernel_rfl) (by kernel_rfl) (fun _ _ _ h => h) hSS hS rfl (fun W' hSw => ?_) ?_
            rotate_left
            · go_simp; first | done | with_reducible rfl
            try simp only [Act.put, List.setIfInBounds_toArray, List.set_cons_zero, List.set_cons_succ]
            refine lin_val (i := 3) (v := ?_) rfl (by kernel_rfl) (by kernel_rfl) (by kernel_rfl) (by kernel_rfl) (fun _ _ _ h => h) hSS hS rfl (fun W' hSw => ?_) ?_
            rotate_left
            · go_simp; first | done | with_reducible rfl
            try simp only [Act.put, List.setIfInBounds_toArray, List.set_cons_zero, List.set_cons_succ]
            refine lin_val (i := 4) (v := ?_) rfl (by kernel_rfl) (by kernel_rfl) (by kernel_rfl) (by kernel_rfl) (fun _ _ _ h => h) hSS hS rfl (fun W' hSw => ?_) ?_
            rotate_left
            · go_simp; first | done | with_reducible rfl
            try simp only [Act.put, List.setIfInBounds_toArray, List.set_cons_zero, List.set_cons_succ]
            refine lin_val (i := 5) (v := ?_) rfl (by kernel_rfl) (by kernel_rfl) (by kernel_rfl) (by kernel_rfl) (fun _ _ _ h => h) hSS hS rfl (fun W' hSw => ?_) ?_
            rotate_left
            · have x0 := hSw.cell x0 hnrb; go_simp; first | done | with_reducible rfl
            try simp only [Act.put, List.setIfInBounds_toArray, List.set_cons_zero, List.set_cons_succ]
            refine lin_val (i := 6) (v := ?_) rfl (by kernel_rfl) (by kernel_rfl) (by kernel_rfl) (by kernel_rfl) (fun _ _ _ h => h) hSS hS rfl (fun W' hSw => ?_) ?_
            rotate_left
            · go_simp; first | done | with_reducible rfl
            try simp only [Act.put, List.setIfInBounds_toArray, List.set_cons_zero, List.set_cons_succ]
            refine lin_val (i := 7) (v := ?_) rfl (by kernel_rfl) (by kernel_rfl) (by kernel_rfl) (by kernel_rfl) (fun _ _ _ h => h) hSS hS rfl (fun W' hSw => ?_) ?_
            rotate_left
            · go_simp; first | done | with_reducible rfl
            try simp only [Act.put, List.setIfInBounds_toArray, List.set_cons_zero, List.set_cons_succ]
            refine lin_val (i := 8) (v := ?_) rfl (by kernel_rfl) (by kernel_rfl) (by kernel_rfl) (by kernel_rfl) (fun _ _ _ h => h) hSS hS rfl (fun W' hSw => ?_) ?_
            rotate_left
            · go_simp; first | done | with_reducible rfl
            try simp only [Act.put, List.setIfInBounds_toArray, List.set_cons_zero, List.set_cons_succ]
            refine lin_val (i := 9) (v := ?_) rfl (by kernel_rfl) (by kernel_rfl) (by kernel_rfl) (by kernel_rfl) (fun _ _ _ h => h) hSS hS rfl (fun W' hSw => ?_) ?_
            rotate_left
            · have x1 := hSw.cell x1 hnrb; go_simp; first | done | with_reducible rfl
            try simp only [Act.put, List.setIfInBounds_toArray, List.set_cons_zero, List.set_cons_succ]
            refine lin_val (i := 10) (v := ?_) rfl (by kernel_rfl) (by kernel_rfl) (by kernel_rfl) (by kernel_rfl) (fun _ _ _ h => h) hSS hS rfl (fun W' hSw => ?_) ?_
            rotate_left
            · go_simp; first | done | with_reducible rfl
            try simp only [Act.put, List.setIfInBounds_toArray, List.set_cons_zero, List.set_cons_succ]
            refine lin_val (i := 11) (v := ?_) rfl (by kernel_rfl) (by kernel_rfl) (by kernel_rfl) (by kernel_rfl) (fun _ _ _ h => h) hSS hS rfl (fun W' hSw => ?_) ?_
            rotate_left
            · go_simp; first | done | with_reducible rfl
            try simp only [Act.put, List.setIfInBounds_toArray, List.set_cons_zero, List.set_cons_succ]
            refine lin_val (i := 12) (v := ?_) rfl (by kernel_rfl) (by kernel_rfl) (by kernel_rfl) (by kernel_rfl) (fun _ _ _ h => h) hSS hS rfl (fun W' hSw => ?_) ?_
            rotate_left
            · have y := hSw.cell y (by rw [add_block]; exact hnad); go_simp; first | done | with_reducible rfl
            try simp only [Act.put, List.setIfInBounds_toArray, List.set_cons_zero, List.set_cons_succ]
            refine lin_list (i := 13) (by kernel_rfl) rfl (fun w8 k8 Q2 hQ => ?_)
            have k08 : Kp [] wc w8 := (Kp.refl _ _).drew.nil k8
            clear k8
            go_wp2_with fail
            (with_reducible refine (classd_any w8 x).mono ?_)
            rintro e w9 ⟨⟨A9, n9, c9, rfl, hn9, -, sp9, -⟩, k9⟩
            obtain ⟨ad9, rfl⟩ : ∃ ad, A9 = some ad := by
              have h0 : 0 < (itemsV (clsI x)).length := by rw [itemsV_len]; have := HCX.out; omega
              obtain ⟨ad, e, -⟩ := sp9 0 _ (List.getElem?_eq_getElem h0)
              exact ⟨ad, e⟩
            have k09 := k08.nil k9
            have H9 := hid (And.intro k09 (And.intro sp9 hn9))
            clear k08 k9 k09 sp9 hn9
            go_wp2_with fail
            refine hQ.out _ _ (H9.out.1.mono (by simp)) (fun hS9 => ?_)
            clear hQ hS
            try simp only [Act.put, List.setIfInBounds_toArray, List.set_cons_zero, List.set_cons_succ]
            refine lin_list (i := 14) (by kernel_rfl) rfl (fun w10 k10 Q2 hQ => ?_)
            have k010 := H9.out.1.nil k10
            have sp10 := H9.out.2.1.kept k10
            have ho10 := OwnN.kept HSA.out k010
            have hl9 : (itemsV (clsI x)).length = n9 * 2 := by rw [itemsV_len, H9.out.2.2]
            have hn9 : n9 ≤ 4 := by rw [H9.out.2.2]; exact HCX.out.2.2.2.2.1
            have H10 := hid k010
            clear k10 k010
            go_wp2_with (at_builtin; go_must (refine wpList_appendN rfl _ _ 61 rfl 89 (.agg #[.int .i64 0, .int .i64 0]) 2 16 Try.underlying61 itemInfo rfl (by decide) _ na (itemsV acc) rfl ho10 _ n9 c9 (itemsV (clsI x)) rfl sp10 hl9 (itemsV_one _) ?_ ?_ ?_))
            · omega
            · omega
            intro v11 w11 ho11 k11 hb11
            obtain ⟨A11, c11, rfl, -, -, -, -⟩ := OwnN.shape ho11
            have k011 := (H10.out.mono (by simp) : Kp vL.ownBlock.toList wc w10).trans k11 (fun x hx _ => hx)
            have H11 := hid (And.intro k011 (And.intro ho11 (And.intro hb11 k11)))
            clear ho11 k11 hb11 ho10 sp10 hl9 k011 hn9
            go_wp2_with fail
            refine hQ.out _ _ H11.out.1 (fun hS11 => ?_)
            clear hQ hS9
            try simp only [Act.put, List.setIfInBounds_toArray, List.set_cons_zero, List.set_cons_succ]
            refine lin_val (i := 15) (v := ?_) rfl (by kernel_rfl) (by kernel_rfl) (by kernel_rfl) (by kernel_rfl) (fun _ _ _ h => h) hSS hS11 rfl (fun W' hSw => ?_) ?_
            rotate_left
            · go_simp; first | done | with_reducible rfl
            try simp only [Act.put, List.setIfInBounds_toArray, List.set_cons_zero, List.set_cons_succ]
            refine lin_last (i := 16) (by kernel_rfl) rfl (by kernel_rfl) (fun w12 k12 K hK => ?_)
            have k012 := H11.out.1.nil k12
            have y22 := k012.cell y2 hnpb
            have f2 := (HC.out.cells.keep k012 hnpb).free 2
            have HIM := hid (HC.out.more H.out HA.out.2.1 HA.out.2.2.1 HRW.out.2 (new := clsI x) H10.out (H11.out.2.2.2.trans k12 (fun x hx _ => by cases hx)) (by rw [← HNA.out.1]; exact OwnN.kept H11.out.2.1 k12) H9.out.2.2.symm H11.out.2.2.1)
            clear k012
            go_simp
            refine hK.out _ _ ?_
            clear hK K hS11 hSS y22 f2 y2 x0 x1 y hnpb hnrb hnad k12
            obtain ⟨w13, hw13⟩ : ∃ w13, w13 = w12.setCell ⟨pb, 2, none⟩ (.slice A11 (na + n9) c11) := ⟨_, rfl⟩
            rw [← hw13] at HIM ⊢
            obtain ⟨-, x1, -, -, -⟩ := HIM.out.rd.five
            have f1 := HIM.out.rd.cell.free 1
            obtain ⟨w14, hw14⟩ : ∃ w14, w14 = w13.setCell ⟨rb, 1, none⟩ (.int .i64 (a3 : Int)) := ⟨_, rfl⟩
            have r14 : RdS w14 rb (some ad) cR L a3 d false v P.length cs := by rw [hw14]; exact HIM.out.rd.at (by have := HCX.out; have := HM.out; omega)
            have k14 : Kp [rb] w13 w14 := by rw [hw14]; exact (Kp.refl _ _).setCell (fun _ => by simp) _
            have HIN := hid (HIM.out.step HA.out.2.2.2.2.1 HRW.out.1 r14 k14)
            have HW14 := hid hw14
            clear r14 k14 hw13 hw14
            go_wp2_with fail
            rw [← HW14.out]
            clear HW14
            go_roundg (gk - 1)
            case measure => have := HJ.out.2.1 (by trivial); have := HM.out; omega
            case rel =>
              obtain ⟨hLx, hcx, ha2, ha3, hcl4, hcl0⟩ := HCX.out
              have hle := HJ.out.1.le
              obtain ⟨b1, s, b2, b3⟩ := HJ.out.1.yes rfl
              have hg := HJ.out.2.1 (by trivial)
              have hal : (acc ++ clsI x).length = acc.length + (clsI x).length := List.length_append
              have hit : itemR (L.drop aj) = some (classR x, L.drop a3) := by
                rw [item_cls HNA.out.2.symm, ha3]
                congr 2
                · rw [hLx]; rfl
                · rw [List.drop_drop]
              exact ⟨a3, false, _, acc ++ clsI x, ⟨HIN.out, ⟨by omega, by omega⟩, (fun e => by cases e), fun _ => ⟨by omega, s ++ classR x, by rw [castI_app, ← b2]; rfl, by rw [b3]; exact itemsOf_some H93.out hit⟩⟩, (fun _ => by omega), by omega⟩
          | false =>
            have q1 := rsingle_any wc rb AR cR L aj d false v P.length cs HC.out.rd (by have := HM.out; omega) H.out.small
            clear x0 x1 x4 y2 hnpb hnrb
            go_upto_region 6 with fail
            go_wp2_with fail
            (with_reducible refine q1.mono ?_)
            clear q1
            rintro e w5 ⟨z1, b1, rfl, r5, k5, s1⟩
            have I5 := HC.out.step HA.out.2.2.2.2.1 HRW.out.1 r5 k5
            have q2 := take_any w5 rb AR cR L b1 d false v P.length cs r5 (by have := HM.out; omega) 45
            rw [show ((45 : Nat) : Int) = 45 from rfl] at q2
            obtain ⟨t, ht⟩ : ∃ b, b = isB L b1 45 := ⟨_, rfl⟩
            rw [← ht] at q2
            have H5 := hid (And.intro I5 (And.intro s1 ht))
            clear I5 s1 ht r5 k5
            go_upto_region 7 with fail
            go_cut [5] (fun v5 wx => (∃ z0, v5 = .int .i64 z0 ∧ z0 = z1) ∧ wx = w5)
            case first =>
              go_wp2_with fail
              go_meet
              exact ⟨⟨_, rfl, rfl⟩, rfl⟩
            case rest =>
            obtain ⟨⟨z0, rfl, hz0⟩, hwx⟩ := hcut
            rw [hwx]
            have HZ0 := hid hz0
            clear hz0 hwx
            go_upto_region 8 with fail
            go_wp2_with fail
            (with_reducible refine q2.mono ?_)
            clear q2
            rintro e w6 ⟨rfl, r6, k6⟩
            cases t with
            | false =>
              have r6 : RdS w6 rb AR cR L b1 d false v P.length cs := r6
              have I6 := hid (H5.out.1.step HA.out.2.2.2.2.1 HRW.out.1 r6 k6)
              clear r6 k6
              have HP := hid (pair_end (b2 := b1) (z2 := z0) H5.out.2.1 (.inr ⟨H5.out.2.2.symm, rfl, HZ0.out⟩))
              go_upto_region 10 with fail
              obtain ⟨n1, hn1⟩ : ∃ b, b = decide (z1 < 0) := ⟨_, rfl⟩
              obtain ⟨n2, hn2⟩ : ∃ b, b = decide (z0 < z1) := ⟨_, rfl⟩
              have hnn : ((n1 || n2) = true) ↔ (z1 < 0 ∨ z0 < z1) := by rw [hn1, hn2]; simp
              have e1 := hn1.symm
              have e2 := hn2.symm
              have HNN := hid hnn
              clear hnn hn1 hn2
              obtain ⟨-, -, -, -, x4⟩ := I6.out.rd.five
              have f4 := I6.out.rd.cell.free 4
              go_cut [] (fun wx => wx = w6.setCell ⟨rb, 4, none⟩ (.bool (n1 || n2)))
              case first =>
                cases n1 with
                | true =>
                  go_wp2_with fail
                  go_meet
                  rfl
                | false =>
                  cases n2 with
                  | true =>
                    go_wp2_with fail
                    go_meet
                    rfl
                  | false =>
                    go_wp2_with fail
                    go_meet
                    rfl
              case rest =>
                subst hcut
                obtain ⟨bo, hbo⟩ : ∃ b, b = (n1 || n2) := ⟨_, rfl⟩
                rw [← hbo] at HNN ⊢
                clear e1 e2 x4 f4 hbo
                obtain ⟨w8, hw8⟩ : ∃ w8, w8 = w6.setCell ⟨rb, 4, none⟩ (.bool bo) := ⟨_, rfl⟩
                have r8 : RdS w8 rb AR cR L b1 d bo v P.length cs := by rw [hw8]; exact I6.out.rd.setBad _
                have k8 : Kp [rb] w6 w8 := by rw [hw8]; exact (Kp.refl _ _).setCell (fun _ => by simp) _
                have I8 := hid (I6.out.step HA.out.2.2.2.2.1 HRW.out.1 r8 k8)
                rw [← hw8]
                obtain ⟨g9, hg9⟩ : ∃ g, g = w8.heap.size := ⟨_, rfl⟩
                obtain ⟨w9, hw9⟩ : ∃ w9, w9 = w8.alloc (.cells #[.int .i64 z1, .int .i64 z0] 89) := ⟨_, rfl⟩
                have k9 : Kp [] w8 w9 := by rw [hw9]; exact (Kp.refl _ _).alloc _
                have c9 : Cells w9 g9 89 (itemsV [(z1, z0)]) := by rw [hw9, hg9]; exact Cells.fresh w8 89 _
                have ho8 : OwnN w8 89 2 vL na (itemsV acc) := by have := I8.out.row; rw [← HNA.out.1] at this; exact this
                have ho9 := OwnN.kept ho8 k9
                have y2 := I8.out.cells.cell 2
                unfold partCs at y2
                simp only [List.getElem?_cons_zero, List.getElem?_cons_succ] at y2
                have HW9 := hid (And.intro hw9 hg9)
                have H9 := hid k9
                clear hw8 r8 k8 hw9 hg9 k9 ho8 HSA HC H5
                go_wp2_with (at_builtin; (try rw [← HW9.out.1]); (try rw [← HW9.out.2]); go_must (refine wpList_appendN rfl _ _ 61 rfl 89 (.agg #[.int .i64 0, .int .i64 0]) 2 16 Try.underlying61 itemInfo rfl (by decide) _ na (itemsV acc) rfl ho9 _ 1 1 (itemsV [(z1, z0)]) rfl (Span.of_cells c9) rfl (itemsV_one _) ?_ ?_ ?_))
                · omega
                · omega
                intro v11 w11 ho11 k11 hb11
                obtain ⟨A11, c11, rfl, -, -, -, -⟩ := OwnN.shape ho11
                have hmore := I8.out.more H.out HA.out.2.1 HA.out.2.2.1 HRW.out.2 (new := [(z1, z0)]) H9.out k11 (by rw [← HNA.out.1]; exact ho11) rfl hb11
                have hnpb : pb ∉ vL.ownBlock.toList := fun hm' => by have := I8.out.new pb (Option.mem_toList.1 hm'); have := HA.out.2.2.1; omega
                have f2 := ((I8.out.cells.keep H9.out (by simp)).keep k11 hnpb).free 2
                have y22 := k11.cell (H9.out.cell y2 (by simp)) hnpb
                obtain ⟨w12, hw12⟩ : ∃ w12, w12 = w11.setCell ⟨pb, 2, none⟩ (.slice A11 (na + 1) c11) := ⟨_, rfl⟩
                rw [← hw12] at hmore
                have HIM := hid hmore
                have HW12 := hid hw12
                clear hmore hw12 k11 ho11 hb11 ho9 c9 hnpb y2
                go_wp2_with fail
                rw [← HW12.out]
                go_roundg (gk - 1)
                case measure => have := HJ.out.2.1 (by trivial); have := HM.out; omega
                case rel =>
                  have hle := HJ.out.1.le
                  obtain ⟨b1', s, b2', b3'⟩ := HJ.out.1.yes rfl
                  have hg := HJ.out.2.1 (by trivial)
                  have hal : (acc ++ [(z1, z0)]).length = acc.length + 1 := by rw [List.length_append]; rfl
                  have hip := item_pair HNA.out.2.symm
                  obtain ⟨p1, p2, p3⟩ := HP.out
                  cases bo with
                  | true =>
                    have hno := p2 (HNN.out.1 rfl)
                    exact ⟨b1, true, _, _, ⟨HIM.out, ⟨by omega, by omega⟩, (fun _ => by rw [b3']; exact itemsOf_none H93.out (by rw [hip, hno]; rfl)), (fun e => by cases e)⟩, (fun e => by cases e), by omega⟩
                  | false =>
                    obtain ⟨p, hp, ez1, ez2, hlt⟩ := p3 (fun hh => by have := HNN.out.2 hh; cases this)
                    exact ⟨b1, false, _, _, ⟨HIM.out, ⟨by omega, by omega⟩, (fun e => by cases e), fun _ => ⟨by omega, s ++ [p], by rw [castI_app, ← b2', ez1, ez2]; rfl, by rw [b3']; exact itemsOf_some H93.out (by rw [hip, hp]; rfl)⟩⟩, (fun _ => by omega), by omega⟩
            | true =>
              have r6 : RdS w6 rb AR cR L (b1 + 1) d false v P.length cs := r6
              have I6 := hid (H5.out.1.step HA.out.2.2.2.2.1 HRW.out.1 r6 k6)
              have q3 := rsingle_any w6 rb AR cR L (b1 + 1) d false v P.length cs r6 (by have := HM.out; omega) H.out.small
              clear r6 k6
              go_upto_region 9 with fail
              go_wp2_with fail
              (with_reducible refine q3.mono ?_)
              clear q3
              rintro e w7 ⟨z2, b2, rfl, r7, k7, s2⟩
              have HP := hid (pair_end H5.out.2.1 (.inl ⟨H5.out.2.2.symm, s2⟩))
              have I7 := hid (I6.out.step HA.out.2.2.2.2.1 HRW.out.1 r7 k7)
              clear r7 k7 s2 I6
              go_upto_region 10 with fail
              obtain ⟨n1, hn1⟩ : ∃ b, b = decide (z1 < 0) := ⟨_, rfl⟩
              obtain ⟨n2, hn2⟩ : ∃ b, b = decide (z2 < z1) := ⟨_, rfl⟩
              have hnn : ((n1 || n2) = true) ↔ (z1 < 0 ∨ z2 < z1) := by rw [hn1, hn2]; simp
              have e1 := hn1.symm
              have e2 := hn2.symm
              have HNN := hid hnn
              clear hnn hn1 hn2
              obtain ⟨-, -, -, -, x4⟩ := I7.out.rd.five
              have f4 := I7.out.rd.cell.free 4
              go_cut [] (fun wx => wx = w7.setCell ⟨rb, 4, none⟩ (.bool (n1 || n2)))
              case first =>
                cases n1 with
                | true =>
                  go_wp2_with fail
                  go_meet
                  rfl
                | false =>
                  cases n2 with
                  | true =>
                    go_wp2_with fail
                    go_meet
                    rfl
                  | false =>
                    go_wp2_with fail
                    go_meet
                    rfl
              case rest =>
                subst hcut
                obtain ⟨bo, hbo⟩ : ∃ b, b = (n1 || n2) := ⟨_, rfl⟩
                rw [← hbo] at HNN ⊢
                clear e1 e2 x4 f4 hbo
                obtain ⟨w8, hw8⟩ : ∃ w8, w8 = w7.setCell ⟨rb, 4, none⟩ (.bool bo) := ⟨_, rfl⟩
                have r8 : RdS w8 rb AR cR L b2 d bo v P.length cs := by rw [hw8]; exact I7.out.rd.setBad _
                have k8 : Kp [rb] w7 w8 := by rw [hw8]; exact (Kp.refl _ _).setCell (fun _ => by simp) _
                have I8 := hid (I7.out.step HA.out.2.2.2.2.1 HRW.out.1 r8 k8)
                rw [← hw8]
                obtain ⟨g9, hg9⟩ : ∃ g, g = w8.heap.size := ⟨_, rfl⟩
                obtain ⟨w9, hw9⟩ : ∃ w9, w9 = w8.alloc (.cells #[.int .i64 z1, .int .i64 z2] 89) := ⟨_, rfl⟩
                have k9 : Kp [] w8 w9 := by rw [hw9]; exact (Kp.refl _ _).alloc _
                have c9 : Cells w9 g9 89 (itemsV [(z1, z2)]) := by rw [hw9, hg9]; exact Cells.fresh w8 89 _
                have ho8 : OwnN w8 89 2 vL na (itemsV acc) := by have := I8.out.row; rw [← HNA.out.1] at this; exact this
                have ho9 := OwnN.kept ho8 k9
                have y2 := I8.out.cells.cell 2
                unfold partCs at y2
                simp only [List.getElem?_cons_zero, List.getElem?_cons_succ] at y2
                have HW9 := hid (And.intro hw9 hg9)
                have H9 := hid k9
                clear hw8 r8 k8 hw9 hg9 k9 ho8 HSA HC H5
                go_wp2_with (at_builtin; (try rw [← HW9.out.1]); (try rw [← HW9.out.2]); go_must (refine wpList_appendN rfl _ _ 61 rfl 89 (.agg #[.int .i64 0, .int .i64 0]) 2 16 Try.underlying61 itemInfo rfl (by decide) _ na (itemsV acc) rfl ho9 _ 1 1 (itemsV [(z1, z2)]) rfl (Span.of_cells c9) rfl (itemsV_one _) ?_ ?_ ?_))
                · omega
                · omega
                intro v11 w11 ho11 k11 hb11
                obtain ⟨A11, c11, rfl, -, -, -, -⟩ := OwnN.shape ho11
                have hmore := I8.out.more H.out HA.out.2.1 HA.out.2.2.1 HRW.out.2 (new := [(z1, z2)]) H9.out k11 (by rw [← HNA.out.1]; exact ho11) rfl hb11
                have hnpb : pb ∉ vL.ownBlock.toList := fun hm' => by have := I8.out.new pb (Option.mem_toList.1 hm'); have := HA.out.2.2.1; omega
                have f2 := ((I8.out.cells.keep H9.out (by simp)).keep k11 hnpb).free 2
                have y22 := k11.cell (H9.out.cell y2 (by simp)) hnpb
                obtain ⟨w12, hw12⟩ : ∃ w12, w12 = w11.setCell ⟨pb, 2, none⟩ (.slice A11 (na + 1) c11) := ⟨_, rfl⟩
                rw [← hw12] at hmore
                have HIM := hid hmore
                have HW12 := hid hw12
                clear hmore hw12 k11 ho11 hb11 ho9 c9 hnpb y2
                go_wp2_with fail
                rw [← HW12.out]
                go_roundg (gk - 1)
                case measure => have := HJ.out.2.1 (by trivial); have := HM.out; omega
                case rel =>
                  have hle := HJ.out.1.le
                  obtain ⟨b1', s, b2', b3'⟩ := HJ.out.1.yes rfl
                  have hg := HJ.out.2.1 (by trivial)
                  have hal : (acc ++ [(z1, z2)]).length = acc.length + 1 := by rw [List.length_append]; rfl
                  have hip := item_pair HNA.out.2.symm
                  obtain ⟨p1, p2, p3⟩ := HP.out
                  cases bo with
                  | true =>
                    have hno := p2 (HNN.out.1 rfl)
                    exact ⟨b2, true, _, _, ⟨HIM.out, ⟨by omega, by omega⟩, (fun _ => by rw [b3']; exact itemsOf_none H93.out (by rw [hip, hno]; rfl)), (fun e => by cases e)⟩, (fun e => by cases e), by omega⟩
                  | false =>
                    obtain ⟨p, hp, ez1, ez2, hlt⟩ := p3 (fun hh => by have := HNN.out.2 hh; cases this)
                    exact ⟨b2, false, _, _, ⟨HIM.out, ⟨by omega, by omega⟩, (fun e => by cases e), fun _ => ⟨by omega, s ++ [p], by rw [castI_app, ← b2', ez1, ez2]; rfl, by rw [b3']; exact itemsOf_some H93.out (by rw [hip, hp]; rfl)⟩⟩, (fun _ => by omega), by omega⟩
end Go.Proofs.Ytaaikjedagnjbaa

