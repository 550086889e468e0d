/- The document's reader: atom. (printed by tools/gengfatom.py) -/
import Derived.Test.YtaaikjedagnjbaaRM
namespace Go.Proofs.Ytaaikjedagnjbaa
open Go Go.RowKit Go.Lib

theorem atom_nil (d : Nat) : atomR d [] = none := by unfold atomR; unfold atomF; rfl
theorem PreR.next {w w' : World} {rb : Nat} {AR : Option Addr} {cR : Nat} {L : List Nat} {a d a' d' : Nat} {v : Value} {P : List Pt} {Y : Nat → Prop} {cs : List Value} (h : PreR w rb AR cR L a d v P Y cs) (r : RdS w' rb AR cR L a' d' false v P.length cs) (k : Kp [rb] w w') (ha : a ≤ a') (hd : d' ≤ 6) : PreR w' rb AR cR L a' d' v P Y cs :=
  ⟨r, h.parts.later ⟨[rb], fun x hx => .inl (.inr (List.mem_singleton.1 hx)), k⟩ fun x hx => .inl hx, fun x hx => Nat.lt_of_lt_of_le (h.old x hx) k.size, h.len, h.small, by have := h.room; omega, hd⟩
theorem among8 (x : Nat) : amongB ⟨#[41, 93, 123, 125, 42, 43, 63, 124]⟩ (x : Int) = markR x := by
  unfold amongB markR
  rw [Bool.eq_iff_iff]
  simp
  omega
theorem one_item (x c : Nat) : decide (c = x) = (inI2 [((x : Int), (x : Int))] (c : Int) != false) := by
  unfold inI2
  rw [Bool.eq_iff_iff]
  simp
  omega
theorem cls_items (e c : Nat) : inR (classR e) c = (inI2 (clsI e) (c : Int) != false) := by
  rw [cls_cast, inI_cast]
  simp
set_option maxRecDepth 100000 in
set_option maxHeartbeats 12800000 in
theorem atom_end (d a : Nat) (w : World) (rb : Nat) (AR : Option Addr) (cR : Nat) (L : List Nat) (v : Value) (P : List Pt) (Y : Nat → Prop) (cs : List Value) (h : PreR w rb AR cR L a d v P Y cs) (hx : L[a]? = none) :
    Calls Try.prog 46 #[.pointer (some ⟨rb, 0, none⟩)] w (PostR w rb AR cR L a d v P Y (atomR d (L.drop a)) 0 false true) := by
  have hL := h.len
  obtain ⟨x0, x1, -, -, x4⟩ := h.rd.five
  have hle := h.rd.le
  obtain ⟨m, hm⟩ : ∃ m, m = L.length := ⟨_, rfl⟩
  rw [← hm] at x0 hle hL
  have HM := hid hm
  have hlt : m ≤ a := by rw [hm]; simpa using hx
  have i0 : (m : Int) ≤ (a : Int) := by omega
  have i1 : decide ((m : Int) ≤ (a : Int)) = true := decide_eq_true i0
  have i2 : decide (m ≤ a) = true := decide_eq_true hlt
  have HD : Hid (L.drop a = []) := hid (List.drop_eq_nil_of_le (by omega))
  have H := hid h
  clear h hm hx
  go_enter Try.func46, Try.ntmps46
  go_wp2_with fail
  go_quiet (fail)
  generalize nq = n1 at *
  obtain ⟨w1, hw1⟩ : ∃ w1, w1 = w.drewN n1 := ⟨_, rfl⟩
  have k1 : Kp [] w w1 := by rw [hw1]; exact (Kp.refl _ _).drewN _
  rw [← hw1]
  have r1 := H.out.rd.kept k1
  obtain ⟨-, -, -, -, x4⟩ := r1.five
  have f4 := r1.cell.free 4
  have H1 := hid (And.intro r1 k1)
  clear hw1 r1 k1
  go_wp2_with fail
  go_ret
  have k2 : Kp [rb] w1 (w1.setCell ⟨rb, 4, none⟩ (.bool true)) := (Kp.refl _ _).setCell (fun _ => by simp) _
  have hd := H.out.deep
  exact ⟨0, a, d, true, v, P.length, cs, rfl, H1.out.1.setBad true, (Rew.of_kept _ _ H1.out.2).trans (Rew.of_kp _ _ k2), ⟨Nat.le_refl _, (fun _ h => by cases h), by omega, Nat.le_refl _, by omega⟩, (fun _ => by rw [HD.out]; exact atom_nil d), (fun h => by cases h)⟩
set_option maxRecDepth 100000 in
set_option maxHeartbeats 12800000 in
theorem atom_brack (d a : Nat) (w : World) (rb : Nat) (AR : Option Addr) (cR : Nat) (L : List Nat) (v : Value) (P : List Pt) (Y : Nat → Prop) (cs : List Value) (h : PreR w rb AR cR L a d v P Y cs) (hx : L[a]? = some 91) :
    Calls Try.prog 46 #[.pointer (some ⟨rb, 0, none⟩)] w (PostR w rb AR cR L a d v P Y (atomR d (L.drop a)) 0 false true) := by
  have hL := h.len
  obtain ⟨x0, x1, -, -, x4⟩ := h.rd.five
  have hle := h.rd.le
  obtain ⟨m, hm⟩ : ∃ m, m = L.length := ⟨_, rfl⟩
  rw [← hm] at x0 hle hL
  have HM := hid hm
  obtain ⟨ad, rfl, y⟩ := h.rd.rune hx
  have hlt : a < m := by rw [hm]; exact (List.getElem?_eq_some_iff.1 hx).1
  have i0 : ¬ (m : Int) ≤ (a : Int) := by omega
  have i1 : decide ((m : Int) ≤ (a : Int)) = false := decide_eq_false i0
  have i2 : decide (m ≤ a) = false := decide_eq_false (by omega)
  have j0 : (a : Int) < (m : Int) := by omega
  have j1 : decide ((a : Int) < (m : Int)) = true := decide_eq_true j0
  have hx2 := h.small _ (List.mem_of_getElem? hx)
  have HX := hid hx
  have H := hid h
  clear h hm hx
  go_enter Try.func46, Try.ntmps46
  go_wp2_with fail
  go_quiet (fail)
  generalize nq = n1 at *
  obtain ⟨w1, hw1⟩ : ∃ w1, w1 = w.drewN n1 := ⟨_, rfl⟩
  have k1 : Kp [] w w1 := by rw [hw1]; exact (Kp.refl _ _).drewN _
  rw [← hw1]
  have r1 := H.out.rd.kept k1
  obtain ⟨x0, x1, -, -, -⟩ := r1.five
  rw [← HM.out] at x0
  obtain ⟨ad1, e1, y⟩ := r1.rune HX.out
  injection e1 with e1
  subst e1
  have H1 := hid k1
  clear hw1 r1 k1
  go_wp2_with fail
  go_quiet (fail)
  generalize nq = n2 at *
  obtain ⟨w2, hw2⟩ : ∃ w2, w2 = w1.drewN n2 := ⟨_, rfl⟩
  have k2 : Kp [] w w2 := by rw [hw2]; exact H1.out.nil ((Kp.refl _ _).drewN _)
  rw [← hw2]
  have r2 := H.out.rd.kept k2
  obtain ⟨-, x1, -, -, -⟩ := r2.five
  have fr := r2.cell.free 1
  obtain ⟨a1, ha1⟩ : ∃ k, k = a + 1 := ⟨_, rfl⟩
  have iw : IntKind.i64.wrap ((a : Int) + 1) = (a1 : Int) := by rw [IntWalk.i64_in _ (by omega)]; omega
  obtain ⟨w3, hw3⟩ : ∃ w3, w3 = w2.setCell ⟨rb, 1, none⟩ (.int .i64 (a1 : Int)) := ⟨_, rfl⟩
  have r3 : RdS w3 rb (some ad) cR L a1 d false v P.length cs := by rw [hw3]; exact r2.at (by have := HM.out; omega)
  have k3 : Kp [rb] w w3 := by rw [hw3]; exact (k2.mono (by simp)).setCell (fun _ => by simp) _
  have H3 := hid (And.intro r3 k3)
  have HW3 := hid hw3
  have HA1 := hid ha1
  clear hw2 r2 k2 hw3 r3 k3 ha1 H1 y
  go_upto_region 18 with fail
  rw [← HW3.out]
  clear HW3 x1 fr
  have HSP : Hid (atomR d (L.drop a) = brackR (L.drop a1)) := hid (by
    rw [drop_at HX.out, atom_cons, ← HA1.out]
    rw [if_neg (by decide), if_pos rfl])
  have q := ritems_any d a1 w3 rb (some ad) cR L v P Y cs (H.out.next H3.out.1 H3.out.2 (by have := HA1.out; omega) H.out.deep)
  go_wp2_with fail
  (with_reducible refine q.mono ?_)
  clear q
  rintro e w4 ⟨k, a4, d4, bad4, v4, n4, cs4, rfl, r4, g4, ⟨p1, -, p3, p4, p5⟩, hb1, hb2⟩
  have H4 := hid (And.intro r4 (And.intro g4 (And.intro hb1 hb2)))
  have ha1 := HA1.out
  clear r4 g4 hb1 hb2
  go_wp2_with fail
  go_ret
  obtain ⟨r4, g4, hb1, hb2⟩ := H4.out
  refine ⟨k, a4, d4, bad4, v4, n4, cs4, rfl, r4, (Rew.of_kp _ _ H3.out.2).trans g4, ⟨by omega, (fun _ _ => by omega), by omega, p4, p5⟩, (fun hb => by rw [HSP.out]; exact hb1 hb), fun hb => ?_⟩
  obtain ⟨e1, Q, re, e2, e3, e4, e5, -⟩ := hb2 hb
  exact ⟨e1, Q, re, e2, e3, by rw [HSP.out]; exact e4, e5, (fun h => by cases h)⟩
set_option maxRecDepth 100000 in
set_option maxHeartbeats 12800000 in
theorem atom_dot (d a : Nat) (w : World) (rb : Nat) (AR : Option Addr) (cR : Nat) (L : List Nat) (v : Value) (P : List Pt) (Y : Nat → Prop) (cs : List Value) (h : PreR w rb AR cR L a d v P Y cs) (hx : L[a]? = some 46) :
    Calls Try.prog 46 #[.pointer (some ⟨rb, 0, none⟩)] w (PostR w rb AR cR L a d v P Y (atomR d (L.drop a)) 0 false true) := by
  have hL := h.len
  obtain ⟨x0, x1, -, -, x4⟩ := h.rd.five
  have hle := h.rd.le
  obtain ⟨m, hm⟩ : ∃ m, m = L.length := ⟨_, rfl⟩
  rw [← hm] at x0 hle hL
  have HM := hid hm
  obtain ⟨ad, rfl, y⟩ := h.rd.rune hx
  have hlt : a < m := by rw [hm]; exact (List.getElem?_eq_some_iff.1 hx).1
  have i0 : ¬ (m : Int) ≤ (a : Int) := by omega
  have i1 : decide ((m : Int) ≤ (a : Int)) = false := decide_eq_false i0
  have i2 : decide (m ≤ a) = false := decide_eq_false (by omega)
  have j0 : (a : Int) < (m : Int) := by omega
  have j1 : decide ((a : Int) < (m : Int)) = true := decide_eq_true j0
  have hx2 := h.small _ (List.mem_of_getElem? hx)
  have HX := hid hx
  have H := hid h
  clear h hm hx
  go_enter Try.func46, Try.ntmps46
  go_wp2_with fail
  go_quiet (fail)
  generalize nq = n1 at *
  obtain ⟨w1, hw1⟩ : ∃ w1, w1 = w.drewN n1 := ⟨_, rfl⟩
  have k1 : Kp [] w w1 := by rw [hw1]; exact (Kp.refl _ _).drewN _
  rw [← hw1]
  have r1 := H.out.rd.kept k1
  obtain ⟨x0, x1, -, -, -⟩ := r1.five
  rw [← HM.out] at x0
  obtain ⟨ad1, e1, y⟩ := r1.rune HX.out
  injection e1 with e1
  subst e1
  have H1 := hid k1
  clear hw1 r1 k1
  go_wp2_with fail
  go_quiet (fail)
  generalize nq = n2 at *
  obtain ⟨w2, hw2⟩ : ∃ w2, w2 = w1.drewN n2 := ⟨_, rfl⟩
  have k2 : Kp [] w w2 := by rw [hw2]; exact H1.out.nil ((Kp.refl _ _).drewN _)
  rw [← hw2]
  have r2 := H.out.rd.kept k2
  obtain ⟨-, x1, -, -, -⟩ := r2.five
  have fr := r2.cell.free 1
  obtain ⟨a1, ha1⟩ : ∃ k, k = a + 1 := ⟨_, rfl⟩
  have iw : IntKind.i64.wrap ((a : Int) + 1) = (a1 : Int) := by rw [IntWalk.i64_in _ (by omega)]; omega
  obtain ⟨w3, hw3⟩ : ∃ w3, w3 = w2.setCell ⟨rb, 1, none⟩ (.int .i64 (a1 : Int)) := ⟨_, rfl⟩
  have r3 : RdS w3 rb (some ad) cR L a1 d false v P.length cs := by rw [hw3]; exact r2.at (by have := HM.out; omega)
  have k3 : Kp [rb] w w3 := by rw [hw3]; exact (k2.mono (by simp)).setCell (fun _ => by simp) _
  have H3 := hid (And.intro r3 k3)
  have HW3 := hid hw3
  have HA1 := hid ha1
  clear hw2 r2 k2 hw3 r3 k3 ha1 H1 y
  have cv : IntKind.u8.wrap (46 : Int) = 46 := by decide
  go_upto_region 22 with fail
  rw [← HW3.out]
  clear HW3 x1 fr
  have HSP : Hid (atomR d (L.drop a) = some (.cls fun x => decide (x ≠ 10), L.drop a1)) := hid (by
    rw [drop_at HX.out, atom_cons, ← HA1.out]
    rw [if_neg (by decide), if_neg (by decide), if_pos rfl])
  have hnP : P.length ≤ 100000 := by have := H.out.room; omega
  have q := put_any w3 rb (some ad) cR L a1 d false v P.length cs H3.out.1 hnP 46 none none 0 0 0 0 false
  rw [show ((46 : Nat) : Int) = 46 from rfl] at q
  go_wp2_with fail
  (with_reducible refine q.mono ?_)
  clear q
  rintro e w4 ⟨rfl, v4, r4, g4⟩
  have H4 := hid (And.intro r4 g4)
  have ha1 := HA1.out
  clear r4 g4
  go_wp2_with fail
  go_ret
  obtain ⟨r4, g4⟩ := H4.out
  have hn := H.out.next H3.out.1 H3.out.2 (by omega) H.out.deep
  have hpp := parts_put (k := 46) (K := []) (I := []) (neg := false) (A1 := none) (A2 := none) (c1 := 0) (c2 := 0) hn.parts g4 (Span.nil _ _) (Span.nil _ _) (fun ad e => by cases e) (fun ad e => by cases e) (by simp) (by simp)
  have hidx : (P ++ [(⟨46, [], [], false⟩ : Pt)])[P.length]? = some ⟨46, [], [], false⟩ := by rw [List.getElem?_append_right (Nat.le_refl _), Nat.sub_self]; rfl
  have hd := H.out.deep
  exact ⟨P.length, a1, d, false, v4, P.length + 1, _, rfl, r4, (Rew.of_kp _ _ H3.out.2).trans g4, ⟨by omega, (fun _ _ => by omega), by omega, Nat.le_refl _, by omega⟩, (fun h => by cases h), fun _ => ⟨rfl, [⟨46, [], [], false⟩], _, by simp, hpp, HSP.out, .dot hidx, (fun h => by cases h)⟩⟩
set_option maxRecDepth 100000 in
set_option maxHeartbeats 12800000 in
theorem atom_bol (d a : Nat) (w : World) (rb : Nat) (AR : Option Addr) (cR : Nat) (L : List Nat) (v : Value) (P : List Pt) (Y : Nat → Prop) (cs : List Value) (h : PreR w rb AR cR L a d v P Y cs) (hx : L[a]? = some 94) :
    Calls Try.prog 46 #[.pointer (some ⟨rb, 0, none⟩)] w (PostR w rb AR cR L a d v P Y (atomR d (L.drop a)) 0 false true) := by
  have hL := h.len
  obtain ⟨x0, x1, -, -, x4⟩ := h.rd.five
  have hle := h.rd.le
  obtain ⟨m, hm⟩ : ∃ m, m = L.length := ⟨_, rfl⟩
  rw [← hm] at x0 hle hL
  have HM := hid hm
  obtain ⟨ad, rfl, y⟩ := h.rd.rune hx
  have hlt : a < m := by rw [hm]; exact (List.getElem?_eq_some_iff.1 hx).1
  have i0 : ¬ (m : Int) ≤ (a : Int) := by omega
  have i1 : decide ((m : Int) ≤ (a : Int)) = false := decide_eq_false i0
  have i2 : decide (m ≤ a) = false := decide_eq_false (by omega)
  have j0 : (a : Int) < (m : Int) := by omega
  have j1 : decide ((a : Int) < (m : Int)) = true := decide_eq_true j0
  have hx2 := h.small _ (List.mem_of_getElem? hx)
  have HX := hid hx
  have H := hid h
  clear h hm hx
  go_enter Try.func46, Try.ntmps46
  go_wp2_with fail
  go_quiet (fail)
  generalize nq = n1 at *
  obtain ⟨w1, hw1⟩ : ∃ w1, w1 = w.drewN n1 := ⟨_, rfl⟩
  have k1 : Kp [] w w1 := by rw [hw1]; exact (Kp.refl _ _).drewN _
  rw [← hw1]
  have r1 := H.out.rd.kept k1
  obtain ⟨x0, x1, -, -, -⟩ := r1.five
  rw [← HM.out] at x0
  obtain ⟨ad1, e1, y⟩ := r1.rune HX.out
  injection e1 with e1
  subst e1
  have H1 := hid k1
  clear hw1 r1 k1
  go_wp2_with fail
  go_quiet (fail)
  generalize nq = n2 at *
  obtain ⟨w2, hw2⟩ : ∃ w2, w2 = w1.drewN n2 := ⟨_, rfl⟩
  have k2 : Kp [] w w2 := by rw [hw2]; exact H1.out.nil ((Kp.refl _ _).drewN _)
  rw [← hw2]
  have r2 := H.out.rd.kept k2
  obtain ⟨-, x1, -, -, -⟩ := r2.five
  have fr := r2.cell.free 1
  obtain ⟨a1, ha1⟩ : ∃ k, k = a + 1 := ⟨_, rfl⟩
  have iw : IntKind.i64.wrap ((a : Int) + 1) = (a1 : Int) := by rw [IntWalk.i64_in _ (by omega)]; omega
  obtain ⟨w3, hw3⟩ : ∃ w3, w3 = w2.setCell ⟨rb, 1, none⟩ (.int .i64 (a1 : Int)) := ⟨_, rfl⟩
  have r3 : RdS w3 rb (some ad) cR L a1 d false v P.length cs := by rw [hw3]; exact r2.at (by have := HM.out; omega)
  have k3 : Kp [rb] w w3 := by rw [hw3]; exact (k2.mono (by simp)).setCell (fun _ => by simp) _
  have H3 := hid (And.intro r3 k3)
  have HW3 := hid hw3
  have HA1 := hid ha1
  clear hw2 r2 k2 hw3 r3 k3 ha1 H1 y
  have cv : IntKind.u8.wrap (94 : Int) = 94 := by decide
  go_upto_region 22 with fail
  rw [← HW3.out]
  clear HW3 x1 fr
  have HSP : Hid (atomR d (L.drop a) = some (.bol, L.drop a1)) := hid (by
    rw [drop_at HX.out, atom_cons, ← HA1.out]
    rw [if_neg (by decide), if_neg (by decide), if_neg (by decide), if_pos rfl])
  have hnP : P.length ≤ 100000 := by have := H.out.room; omega
  have q := put_any w3 rb (some ad) cR L a1 d false v P.length cs H3.out.1 hnP 94 none none 0 0 0 0 false
  rw [show ((94 : Nat) : Int) = 94 from rfl] at q
  go_wp2_with fail
  (with_reducible refine q.mono ?_)
  clear q
  rintro e w4 ⟨rfl, v4, r4, g4⟩
  have H4 := hid (And.intro r4 g4)
  have ha1 := HA1.out
  clear r4 g4
  go_wp2_with fail
  go_ret
  obtain ⟨r4, g4⟩ := H4.out
  have hn := H.out.next H3.out.1 H3.out.2 (by omega) H.out.deep
  have hpp := parts_put (k := 94) (K := []) (I := []) (neg := false) (A1 := none) (A2 := none) (c1 := 0) (c2 := 0) hn.parts g4 (Span.nil _ _) (Span.nil _ _) (fun ad e => by cases e) (fun ad e => by cases e) (by simp) (by simp)
  have hidx : (P ++ [(⟨94, [], [], false⟩ : Pt)])[P.length]? = some ⟨94, [], [], false⟩ := by rw [List.getElem?_append_right (Nat.le_refl _), Nat.sub_self]; rfl
  have hd := H.out.deep
  exact ⟨P.length, a1, d, false, v4, P.length + 1, _, rfl, r4, (Rew.of_kp _ _ H3.out.2).trans g4, ⟨by omega, (fun _ _ => by omega), by omega, Nat.le_refl _, by omega⟩, (fun h => by cases h), fun _ => ⟨rfl, [⟨94, [], [], false⟩], _, by simp, hpp, HSP.out, .bol hidx, (fun h => by cases h)⟩⟩
set_option maxRecDepth 100000 in
set_option maxHeartbeats 12800000 in
theorem atom_eol (d a : Nat) (w : World) (rb : Nat) (AR : Option Addr) (cR : Nat) (L : List Nat) (v : Value) (P : List Pt) (Y : Nat → Prop) (cs : List Value) (h : PreR w rb AR cR L a d v P Y cs) (hx : L[a]? = some 36) :
    Calls Try.prog 46 #[.pointer (some ⟨rb, 0, none⟩)] w (PostR w rb AR cR L a d v P Y (atomR d (L.drop a)) 0 false true) := by
  have hL := h.len
  obtain ⟨x0, x1, -, -, x4⟩ := h.rd.five
  have hle := h.rd.le
  obtain ⟨m, hm⟩ : ∃ m, m = L.length := ⟨_, rfl⟩
  rw [← hm] at x0 hle hL
  have HM := hid hm
  obtain ⟨ad, rfl, y⟩ := h.rd.rune hx
  have hlt : a < m := by rw [hm]; exact (List.getElem?_eq_some_iff.1 hx).1
  have i0 : ¬ (m : Int) ≤ (a : Int) := by omega
  have i1 : decide ((m : Int) ≤ (a : Int)) = false := decide_eq_false i0
  have i2 : decide (m ≤ a) = false := decide_eq_false (by omega)
  have j0 : (a : Int) < (m : Int) := by omega
  have j1 : decide ((a : Int) < (m : Int)) = true := decide_eq_true j0
  have hx2 := h.small _ (List.mem_of_getElem? hx)
  have HX := hid hx
  have H := hid h
  clear h hm hx
  go_enter Try.func46, Try.ntmps46
  go_wp2_with fail
  go_quiet (fail)
  generalize nq = n1 at *
  obtain ⟨w1, hw1⟩ : ∃ w1, w1 = w.drewN n1 := ⟨_, rfl⟩
  have k1 : Kp [] w w1 := by rw [hw1]; exact (Kp.refl _ _).drewN _
  rw [← hw1]
  have r1 := H.out.rd.kept k1
  obtain ⟨x0, x1, -, -, -⟩ := r1.five
  rw [← HM.out] at x0
  obtain ⟨ad1, e1, y⟩ := r1.rune HX.out
  injection e1 with e1
  subst e1
  have H1 := hid k1
  clear hw1 r1 k1
  go_wp2_with fail
  go_quiet (fail)
  generalize nq = n2 at *
  obtain ⟨w2, hw2⟩ : ∃ w2, w2 = w1.drewN n2 := ⟨_, rfl⟩
  have k2 : Kp [] w w2 := by rw [hw2]; exact H1.out.nil ((Kp.refl _ _).drewN _)
  rw [← hw2]
  have r2 := H.out.rd.kept k2
  obtain ⟨-, x1, -, -, -⟩ := r2.five
  have fr := r2.cell.free 1
  obtain ⟨a1, ha1⟩ : ∃ k, k = a + 1 := ⟨_, rfl⟩
  have iw : IntKind.i64.wrap ((a : Int) + 1) = (a1 : Int) := by rw [IntWalk.i64_in _ (by omega)]; omega
  obtain ⟨w3, hw3⟩ : ∃ w3, w3 = w2.setCell ⟨rb, 1, none⟩ (.int .i64 (a1 : Int)) := ⟨_, rfl⟩
  have r3 : RdS w3 rb (some ad) cR L a1 d false v P.length cs := by rw [hw3]; exact r2.at (by have := HM.out; omega)
  have k3 : Kp [rb] w w3 := by rw [hw3]; exact (k2.mono (by simp)).setCell (fun _ => by simp) _
  have H3 := hid (And.intro r3 k3)
  have HW3 := hid hw3
  have HA1 := hid ha1
  clear hw2 r2 k2 hw3 r3 k3 ha1 H1 y
  have cv : IntKind.u8.wrap (36 : Int) = 36 := by decide
  go_upto_region 22 with fail
  rw [← HW3.out]
  clear HW3 x1 fr
  have HSP : Hid (atomR d (L.drop a) = some (.eol, L.drop a1)) := hid (by
    rw [drop_at HX.out, atom_cons, ← HA1.out]
    rw [if_neg (by decide), if_neg (by decide), if_neg (by decide), if_neg (by decide), if_pos rfl])
  have hnP : P.length ≤ 100000 := by have := H.out.room; omega
  have q := put_any w3 rb (some ad) cR L a1 d false v P.length cs H3.out.1 hnP 36 none none 0 0 0 0 false
  rw [show ((36 : Nat) : Int) = 36 from rfl] at q
  go_wp2_with fail
  (with_reducible refine q.mono ?_)
  clear q
  rintro e w4 ⟨rfl, v4, r4, g4⟩
  have H4 := hid (And.intro r4 g4)
  have ha1 := HA1.out
  clear r4 g4
  go_wp2_with fail
  go_ret
  obtain ⟨r4, g4⟩ := H4.out
  have hn := H.out.next H3.out.1 H3.out.2 (by omega) H.out.deep
  have hpp := parts_put (k := 36) (K := []) (I := []) (neg := false) (A1 := none) (A2 := none) (c1 := 0) (c2 := 0) hn.parts g4 (Span.nil _ _) (Span.nil _ _) (fun ad e => by cases e) (fun ad e => by cases e) (by simp) (by simp)
  have hidx : (P ++ [(⟨36, [], [], false⟩ : Pt)])[P.length]? = some ⟨36, [], [], false⟩ := by rw [List.getElem?_append_right (Nat.le_refl _), Nat.sub_self]; rfl
  have hd := H.out.deep
  exact ⟨P.length, a1, d, false, v4, P.length + 1, _, rfl, r4, (Rew.of_kp _ _ H3.out.2).trans g4, ⟨by omega, (fun _ _ => by omega), by omega, Nat.le_refl _, by omega⟩, (fun h => by cases h), fun _ => ⟨rfl, [⟨36, [], [], false⟩], _, by simp, hpp, HSP.out, .eol hidx, (fun h => by cases h)⟩⟩
end Go.Proofs.Ytaaikjedagnjbaa

/- The document's reader: atom, what is left of it. (printed by tools/gengfatom.py) -/
namespace Go.Proofs.Ytaaikjedagnjbaa
open Go Go.RowKit Go.Lib

set_option maxRecDepth 100000 in
set_option maxHeartbeats 12800000 in
theorem atom_plain (d a : Nat) (x : Nat) (w : World) (rb : Nat) (AR : Option Addr) (cR : Nat) (L : List Nat) (v : Value) (P : List Pt) (Y : Nat → Prop) (cs : List Value) (h : PreR w rb AR cR L a d v P Y cs) (hx : L[a]? = some x) (hne : x ≠ 40 ∧ x ≠ 91 ∧ x ≠ 46 ∧ x ≠ 94 ∧ x ≠ 36 ∧ x ≠ 92) :
    Calls Try.prog 46 #[.pointer (some ⟨rb, 0, none⟩)] w (PostR w rb AR cR L a d v P Y (atomR d (L.drop a)) 0 false true) := by
  have hL := h.len
  obtain ⟨x0, x1, -, -, x4⟩ := h.rd.five
  have hle := h.rd.le
  obtain ⟨m, hm⟩ : ∃ m, m = L.length := ⟨_, rfl⟩
  rw [← hm] at x0 hle hL
  have HM := hid hm
  obtain ⟨ad, rfl, y⟩ := h.rd.rune hx
  have hlt : a < m := by rw [hm]; exact (List.getElem?_eq_some_iff.1 hx).1
  have i0 : ¬ (m : Int) ≤ (a : Int) := by omega
  have i1 : decide ((m : Int) ≤ (a : Int)) = false := decide_eq_false i0
  have i2 : decide (m ≤ a) = false := decide_eq_false (by omega)
  have j0 : (a : Int) < (m : Int) := by omega
  have j1 : decide ((a : Int) < (m : Int)) = true := decide_eq_true j0
  have hx2 := h.small _ (List.mem_of_getElem? hx)
  have HX := hid hx
  have H := hid h
  clear h hm hx
  go_enter Try.func46, Try.ntmps46
  go_wp2_with fail
  go_quiet (fail)
  generalize nq = n1 at *
  obtain ⟨w1, hw1⟩ : ∃ w1, w1 = w.drewN n1 := ⟨_, rfl⟩
  have k1 : Kp [] w w1 := by rw [hw1]; exact (Kp.refl _ _).drewN _
  rw [← hw1]
  have r1 := H.out.rd.kept k1
  obtain ⟨x0, x1, -, -, -⟩ := r1.five
  rw [← HM.out] at x0
  obtain ⟨ad1, e1, y⟩ := r1.rune HX.out
  injection e1 with e1
  subst e1
  have H1 := hid k1
  clear hw1 r1 k1
  go_wp2_with fail
  go_quiet (fail)
  generalize nq = n2 at *
  obtain ⟨w2, hw2⟩ : ∃ w2, w2 = w1.drewN n2 := ⟨_, rfl⟩
  have k2 : Kp [] w w2 := by rw [hw2]; exact H1.out.nil ((Kp.refl _ _).drewN _)
  rw [← hw2]
  have r2 := H.out.rd.kept k2
  obtain ⟨-, x1, -, -, -⟩ := r2.five
  have fr := r2.cell.free 1
  obtain ⟨a1, ha1⟩ : ∃ k, k = a + 1 := ⟨_, rfl⟩
  have iw : IntKind.i64.wrap ((a : Int) + 1) = (a1 : Int) := by rw [IntWalk.i64_in _ (by omega)]; omega
  obtain ⟨w3, hw3⟩ : ∃ w3, w3 = w2.setCell ⟨rb, 1, none⟩ (.int .i64 (a1 : Int)) := ⟨_, rfl⟩
  have r3 : RdS w3 rb (some ad) cR L a1 d false v P.length cs := by rw [hw3]; exact r2.at (by have := HM.out; omega)
  have k3 : Kp [rb] w w3 := by rw [hw3]; exact (k2.mono (by simp)).setCell (fun _ => by simp) _
  have H3 := hid (And.intro r3 k3)
  have HW3 := hid hw3
  have HA1 := hid ha1
  clear hw2 r2 k2 hw3 r3 k3 ha1 H1 y
  have e40 : ((x : Int) == 40) = false := beq_eq_false_iff_ne.2 (by omega)
  have e91 : ((x : Int) == 91) = false := beq_eq_false_iff_ne.2 (by omega)
  have e46 : ((x : Int) == 46) = false := beq_eq_false_iff_ne.2 (by omega)
  have e94 : ((x : Int) == 94) = false := beq_eq_false_iff_ne.2 (by omega)
  have e36 : ((x : Int) == 36) = false := beq_eq_false_iff_ne.2 (by omega)
  have e92 : ((x : Int) == 92) = false := beq_eq_false_iff_ne.2 (by omega)
  have HNE := hid hne
  clear hne
  go_upto_region 34 with fail
  rw [← HW3.out]
  clear HW3 x1 fr
  have HSP : Hid (atomR d (L.drop a) = if markR x then none else some (.cls fun c => decide (c = x), L.drop a1)) := hid (by
    rw [drop_at HX.out, atom_cons, ← HA1.out]
    obtain ⟨z1, z2, z3, z4, z5, z6⟩ := HNE.out
    rw [if_neg z1, if_neg z2, if_neg z3, if_neg z4, if_neg z5, if_neg z6])
  clear e40 e91 e46 e94 e36 e92
  obtain ⟨mk, hmk⟩ : ∃ b, b = markR x := ⟨_, rfl⟩
  have qa := among_any w3 (x : Int) ⟨#[41, 93, 123, 125, 42, 43, 63, 124]⟩ (by decide)
  rw [among8, ← hmk] at qa
  obtain ⟨-, -, -, -, x4⟩ := H3.out.1.five
  have f4 := H3.out.1.cell.free 4
  have HMK := hid hmk
  clear hmk
  go_wp2_with fail
  (with_reducible refine qa.mono ?_)
  clear qa
  rintro e wq ⟨rfl, hwq⟩
  obtain rfl := hwq.symm
  clear hwq
  obtain ⟨w4, hw4⟩ : ∃ w4, w4 = w3.setCell ⟨rb, 4, none⟩ (.bool mk) := ⟨_, rfl⟩
  have r4 : RdS w4 rb (some ad) cR L a1 d mk v P.length cs := by rw [hw4]; exact H3.out.1.setBad _
  have k4 : Kp [rb] w w4 := by rw [hw4]; exact H3.out.2.setCell (fun _ => by simp) _
  obtain ⟨g5, hg5⟩ : ∃ g, g = w4.heap.size := ⟨_, rfl⟩
  obtain ⟨w5, hw5⟩ : ∃ w5, w5 = w4.alloc (.cells #[.int .i64 (x : Int), .int .i64 (x : Int)] 89) := ⟨_, rfl⟩
  have k5 : Kp [] w4 w5 := by rw [hw5]; exact (Kp.refl _ _).alloc _
  have c5 : Cells w5 g5 89 (itemsV [((x : Int), (x : Int))]) := by rw [hw5, hg5]; exact Cells.fresh w4 89 _
  have hnP : P.length ≤ 100000 := by have := H.out.room; omega
  have q := put_any w5 rb (some ad) cR L a1 d mk v P.length cs (r4.kept k5) hnP 99 none (some ⟨g5, 0, none⟩) 0 0 1 1 false
  rw [show ((99 : Nat) : Int) = 99 from rfl] at q
  have HW4 := hid hw4
  have HW5 := hid (And.intro hw5 hg5)
  have H5 := hid (And.intro k4 (And.intro k5 (And.intro c5 hg5)))
  clear hw4 r4 k4 hw5 hg5 k5 c5
  go_upto_region 35 with fail
  rw [← HW4.out]
  clear HW4 x4 f4
  go_wp2_with (at_builtin; fail)
  try rw [← HW5.out.1]
  try rw [← HW5.out.2]
  (with_reducible refine q.mono ?_)
  clear q
  rintro e w6 ⟨rfl, v6, r6, g6⟩
  have H6 := hid (And.intro r6 g6)
  have ha1 := HA1.out
  clear r6 g6
  go_wp2_with fail
  go_ret
  obtain ⟨r6, g6⟩ := H6.out
  obtain ⟨k4, k5, c5, hg5⟩ := H5.out
  have hd := H.out.deep
  have gz := (Rew.of_kp (ownP v) rb k4).trans (Rew.of_kept _ _ k5)
  cases mk with
  | true => exact ⟨P.length, a1, d, true, v6, P.length + 1, _, rfl, r6, gz.trans g6, ⟨by omega, (fun _ _ => by omega), by omega, Nat.le_refl _, by omega⟩, (fun _ => by rw [HSP.out, ← HMK.out]; rfl), (fun h => by cases h)⟩
  | false =>
    have hpt : PartsAt w5 (ownY v rb Y) P cs := H.out.parts.rew gz
    have hpp := parts_put (k := 99) (K := []) (I := [((x : Int), (x : Int))]) (neg := false) (A1 := none) (A2 := some ⟨g5, 0, none⟩) (c1 := 0) (c2 := 1) hpt g6 (Span.nil _ _) (Span.of_cells c5) (fun ad e => by cases e) (fun ad' e => by
      injection e with e
      subst e
      have hs := k4.size
      exact ⟨rfl, c5.lt, H.out.fresh (by show _ ≤ g5; omega) (fun hh => by have h8 : g5 < w.heap.size := H.out.rd.own.lt _ hh; omega)⟩) (by simp) (by simp)
    have hidx : (P ++ [(⟨99, [], [((x : Int), (x : Int))], false⟩ : Pt)])[P.length]? = some ⟨99, [], [((x : Int), (x : Int))], false⟩ := by rw [List.getElem?_append_right (Nat.le_refl _), Nat.sub_self]; rfl
    refine ⟨P.length, a1, d, false, v6, P.length + 1, _, rfl, r6, gz.trans g6, ⟨by omega, (fun _ _ => by omega), by omega, Nat.le_refl _, by omega⟩, (fun h => by cases h), fun _ => ⟨rfl, [⟨99, [], [((x : Int), (x : Int))], false⟩], _, by simp, hpp, ?_, .cls hidx (one_item x), (fun h => by cases h)⟩⟩
    rw [HSP.out, ← HMK.out]
    rfl
end Go.Proofs.Ytaaikjedagnjbaa

/- The document's reader: atom, behind a backslash. (printed by tools/gengfatom.py) -/
namespace Go.Proofs.Ytaaikjedagnjbaa
open Go Go.RowKit Go.Lib

set_option maxRecDepth 100000 in
set_option maxHeartbeats 12800000 in
theorem atom_slash (d a : Nat) (w : World) (rb : Nat) (AR : Option Addr) (cR : Nat) (L : List Nat) (v : Value) (P : List Pt) (Y : Nat → Prop) (cs : List Value) (h : PreR w rb AR cR L a d v P Y cs) (hx : L[a]? = some 92) :
    Calls Try.prog 46 #[.pointer (some ⟨rb, 0, none⟩)] w (PostR w rb AR cR L a d v P Y (atomR d (L.drop a)) 0 false true) := by
  have hL := h.len
  obtain ⟨x0, x1, -, -, x4⟩ := h.rd.five
  have hle := h.rd.le
  obtain ⟨m, hm⟩ : ∃ m, m = L.length := ⟨_, rfl⟩
  rw [← hm] at x0 hle hL
  have HM := hid hm
  obtain ⟨ad, rfl, y⟩ := h.rd.rune hx
  have hlt : a < m := by rw [hm]; exact (List.getElem?_eq_some_iff.1 hx).1
  have i0 : ¬ (m : Int) ≤ (a : Int) := by omega
  have i1 : decide ((m : Int) ≤ (a : Int)) = false := decide_eq_false i0
  have i2 : decide (m ≤ a) = false := decide_eq_false (by omega)
  have j0 : (a : Int) < (m : Int) := by omega
  have j1 : decide ((a : Int) < (m : Int)) = true := decide_eq_true j0
  have hx2 := h.small _ (List.mem_of_getElem? hx)
  have HX := hid hx
  have H := hid h
  clear h hm hx
  go_enter Try.func46, Try.ntmps46
  go_wp2_with fail
  go_quiet (fail)
  generalize nq = n1 at *
  obtain ⟨w1, hw1⟩ : ∃ w1, w1 = w.drewN n1 := ⟨_, rfl⟩
  have k1 : Kp [] w w1 := by rw [hw1]; exact (Kp.refl _ _).drewN _
  rw [← hw1]
  have r1 := H.out.rd.kept k1
  obtain ⟨x0, x1, -, -, -⟩ := r1.five
  rw [← HM.out] at x0
  obtain ⟨ad1, e1, y⟩ := r1.rune HX.out
  injection e1 with e1
  subst e1
  have H1 := hid k1
  clear hw1 r1 k1
  go_wp2_with fail
  go_quiet (fail)
  generalize nq = n2 at *
  obtain ⟨w2, hw2⟩ : ∃ w2, w2 = w1.drewN n2 := ⟨_, rfl⟩
  have k2 : Kp [] w w2 := by rw [hw2]; exact H1.out.nil ((Kp.refl _ _).drewN _)
  rw [← hw2]
  have r2 := H.out.rd.kept k2
  obtain ⟨-, x1, -, -, -⟩ := r2.five
  have fr := r2.cell.free 1
  obtain ⟨a1, ha1⟩ : ∃ k, k = a + 1 := ⟨_, rfl⟩
  have iw : IntKind.i64.wrap ((a : Int) + 1) = (a1 : Int) := by rw [IntWalk.i64_in _ (by omega)]; omega
  obtain ⟨w3, hw3⟩ : ∃ w3, w3 = w2.setCell ⟨rb, 1, none⟩ (.int .i64 (a1 : Int)) := ⟨_, rfl⟩
  have r3 : RdS w3 rb (some ad) cR L a1 d false v P.length cs := by rw [hw3]; exact r2.at (by have := HM.out; omega)
  have k3 : Kp [rb] w w3 := by rw [hw3]; exact (k2.mono (by simp)).setCell (fun _ => by simp) _
  have H3 := hid (And.intro r3 k3)
  have HW3 := hid hw3
  have HA1 := hid ha1
  clear hw2 r2 k2 hw3 r3 k3 ha1 H1 y
  go_upto_region 24 with fail
  rw [← HW3.out]
  clear HW3 x1 fr
  have HSP : Hid (atomR d (L.drop a) = slashR (L.drop a1)) := hid (by
    rw [drop_at HX.out, atom_cons, ← HA1.out]
    rw [if_neg (by decide), if_neg (by decide), if_neg (by decide), if_neg (by decide), if_neg (by decide), if_pos rfl])
  have ha1 := HA1.out
  have hd := H.out.deep
  obtain ⟨x0, x1, -, -, -⟩ := H3.out.1.five
  rw [← HM.out] at x0
  by_cases hlt2 : a1 < m
  · obtain ⟨e, he⟩ : ∃ x, L[a1]? = some x := ⟨_, List.getElem?_eq_getElem (by have := HM.out; omega)⟩
    have he2 := H.out.small _ (List.mem_of_getElem? he)
    have HEX := hid he
    have l0 : ¬ (m : Int) ≤ (a1 : Int) := by omega
    have l1 : decide ((m : Int) ≤ (a1 : Int)) = false := decide_eq_false l0
    have l2 : decide (m ≤ a1) = false := decide_eq_false (by omega)
    have l3 : (a1 : Int) < (m : Int) := by omega
    have l4 : decide ((a1 : Int) < (m : Int)) = true := decide_eq_true l3
    have HL2 := hid hlt2
    clear he ha1 hlt2
    go_quiet (fail)
    generalize nq = n4 at *
    obtain ⟨w4, hw4⟩ : ∃ w4, w4 = w3.drewN n4 := ⟨_, rfl⟩
    have k4 : Kp [] w3 w4 := by rw [hw4]; exact (Kp.refl _ _).drewN _
    rw [← hw4]
    have r4 := H3.out.1.kept k4
    obtain ⟨x0, x1, -, -, -⟩ := r4.five
    rw [← HM.out] at x0
    obtain ⟨ad1, e1, y⟩ := r4.rune HEX.out
    injection e1 with e1
    subst e1
    have H4 := hid k4
    clear hw4 r4 k4
    go_wp2_with fail
    go_quiet (fail)
    generalize nq = n5 at *
    obtain ⟨w5, hw5⟩ : ∃ w5, w5 = w4.drewN n5 := ⟨_, rfl⟩
    have k5 : Kp [] w3 w5 := by rw [hw5]; exact H4.out.nil ((Kp.refl _ _).drewN _)
    rw [← hw5]
    have r5 := H3.out.1.kept k5
    obtain ⟨-, x1, -, -, -⟩ := r5.five
    have fr := r5.cell.free 1
    obtain ⟨a2, ha2⟩ : ∃ k, k = a1 + 1 := ⟨_, rfl⟩
    have iw2 : IntKind.i64.wrap ((a1 : Int) + 1) = (a2 : Int) := by rw [IntWalk.i64_in _ (by omega)]; omega
    obtain ⟨w6, hw6⟩ : ∃ w6, w6 = w5.setCell ⟨rb, 1, none⟩ (.int .i64 (a2 : Int)) := ⟨_, rfl⟩
    have r6 : RdS w6 rb (some ad) cR L a2 d false v P.length cs := by rw [hw6]; exact r5.at (by have := HM.out; have := HL2.out; omega)
    have k6 : Kp [rb] w w6 := by rw [hw6]; exact (H3.out.2.nil k5).setCell (fun _ => by simp) _
    have H6 := hid (And.intro r6 (And.intro k6 ha2))
    have HW6 := hid hw6
    clear hw5 r5 k5 hw6 r6 k6 ha2 H4 y
    go_upto_region 29 with fail
    rw [← HW6.out]
    clear HW6 x1 fr x0
    have HSL : Hid (slashR (L.drop a1) = if classR e ≠ [] then some (.cls (inR (classR e)), L.drop a2) else (escR e).map fun x => (.cls fun c => decide (c = x), L.drop a2)) := hid (by rw [drop_at HEX.out, slash_cons, ← H6.out.2.2])
    have qc := classd_any w6 e
    go_wp2_with fail
    (with_reducible refine qc.mono ?_)
    clear qc
    rintro e7 w7 ⟨⟨A7, n7, c7, rfl, hn7, hc7, sp7, hA7⟩, k7⟩
    obtain ⟨-, -, -, -, x4⟩ := (H6.out.1.kept k7).five
    have f4 := (H6.out.1.kept k7).cell.free 4
    by_cases hcl : classR e = []
    · have hz : n7 = 0 := by rw [hn7, cls_cast, hcl]; rfl
      obtain ⟨zi, hzi⟩ : ∃ z, z = escI e := ⟨_, rfl⟩
      have qe := escd_any w7 e (by omega)
      rw [← hzi] at qe
      obtain ⟨ng, hng⟩ : ∃ b, b = decide (zi < 0) := ⟨_, rfl⟩
      have n0 : decide (zi < 0) = ng := hng.symm
      have ez : ((n7 : Int) == 0) = true := by rw [hz]; rfl
      have HZ := hid (And.intro hzi (And.intro hng hcl))
      have H7 := hid k7
      clear hz hzi hng hcl hn7 hc7 sp7 hA7 k7
      go_wp2_with fail
      (with_reducible refine qe.mono ?_)
      rintro e8 w8 ⟨rfl, hw8⟩
      obtain rfl := hw8.symm
      clear hw8
      go_wp2_with fail
      (with_reducible refine qe.mono ?_)
      clear qe
      rintro e8 w8 ⟨rfl, hw8⟩
      obtain rfl := hw8.symm
      clear hw8
      obtain ⟨g8, hg8⟩ : ∃ g, g = w7.heap.size := ⟨_, rfl⟩
      obtain ⟨w8, hw8⟩ : ∃ w8, w8 = w7.alloc (.cells #[.int .i64 zi, .int .i64 zi] 89) := ⟨_, rfl⟩
      have k8 : Kp [] w7 w8 := by rw [hw8]; exact (Kp.refl _ _).alloc _
      have c8 : Cells w8 g8 89 (itemsV [(zi, zi)]) := by rw [hw8, hg8]; exact Cells.fresh w7 89 _
      have r8 := (H6.out.1.kept H7.out).kept k8
      obtain ⟨-, -, -, -, x4⟩ := r8.five
      have f4 := r8.cell.free 4
      have y8 := c8.cell 0
      unfold itemsV at y8
      simp only [List.flatMap_cons, List.flatMap_nil, List.append_nil, List.getElem?_cons_zero] at y8
      have HW8 := hid (And.intro hw8 hg8)
      have H8 := hid (And.intro r8 (And.intro k8 (And.intro c8 hg8)))
      clear hw8 hg8 r8 k8 c8
      go_upto_region 32 with fail
      try rw [← HW8.out.1]
      try rw [← HW8.out.2]
      clear HW8
      obtain ⟨w9, hw9⟩ : ∃ w9, w9 = w8.setCell ⟨rb, 4, none⟩ (.bool ng) := ⟨_, rfl⟩
      have r9 : RdS w9 rb (some ad) cR L a2 d ng v P.length cs := by rw [hw9]; exact H8.out.1.setBad _
      have k9 : Kp [rb] w8 w9 := by rw [hw9]; exact (Kp.refl _ _).setCell (fun _ => by simp) _
      have hnP : P.length ≤ 100000 := by have := H.out.room; omega
      have q := put_any w9 rb (some ad) cR L a2 d ng v P.length cs r9 hnP 99 none (some ⟨g8, 0, none⟩) 0 0 1 1 false
      rw [show ((99 : Nat) : Int) = 99 from rfl] at q
      have H9 := hid (And.intro r9 k9)
      have HW9 := hid hw9
      clear hw9 r9 k9
      go_upto_region 33 with fail
      rw [← HW9.out]
      clear HW9 x4 f4 y8 n0
      go_wp2_with fail
      (with_reducible refine q.mono ?_)
      clear q
      rintro e10 w10 ⟨rfl, v10, r10, g10⟩
      have H10 := hid (And.intro r10 g10)
      clear r10 g10
      go_wp2_with fail
      go_ret
      obtain ⟨r10, g10⟩ := H10.out
      have ha1 := HA1.out
      have ha2 := H6.out.2.2
      obtain ⟨hzi, hng, hcl⟩ := HZ.out
      obtain ⟨r8, k8, c8, hg8⟩ := H8.out
      have gz := ((((Rew.of_kp (ownP v) rb H6.out.2.1).trans (Rew.of_kept _ _ H7.out)).trans (Rew.of_kept _ _ k8)).trans (Rew.of_kp _ _ H9.out.2))
      have hsl := HSL.out
      rw [if_neg (by rw [hcl]; simp)] at hsl
      cases hes : escR e with
      | none =>
        have hi : zi = -1 := by rw [hzi]; unfold escI; rw [hes]
        have hn : ng = true := by rw [hng, hi]; rfl
        subst hn
        exact ⟨P.length, a2, d, true, v10, P.length + 1, _, rfl, r10, gz.trans g10, ⟨by omega, (fun _ _ => by omega), by omega, Nat.le_refl _, by omega⟩, (fun _ => by rw [HSP.out, hsl, hes]; rfl), (fun h => by cases h)⟩
      | some y =>
        have hi : zi = (y : Int) := by rw [hzi]; unfold escI; rw [hes]
        have hn : ng = false := by rw [hng, hi]; exact decide_eq_false (by omega)
        subst hn hi
        have hpt : PartsAt w9 (ownY v rb Y) P cs := H.out.parts.rew gz
        have hpp := parts_put (k := 99) (K := []) (I := [((y : Int), (y : Int))]) (neg := false) (A1 := none) (A2 := some ⟨g8, 0, none⟩) (c1 := 0) (c2 := 1) hpt g10 (Span.nil _ _) (Span.of_cells (c8.keep H9.out.2 (by
          have := H.out.rd.cell.lt
          have := H6.out.2.1.size
          have := H7.out.size
          simp
          omega))) (fun ad e => by cases e) (fun ad' e => by
          injection e with e
          subst e
          have h1 := H6.out.2.1.size
          have h2 := H7.out.size
          exact ⟨rfl, Nat.lt_of_lt_of_le c8.lt H9.out.2.size, H.out.fresh (by show _ ≤ g8; omega) (fun hh => by have h8 : g8 < w.heap.size := H.out.rd.own.lt _ hh; omega)⟩) (by simp) (by simp)
        have hidx : (P ++ [(⟨99, [], [((y : Int), (y : Int))], false⟩ : Pt)])[P.length]? = some ⟨99, [], [((y : Int), (y : Int))], false⟩ := by rw [List.getElem?_append_right (Nat.le_refl _), Nat.sub_self]; rfl
        exact ⟨P.length, a2, d, false, v10, P.length + 1, _, rfl, r10, gz.trans g10, ⟨by omega, (fun _ _ => by omega), by omega, Nat.le_refl _, by omega⟩, (fun h => by cases h), fun _ => ⟨rfl, [⟨99, [], [((y : Int), (y : Int))], false⟩], _, by simp, hpp, (by rw [HSP.out, hsl, hes]; rfl), .cls hidx (one_item y), (fun h => by cases h)⟩⟩
    · have hn0 : 0 < n7 := by rw [hn7, cls_cast]; unfold castI; rw [List.length_map]; exact List.length_pos_iff.2 hcl
      obtain ⟨p0, r0, hp0⟩ : ∃ p r, classR e = p :: r := by
        cases hc : classR e with
        | nil => exact absurd hc hcl
        | cons p r => exact ⟨p, r, rfl⟩
      obtain ⟨ad7, hA, y7⟩ := sp7 0 (.int .i64 (p0.1 : Int)) (by rw [cls_cast, hp0]; rfl)
      subst hA
      rw [show ad7.add 0 = ad7 by simp [Addr.add]] at y7
      obtain ⟨zi, hzi⟩ : ∃ z : Int, z = (p0.1 : Int) := ⟨_, rfl⟩
      rw [← hzi] at y7
      have n0 : decide (zi < 0) = false := decide_eq_false (by omega)
      have n1 : ¬ zi < 0 := by omega
      have b0 : (0 : Int) < (n7 : Int) := by omega
      have b1 : decide ((0 : Int) < (n7 : Int)) = true := decide_eq_true b0
      have b2 : decide (0 < n7) = true := decide_eq_true hn0
      have ez : ((n7 : Int) == 0) = false := beq_eq_false_iff_ne.2 (by omega)
      have r7 := H6.out.1.kept k7
      have HZ := hid (And.intro hn7 (And.intro hcl (And.intro hA7 sp7)))
      have H7 := hid (And.intro r7 k7)
      clear hn7 hcl hA7 sp7 r7 k7 hp0 hzi
      go_upto_region 32 with fail
      obtain ⟨w9, hw9⟩ : ∃ w9, w9 = w7.setCell ⟨rb, 4, none⟩ (.bool false) := ⟨_, rfl⟩
      have r9 : RdS w9 rb (some ad) cR L a2 d false v P.length cs := by rw [hw9]; exact H7.out.1.setBad _
      have k9 : Kp [rb] w7 w9 := by rw [hw9]; exact (Kp.refl _ _).setCell (fun _ => by simp) _
      have hnP : P.length ≤ 100000 := by have := H.out.room; omega
      have q := put_any w9 rb (some ad) cR L a2 d false v P.length cs r9 hnP 99 none (some ad7) 0 0 n7 c7 false
      rw [show ((99 : Nat) : Int) = 99 from rfl] at q
      have H9 := hid (And.intro r9 k9)
      have HW9 := hid hw9
      clear hw9 r9 k9
      go_upto_region 33 with fail
      rw [← HW9.out]
      clear HW9 x4 f4 y7 n0 n1
      go_wp2_with fail
      (with_reducible refine q.mono ?_)
      clear q
      rintro e10 w10 ⟨rfl, v10, r10, g10⟩
      have H10 := hid (And.intro r10 g10)
      clear r10 g10
      go_wp2_with fail
      go_ret
      obtain ⟨r10, g10⟩ := H10.out
      have ha1 := HA1.out
      have ha2 := H6.out.2.2
      obtain ⟨hn7, hcl, hA7, sp7⟩ := HZ.out
      obtain ⟨r7, k7⟩ := H7.out
      have gz := (((Rew.of_kp (ownP v) rb H6.out.2.1).trans (Rew.of_kept _ _ k7)).trans (Rew.of_kp _ _ H9.out.2))
      have hsl := HSL.out
      rw [if_pos hcl] at hsl
      have hpt : PartsAt w9 (ownY v rb Y) P cs := H.out.parts.rew gz
      obtain ⟨b1', b2', b3'⟩ := hA7 _ rfl
      have h1 := H6.out.2.1.size
      have h0 := H.out.rd.cell.lt
      subst hn7
      have hpp := parts_put (k := 99) (K := []) (I := clsI e) (neg := false) (A1 := none) (A2 := some ad7) (c1 := 0) (c2 := c7) hpt g10 (Span.nil _ _) (sp7.keep H9.out.2 (fun ad' e hm => by
        injection e with e
        subst e
        have := List.mem_singleton.1 hm
        omega)) (fun ad e => by cases e) (fun ad' e => by
        injection e with e
        subst e
        exact ⟨b2', Nat.lt_of_lt_of_le b3' H9.out.2.size, H.out.fresh (by omega) (fun hh => by have h8 := H.out.rd.own.lt _ hh; omega)⟩) (by simp) (by rw [cls_cast]; unfold castI; rw [List.length_map]; have := class_len e; omega)
      have hidx : (P ++ [(⟨99, [], clsI e, false⟩ : Pt)])[P.length]? = some ⟨99, [], clsI e, false⟩ := by rw [List.getElem?_append_right (Nat.le_refl _), Nat.sub_self]; rfl
      exact ⟨P.length, a2, d, false, v10, P.length + 1, _, rfl, r10, gz.trans g10, ⟨by omega, (fun _ _ => by omega), by omega, Nat.le_refl _, by omega⟩, (fun h => by cases h), fun _ => ⟨rfl, [⟨99, [], clsI e, false⟩], _, by simp, hpp, (by rw [HSP.out, hsl]), .cls hidx (cls_items e), (fun h => by cases h)⟩⟩
  · have l0 : (m : Int) ≤ (a1 : Int) := by omega
    have l1 : decide ((m : Int) ≤ (a1 : Int)) = true := decide_eq_true l0
    have l2 : decide (m ≤ a1) = true := decide_eq_true (by omega)
    have HSL : Hid (slashR (L.drop a1) = none) := hid (by rw [List.drop_eq_nil_of_le (by have := HM.out; omega)]; rfl)
    clear ha1 hlt2
    go_quiet (fail)
    generalize nq = n4 at *
    obtain ⟨w4, hw4⟩ : ∃ w4, w4 = w3.drewN n4 := ⟨_, rfl⟩
    have k4 : Kp [] w3 w4 := by rw [hw4]; exact (Kp.refl _ _).drewN _
    rw [← hw4]
    have r4 := H3.out.1.kept k4
    obtain ⟨-, -, -, -, x4⟩ := r4.five
    have f4 := r4.cell.free 4
    have H4 := hid (And.intro r4 k4)
    clear hw4 r4 k4
    go_wp2_with fail
    go_ret
    have k5 : Kp [rb] w4 (w4.setCell ⟨rb, 4, none⟩ (.bool true)) := (Kp.refl _ _).setCell (fun _ => by simp) _
    have ha1 := HA1.out
    exact ⟨0, a1, d, true, v, P.length, cs, rfl, H4.out.1.setBad true, (Rew.of_kp _ _ H3.out.2).trans ((Rew.of_kept _ _ H4.out.2).trans (Rew.of_kp _ _ k5)), ⟨by omega, (fun _ h => by cases h), by omega, Nat.le_refl _, by omega⟩, (fun _ => by rw [HSP.out, HSL.out]), (fun h => by cases h)⟩
end Go.Proofs.Ytaaikjedagnjbaa

/- The document's reader: atom, brackets; and all of it. (printed by tools/gengfatom.py) -/
namespace Go.Proofs.Ytaaikjedagnjbaa
open Go Go.RowKit Go.Lib

set_option maxRecDepth 100000 in
set_option maxHeartbeats 12800000 in
theorem atom_deep (d a : Nat) (w : World) (rb : Nat) (AR : Option Addr) (cR : Nat) (L : List Nat) (v : Value) (P : List Pt) (Y : Nat → Prop) (cs : List Value) (h : PreR w rb AR cR L a d v P Y cs) (hx : L[a]? = some 40) (h6 : 6 ≤ d) :
    Calls Try.prog 46 #[.pointer (some ⟨rb, 0, none⟩)] w (PostR w rb AR cR L a d v P Y (atomR d (L.drop a)) 0 false true) := by
  have hL := h.len
  obtain ⟨x0, x1, -, -, x4⟩ := h.rd.five
  have hle := h.rd.le
  obtain ⟨m, hm⟩ : ∃ m, m = L.length := ⟨_, rfl⟩
  rw [← hm] at x0 hle hL
  have HM := hid hm
  obtain ⟨ad, rfl, y⟩ := h.rd.rune hx
  have hlt : a < m := by rw [hm]; exact (List.getElem?_eq_some_iff.1 hx).1
  have i0 : ¬ (m : Int) ≤ (a : Int) := by omega
  have i1 : decide ((m : Int) ≤ (a : Int)) = false := decide_eq_false i0
  have i2 : decide (m ≤ a) = false := decide_eq_false (by omega)
  have j0 : (a : Int) < (m : Int) := by omega
  have j1 : decide ((a : Int) < (m : Int)) = true := decide_eq_true j0
  have hx2 := h.small _ (List.mem_of_getElem? hx)
  have HX := hid hx
  have H := hid h
  clear h hm hx
  go_enter Try.func46, Try.ntmps46
  go_wp2_with fail
  go_quiet (fail)
  generalize nq = n1 at *
  obtain ⟨w1, hw1⟩ : ∃ w1, w1 = w.drewN n1 := ⟨_, rfl⟩
  have k1 : Kp [] w w1 := by rw [hw1]; exact (Kp.refl _ _).drewN _
  rw [← hw1]
  have r1 := H.out.rd.kept k1
  obtain ⟨x0, x1, -, -, -⟩ := r1.five
  rw [← HM.out] at x0
  obtain ⟨ad1, e1, y⟩ := r1.rune HX.out
  injection e1 with e1
  subst e1
  have H1 := hid k1
  clear hw1 r1 k1
  go_wp2_with fail
  go_quiet (fail)
  generalize nq = n2 at *
  obtain ⟨w2, hw2⟩ : ∃ w2, w2 = w1.drewN n2 := ⟨_, rfl⟩
  have k2 : Kp [] w w2 := by rw [hw2]; exact H1.out.nil ((Kp.refl _ _).drewN _)
  rw [← hw2]
  have r2 := H.out.rd.kept k2
  obtain ⟨-, x1, -, -, -⟩ := r2.five
  have fr := r2.cell.free 1
  obtain ⟨a1, ha1⟩ : ∃ k, k = a + 1 := ⟨_, rfl⟩
  have iw : IntKind.i64.wrap ((a : Int) + 1) = (a1 : Int) := by rw [IntWalk.i64_in _ (by omega)]; omega
  obtain ⟨w3, hw3⟩ : ∃ w3, w3 = w2.setCell ⟨rb, 1, none⟩ (.int .i64 (a1 : Int)) := ⟨_, rfl⟩
  have r3 : RdS w3 rb (some ad) cR L a1 d false v P.length cs := by rw [hw3]; exact r2.at (by have := HM.out; omega)
  have k3 : Kp [rb] w w3 := by rw [hw3]; exact (k2.mono (by simp)).setCell (fun _ => by simp) _
  have H3 := hid (And.intro r3 k3)
  have HW3 := hid hw3
  have HA1 := hid ha1
  clear hw2 r2 k2 hw3 r3 k3 ha1 H1 y
  go_upto_region 8 with fail
  rw [← HW3.out]
  clear HW3 x1 fr
  have HSP : Hid (atomR d (L.drop a) = none) := hid (by
    rw [drop_at HX.out, atom_cons, ← HA1.out]
    rw [if_pos rfl, if_pos h6])
  have ha1 := HA1.out
  have hd := H.out.deep
  obtain ⟨-, -, x2, -, x4⟩ := H3.out.1.five
  have f2 := H3.out.1.cell.free 2
  obtain ⟨d1, hd1⟩ : ∃ k, k = d + 1 := ⟨_, rfl⟩
  have iw2 : IntKind.i64.wrap ((d : Int) + 1) = (d1 : Int) := by rw [IntWalk.i64_in _ (by omega)]; omega
  obtain ⟨w4, hw4⟩ : ∃ w4, w4 = w3.setCell ⟨rb, 2, none⟩ (.int .i64 (d1 : Int)) := ⟨_, rfl⟩
  have r4 : RdS w4 rb (some ad) cR L a1 d1 false v P.length cs := by rw [hw4]; exact H3.out.1.deep d1
  have k4 : Kp [rb] w w4 := by rw [hw4]; exact H3.out.2.setCell (fun _ => by simp) _
  have HW4 := hid hw4
  obtain ⟨-, -, x24, -, x44⟩ := r4.five
  have f44 := r4.cell.free 4
  obtain ⟨w5, hw5⟩ : ∃ w5, w5 = w4.setCell ⟨rb, 4, none⟩ (.bool true) := ⟨_, rfl⟩
  have r5 : RdS w5 rb (some ad) cR L a1 d1 true v P.length cs := by rw [hw5]; exact r4.setBad _
  have k5 : Kp [rb] w w5 := by rw [hw5]; exact k4.setCell (fun _ => by simp) _
  have HW5 := hid hw5
  obtain ⟨-, -, -, -, x45⟩ := r5.five
  have H5 := hid (And.intro r5 (And.intro k5 hd1))
  have g0 : (6 : Int) < (d1 : Int) := by omega
  have g1 : decide ((6 : Int) < (d1 : Int)) = true := by exact decide_eq_true g0
  clear hw4 r4 k4 hw5 r5 k5 hd1 hd ha1
  go_upto_region 9 with fail
  rw [← HW4.out]
  clear HW4 x2 f2 x4
  go_upto_region 10 with fail
  rw [← HW5.out]
  clear HW5 x24 x44 f44
  go_wp2_with fail
  go_ret
  obtain ⟨r5, k5, hd1⟩ := H5.out
  have ha1 := HA1.out
  have hd := H.out.deep
  exact ⟨0, a1, d1, true, v, P.length, cs, rfl, r5, Rew.of_kp _ _ k5, ⟨by omega, (fun _ h => by cases h), by omega, by omega, by omega⟩, (fun _ => HSP.out), (fun h => by cases h)⟩
set_option maxRecDepth 100000 in
set_option maxHeartbeats 12800000 in
theorem atom_paren (d a : Nat) (hat : ∀ a', AtomRC (d + 1) a') (w : World) (rb : Nat) (AR : Option Addr) (cR : Nat) (L : List Nat) (v : Value) (P : List Pt) (Y : Nat → Prop) (cs : List Value) (h : PreR w rb AR cR L a d v P Y cs) (hx : L[a]? = some 40) (h6 : d < 6) :
    Calls Try.prog 46 #[.pointer (some ⟨rb, 0, none⟩)] w (PostR w rb AR cR L a d v P Y (atomR d (L.drop a)) 0 false true) := by
  have hL := h.len
  obtain ⟨x0, x1, -, -, x4⟩ := h.rd.five
  have hle := h.rd.le
  obtain ⟨m, hm⟩ : ∃ m, m = L.length := ⟨_, rfl⟩
  rw [← hm] at x0 hle hL
  have HM := hid hm
  obtain ⟨ad, rfl, y⟩ := h.rd.rune hx
  have hlt : a < m := by rw [hm]; exact (List.getElem?_eq_some_iff.1 hx).1
  have i0 : ¬ (m : Int) ≤ (a : Int) := by omega
  have i1 : decide ((m : Int) ≤ (a : Int)) = false := decide_eq_false i0
  have i2 : decide (m ≤ a) = false := decide_eq_false (by omega)
  have j0 : (a : Int) < (m : Int) := by omega
  have j1 : decide ((a : Int) < (m : Int)) = true := decide_eq_true j0
  have hx2 := h.small _ (List.mem_of_getElem? hx)
  have HX := hid hx
  have H := hid h
  clear h hm hx
  go_enter Try.func46, Try.ntmps46
  go_wp2_with fail
  go_quiet (fail)
  generalize nq = n1 at *
  obtain ⟨w1, hw1⟩ : ∃ w1, w1 = w.drewN n1 := ⟨_, rfl⟩
  have k1 : Kp [] w w1 := by rw [hw1]; exact (Kp.refl _ _).drewN _
  rw [← hw1]
  have r1 := H.out.rd.kept k1
  obtain ⟨x0, x1, -, -, -⟩ := r1.five
  rw [← HM.out] at x0
  obtain ⟨ad1, e1, y⟩ := r1.rune HX.out
  injection e1 with e1
  subst e1
  have H1 := hid k1
  clear hw1 r1 k1
  go_wp2_with fail
  go_quiet (fail)
  generalize nq = n2 at *
  obtain ⟨w2, hw2⟩ : ∃ w2, w2 = w1.drewN n2 := ⟨_, rfl⟩
  have k2 : Kp [] w w2 := by rw [hw2]; exact H1.out.nil ((Kp.refl _ _).drewN _)
  rw [← hw2]
  have r2 := H.out.rd.kept k2
  obtain ⟨-, x1, -, -, -⟩ := r2.five
  have fr := r2.cell.free 1
  obtain ⟨a1, ha1⟩ : ∃ k, k = a + 1 := ⟨_, rfl⟩
  have iw : IntKind.i64.wrap ((a : Int) + 1) = (a1 : Int) := by rw [IntWalk.i64_in _ (by omega)]; omega
  obtain ⟨w3, hw3⟩ : ∃ w3, w3 = w2.setCell ⟨rb, 1, none⟩ (.int .i64 (a1 : Int)) := ⟨_, rfl⟩
  have r3 : RdS w3 rb (some ad) cR L a1 d false v P.length cs := by rw [hw3]; exact r2.at (by have := HM.out; omega)
  have k3 : Kp [rb] w w3 := by rw [hw3]; exact (k2.mono (by simp)).setCell (fun _ => by simp) _
  have H3 := hid (And.intro r3 k3)
  have HW3 := hid hw3
  have HA1 := hid ha1
  clear hw2 r2 k2 hw3 r3 k3 ha1 H1 y
  go_upto_region 8 with fail
  rw [← HW3.out]
  clear HW3 x1 fr
  have HSP : Hid (atomR d (L.drop a) = (altR (d + 1) (L.drop a1)).bind fun p => match p.2 with | [] => none | e :: l3 => if e = 41 then some (p.1, l3) else none) := hid (by
    rw [drop_at HX.out, atom_cons, ← HA1.out]
    rw [if_pos rfl, if_neg (by omega)]
    rfl)
  have ha1 := HA1.out
  have hd := H.out.deep
  obtain ⟨-, -, x2, -, x4⟩ := H3.out.1.five
  have f2 := H3.out.1.cell.free 2
  obtain ⟨d1, hd1⟩ : ∃ k, k = d + 1 := ⟨_, rfl⟩
  have iw2 : IntKind.i64.wrap ((d : Int) + 1) = (d1 : Int) := by rw [IntWalk.i64_in _ (by omega)]; omega
  obtain ⟨w4, hw4⟩ : ∃ w4, w4 = w3.setCell ⟨rb, 2, none⟩ (.int .i64 (d1 : Int)) := ⟨_, rfl⟩
  have r4 : RdS w4 rb (some ad) cR L a1 d1 false v P.length cs := by rw [hw4]; exact H3.out.1.deep d1
  have k4 : Kp [rb] w w4 := by rw [hw4]; exact H3.out.2.setCell (fun _ => by simp) _
  have HW4 := hid hw4
  obtain ⟨-, -, x24, -, x44⟩ := r4.five
  have f44 := r4.cell.free 4
  obtain ⟨w5, hw5⟩ : ∃ w5, w5 = w4.setCell ⟨rb, 4, none⟩ (.bool false) := ⟨_, rfl⟩
  have r5 : RdS w5 rb (some ad) cR L a1 d1 false v P.length cs := by rw [hw5]; exact r4.setBad _
  have k5 : Kp [rb] w w5 := by rw [hw5]; exact k4.setCell (fun _ => by simp) _
  have HW5 := hid hw5
  obtain ⟨-, -, -, -, x45⟩ := r5.five
  have H5 := hid (And.intro r5 (And.intro k5 hd1))
  have g0 : ¬ (6 : Int) < (d1 : Int) := by omega
  have g1 : decide ((6 : Int) < (d1 : Int)) = false := by exact decide_eq_false g0
  clear hw4 r4 k4 hw5 r5 k5 hd1 hd ha1
  go_upto_region 9 with fail
  rw [← HW4.out]
  clear HW4 x2 f2 x4
  go_upto_region 10 with fail
  rw [← HW5.out]
  clear HW5 x24 x44 f44
  have hd1 := H5.out.2.2
  have ha1 := HA1.out
  have hd := H.out.deep
  have hpre : PreR w5 rb (some ad) cR L a1 d1 v P Y cs := H.out.next H5.out.1 H5.out.2.1 (by omega) (by omega)
  have q := ralt_any d1 (fun a' => by rw [hd1]; exact hat a') a1 w5 rb (some ad) cR L v P Y cs hpre
  have HPR := hid hpre
  clear hpre hd1 hd ha1 g0 g1
  go_wp2_with fail
  (with_reducible refine q.mono ?_)
  clear q
  rintro e w6 ⟨k, a6, d6, bad6, v6, n6, cs6, rfl, r6, g6, ⟨p1, -, p3, p4, p5⟩, hb1, hb2⟩
  have qt := take_any w6 rb (some ad) cR L a6 d6 bad6 v6 n6 cs6 r6 (by have := H.out.len; omega) 41
  rw [show ((41 : Nat) : Int) = 41 from rfl] at qt
  obtain ⟨t, ht⟩ : ∃ b, b = isB L a6 41 := ⟨_, rfl⟩
  rw [← ht] at qt
  have H6 := hid (And.intro r6 (And.intro g6 (And.intro hb1 (And.intro hb2 ht))))
  clear r6 g6 hb1 hb2 ht x45
  go_wp2_with fail
  (with_reducible refine qt.mono ?_)
  clear qt
  rintro e w7 ⟨rfl, r7, k7⟩
  obtain ⟨a7, ha7⟩ : ∃ k, k = if t then a6 + 1 else a6 := ⟨_, rfl⟩
  rw [← ha7] at r7
  obtain ⟨-, -, -, -, x4⟩ := r7.five
  have f4 := r7.cell.free 4
  obtain ⟨bo, hbo⟩ : ∃ b, b = (bad6 || !t) := ⟨_, rfl⟩
  have H7 := hid (And.intro r7 (And.intro k7 (And.intro ha7 hbo)))
  go_upto_region 14 with fail
  go_cut [] (fun wx => wx = w7.setCell ⟨rb, 4, none⟩ (.bool (bad6 || !t)))
  case first =>
    clear H7 hbo ha7 r7 k7
    cases bad6 with
    | true =>
      go_wp2_with fail
      go_meet
      rfl
    | false =>
      cases t with
      | true =>
        go_wp2_with fail
        go_meet
        rfl
      | false =>
        go_wp2_with fail
        go_meet
        rfl
  case rest =>
    subst hcut
    rw [← hbo]
    clear x4 f4 hbo ha7 r7 k7
    obtain ⟨w8, hw8⟩ : ∃ w8, w8 = w7.setCell ⟨rb, 4, none⟩ (.bool bo) := ⟨_, rfl⟩
    have r8 : RdS w8 rb (some ad) cR L a7 d6 bo v6 n6 cs6 := by rw [hw8]; exact H7.out.1.setBad _
    have k8 : Kp [rb] w7 w8 := by rw [hw8]; exact (Kp.refl _ _).setCell (fun _ => by simp) _
    obtain ⟨-, -, x2, -, -⟩ := r8.five
    have f2 := r8.cell.free 2
    obtain ⟨d9, hd9⟩ : ∃ k, k = d6 - 1 := ⟨_, rfl⟩
    have hd1 := H5.out.2.2
    have iw9 : IntKind.i64.wrap ((d6 : Int) - 1) = (d9 : Int) := by rw [IntWalk.i64_in _ (by omega)]; omega
    obtain ⟨w9, hw9⟩ : ∃ w9, w9 = w8.setCell ⟨rb, 2, none⟩ (.int .i64 (d9 : Int)) := ⟨_, rfl⟩
    have r9 : RdS w9 rb (some ad) cR L a7 d9 bo v6 n6 cs6 := by rw [hw9]; exact r8.deep d9
    have k9 : Kp [rb] w8 w9 := by rw [hw9]; exact (Kp.refl _ _).setCell (fun _ => by simp) _
    have H9 := hid (And.intro r9 (And.intro k8 (And.intro k9 hd9)))
    have HW9 := hid hw9
    rw [← hw8]
    clear hw8 r8 k8 hw9 r9 k9 hd9 hd1
    go_wp2_with fail
    rw [← HW9.out]
    go_ret
    obtain ⟨r9, k8, k9, hd9⟩ := H9.out
    obtain ⟨r6, g6, hb1, hb2, ht⟩ := H6.out
    obtain ⟨r7, k7, ha7, hbo⟩ := H7.out
    have hd1 := H5.out.2.2
    have ha1 := HA1.out
    have gz := ((((Rew.of_kp (ownP v) rb H5.out.2.1).trans g6).trans (Rew.of_kp _ _ k7)).trans (Rew.of_kp _ _ k8)).trans (Rew.of_kp _ _ k9)
    have ha67 : a6 ≤ a7 := by rw [ha7]; split <;> omega
    have hsp := HSP.out
    rw [← hd1] at hsp
    cases bad6 with
    | true =>
      have hb : bo = true := hbo
      subst hb
      exact ⟨k, a7, d9, true, v6, n6, cs6, rfl, r9, gz, ⟨by omega, (fun _ h => by cases h), by omega, by omega, by omega⟩, (fun _ => by rw [hsp, hb1 (by trivial)]; rfl), (fun h => by cases h)⟩
    | false =>
      obtain ⟨f1, Q, re, f2, f3, f4, f5, -⟩ := hb2 (by trivial)
      cases t with
      | false =>
        have hb : bo = true := hbo
        subst hb
        refine ⟨k, a7, d9, true, v6, n6, cs6, rfl, r9, gz, ⟨by omega, (fun _ h => by cases h), by omega, by omega, by omega⟩, (fun _ => ?_), (fun h => by cases h)⟩
        rw [hsp, f4]
        show (match L.drop a6 with | [] => none | e :: l3 => if e = 41 then some (re, l3) else none) = none
        cases hx6 : L.drop a6 with
        | nil => rfl
        | cons c l =>
          have h4 : L[a6]? = some c := by have := congrArg List.head? hx6; rwa [List.head?_drop] at this
          dsimp only
          rw [if_neg]
          intro e
          rw [isB_is h4, decide_eq_true e] at ht
          cases ht
      | true =>
        have hb : bo = false := hbo
        subst hb
        have h41 : L[a6]? = some 41 := by unfold isB at ht; exact beq_iff_eq.1 ht.symm
        have ha7 : a7 = a6 + 1 := ha7
        have f3' : PartsAt w9 (ownY v6 rb Y) (P ++ Q) cs6 := ((f3.rew (Rew.of_kp _ _ k7)).rew (Rew.of_kp _ _ k8)).rew (Rew.of_kp _ _ k9)
        refine ⟨k, a7, d9, false, v6, n6, cs6, rfl, r9, gz, ⟨by omega, (fun _ _ => by omega), by omega, by omega, by omega⟩, (fun h => by cases h), fun _ => ⟨by omega, Q, re, f2, f3', ?_, f5, (fun h => by cases h)⟩⟩
        rw [hsp, f4]
        show (match L.drop a6 with | [] => none | e :: l3 => if e = 41 then some (re, l3) else none) = _
        rw [drop_at h41, ha7]
        rfl
theorem atom_by (d a : Nat) (hat : d < 6 → ∀ a', AtomRC (d + 1) a') : AtomRC d a := by
  intro w rb AR cR L v P Y cs h
  cases hx : L[a]? with
  | none => exact atom_end d a w rb AR cR L v P Y cs h hx
  | some x =>
    by_cases h40 : x = 40
    · subst h40
      rcases Nat.lt_or_ge d 6 with h6 | h6
      · exact atom_paren d a (hat h6) w rb AR cR L v P Y cs h hx h6
      · exact atom_deep d a w rb AR cR L v P Y cs h hx h6
    · by_cases h91 : x = 91
      · subst h91
        exact atom_brack d a w rb AR cR L v P Y cs h hx
      · by_cases h46 : x = 46
        · subst h46
          exact atom_dot d a w rb AR cR L v P Y cs h hx
        · by_cases h94 : x = 94
          · subst h94
            exact atom_bol d a w rb AR cR L v P Y cs h hx
          · by_cases h36 : x = 36
            · subst h36
              exact atom_eol d a w rb AR cR L v P Y cs h hx
            · by_cases h92 : x = 92
              · subst h92
                exact atom_slash d a w rb AR cR L v P Y cs h hx
              · exact atom_plain d a x w rb AR cR L v P Y cs h hx ⟨h40, h91, h46, h94, h36, h92⟩
theorem ratom_all : ∀ n d, d + n = 6 → ∀ a, AtomRC d a := by
  intro n
  induction n with
  | zero =>
    intro d hd a w rb AR cR L v P Y cs h
    exact atom_by d a (fun hl => by omega) w rb AR cR L v P Y cs h
  | succ n ih =>
    intro d hd a w rb AR cR L v P Y cs h
    exact atom_by d a (fun _ => ih (d + 1) (by omega)) w rb AR cR L v P Y cs h
/-- What alt does, at the top. -/
theorem ralt_top (w : World) (rb : Nat) (AR : Option Addr) (cR : Nat) (L : List Nat) (v : Value) (P : List Pt) (Y : Nat → Prop) (cs : List Value) (h : PreR w rb AR cR L 0 0 v P Y cs) :
    Calls Try.prog 24 #[.pointer (some ⟨rb, 0, none⟩)] w (PostR w rb AR cR L 0 0 v P Y (altR 0 L) 2 true false) := ralt_any 0 (ratom_all 6 0 rfl) 0 w rb AR cR L v P Y cs h
end Go.Proofs.Ytaaikjedagnjbaa

