/- DividePows: powers go together. -/
import Derived.Test.YtampgimmodomoaaDoorDVBase
import Derived.Test.YtampgimmodomoaaDoorDVMore
namespace Go.Proofs.YtampgimmodomoaaDoor
open Go Go.RowKit Go.Lib

set_option maxRecDepth 100000 in
set_option maxHeartbeats 12800000 in
theorem vpows_no (w : World) (d : RawD) (n : Int) (hr : d.ok) (hm : mayL d.neg d.l d.s = false) :
    Calls Tryd.prog 16 #[.agg #[.bool d.neg, .string ⟨d.l.toArray⟩, .int .i64 d.s], .int .i64 n] w (YesPost w) := by
  have hsh := fun W => vshown_any W
  have m0 := rmay_no hr hm
  clear hr hm
  have HBd : Cells (w.alloc (.cells #[.bool d.neg, .string ⟨d.l.toArray⟩, .int .i64 d.s] 23)) w.heap.size 23 [.bool d.neg, .string ⟨d.l.toArray⟩, .int .i64 d.s] := Cells.fresh w 23 [.bool d.neg, .string ⟨d.l.toArray⟩, .int .i64 d.s]
  have HK := hid ((Kp.refl [] w).alloc (.cells #[.bool d.neg, .string ⟨d.l.toArray⟩, .int .i64 d.s] 23))
  have HCd := hid (HBd)
  clear HBd
  go_enter Tryd.func16, Tryd.ntmps16
  go_wp2_with fail
  refine (hsh _).mono ?_
  rintro e w1 ⟨rfl, k1⟩
  have Cd := HCd.out.keep k1 (by simp)
  have d0 : _ = some (Value.bool d.neg) := Cd.cell 0
  have d1 : _ = some (Value.string ⟨d.l.toArray⟩) := Cd.cell 1
  have d2 : _ = some (Value.int .i64 d.s) := Cd.cell 2
  clear Cd
  go_wp2_with fail
  refine (m0 _).mono ?_
  rintro e w2 ⟨rfl, k2⟩
  replace d0 := k2.cell d0 (by simp)
  replace d1 := k2.cell d1 (by simp)
  replace d2 := k2.cell d2 (by simp)
  go_wp2_with fail
  go_ret
  exact ⟨rfl, ((HK.out.nil k1).nil k2)⟩
set_option maxRecDepth 100000 in
set_option maxHeartbeats 12800000 in
theorem vpows_none (w : World) (d : Dc) (n : Int) (hd : Ok d) (hp : ∀ k : Nat, k < 64 → bits .and .i64 n 63 = (k : Int) → powD d k = none) :
    Calls Tryd.prog 16 #[.agg #[.bool d.neg, .string ⟨(dtxt d.n).toArray⟩, .int .i64 (d.s : Int)], .int .i64 n] w (YesPost w) := by
  have hsh := fun W => vshown_any W
  have m0 := rmay_ok2 hd
  obtain ⟨k, hk, hand⟩ := and63 n
  have q1 := pow_sym hd k (by omega)
  have q2 := pow_sym hd (k + 1) (by omega)
  have q3 := pow_sure ok_int1 k (by omega) (pow_one k)
  have e1 : (intD 1).neg = false := rfl
  have e2 : dtxt (intD 1).n = [49] := rfl
  have e3 : ((intD 1).s : Int) = 0 := rfl
  rw [e1, e2, e3] at q3
  have ek : ((k + 1 : Nat) : Int) = (k : Int) + 1 := by omega
  rw [ek] at q2
  have wk : IntKind.i64.wrap ((k : Int) + 1) = (k : Int) + 1 := IntWalk.i64_in _ (by omega)
  have hst : powD d (k + 1) = (powD d k).bind fun p => mulD p d := rfl
  rw [hp k hk hand] at hst q1
  have hst2 : powD d (k + 1) = none := hst
  rw [hst2] at q2
  clear hst hst2 e1 e2 e3 ek hd hp
  have q1 : ∀ W, Calls Tryd.prog 45 #[.agg #[.bool d.neg, .string ⟨(dtxt d.n).toArray⟩, .int .i64 (d.s : Int)], .int .i64 (k : Int)] W fun e w' => e = .returned (.tuple #[.agg #[.bool false, .string ⟨#[]⟩, .int .i64 0], .int .i64 3]) ∧ Kp [] W w' := q1
  have q2 : ∀ W, Calls Tryd.prog 45 #[.agg #[.bool d.neg, .string ⟨(dtxt d.n).toArray⟩, .int .i64 (d.s : Int)], .int .i64 ((k : Int) + 1)] W fun e w' => e = .returned (.tuple #[.agg #[.bool false, .string ⟨#[]⟩, .int .i64 0], .int .i64 3]) ∧ Kp [] W w' := q2
  have HBd : Cells (w.alloc (.cells #[.bool d.neg, .string ⟨(dtxt d.n).toArray⟩, .int .i64 (d.s : Int)] 23)) w.heap.size 23 [.bool d.neg, .string ⟨(dtxt d.n).toArray⟩, .int .i64 (d.s : Int)] := Cells.fresh w 23 [.bool d.neg, .string ⟨(dtxt d.n).toArray⟩, .int .i64 (d.s : Int)]
  have HK := hid ((Kp.refl [] w).alloc (.cells #[.bool d.neg, .string ⟨(dtxt d.n).toArray⟩, .int .i64 (d.s : Int)] 23))
  have HCd := hid (HBd)
  clear HBd
  go_enter Tryd.func16, Tryd.ntmps16
  go_wp2_with fail
  refine (hsh _).mono ?_
  rintro e w1 ⟨rfl, k1⟩
  have Cd := HCd.out.keep k1 (by simp)
  have d0 : _ = some (Value.bool d.neg) := Cd.cell 0
  have d1 : _ = some (Value.string ⟨(dtxt d.n).toArray⟩) := Cd.cell 1
  have d2 : _ = some (Value.int .i64 (d.s : Int)) := Cd.cell 2
  clear Cd
  go_wp2_with fail
  refine (m0 _).mono ?_
  rintro e w2 ⟨rfl, k2⟩
  replace d0 := k2.cell d0 (by simp)
  replace d1 := k2.cell d1 (by simp)
  replace d2 := k2.cell d2 (by simp)
  go_wp2_with fail
  refine (q1 _).mono ?_
  rintro e w3 ⟨rfl, k3⟩
  obtain ⟨K3, x0, x1, x2⟩ := k3.loc (.bool false) (.string ⟨#[]⟩) (.int .i64 0)
  replace d0 := K3.cell d0 (by simp)
  replace d1 := K3.cell d1 (by simp)
  replace d2 := K3.cell d2 (by simp)
  go_wp2_with fail
  refine (q2 _).mono ?_
  rintro e w4 ⟨rfl, k4⟩
  obtain ⟨K4, y0, y1, y2⟩ := k4.loc (.bool false) (.string ⟨#[]⟩) (.int .i64 0)
  replace d0 := K4.cell d0 (by simp)
  replace d1 := K4.cell d1 (by simp)
  replace d2 := K4.cell d2 (by simp)
  replace x0 := K4.cell x0 (by simp)
  replace x1 := K4.cell x1 (by simp)
  replace x2 := K4.cell x2 (by simp)
  go_wp2_with fail
  refine (q3 _).mono ?_
  rintro e w5 ⟨rfl, k5⟩
  obtain ⟨K5, o0, o1, o2⟩ := k5.loc (.bool false) (.string ⟨#[49]⟩) (.int .i64 0)
  replace d0 := K5.cell d0 (by simp)
  replace d1 := K5.cell d1 (by simp)
  replace d2 := K5.cell d2 (by simp)
  replace x0 := K5.cell x0 (by simp)
  replace x1 := K5.cell x1 (by simp)
  replace x2 := K5.cell x2 (by simp)
  replace y0 := K5.cell y0 (by simp)
  replace y1 := K5.cell y1 (by simp)
  replace y2 := K5.cell y2 (by simp)
  go_wp2_with fail
  go_ret
  exact ⟨rfl, (((((HK.out.nil k1).nil k2).nil K3).nil K4).nil K5)⟩
set_option maxRecDepth 100000 in
set_option maxHeartbeats 12800000 in
theorem vpows_some (w : World) (d : Dc) (n : Int) (hd : Ok d) (hp : ∀ k : Nat, k < 64 → bits .and .i64 n 63 = (k : Int) → ∃ x, powD d k = some x) :
    Calls Tryd.prog 16 #[.agg #[.bool d.neg, .string ⟨(dtxt d.n).toArray⟩, .int .i64 (d.s : Int)], .int .i64 n] w (YesPost w) := by
  have hsh := fun W => vshown_any W
  have m0 := rmay_ok2 hd
  obtain ⟨k, hk, hand⟩ := and63 n
  have q1 := pow_sym hd k (by omega)
  have q2 := pow_sym hd (k + 1) (by omega)
  have q3 := pow_sure ok_int1 k (by omega) (pow_one k)
  have e1 : (intD 1).neg = false := rfl
  have e2 : dtxt (intD 1).n = [49] := rfl
  have e3 : ((intD 1).s : Int) = 0 := rfl
  rw [e1, e2, e3] at q3
  have ek : ((k + 1 : Nat) : Int) = (k : Int) + 1 := by omega
  rw [ek] at q2
  have wk : IntKind.i64.wrap ((k : Int) + 1) = (k : Int) + 1 := IntWalk.i64_in _ (by omega)
  have hst : powD d (k + 1) = (powD d k).bind fun p => mulD p d := rfl
  obtain ⟨x, hx⟩ := hp k hk hand
  have ox := pow_ok hx
  rw [hx] at hst q1
  have hst2 : powD d (k + 1) = mulD x d := hst
  rw [hst2] at q2
  have q4 := rmul_sym2 ox hd
  generalize mulD x d = O at q2 q4
  clear hst hst2 e1 e2 e3 ek hd hp hx ox
  have q1 : ∀ W, Calls Tryd.prog 45 #[.agg #[.bool d.neg, .string ⟨(dtxt d.n).toArray⟩, .int .i64 (d.s : Int)], .int .i64 (k : Int)] W fun e w' => e = .returned (.tuple #[.agg #[.bool x.neg, .string ⟨(dtxt x.n).toArray⟩, .int .i64 (x.s : Int)], .int .i64 0]) ∧ Kp [] W w' := q1
  have HBd : Cells (w.alloc (.cells #[.bool d.neg, .string ⟨(dtxt d.n).toArray⟩, .int .i64 (d.s : Int)] 23)) w.heap.size 23 [.bool d.neg, .string ⟨(dtxt d.n).toArray⟩, .int .i64 (d.s : Int)] := Cells.fresh w 23 [.bool d.neg, .string ⟨(dtxt d.n).toArray⟩, .int .i64 (d.s : Int)]
  have HK := hid ((Kp.refl [] w).alloc (.cells #[.bool d.neg, .string ⟨(dtxt d.n).toArray⟩, .int .i64 (d.s : Int)] 23))
  have HCd := hid (HBd)
  clear HBd
  go_enter Tryd.func16, Tryd.ntmps16
  go_wp2_with fail
  refine (hsh _).mono ?_
  rintro e w1 ⟨rfl, k1⟩
  have Cd := HCd.out.keep k1 (by simp)
  have d0 : _ = some (Value.bool d.neg) := Cd.cell 0
  have d1 : _ = some (Value.string ⟨(dtxt d.n).toArray⟩) := Cd.cell 1
  have d2 : _ = some (Value.int .i64 (d.s : Int)) := Cd.cell 2
  clear Cd
  go_wp2_with fail
  refine (m0 _).mono ?_
  rintro e w2 ⟨rfl, k2⟩
  replace d0 := k2.cell d0 (by simp)
  replace d1 := k2.cell d1 (by simp)
  replace d2 := k2.cell d2 (by simp)
  go_wp2_with fail
  refine (q1 _).mono ?_
  rintro e w3 ⟨rfl, k3⟩
  obtain ⟨K3, x0, x1, x2⟩ := k3.loc (.bool x.neg) (.string ⟨(dtxt x.n).toArray⟩) (.int .i64 (x.s : Int))
  replace d0 := K3.cell d0 (by simp)
  replace d1 := K3.cell d1 (by simp)
  replace d2 := K3.cell d2 (by simp)
  go_wp2_with fail
  refine (q2 _).mono ?_
  rintro e w4 ⟨rfl, k4⟩
  obtain ⟨K4, y0, y1, y2⟩ := k4.loc (.bool (oN O)) (.string ⟨(oL O).toArray⟩) (.int .i64 (oS O))
  replace d0 := K4.cell d0 (by simp)
  replace d1 := K4.cell d1 (by simp)
  replace d2 := K4.cell d2 (by simp)
  replace x0 := K4.cell x0 (by simp)
  replace x1 := K4.cell x1 (by simp)
  replace x2 := K4.cell x2 (by simp)
  go_wp2_with fail
  refine (q3 _).mono ?_
  rintro e w5 ⟨rfl, k5⟩
  obtain ⟨K5, o0, o1, o2⟩ := k5.loc (.bool false) (.string ⟨#[49]⟩) (.int .i64 0)
  replace d0 := K5.cell d0 (by simp)
  replace d1 := K5.cell d1 (by simp)
  replace d2 := K5.cell d2 (by simp)
  replace x0 := K5.cell x0 (by simp)
  replace x1 := K5.cell x1 (by simp)
  replace x2 := K5.cell x2 (by simp)
  replace y0 := K5.cell y0 (by simp)
  replace y1 := K5.cell y1 (by simp)
  replace y2 := K5.cell y2 (by simp)
  go_wp2_with fail
  refine (q4 _).mono ?_
  rintro e w6 ⟨rfl, k6⟩
  obtain ⟨K6, m0, m1, m2⟩ := k6.loc (.bool (oN O)) (.string ⟨(oL O).toArray⟩) (.int .i64 (oS O))
  replace d0 := K6.cell d0 (by simp)
  replace d1 := K6.cell d1 (by simp)
  replace d2 := K6.cell d2 (by simp)
  replace x0 := K6.cell x0 (by simp)
  replace x1 := K6.cell x1 (by simp)
  replace x2 := K6.cell x2 (by simp)
  replace y0 := K6.cell y0 (by simp)
  replace y1 := K6.cell y1 (by simp)
  replace y2 := K6.cell y2 (by simp)
  replace o0 := K6.cell o0 (by simp)
  replace o1 := K6.cell o1 (by simp)
  replace o2 := K6.cell o2 (by simp)
  go_wp2_with fail
  go_ret
  exact ⟨rfl, ((((((HK.out.nil k1).nil k2).nil K3).nil K4).nil K5).nil K6)⟩
theorem vpows_any (w : World) (d : RawD) (n : Int) (hr : d.ok) : Calls Tryd.prog 16 #[.agg #[.bool d.neg, .string ⟨d.l.toArray⟩, .int .i64 d.s], .int .i64 n] w (YesPost w) := by
  cases hm : mayL d.neg d.l d.s with
  | false => exact vpows_no w d n hr hm
  | true =>
    obtain ⟨x, hx, rfl⟩ := RawD.is hm
    obtain ⟨k, hk, hand⟩ := and63 n
    have huniq : ∀ j : Nat, j < 64 → bits .and .i64 n 63 = (j : Int) → j = k := fun j _ h => by rw [hand] at h; omega
    cases hp : powD x k with
    | none => exact vpows_none w x n hx (fun j h1 h2 => by rw [huniq j h1 h2]; exact hp)
    | some p => exact vpows_some w x n hx (fun j h1 h2 => ⟨p, by rw [huniq j h1 h2]; exact hp⟩)
theorem vpows_card (W : World) (_ : Tabs W) (b : Bool) (l : List UInt8) (z : Int) (hl : l.length ≤ 9223372036854775807) (h1 : -9223372036854775808 ≤ z) (h2 : z ≤ 9223372036854775807) (n : Int) (_ : -9223372036854775808 ≤ n ∧ n ≤ 9223372036854775807) :
    Calls Tryd.prog 16 #[.agg #[.bool b, .string ⟨l.toArray⟩, .int .i64 z], .int .i64 n] W (YesPost W) := vpows_any W ⟨b, l, z⟩ n ⟨hl, h1, h2⟩
end Go.Proofs.YtampgimmodomoaaDoor
