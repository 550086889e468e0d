/- DivideWholes: whole numbers near a decimal, and its powers, are as the document says. -/
import Derived.Test.YtampgimmodomoaaGreatDoorDVBase
import Derived.Test.YtampgimmodomoaaGreatDoorDVMore
import Derived.Test.YtampgimmodomoaaGreatDoorDQNear
import Derived.Test.YtampgimmodomoaaGreatDoorDQPow
namespace Go.Proofs.YtampgimmodomoaaGreatDoor
open Go Go.RowKit Go.Lib

set_option maxRecDepth 100000 in
set_option maxHeartbeats 12800000 in
theorem vwholes_no (w : World) (d : RawD) (n : Int) (hr : d.ok) (hm : mayL d.neg d.l d.s = false) :
    Calls Tryz.prog 3 #[.agg #[.bool d.neg, .string ⟨d.l.toArray⟩, .int .i64 d.s], .int .i64 n] w (YesPost w) := by
  have hsh := fun W => vshown_any W
  have m0 := rmay_no hr hm
  clear hr hm
  have HBd : Cells (w.alloc (.cells #[.bool d.neg, .string ⟨d.l.toArray⟩, .int .i64 d.s] 23)) w.heap.size 23 [.bool d.neg, .string ⟨d.l.toArray⟩, .int .i64 d.s] := Cells.fresh w 23 [.bool d.neg, .string ⟨d.l.toArray⟩, .int .i64 d.s]
  have HK := hid ((Kp.refl [] w).alloc (.cells #[.bool d.neg, .string ⟨d.l.toArray⟩, .int .i64 d.s] 23))
  have HCd := hid (HBd)
  clear HBd
  go_enter Tryz.func3, Tryz.ntmps3
  go_wp2_with fail
  refine (hsh _).mono ?_
  rintro e w1 ⟨rfl, k1⟩
  have Cd := HCd.out.keep k1 (by simp)
  have d0 : _ = some (Value.bool d.neg) := Cd.cell 0
  have d1 : _ = some (Value.string ⟨d.l.toArray⟩) := Cd.cell 1
  have d2 : _ = some (Value.int .i64 d.s) := Cd.cell 2
  clear Cd
  go_wp2_with fail
  refine (m0 _).mono ?_
  rintro e w2 ⟨rfl, k2⟩
  replace d0 := k2.cell d0 (by simp)
  replace d1 := k2.cell d1 (by simp)
  replace d2 := k2.cell d2 (by simp)
  go_wp2_with fail
  go_ret
  exact ⟨rfl, ((HK.out.nil k1).nil k2)⟩
set_option maxRecDepth 100000 in
set_option maxHeartbeats 12800000 in
theorem vwholes_yes (w : World) (d : Dc) (n : Int) (hd : Ok d) (xA : Bool) (xB : List UInt8) (xC xE : Int) (q1 : ∀ W, Calls Tryz.prog 6 #[.agg #[.bool d.neg, .string ⟨(dtxt d.n).toArray⟩, .int .i64 (d.s : Int)]] W fun e w' => e = .returned (.tuple #[.agg #[.bool xA, .string ⟨xB.toArray⟩, .int .i64 xC], .int .i64 xE]) ∧ Kp [] W w') (q2 : ∀ W, Calls Tryz.prog 7 #[.agg #[.bool d.neg, .string ⟨(dtxt d.n).toArray⟩, .int .i64 (d.s : Int)]] W fun e w' => e = .returned (.tuple #[.agg #[.bool xA, .string ⟨xB.toArray⟩, .int .i64 xC], .int .i64 xE]) ∧ Kp [] W w') (yA : Bool) (yB : List UInt8) (yC yE : Int) (q3 : ∀ W, Calls Tryz.prog 8 #[.agg #[.bool d.neg, .string ⟨(dtxt d.n).toArray⟩, .int .i64 (d.s : Int)]] W fun e w' => e = .returned (.tuple #[.agg #[.bool yA, .string ⟨yB.toArray⟩, .int .i64 yC], .int .i64 yE]) ∧ Kp [] W w') (q4 : ∀ W, Calls Tryz.prog 9 #[.agg #[.bool d.neg, .string ⟨(dtxt d.n).toArray⟩, .int .i64 (d.s : Int)]] W fun e w' => e = .returned (.tuple #[.agg #[.bool yA, .string ⟨yB.toArray⟩, .int .i64 yC], .int .i64 yE]) ∧ Kp [] W w') (zA : Bool) (zB : List UInt8) (zC zE : Int) (q5 : ∀ W, Calls Tryz.prog 10 #[.agg #[.bool d.neg, .string ⟨(dtxt d.n).toArray⟩, .int .i64 (d.s : Int)]] W fun e w' => e = .returned (.tuple #[.agg #[.bool zA, .string ⟨zB.toArray⟩, .int .i64 zC], .int .i64 zE]) ∧ Kp [] W w') (q6 : ∀ W, Calls Tryz.prog 11 #[.agg #[.bool d.neg, .string ⟨(dtxt d.n).toArray⟩, .int .i64 (d.s : Int)]] W fun e w' => e = .returned (.tuple #[.agg #[.bool zA, .string ⟨zB.toArray⟩, .int .i64 zC], .int .i64 zE]) ∧ Kp [] W w') (pA : Bool) (pB : List UInt8) (pC pE : Int) (q7 : ∀ W, Calls Tryz.prog 12 #[.agg #[.bool d.neg, .string ⟨(dtxt d.n).toArray⟩, .int .i64 (d.s : Int)], .int .i64 n] W fun e w' => e = .returned (.tuple #[.agg #[.bool pA, .string ⟨pB.toArray⟩, .int .i64 pC], .int .i64 pE]) ∧ Kp [] W w') (q8 : ∀ W, Calls Tryz.prog 13 #[.agg #[.bool d.neg, .string ⟨(dtxt d.n).toArray⟩, .int .i64 (d.s : Int)], .int .i64 n] W fun e w' => e = .returned (.tuple #[.agg #[.bool pA, .string ⟨pB.toArray⟩, .int .i64 pC], .int .i64 pE]) ∧ Kp [] W w')  :
    Calls Tryz.prog 3 #[.agg #[.bool d.neg, .string ⟨(dtxt d.n).toArray⟩, .int .i64 (d.s : Int)], .int .i64 n] w (YesPost w) := by
  have hsh := fun W => vshown_any W
  have m0 := rmay_ok2 hd
  clear hd
  have HBd : Cells (w.alloc (.cells #[.bool d.neg, .string ⟨(dtxt d.n).toArray⟩, .int .i64 (d.s : Int)] 23)) w.heap.size 23 [.bool d.neg, .string ⟨(dtxt d.n).toArray⟩, .int .i64 (d.s : Int)] := Cells.fresh w 23 [.bool d.neg, .string ⟨(dtxt d.n).toArray⟩, .int .i64 (d.s : Int)]
  have HK := hid ((Kp.refl [] w).alloc (.cells #[.bool d.neg, .string ⟨(dtxt d.n).toArray⟩, .int .i64 (d.s : Int)] 23))
  have HCd := hid (HBd)
  clear HBd
  go_enter Tryz.func3, Tryz.ntmps3
  go_wp2_with fail
  refine (hsh _).mono ?_
  rintro e w1 ⟨rfl, k1⟩
  have Cd := HCd.out.keep k1 (by simp)
  have d0 : _ = some (Value.bool d.neg) := Cd.cell 0
  have d1 : _ = some (Value.string ⟨(dtxt d.n).toArray⟩) := Cd.cell 1
  have d2 : _ = some (Value.int .i64 (d.s : Int)) := Cd.cell 2
  clear Cd
  go_wp2_with fail
  refine (m0 _).mono ?_
  rintro e w2 ⟨rfl, k2⟩
  replace d0 := k2.cell d0 (by simp)
  replace d1 := k2.cell d1 (by simp)
  replace d2 := k2.cell d2 (by simp)
  go_wp2_with fail
  refine (q1 _).mono ?_
  rintro e w3 ⟨rfl, k3⟩
  obtain ⟨K3, l10, l11, l12⟩ := k3.loc (.bool xA) (.string ⟨xB.toArray⟩) (.int .i64 xC)
  replace d0 := K3.cell d0 (by simp)
  replace d1 := K3.cell d1 (by simp)
  replace d2 := K3.cell d2 (by simp)
  go_wp2_with fail
  refine (q2 _).mono ?_
  rintro e w4 ⟨rfl, k4⟩
  obtain ⟨K4, l20, l21, l22⟩ := k4.loc (.bool xA) (.string ⟨xB.toArray⟩) (.int .i64 xC)
  replace d0 := K4.cell d0 (by simp)
  replace d1 := K4.cell d1 (by simp)
  replace d2 := K4.cell d2 (by simp)
  replace l10 := K4.cell l10 (by simp)
  replace l11 := K4.cell l11 (by simp)
  replace l12 := K4.cell l12 (by simp)
  go_wp2_with fail
  refine (q3 _).mono ?_
  rintro e w5 ⟨rfl, k5⟩
  obtain ⟨K5, l30, l31, l32⟩ := k5.loc (.bool yA) (.string ⟨yB.toArray⟩) (.int .i64 yC)
  replace d0 := K5.cell d0 (by simp)
  replace d1 := K5.cell d1 (by simp)
  replace d2 := K5.cell d2 (by simp)
  replace l10 := K5.cell l10 (by simp)
  replace l11 := K5.cell l11 (by simp)
  replace l12 := K5.cell l12 (by simp)
  replace l20 := K5.cell l20 (by simp)
  replace l21 := K5.cell l21 (by simp)
  replace l22 := K5.cell l22 (by simp)
  go_wp2_with fail
  refine (q4 _).mono ?_
  rintro e w6 ⟨rfl, k6⟩
  obtain ⟨K6, l40, l41, l42⟩ := k6.loc (.bool yA) (.string ⟨yB.toArray⟩) (.int .i64 yC)
  replace d0 := K6.cell d0 (by simp)
  replace d1 := K6.cell d1 (by simp)
  replace d2 := K6.cell d2 (by simp)
  replace l10 := K6.cell l10 (by simp)
  replace l11 := K6.cell l11 (by simp)
  replace l12 := K6.cell l12 (by simp)
  replace l20 := K6.cell l20 (by simp)
  replace l21 := K6.cell l21 (by simp)
  replace l22 := K6.cell l22 (by simp)
  replace l30 := K6.cell l30 (by simp)
  replace l31 := K6.cell l31 (by simp)
  replace l32 := K6.cell l32 (by simp)
  go_wp2_with fail
  refine (q5 _).mono ?_
  rintro e w7 ⟨rfl, k7⟩
  obtain ⟨K7, l50, l51, l52⟩ := k7.loc (.bool zA) (.string ⟨zB.toArray⟩) (.int .i64 zC)
  replace d0 := K7.cell d0 (by simp)
  replace d1 := K7.cell d1 (by simp)
  replace d2 := K7.cell d2 (by simp)
  replace l10 := K7.cell l10 (by simp)
  replace l11 := K7.cell l11 (by simp)
  replace l12 := K7.cell l12 (by simp)
  replace l20 := K7.cell l20 (by simp)
  replace l21 := K7.cell l21 (by simp)
  replace l22 := K7.cell l22 (by simp)
  replace l30 := K7.cell l30 (by simp)
  replace l31 := K7.cell l31 (by simp)
  replace l32 := K7.cell l32 (by simp)
  replace l40 := K7.cell l40 (by simp)
  replace l41 := K7.cell l41 (by simp)
  replace l42 := K7.cell l42 (by simp)
  go_wp2_with fail
  refine (q6 _).mono ?_
  rintro e w8 ⟨rfl, k8⟩
  obtain ⟨K8, l60, l61, l62⟩ := k8.loc (.bool zA) (.string ⟨zB.toArray⟩) (.int .i64 zC)
  replace d0 := K8.cell d0 (by simp)
  replace d1 := K8.cell d1 (by simp)
  replace d2 := K8.cell d2 (by simp)
  replace l10 := K8.cell l10 (by simp)
  replace l11 := K8.cell l11 (by simp)
  replace l12 := K8.cell l12 (by simp)
  replace l20 := K8.cell l20 (by simp)
  replace l21 := K8.cell l21 (by simp)
  replace l22 := K8.cell l22 (by simp)
  replace l30 := K8.cell l30 (by simp)
  replace l31 := K8.cell l31 (by simp)
  replace l32 := K8.cell l32 (by simp)
  replace l40 := K8.cell l40 (by simp)
  replace l41 := K8.cell l41 (by simp)
  replace l42 := K8.cell l42 (by simp)
  replace l50 := K8.cell l50 (by simp)
  replace l51 := K8.cell l51 (by simp)
  replace l52 := K8.cell l52 (by simp)
  go_wp2_with fail
  refine (q7 _).mono ?_
  rintro e w9 ⟨rfl, k9⟩
  obtain ⟨K9, l70, l71, l72⟩ := k9.loc (.bool pA) (.string ⟨pB.toArray⟩) (.int .i64 pC)
  replace d0 := K9.cell d0 (by simp)
  replace d1 := K9.cell d1 (by simp)
  replace d2 := K9.cell d2 (by simp)
  replace l10 := K9.cell l10 (by simp)
  replace l11 := K9.cell l11 (by simp)
  replace l12 := K9.cell l12 (by simp)
  replace l20 := K9.cell l20 (by simp)
  replace l21 := K9.cell l21 (by simp)
  replace l22 := K9.cell l22 (by simp)
  replace l30 := K9.cell l30 (by simp)
  replace l31 := K9.cell l31 (by simp)
  replace l32 := K9.cell l32 (by simp)
  replace l40 := K9.cell l40 (by simp)
  replace l41 := K9.cell l41 (by simp)
  replace l42 := K9.cell l42 (by simp)
  replace l50 := K9.cell l50 (by simp)
  replace l51 := K9.cell l51 (by simp)
  replace l52 := K9.cell l52 (by simp)
  replace l60 := K9.cell l60 (by simp)
  replace l61 := K9.cell l61 (by simp)
  replace l62 := K9.cell l62 (by simp)
  go_wp2_with fail
  refine (q8 _).mono ?_
  rintro e w10 ⟨rfl, k10⟩
  obtain ⟨K10, l80, l81, l82⟩ := k10.loc (.bool pA) (.string ⟨pB.toArray⟩) (.int .i64 pC)
  replace d0 := K10.cell d0 (by simp)
  replace d1 := K10.cell d1 (by simp)
  replace d2 := K10.cell d2 (by simp)
  replace l10 := K10.cell l10 (by simp)
  replace l11 := K10.cell l11 (by simp)
  replace l12 := K10.cell l12 (by simp)
  replace l20 := K10.cell l20 (by simp)
  replace l21 := K10.cell l21 (by simp)
  replace l22 := K10.cell l22 (by simp)
  replace l30 := K10.cell l30 (by simp)
  replace l31 := K10.cell l31 (by simp)
  replace l32 := K10.cell l32 (by simp)
  replace l40 := K10.cell l40 (by simp)
  replace l41 := K10.cell l41 (by simp)
  replace l42 := K10.cell l42 (by simp)
  replace l50 := K10.cell l50 (by simp)
  replace l51 := K10.cell l51 (by simp)
  replace l52 := K10.cell l52 (by simp)
  replace l60 := K10.cell l60 (by simp)
  replace l61 := K10.cell l61 (by simp)
  replace l62 := K10.cell l62 (by simp)
  replace l70 := K10.cell l70 (by simp)
  replace l71 := K10.cell l71 (by simp)
  replace l72 := K10.cell l72 (by simp)
  go_wp2_with fail
  go_ret
  exact ⟨rfl, ((((((((((HK.out.nil k1).nil k2).nil K3).nil K4).nil K5).nil K6).nil K7).nil K8).nil K9).nil K10)⟩
theorem vwholes_any (w : World) (d : RawD) (n : Int) (hr : d.ok) (h1 : -9223372036854775808 ≤ n) (h2 : n ≤ 9223372036854775807) : Calls Tryz.prog 3 #[.agg #[.bool d.neg, .string ⟨d.l.toArray⟩, .int .i64 d.s], .int .i64 n] w (YesPost w) := by
  cases hm : mayL d.neg d.l d.s with
  | false => exact vwholes_no w d n hr hm
  | true =>
    obtain ⟨x, hx, rfl⟩ := RawD.is hm
    by_cases h0 : n < 0 ∨ 99 < n
    · exact vwholes_yes w x n hx (oN (floorD x)) (oL (floorD x)) (oS (floorD x)) (oE (floorD x)) (fun W => (floor_any W x hx).mono fun e w' ⟨h1, h2⟩ => ⟨by rw [h1, resV_is], h2⟩) (fun W => (qfloor_any W x hx).mono fun e w' ⟨h1, h2⟩ => ⟨by rw [h1, resV_is], h2⟩) (oN (ceilD x)) (oL (ceilD x)) (oS (ceilD x)) (oE (ceilD x)) (fun W => (ceil_any W x hx).mono fun e w' ⟨h1, h2⟩ => ⟨by rw [h1, resV_is], h2⟩) (fun W => (qceil_any W x hx).mono fun e w' ⟨h1, h2⟩ => ⟨by rw [h1, resV_is], h2⟩) (oN (roundD x)) (oL (roundD x)) (oS (roundD x)) (oE (roundD x)) (fun W => (round_any W x hx).mono fun e w' ⟨h1, h2⟩ => ⟨by rw [h1, resV_is], h2⟩) (fun W => (qround_any W x hx).mono fun e w' ⟨h1, h2⟩ => ⟨by rw [h1, resV_is], h2⟩) false [] 0 1 (fun W => pow_arg W x n h0 h1 h2) (fun W => qpow_arg W x n h0 h1 h2)
    · obtain ⟨k, hk⟩ : ∃ k : Nat, n = (k : Int) := ⟨n.toNat, by omega⟩
      subst hk
      exact vwholes_yes w x (k : Int) hx (oN (floorD x)) (oL (floorD x)) (oS (floorD x)) (oE (floorD x)) (fun W => (floor_any W x hx).mono fun e w' ⟨h1, h2⟩ => ⟨by rw [h1, resV_is], h2⟩) (fun W => (qfloor_any W x hx).mono fun e w' ⟨h1, h2⟩ => ⟨by rw [h1, resV_is], h2⟩) (oN (ceilD x)) (oL (ceilD x)) (oS (ceilD x)) (oE (ceilD x)) (fun W => (ceil_any W x hx).mono fun e w' ⟨h1, h2⟩ => ⟨by rw [h1, resV_is], h2⟩) (fun W => (qceil_any W x hx).mono fun e w' ⟨h1, h2⟩ => ⟨by rw [h1, resV_is], h2⟩) (oN (roundD x)) (oL (roundD x)) (oS (roundD x)) (oE (roundD x)) (fun W => (round_any W x hx).mono fun e w' ⟨h1, h2⟩ => ⟨by rw [h1, resV_is], h2⟩) (fun W => (qround_any W x hx).mono fun e w' ⟨h1, h2⟩ => ⟨by rw [h1, resV_is], h2⟩) (oN (powD x k)) (oL (powD x k)) (oS (powD x k)) (oE (powD x k)) (fun W => (pow_any W x hx k (by omega)).mono fun e w' ⟨h1, h2⟩ => ⟨by rw [h1, resV_is], h2⟩) (fun W => (qpow_any W x hx k (by omega)).mono fun e w' ⟨h1, h2⟩ => ⟨by rw [h1, resV_is], h2⟩)
theorem vwholes_card (W : World) (_ : Tabs W) (b : Bool) (l : List UInt8) (z : Int) (hl : l.length ≤ 9223372036854775807) (h1 : -9223372036854775808 ≤ z) (h2 : z ≤ 9223372036854775807) (n : Int) (hn : -9223372036854775808 ≤ n ∧ n ≤ 9223372036854775807) :
    Calls Tryz.prog 3 #[.agg #[.bool b, .string ⟨l.toArray⟩, .int .i64 z], .int .i64 n] W (YesPost W) := vwholes_any W ⟨b, l, z⟩ n ⟨hl, h1, h2⟩ hn.1 hn.2
end Go.Proofs.YtampgimmodomoaaGreatDoor
