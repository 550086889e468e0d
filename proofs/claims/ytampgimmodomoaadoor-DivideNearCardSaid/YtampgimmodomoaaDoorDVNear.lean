/- DivideNear: Floor, Ceil, Round lie near a decimal. -/
import Derived.Test.YtampgimmodomoaaDoorDVBase
import Derived.Test.YtampgimmodomoaaDoorDVMore
namespace Go.Proofs.YtampgimmodomoaaDoor
open Go Go.RowKit Go.Lib

set_option maxRecDepth 100000 in
set_option maxHeartbeats 12800000 in
theorem vnear_no (w : World) (d : RawD) (hr : d.ok) (hm : mayL d.neg d.l d.s = false) :
    Calls Tryd.prog 14 #[.agg #[.bool d.neg, .string ⟨d.l.toArray⟩, .int .i64 d.s]] w (YesPost w) := by
  have hsh := fun W => vshown_any W
  have m0 := rmay_no hr hm
  clear hr hm
  have HBd : Cells (w.alloc (.cells #[.bool d.neg, .string ⟨d.l.toArray⟩, .int .i64 d.s] 23)) w.heap.size 23 [.bool d.neg, .string ⟨d.l.toArray⟩, .int .i64 d.s] := Cells.fresh w 23 [.bool d.neg, .string ⟨d.l.toArray⟩, .int .i64 d.s]
  have HK := hid ((Kp.refl [] w).alloc (.cells #[.bool d.neg, .string ⟨d.l.toArray⟩, .int .i64 d.s] 23))
  have HCd := hid (HBd)
  clear HBd
  go_enter Tryd.func14, Tryd.ntmps14
  go_wp2_with fail
  refine (hsh _).mono ?_
  rintro e w1 ⟨rfl, k1⟩
  have Cd := HCd.out.keep k1 (by simp)
  have d0 : _ = some (Value.bool d.neg) := Cd.cell 0
  have d1 : _ = some (Value.string ⟨d.l.toArray⟩) := Cd.cell 1
  have d2 : _ = some (Value.int .i64 d.s) := Cd.cell 2
  clear Cd
  go_wp2_with fail
  refine (m0 _).mono ?_
  rintro e w2 ⟨rfl, k2⟩
  replace d0 := k2.cell d0 (by simp)
  replace d1 := k2.cell d1 (by simp)
  replace d2 := k2.cell d2 (by simp)
  go_wp2_with fail
  go_ret
  exact ⟨rfl, ((HK.out.nil k1).nil k2)⟩
set_option maxRecDepth 100000 in
set_option maxHeartbeats 12800000 in
theorem vnear_s0 (w : World) (d : Dc) (hd : Ok d) (hs : d.s = 0) :
    Calls Tryd.prog 14 #[.agg #[.bool d.neg, .string ⟨(dtxt d.n).toArray⟩, .int .i64 (d.s : Int)]] w (YesPost w) := by
  have hsh := fun W => vshown_any W
  have m0 := rmay_ok2 hd
  obtain ⟨hF, hC⟩ := near_same hd hs
  have hR : roundD d = some d := by
    rcases round_one d with h | h
    · rw [h]; exact hF
    · rw [h]; exact hC
  have q1 := floor_sure hd hF
  have q2 := ceil_sure hd hC
  have q3 := round_sure hd hR
  have q4 := radd_sym hd ok_one
  generalize addD d (oneD false) = O at q4
  have e1 : (oneD false).neg = false := rfl
  have e2 : dtxt (oneD false).n = [49] := rfl
  have e3 : ((oneD false).s : Int) = 0 := rfl
  rw [e1, e2, e3] at q4
  have z1 : ((d.s : Int) != 0) = false := by rw [hs]; rfl
  have z2 : ((d.s : Int) == 0) = true := by rw [hs]; rfl
  have z3 : decide (0 < d.s) = false := by rw [hs]; rfl
  clear hF hC hR e1 e2 e3 hd hs
  have HBd : Cells (w.alloc (.cells #[.bool d.neg, .string ⟨(dtxt d.n).toArray⟩, .int .i64 (d.s : Int)] 23)) w.heap.size 23 [.bool d.neg, .string ⟨(dtxt d.n).toArray⟩, .int .i64 (d.s : Int)] := Cells.fresh w 23 [.bool d.neg, .string ⟨(dtxt d.n).toArray⟩, .int .i64 (d.s : Int)]
  have HK := hid ((Kp.refl [] w).alloc (.cells #[.bool d.neg, .string ⟨(dtxt d.n).toArray⟩, .int .i64 (d.s : Int)] 23))
  have HCd := hid (HBd)
  clear HBd
  go_enter Tryd.func14, Tryd.ntmps14
  go_wp2_with fail
  refine (hsh _).mono ?_
  rintro e w1 ⟨rfl, k1⟩
  have Cd := HCd.out.keep k1 (by simp)
  have d0 : _ = some (Value.bool d.neg) := Cd.cell 0
  have d1 : _ = some (Value.string ⟨(dtxt d.n).toArray⟩) := Cd.cell 1
  have d2 : _ = some (Value.int .i64 (d.s : Int)) := Cd.cell 2
  clear Cd
  go_wp2_with fail
  refine (m0 _).mono ?_
  rintro e w2 ⟨rfl, k2⟩
  replace d0 := k2.cell d0 (by simp)
  replace d1 := k2.cell d1 (by simp)
  replace d2 := k2.cell d2 (by simp)
  go_wp2_with fail
  refine (q1 _).mono ?_
  rintro e w3 ⟨rfl, k3⟩
  obtain ⟨K3, f0, f1, f2⟩ := k3.loc (.bool d.neg) (.string ⟨(dtxt d.n).toArray⟩) (.int .i64 (d.s : Int))
  replace d0 := K3.cell d0 (by simp)
  replace d1 := K3.cell d1 (by simp)
  replace d2 := K3.cell d2 (by simp)
  go_wp2_with fail
  refine (q2 _).mono ?_
  rintro e w4 ⟨rfl, k4⟩
  obtain ⟨K4, c0, c1, c2⟩ := k4.loc (.bool d.neg) (.string ⟨(dtxt d.n).toArray⟩) (.int .i64 (d.s : Int))
  replace d0 := K4.cell d0 (by simp)
  replace d1 := K4.cell d1 (by simp)
  replace d2 := K4.cell d2 (by simp)
  replace f0 := K4.cell f0 (by simp)
  replace f1 := K4.cell f1 (by simp)
  replace f2 := K4.cell f2 (by simp)
  go_wp2_with fail
  refine (q3 _).mono ?_
  rintro e w5 ⟨rfl, k5⟩
  obtain ⟨K5, r0, r1, r2⟩ := k5.loc (.bool d.neg) (.string ⟨(dtxt d.n).toArray⟩) (.int .i64 (d.s : Int))
  replace d0 := K5.cell d0 (by simp)
  replace d1 := K5.cell d1 (by simp)
  replace d2 := K5.cell d2 (by simp)
  replace f0 := K5.cell f0 (by simp)
  replace f1 := K5.cell f1 (by simp)
  replace f2 := K5.cell f2 (by simp)
  replace c0 := K5.cell c0 (by simp)
  replace c1 := K5.cell c1 (by simp)
  replace c2 := K5.cell c2 (by simp)
  go_wp2_with fail
  refine (q4 _).mono ?_
  rintro e w6 ⟨rfl, k6⟩
  obtain ⟨K6, o0, o1, o2⟩ := k6.loc (.bool (oN O)) (.string ⟨(oL O).toArray⟩) (.int .i64 (oS O))
  replace d0 := K6.cell d0 (by simp)
  replace d1 := K6.cell d1 (by simp)
  replace d2 := K6.cell d2 (by simp)
  replace f0 := K6.cell f0 (by simp)
  replace f1 := K6.cell f1 (by simp)
  replace f2 := K6.cell f2 (by simp)
  replace c0 := K6.cell c0 (by simp)
  replace c1 := K6.cell c1 (by simp)
  replace c2 := K6.cell c2 (by simp)
  replace r0 := K6.cell r0 (by simp)
  replace r1 := K6.cell r1 (by simp)
  replace r2 := K6.cell r2 (by simp)
  go_wp2_with fail
  all_goals go_ret
  all_goals exact ⟨rfl, ((((((HK.out.nil k1).nil k2).nil K3).nil K4).nil K5).nil K6)⟩
set_option maxRecDepth 100000 in
set_option maxHeartbeats 12800000 in
theorem vnear_rf (w : World) (d : Dc) (hd : Ok d) (hs : 0 < d.s) (hr : roundD d = floorD d) :
    Calls Tryd.prog 14 #[.agg #[.bool d.neg, .string ⟨(dtxt d.n).toArray⟩, .int .i64 (d.s : Int)]] w (YesPost w) := by
  have hsh := fun W => vshown_any W
  have m0 := rmay_ok2 hd
  obtain ⟨f, c, hF, hC, fs, cs, of, oc, hA, cfd, cdc⟩ := near_apart hd hs
  have q1 := floor_sure hd hF
  have q2 := ceil_sure hd hC
  have q3 := round_sure hd (hr.trans hF)
  have q4 := radd_sure of ok_one hA
  have q5 := fun W => rcmp_any W f d of hd
  have q6 := fun W => rcmp_any W d c hd oc
  rw [cfd] at q5
  rw [cdc] at q6
  have e1 : (oneD false).neg = false := rfl
  have e2 : dtxt (oneD false).n = [49] := rfl
  have e3 : ((oneD false).s : Int) = 0 := rfl
  rw [e1, e2, e3] at q4
  have z1 : ((f.s : Int) != 0) = false := by rw [fs]; rfl
  have z4 : ((c.s : Int) != 0) = false := by rw [cs]; rfl
  have z2 : ((d.s : Int) == 0) = false := by rw [beq_eq_false_iff_ne]; omega
  have z3 : decide (0 < d.s) = true := decide_eq_true hs
  clear hF hC hA fs cs of oc cfd cdc e1 e2 e3 hd hs hr
  have HBd : Cells (w.alloc (.cells #[.bool d.neg, .string ⟨(dtxt d.n).toArray⟩, .int .i64 (d.s : Int)] 23)) w.heap.size 23 [.bool d.neg, .string ⟨(dtxt d.n).toArray⟩, .int .i64 (d.s : Int)] := Cells.fresh w 23 [.bool d.neg, .string ⟨(dtxt d.n).toArray⟩, .int .i64 (d.s : Int)]
  have HK := hid ((Kp.refl [] w).alloc (.cells #[.bool d.neg, .string ⟨(dtxt d.n).toArray⟩, .int .i64 (d.s : Int)] 23))
  have HCd := hid (HBd)
  clear HBd
  go_enter Tryd.func14, Tryd.ntmps14
  go_wp2_with fail
  refine (hsh _).mono ?_
  rintro e w1 ⟨rfl, k1⟩
  have Cd := HCd.out.keep k1 (by simp)
  have d0 : _ = some (Value.bool d.neg) := Cd.cell 0
  have d1 : _ = some (Value.string ⟨(dtxt d.n).toArray⟩) := Cd.cell 1
  have d2 : _ = some (Value.int .i64 (d.s : Int)) := Cd.cell 2
  clear Cd
  go_wp2_with fail
  refine (m0 _).mono ?_
  rintro e w2 ⟨rfl, k2⟩
  replace d0 := k2.cell d0 (by simp)
  replace d1 := k2.cell d1 (by simp)
  replace d2 := k2.cell d2 (by simp)
  go_wp2_with fail
  refine (q1 _).mono ?_
  rintro e w3 ⟨rfl, k3⟩
  obtain ⟨K3, f0, f1, f2⟩ := k3.loc (.bool f.neg) (.string ⟨(dtxt f.n).toArray⟩) (.int .i64 (f.s : Int))
  replace d0 := K3.cell d0 (by simp)
  replace d1 := K3.cell d1 (by simp)
  replace d2 := K3.cell d2 (by simp)
  go_wp2_with fail
  refine (q2 _).mono ?_
  rintro e w4 ⟨rfl, k4⟩
  obtain ⟨K4, c0, c1, c2⟩ := k4.loc (.bool c.neg) (.string ⟨(dtxt c.n).toArray⟩) (.int .i64 (c.s : Int))
  replace d0 := K4.cell d0 (by simp)
  replace d1 := K4.cell d1 (by simp)
  replace d2 := K4.cell d2 (by simp)
  replace f0 := K4.cell f0 (by simp)
  replace f1 := K4.cell f1 (by simp)
  replace f2 := K4.cell f2 (by simp)
  go_wp2_with fail
  refine (q3 _).mono ?_
  rintro e w5 ⟨rfl, k5⟩
  obtain ⟨K5, r0, r1, r2⟩ := k5.loc (.bool f.neg) (.string ⟨(dtxt f.n).toArray⟩) (.int .i64 (f.s : Int))
  replace d0 := K5.cell d0 (by simp)
  replace d1 := K5.cell d1 (by simp)
  replace d2 := K5.cell d2 (by simp)
  replace f0 := K5.cell f0 (by simp)
  replace f1 := K5.cell f1 (by simp)
  replace f2 := K5.cell f2 (by simp)
  replace c0 := K5.cell c0 (by simp)
  replace c1 := K5.cell c1 (by simp)
  replace c2 := K5.cell c2 (by simp)
  go_wp2_with fail
  refine (q4 _).mono ?_
  rintro e w6 ⟨rfl, k6⟩
  obtain ⟨K6, o0, o1, o2⟩ := k6.loc (.bool c.neg) (.string ⟨(dtxt c.n).toArray⟩) (.int .i64 (c.s : Int))
  replace d0 := K6.cell d0 (by simp)
  replace d1 := K6.cell d1 (by simp)
  replace d2 := K6.cell d2 (by simp)
  replace f0 := K6.cell f0 (by simp)
  replace f1 := K6.cell f1 (by simp)
  replace f2 := K6.cell f2 (by simp)
  replace c0 := K6.cell c0 (by simp)
  replace c1 := K6.cell c1 (by simp)
  replace c2 := K6.cell c2 (by simp)
  replace r0 := K6.cell r0 (by simp)
  replace r1 := K6.cell r1 (by simp)
  replace r2 := K6.cell r2 (by simp)
  go_wp2_with fail
  refine (q5 _).mono ?_
  rintro e w7 ⟨rfl, k7⟩
  replace d0 := k7.cell d0 (by simp)
  replace d1 := k7.cell d1 (by simp)
  replace d2 := k7.cell d2 (by simp)
  replace f0 := k7.cell f0 (by simp)
  replace f1 := k7.cell f1 (by simp)
  replace f2 := k7.cell f2 (by simp)
  replace c0 := k7.cell c0 (by simp)
  replace c1 := k7.cell c1 (by simp)
  replace c2 := k7.cell c2 (by simp)
  replace r0 := k7.cell r0 (by simp)
  replace r1 := k7.cell r1 (by simp)
  replace r2 := k7.cell r2 (by simp)
  replace o0 := k7.cell o0 (by simp)
  replace o1 := k7.cell o1 (by simp)
  replace o2 := k7.cell o2 (by simp)
  go_wp2_with fail
  refine (q6 _).mono ?_
  rintro e w8 ⟨rfl, k8⟩
  replace d0 := k8.cell d0 (by simp)
  replace d1 := k8.cell d1 (by simp)
  replace d2 := k8.cell d2 (by simp)
  replace f0 := k8.cell f0 (by simp)
  replace f1 := k8.cell f1 (by simp)
  replace f2 := k8.cell f2 (by simp)
  replace c0 := k8.cell c0 (by simp)
  replace c1 := k8.cell c1 (by simp)
  replace c2 := k8.cell c2 (by simp)
  replace r0 := k8.cell r0 (by simp)
  replace r1 := k8.cell r1 (by simp)
  replace r2 := k8.cell r2 (by simp)
  replace o0 := k8.cell o0 (by simp)
  replace o1 := k8.cell o1 (by simp)
  replace o2 := k8.cell o2 (by simp)
  go_wp2_with fail
  all_goals go_ret
  all_goals exact ⟨rfl, ((((((((HK.out.nil k1).nil k2).nil K3).nil K4).nil K5).nil K6).nil k7).nil k8)⟩
set_option maxRecDepth 100000 in
set_option maxHeartbeats 12800000 in
theorem vnear_rc (w : World) (d : Dc) (hd : Ok d) (hs : 0 < d.s) (hr : roundD d = ceilD d) :
    Calls Tryd.prog 14 #[.agg #[.bool d.neg, .string ⟨(dtxt d.n).toArray⟩, .int .i64 (d.s : Int)]] w (YesPost w) := by
  have hsh := fun W => vshown_any W
  have m0 := rmay_ok2 hd
  obtain ⟨f, c, hF, hC, fs, cs, of, oc, hA, cfd, cdc⟩ := near_apart hd hs
  have q1 := floor_sure hd hF
  have q2 := ceil_sure hd hC
  have q3 := round_sure hd (hr.trans hC)
  have q4 := radd_sure of ok_one hA
  have q5 := fun W => rcmp_any W f d of hd
  have q6 := fun W => rcmp_any W d c hd oc
  rw [cfd] at q5
  rw [cdc] at q6
  have e1 : (oneD false).neg = false := rfl
  have e2 : dtxt (oneD false).n = [49] := rfl
  have e3 : ((oneD false).s : Int) = 0 := rfl
  rw [e1, e2, e3] at q4
  have z1 : ((f.s : Int) != 0) = false := by rw [fs]; rfl
  have z4 : ((c.s : Int) != 0) = false := by rw [cs]; rfl
  have z2 : ((d.s : Int) == 0) = false := by rw [beq_eq_false_iff_ne]; omega
  have z3 : decide (0 < d.s) = true := decide_eq_true hs
  clear hF hC hA fs cs of oc cfd cdc e1 e2 e3 hd hs hr
  have HBd : Cells (w.alloc (.cells #[.bool d.neg, .string ⟨(dtxt d.n).toArray⟩, .int .i64 (d.s : Int)] 23)) w.heap.size 23 [.bool d.neg, .string ⟨(dtxt d.n).toArray⟩, .int .i64 (d.s : Int)] := Cells.fresh w 23 [.bool d.neg, .string ⟨(dtxt d.n).toArray⟩, .int .i64 (d.s : Int)]
  have HK := hid ((Kp.refl [] w).alloc (.cells #[.bool d.neg, .string ⟨(dtxt d.n).toArray⟩, .int .i64 (d.s : Int)] 23))
  have HCd := hid (HBd)
  clear HBd
  go_enter Tryd.func14, Tryd.ntmps14
  go_wp2_with fail
  refine (hsh _).mono ?_
  rintro e w1 ⟨rfl, k1⟩
  have Cd := HCd.out.keep k1 (by simp)
  have d0 : _ = some (Value.bool d.neg) := Cd.cell 0
  have d1 : _ = some (Value.string ⟨(dtxt d.n).toArray⟩) := Cd.cell 1
  have d2 : _ = some (Value.int .i64 (d.s : Int)) := Cd.cell 2
  clear Cd
  go_wp2_with fail
  refine (m0 _).mono ?_
  rintro e w2 ⟨rfl, k2⟩
  replace d0 := k2.cell d0 (by simp)
  replace d1 := k2.cell d1 (by simp)
  replace d2 := k2.cell d2 (by simp)
  go_wp2_with fail
  refine (q1 _).mono ?_
  rintro e w3 ⟨rfl, k3⟩
  obtain ⟨K3, f0, f1, f2⟩ := k3.loc (.bool f.neg) (.string ⟨(dtxt f.n).toArray⟩) (.int .i64 (f.s : Int))
  replace d0 := K3.cell d0 (by simp)
  replace d1 := K3.cell d1 (by simp)
  replace d2 := K3.cell d2 (by simp)
  go_wp2_with fail
  refine (q2 _).mono ?_
  rintro e w4 ⟨rfl, k4⟩
  obtain ⟨K4, c0, c1, c2⟩ := k4.loc (.bool c.neg) (.string ⟨(dtxt c.n).toArray⟩) (.int .i64 (c.s : Int))
  replace d0 := K4.cell d0 (by simp)
  replace d1 := K4.cell d1 (by simp)
  replace d2 := K4.cell d2 (by simp)
  replace f0 := K4.cell f0 (by simp)
  replace f1 := K4.cell f1 (by simp)
  replace f2 := K4.cell f2 (by simp)
  go_wp2_with fail
  refine (q3 _).mono ?_
  rintro e w5 ⟨rfl, k5⟩
  obtain ⟨K5, r0, r1, r2⟩ := k5.loc (.bool c.neg) (.string ⟨(dtxt c.n).toArray⟩) (.int .i64 (c.s : Int))
  replace d0 := K5.cell d0 (by simp)
  replace d1 := K5.cell d1 (by simp)
  replace d2 := K5.cell d2 (by simp)
  replace f0 := K5.cell f0 (by simp)
  replace f1 := K5.cell f1 (by simp)
  replace f2 := K5.cell f2 (by simp)
  replace c0 := K5.cell c0 (by simp)
  replace c1 := K5.cell c1 (by simp)
  replace c2 := K5.cell c2 (by simp)
  go_wp2_with fail
  refine (q4 _).mono ?_
  rintro e w6 ⟨rfl, k6⟩
  obtain ⟨K6, o0, o1, o2⟩ := k6.loc (.bool c.neg) (.string ⟨(dtxt c.n).toArray⟩) (.int .i64 (c.s : Int))
  replace d0 := K6.cell d0 (by simp)
  replace d1 := K6.cell d1 (by simp)
  replace d2 := K6.cell d2 (by simp)
  replace f0 := K6.cell f0 (by simp)
  replace f1 := K6.cell f1 (by simp)
  replace f2 := K6.cell f2 (by simp)
  replace c0 := K6.cell c0 (by simp)
  replace c1 := K6.cell c1 (by simp)
  replace c2 := K6.cell c2 (by simp)
  replace r0 := K6.cell r0 (by simp)
  replace r1 := K6.cell r1 (by simp)
  replace r2 := K6.cell r2 (by simp)
  go_wp2_with fail
  refine (q5 _).mono ?_
  rintro e w7 ⟨rfl, k7⟩
  replace d0 := k7.cell d0 (by simp)
  replace d1 := k7.cell d1 (by simp)
  replace d2 := k7.cell d2 (by simp)
  replace f0 := k7.cell f0 (by simp)
  replace f1 := k7.cell f1 (by simp)
  replace f2 := k7.cell f2 (by simp)
  replace c0 := k7.cell c0 (by simp)
  replace c1 := k7.cell c1 (by simp)
  replace c2 := k7.cell c2 (by simp)
  replace r0 := k7.cell r0 (by simp)
  replace r1 := k7.cell r1 (by simp)
  replace r2 := k7.cell r2 (by simp)
  replace o0 := k7.cell o0 (by simp)
  replace o1 := k7.cell o1 (by simp)
  replace o2 := k7.cell o2 (by simp)
  go_wp2_with fail
  refine (q6 _).mono ?_
  rintro e w8 ⟨rfl, k8⟩
  replace d0 := k8.cell d0 (by simp)
  replace d1 := k8.cell d1 (by simp)
  replace d2 := k8.cell d2 (by simp)
  replace f0 := k8.cell f0 (by simp)
  replace f1 := k8.cell f1 (by simp)
  replace f2 := k8.cell f2 (by simp)
  replace c0 := k8.cell c0 (by simp)
  replace c1 := k8.cell c1 (by simp)
  replace c2 := k8.cell c2 (by simp)
  replace r0 := k8.cell r0 (by simp)
  replace r1 := k8.cell r1 (by simp)
  replace r2 := k8.cell r2 (by simp)
  replace o0 := k8.cell o0 (by simp)
  replace o1 := k8.cell o1 (by simp)
  replace o2 := k8.cell o2 (by simp)
  go_wp2_with fail
  all_goals go_ret
  all_goals exact ⟨rfl, ((((((((HK.out.nil k1).nil k2).nil K3).nil K4).nil K5).nil K6).nil k7).nil k8)⟩
theorem vnear_any (w : World) (d : RawD) (hr : d.ok) : Calls Tryd.prog 14 #[.agg #[.bool d.neg, .string ⟨d.l.toArray⟩, .int .i64 d.s]] w (YesPost w) := by
  cases hm : mayL d.neg d.l d.s with
  | false => exact vnear_no w d hr hm
  | true =>
    obtain ⟨x, hx, rfl⟩ := RawD.is hm
    rcases Nat.eq_zero_or_pos x.s with h | h
    · exact vnear_s0 w x hx h
    · rcases round_one x with h2 | h2
      · exact vnear_rf w x hx h h2
      · exact vnear_rc w x hx h h2
theorem vnear_card (W : World) (_ : Tabs W) (b : Bool) (l : List UInt8) (z : Int) (hl : l.length ≤ 9223372036854775807) (h1 : -9223372036854775808 ≤ z) (h2 : z ≤ 9223372036854775807) :
    Calls Tryd.prog 14 #[.agg #[.bool b, .string ⟨l.toArray⟩, .int .i64 z]] W (YesPost W) := vnear_any W ⟨b, l, z⟩ ⟨hl, h1, h2⟩
end Go.Proofs.YtampgimmodomoaaDoor
