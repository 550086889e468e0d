/- DivideDivs: quotients and what is left are as the document says. -/
import Derived.Test.YtampgimmodomoaaDoorDVBase
import Derived.Test.YtampgimmodomoaaDoorDVMore
import Derived.Test.YtampgimmodomoaaDoorDQDiv
import Derived.Test.YtampgimmodomoaaDoorDQMod
namespace Go.Proofs.YtampgimmodomoaaDoor
open Go Go.RowKit Go.Lib

set_option maxRecDepth 100000 in
set_option maxHeartbeats 12800000 in
theorem vdivs_no (w : World) (a b : RawD) (ha : a.ok) (hb : b.ok) (hm : (mayL a.neg a.l a.s && mayL b.neg b.l b.s) = false) :
    Calls Tryd.prog 11 #[.agg #[.bool a.neg, .string ⟨a.l.toArray⟩, .int .i64 a.s], .agg #[.bool b.neg, .string ⟨b.l.toArray⟩, .int .i64 b.s]] w (YesPost w) := by
  have hsh := fun W => vshown_any W
  have m0 := fun W => vmay_any W a b ha hb
  simp only [hm] at m0
  clear ha hb hm
  have HBa : Cells (w.alloc (.cells #[.bool a.neg, .string ⟨a.l.toArray⟩, .int .i64 a.s] 23)) w.heap.size 23 [.bool a.neg, .string ⟨a.l.toArray⟩, .int .i64 a.s] := Cells.fresh w 23 [.bool a.neg, .string ⟨a.l.toArray⟩, .int .i64 a.s]
  have HBb : Cells ((w.alloc (.cells #[.bool a.neg, .string ⟨a.l.toArray⟩, .int .i64 a.s] 23)).alloc (.cells #[.bool b.neg, .string ⟨b.l.toArray⟩, .int .i64 b.s] 23)) (w.heap.size + 1) 23 [.bool b.neg, .string ⟨b.l.toArray⟩, .int .i64 b.s] := Cells.fresh1 _ _ 23 [.bool b.neg, .string ⟨b.l.toArray⟩, .int .i64 b.s]
  have HK := hid (((Kp.refl [] w).alloc (.cells #[.bool a.neg, .string ⟨a.l.toArray⟩, .int .i64 a.s] 23)).alloc (.cells #[.bool b.neg, .string ⟨b.l.toArray⟩, .int .i64 b.s] 23))
  have HCa := hid ((HBa).alloc (.cells #[.bool b.neg, .string ⟨b.l.toArray⟩, .int .i64 b.s] 23))
  have HCb := hid (HBb)
  clear HBa HBb
  go_enter Tryd.func11, Tryd.ntmps11
  go_wp2_with fail
  refine (hsh _).mono ?_
  rintro e w1 ⟨rfl, k1⟩
  have Ca := HCa.out.keep k1 (by simp)
  have a0 : _ = some (Value.bool a.neg) := Ca.cell 0
  have a1 : _ = some (Value.string ⟨a.l.toArray⟩) := Ca.cell 1
  have a2 : _ = some (Value.int .i64 a.s) := Ca.cell 2
  have Cb := HCb.out.keep k1 (by simp)
  have b0 : _ = some (Value.bool b.neg) := Cb.cell 0
  have b1 : _ = some (Value.string ⟨b.l.toArray⟩) := Cb.cell 1
  have b2 : _ = some (Value.int .i64 b.s) := Cb.cell 2
  clear Ca Cb
  go_wp2_with fail
  refine (m0 _).mono ?_
  rintro e w2 ⟨rfl, k2⟩
  replace a0 := k2.cell a0 (by simp)
  replace a1 := k2.cell a1 (by simp)
  replace a2 := k2.cell a2 (by simp)
  replace b0 := k2.cell b0 (by simp)
  replace b1 := k2.cell b1 (by simp)
  replace b2 := k2.cell b2 (by simp)
  go_wp2_with fail
  go_ret
  exact ⟨rfl, ((HK.out.nil k1).nil k2)⟩
set_option maxRecDepth 100000 in
set_option maxHeartbeats 12800000 in
theorem vdivs_yes (w : World) (a b : Dc) (ha : Ok a) (hb : Ok b) (xA yA : Bool) (xB yB : List UInt8) (xC yC E F : Int) (q1 : ∀ W, Calls Tryd.prog 37 #[.agg #[.bool a.neg, .string ⟨(dtxt a.n).toArray⟩, .int .i64 (a.s : Int)], .agg #[.bool b.neg, .string ⟨(dtxt b.n).toArray⟩, .int .i64 (b.s : Int)]] W fun e w' => e = .returned (.tuple #[.agg #[.bool xA, .string ⟨xB.toArray⟩, .int .i64 xC], .int .i64 E]) ∧ Kp [] W w') (q2 : ∀ W, Calls Tryd.prog 38 #[.agg #[.bool a.neg, .string ⟨(dtxt a.n).toArray⟩, .int .i64 (a.s : Int)], .agg #[.bool b.neg, .string ⟨(dtxt b.n).toArray⟩, .int .i64 (b.s : Int)]] W fun e w' => e = .returned (.tuple #[.agg #[.bool xA, .string ⟨xB.toArray⟩, .int .i64 xC], .int .i64 E]) ∧ Kp [] W w') (q3 : ∀ W, Calls Tryd.prog 39 #[.agg #[.bool a.neg, .string ⟨(dtxt a.n).toArray⟩, .int .i64 (a.s : Int)], .agg #[.bool b.neg, .string ⟨(dtxt b.n).toArray⟩, .int .i64 (b.s : Int)]] W fun e w' => e = .returned (.tuple #[.agg #[.bool yA, .string ⟨yB.toArray⟩, .int .i64 yC], .int .i64 F]) ∧ Kp [] W w') (q4 : ∀ W, Calls Tryd.prog 40 #[.agg #[.bool a.neg, .string ⟨(dtxt a.n).toArray⟩, .int .i64 (a.s : Int)], .agg #[.bool b.neg, .string ⟨(dtxt b.n).toArray⟩, .int .i64 (b.s : Int)]] W fun e w' => e = .returned (.tuple #[.agg #[.bool yA, .string ⟨yB.toArray⟩, .int .i64 yC], .int .i64 F]) ∧ Kp [] W w')  :
    Calls Tryd.prog 11 #[.agg #[.bool a.neg, .string ⟨(dtxt a.n).toArray⟩, .int .i64 (a.s : Int)], .agg #[.bool b.neg, .string ⟨(dtxt b.n).toArray⟩, .int .i64 (b.s : Int)]] w (YesPost w) := by
  have hsh := fun W => vshown_any W
  have m0 := vmay_ok2 ha hb
  clear ha hb
  have HBa : Cells (w.alloc (.cells #[.bool a.neg, .string ⟨(dtxt a.n).toArray⟩, .int .i64 (a.s : Int)] 23)) w.heap.size 23 [.bool a.neg, .string ⟨(dtxt a.n).toArray⟩, .int .i64 (a.s : Int)] := Cells.fresh w 23 [.bool a.neg, .string ⟨(dtxt a.n).toArray⟩, .int .i64 (a.s : Int)]
  have HBb : Cells ((w.alloc (.cells #[.bool a.neg, .string ⟨(dtxt a.n).toArray⟩, .int .i64 (a.s : Int)] 23)).alloc (.cells #[.bool b.neg, .string ⟨(dtxt b.n).toArray⟩, .int .i64 (b.s : Int)] 23)) (w.heap.size + 1) 23 [.bool b.neg, .string ⟨(dtxt b.n).toArray⟩, .int .i64 (b.s : Int)] := Cells.fresh1 _ _ 23 [.bool b.neg, .string ⟨(dtxt b.n).toArray⟩, .int .i64 (b.s : Int)]
  have HK := hid (((Kp.refl [] w).alloc (.cells #[.bool a.neg, .string ⟨(dtxt a.n).toArray⟩, .int .i64 (a.s : Int)] 23)).alloc (.cells #[.bool b.neg, .string ⟨(dtxt b.n).toArray⟩, .int .i64 (b.s : Int)] 23))
  have HCa := hid ((HBa).alloc (.cells #[.bool b.neg, .string ⟨(dtxt b.n).toArray⟩, .int .i64 (b.s : Int)] 23))
  have HCb := hid (HBb)
  clear HBa HBb
  go_enter Tryd.func11, Tryd.ntmps11
  go_wp2_with fail
  refine (hsh _).mono ?_
  rintro e w1 ⟨rfl, k1⟩
  have Ca := HCa.out.keep k1 (by simp)
  have a0 : _ = some (Value.bool a.neg) := Ca.cell 0
  have a1 : _ = some (Value.string ⟨(dtxt a.n).toArray⟩) := Ca.cell 1
  have a2 : _ = some (Value.int .i64 (a.s : Int)) := Ca.cell 2
  have Cb := HCb.out.keep k1 (by simp)
  have b0 : _ = some (Value.bool b.neg) := Cb.cell 0
  have b1 : _ = some (Value.string ⟨(dtxt b.n).toArray⟩) := Cb.cell 1
  have b2 : _ = some (Value.int .i64 (b.s : Int)) := Cb.cell 2
  clear Ca Cb
  go_wp2_with fail
  refine (m0 _).mono ?_
  rintro e w2 ⟨rfl, k2⟩
  replace a0 := k2.cell a0 (by simp)
  replace a1 := k2.cell a1 (by simp)
  replace a2 := k2.cell a2 (by simp)
  replace b0 := k2.cell b0 (by simp)
  replace b1 := k2.cell b1 (by simp)
  replace b2 := k2.cell b2 (by simp)
  go_wp2_with fail
  refine (q1 _).mono ?_
  rintro e w3 ⟨rfl, k3⟩
  obtain ⟨K3, x0, x1, x2⟩ := k3.loc (.bool xA) (.string ⟨xB.toArray⟩) (.int .i64 xC)
  replace a0 := K3.cell a0 (by simp)
  replace a1 := K3.cell a1 (by simp)
  replace a2 := K3.cell a2 (by simp)
  replace b0 := K3.cell b0 (by simp)
  replace b1 := K3.cell b1 (by simp)
  replace b2 := K3.cell b2 (by simp)
  go_wp2_with fail
  refine (q2 _).mono ?_
  rintro e w4 ⟨rfl, k4⟩
  obtain ⟨K4, y0, y1, y2⟩ := k4.loc (.bool xA) (.string ⟨xB.toArray⟩) (.int .i64 xC)
  replace a0 := K4.cell a0 (by simp)
  replace a1 := K4.cell a1 (by simp)
  replace a2 := K4.cell a2 (by simp)
  replace b0 := K4.cell b0 (by simp)
  replace b1 := K4.cell b1 (by simp)
  replace b2 := K4.cell b2 (by simp)
  replace x0 := K4.cell x0 (by simp)
  replace x1 := K4.cell x1 (by simp)
  replace x2 := K4.cell x2 (by simp)
  go_wp2_with fail
  refine (q3 _).mono ?_
  rintro e w5 ⟨rfl, k5⟩
  obtain ⟨K5, p0, p1, p2⟩ := k5.loc (.bool yA) (.string ⟨yB.toArray⟩) (.int .i64 yC)
  replace a0 := K5.cell a0 (by simp)
  replace a1 := K5.cell a1 (by simp)
  replace a2 := K5.cell a2 (by simp)
  replace b0 := K5.cell b0 (by simp)
  replace b1 := K5.cell b1 (by simp)
  replace b2 := K5.cell b2 (by simp)
  replace x0 := K5.cell x0 (by simp)
  replace x1 := K5.cell x1 (by simp)
  replace x2 := K5.cell x2 (by simp)
  replace y0 := K5.cell y0 (by simp)
  replace y1 := K5.cell y1 (by simp)
  replace y2 := K5.cell y2 (by simp)
  go_wp2_with fail
  refine (q4 _).mono ?_
  rintro e w6 ⟨rfl, k6⟩
  obtain ⟨K6, q0, q1, q2⟩ := k6.loc (.bool yA) (.string ⟨yB.toArray⟩) (.int .i64 yC)
  replace a0 := K6.cell a0 (by simp)
  replace a1 := K6.cell a1 (by simp)
  replace a2 := K6.cell a2 (by simp)
  replace b0 := K6.cell b0 (by simp)
  replace b1 := K6.cell b1 (by simp)
  replace b2 := K6.cell b2 (by simp)
  replace x0 := K6.cell x0 (by simp)
  replace x1 := K6.cell x1 (by simp)
  replace x2 := K6.cell x2 (by simp)
  replace y0 := K6.cell y0 (by simp)
  replace y1 := K6.cell y1 (by simp)
  replace y2 := K6.cell y2 (by simp)
  replace p0 := K6.cell p0 (by simp)
  replace p1 := K6.cell p1 (by simp)
  replace p2 := K6.cell p2 (by simp)
  go_wp2_with fail
  go_ret
  exact ⟨rfl, ((((((HK.out.nil k1).nil k2).nil K3).nil K4).nil K5).nil K6)⟩
theorem vdivs_any (w : World) (a b : RawD) (ha : a.ok) (hb : b.ok) : Calls Tryd.prog 11 #[.agg #[.bool a.neg, .string ⟨a.l.toArray⟩, .int .i64 a.s], .agg #[.bool b.neg, .string ⟨b.l.toArray⟩, .int .i64 b.s]] w (YesPost w) := by
  cases hm : (mayL a.neg a.l a.s && mayL b.neg b.l b.s) with
  | false => exact vdivs_no w a b ha hb hm
  | true =>
    rw [Bool.and_eq_true] at hm
    obtain ⟨x, hx, rfl⟩ := RawD.is hm.1
    obtain ⟨y, hy, rfl⟩ := RawD.is hm.2
    by_cases h0 : y.n = 0
    · exact vdivs_yes w x y hx hy false false [] [] 0 0 5 5 (fun W => div_zero_any W x y h0) (fun W => qdiv_zero W x y h0) (fun W => mod_zero_any W x y h0) (fun W => qmod_zero W x y h0)
    · refine vdivs_yes w x y hx hy (oN (divD x y)) (oN (modD x y)) (oL (divD x y)) (oL (modD x y)) (oS (divD x y)) (oS (modD x y)) (oE (divD x y)) (oE (modD x y)) ?_ ?_ ?_ ?_
      · exact fun W => (div_any W x y hx hy h0).mono fun e w' ⟨h1, h2⟩ => ⟨by rw [h1, resV_is], h2⟩
      · exact fun W => (qdiv_any W x y hx hy h0).mono fun e w' ⟨h1, h2⟩ => ⟨by rw [h1, resV_is], h2⟩
      · exact fun W => (mod_any W x y hx hy h0).mono fun e w' ⟨h1, h2⟩ => ⟨by rw [h1, resV_is], h2⟩
      · exact fun W => (qmod_any W x y hx hy h0).mono fun e w' ⟨h1, h2⟩ => ⟨by rw [h1, resV_is], h2⟩
theorem vdivs_card (W : World) (_ : Tabs W) (b : Bool) (l : List UInt8) (z : Int) (hl : l.length ≤ 9223372036854775807) (h1 : -9223372036854775808 ≤ z) (h2 : z ≤ 9223372036854775807)
    (b' : Bool) (l' : List UInt8) (z' : Int) (hl' : l'.length ≤ 9223372036854775807) (h1' : -9223372036854775808 ≤ z') (h2' : z' ≤ 9223372036854775807) :
    Calls Tryd.prog 11 #[.agg #[.bool b, .string ⟨l.toArray⟩, .int .i64 z], .agg #[.bool b', .string ⟨l'.toArray⟩, .int .i64 z']] W (YesPost W) := vdivs_any W ⟨b, l, z⟩ ⟨b', l', z'⟩ ⟨hl, h1, h2⟩ ⟨hl', h1', h2'⟩
end Go.Proofs.YtampgimmodomoaaDoor
