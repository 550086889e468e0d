/- DecWorks: sums, differences, products and the order are as the document says. -/
import Derived.Test.YtampgimmodomoaaDoorDSym
import Derived.Test.YtampgimmodomoaaDoorDRMay
import Derived.Test.YtampgimmodomoaaDoorDRSub
import Derived.Test.YtampgimmodomoaaDoorDRMul
import Derived.Test.YtampgimmodomoaaDoorDRCmp
namespace Go.Proofs.YtampgimmodomoaaDoor
open Go Go.RowKit Go.Lib

theorem rmay_raw {r : RawD} (hr : r.ok) {b : Bool} (h : mayL r.neg r.l r.s = b) (W : World) : Calls Tryd.prog 23 #[.agg #[.bool r.neg, .string ⟨r.l.toArray⟩, .int .i64 r.s]] W fun e w' => e = .returned (.bool b) ∧ Kp [] W w' := by
  have h2 := rmay_any W r.neg r.l r.s hr.1 hr.2
  rw [h] at h2
  exact h2
theorem rmay_ok {d : Dc} (hd : Ok d) (W : World) : Calls Tryd.prog 23 #[.agg #[.bool d.neg, .string ⟨(dtxt d.n).toArray⟩, .int .i64 (d.s : Int)]] W fun e w' => e = .returned (.bool true) ∧ Kp [] W w' := by
  have h := rmay_any W d.neg (dtxt d.n) (d.s : Int) (by have := length_dtxt_le (k := 60) hd.1 (by decide); omega) (by have := hd.2.1; omega)
  rw [(may_iff _ _ _).2 ⟨d, hd, rfl, rfl, rfl⟩] at h
  exact h
theorem rsub_sym {a b : Dc} (ha : Ok a) (hb : Ok b) : Gives 27 #[.agg #[.bool a.neg, .string ⟨(dtxt a.n).toArray⟩, .int .i64 (a.s : Int)], .agg #[.bool b.neg, .string ⟨(dtxt b.n).toArray⟩, .int .i64 (b.s : Int)]] (subD a b) := fun W => (rsub_any W a b ha hb).mono fun e w' ⟨h1, h2⟩ => ⟨by rw [h1, resV_is], h2⟩
theorem rmul_sym {a b : Dc} (ha : Ok a) (hb : Ok b) : Gives 28 #[.agg #[.bool a.neg, .string ⟨(dtxt a.n).toArray⟩, .int .i64 (a.s : Int)], .agg #[.bool b.neg, .string ⟨(dtxt b.n).toArray⟩, .int .i64 (b.s : Int)]] (mulD a b) := fun W => (rmul_any W a b ha hb).mono fun e w' ⟨h1, h2⟩ => ⟨by rw [h1, resV_is], h2⟩
set_option maxRecDepth 100000 in
set_option maxHeartbeats 6400000 in
theorem works_n0 (w : World) (a b : RawD) (ha : a.ok) (hb : b.ok) (ma : mayL a.neg a.l a.s = false) (y : Bool) (mb : mayL b.neg b.l b.s = y) :
    Calls Tryd.prog 5 #[.agg #[.bool a.neg, .string ⟨a.l.toArray⟩, .int .i64 a.s], .agg #[.bool b.neg, .string ⟨b.l.toArray⟩, .int .i64 b.s]] w (YesPost w) := by
  have hsh := fun W => shown_any W
  have m0 := rmay_raw ha ma
  have m1 := rmay_raw hb mb
  clear ha hb ma mb
  have hA : Cells ((w.alloc (.cells #[.bool a.neg, .string ⟨a.l.toArray⟩, .int .i64 a.s] 23)).alloc (.cells #[.bool b.neg, .string ⟨b.l.toArray⟩, .int .i64 b.s] 23)) w.heap.size 23 [.bool a.neg, .string ⟨a.l.toArray⟩, .int .i64 a.s] := (Cells.fresh w 23 [.bool a.neg, .string ⟨a.l.toArray⟩, .int .i64 a.s]).alloc _
  have hB : Cells ((w.alloc (.cells #[.bool a.neg, .string ⟨a.l.toArray⟩, .int .i64 a.s] 23)).alloc (.cells #[.bool b.neg, .string ⟨b.l.toArray⟩, .int .i64 b.s] 23)) (w.heap.size + 1) 23 [.bool b.neg, .string ⟨b.l.toArray⟩, .int .i64 b.s] := by have := Cells.fresh (w.alloc (.cells #[.bool a.neg, .string ⟨a.l.toArray⟩, .int .i64 a.s] 23)) 23 [.bool b.neg, .string ⟨b.l.toArray⟩, .int .i64 b.s]; simpa using this
  have HK := hid (((Kp.refl [] w).alloc (.cells #[.bool a.neg, .string ⟨a.l.toArray⟩, .int .i64 a.s] 23)).alloc (.cells #[.bool b.neg, .string ⟨b.l.toArray⟩, .int .i64 b.s] 23))
  have HA := hid hA
  have HB := hid hB
  clear hA hB
  go_enter Tryd.func5, Tryd.ntmps5
  go_wp2_with fail
  refine (hsh _).mono ?_
  rintro e w1 ⟨rfl, k1⟩
  have C0 := HA.out.keep k1 (by simp)
  have a0 : _ = some (Value.bool a.neg) := C0.cell 0
  have a1 : _ = some (Value.string ⟨a.l.toArray⟩) := C0.cell 1
  have a2 : _ = some (Value.int .i64 a.s) := C0.cell 2
  have C1 := HB.out.keep k1 (by simp)
  have b0 : _ = some (Value.bool b.neg) := C1.cell 0
  have b1 : _ = some (Value.string ⟨b.l.toArray⟩) := C1.cell 1
  have b2 : _ = some (Value.int .i64 b.s) := C1.cell 2
  clear C0 C1
  go_wp2_with fail
  refine (m0 _).mono ?_
  rintro e w2 ⟨rfl, k2⟩
  replace a0 := k2.cell a0 (by simp)
  replace a1 := k2.cell a1 (by simp)
  replace a2 := k2.cell a2 (by simp)
  replace b0 := k2.cell b0 (by simp)
  replace b1 := k2.cell b1 (by simp)
  replace b2 := k2.cell b2 (by simp)
  go_wp2_with fail
  refine (m1 _).mono ?_
  rintro e w3 ⟨rfl, k3⟩
  replace a0 := k3.cell a0 (by simp)
  replace a1 := k3.cell a1 (by simp)
  replace a2 := k3.cell a2 (by simp)
  replace b0 := k3.cell b0 (by simp)
  replace b1 := k3.cell b1 (by simp)
  replace b2 := k3.cell b2 (by simp)
  go_wp2_with fail
  go_ret
  exact ⟨rfl, (((HK.out.nil k1).nil k2).nil k3)⟩
set_option maxRecDepth 100000 in
set_option maxHeartbeats 6400000 in
theorem works_n1 (w : World) (a b : RawD) (ha : a.ok) (hb : b.ok) (ma : mayL a.neg a.l a.s = true) (mb : mayL b.neg b.l b.s = false) :
    Calls Tryd.prog 5 #[.agg #[.bool a.neg, .string ⟨a.l.toArray⟩, .int .i64 a.s], .agg #[.bool b.neg, .string ⟨b.l.toArray⟩, .int .i64 b.s]] w (YesPost w) := by
  have hsh := fun W => shown_any W
  have m0 := rmay_raw ha ma
  have m1 := rmay_raw hb mb
  clear ha hb ma mb
  have hA : Cells ((w.alloc (.cells #[.bool a.neg, .string ⟨a.l.toArray⟩, .int .i64 a.s] 23)).alloc (.cells #[.bool b.neg, .string ⟨b.l.toArray⟩, .int .i64 b.s] 23)) w.heap.size 23 [.bool a.neg, .string ⟨a.l.toArray⟩, .int .i64 a.s] := (Cells.fresh w 23 [.bool a.neg, .string ⟨a.l.toArray⟩, .int .i64 a.s]).alloc _
  have hB : Cells ((w.alloc (.cells #[.bool a.neg, .string ⟨a.l.toArray⟩, .int .i64 a.s] 23)).alloc (.cells #[.bool b.neg, .string ⟨b.l.toArray⟩, .int .i64 b.s] 23)) (w.heap.size + 1) 23 [.bool b.neg, .string ⟨b.l.toArray⟩, .int .i64 b.s] := by have := Cells.fresh (w.alloc (.cells #[.bool a.neg, .string ⟨a.l.toArray⟩, .int .i64 a.s] 23)) 23 [.bool b.neg, .string ⟨b.l.toArray⟩, .int .i64 b.s]; simpa using this
  have HK := hid (((Kp.refl [] w).alloc (.cells #[.bool a.neg, .string ⟨a.l.toArray⟩, .int .i64 a.s] 23)).alloc (.cells #[.bool b.neg, .string ⟨b.l.toArray⟩, .int .i64 b.s] 23))
  have HA := hid hA
  have HB := hid hB
  clear hA hB
  go_enter Tryd.func5, Tryd.ntmps5
  go_wp2_with fail
  refine (hsh _).mono ?_
  rintro e w1 ⟨rfl, k1⟩
  have C0 := HA.out.keep k1 (by simp)
  have a0 : _ = some (Value.bool a.neg) := C0.cell 0
  have a1 : _ = some (Value.string ⟨a.l.toArray⟩) := C0.cell 1
  have a2 : _ = some (Value.int .i64 a.s) := C0.cell 2
  have C1 := HB.out.keep k1 (by simp)
  have b0 : _ = some (Value.bool b.neg) := C1.cell 0
  have b1 : _ = some (Value.string ⟨b.l.toArray⟩) := C1.cell 1
  have b2 : _ = some (Value.int .i64 b.s) := C1.cell 2
  clear C0 C1
  go_wp2_with fail
  refine (m0 _).mono ?_
  rintro e w2 ⟨rfl, k2⟩
  replace a0 := k2.cell a0 (by simp)
  replace a1 := k2.cell a1 (by simp)
  replace a2 := k2.cell a2 (by simp)
  replace b0 := k2.cell b0 (by simp)
  replace b1 := k2.cell b1 (by simp)
  replace b2 := k2.cell b2 (by simp)
  go_wp2_with fail
  refine (m1 _).mono ?_
  rintro e w3 ⟨rfl, k3⟩
  replace a0 := k3.cell a0 (by simp)
  replace a1 := k3.cell a1 (by simp)
  replace a2 := k3.cell a2 (by simp)
  replace b0 := k3.cell b0 (by simp)
  replace b1 := k3.cell b1 (by simp)
  replace b2 := k3.cell b2 (by simp)
  go_wp2_with fail
  go_ret
  exact ⟨rfl, (((HK.out.nil k1).nil k2).nil k3)⟩
set_option maxRecDepth 100000 in
set_option maxHeartbeats 6400000 in
theorem works_yes (w : World) (a b : Dc) (ha : Ok a) (hb : Ok b) :
    Calls Tryd.prog 5 #[.agg #[.bool a.neg, .string ⟨(dtxt a.n).toArray⟩, .int .i64 (a.s : Int)], .agg #[.bool b.neg, .string ⟨(dtxt b.n).toArray⟩, .int .i64 (b.s : Int)]] w (YesPost w) := by
  have hsh := fun W => shown_any W
  have m0 := rmay_ok ha
  have m1 := rmay_ok hb
  have j1 := add_sym ha hb
  have j2 := radd_sym ha hb
  have j3 := sub_sym ha hb
  have j4 := rsub_sym ha hb
  have j5 := mul_sym ha hb
  have j6 := rmul_sym ha hb
  have c1 := fun W => cmpD_any W a b ha hb
  have c2 := fun W => rcmp_any W a b ha hb
  generalize addD a b = S at j1 j2
  generalize subD a b = D at j3 j4
  generalize mulD a b = M at j5 j6
  generalize cmpD a b = g at c1 c2
  clear ha hb
  have hA : Cells ((w.alloc (.cells #[.bool a.neg, .string ⟨(dtxt a.n).toArray⟩, .int .i64 (a.s : Int)] 23)).alloc (.cells #[.bool b.neg, .string ⟨(dtxt b.n).toArray⟩, .int .i64 (b.s : Int)] 23)) w.heap.size 23 [.bool a.neg, .string ⟨(dtxt a.n).toArray⟩, .int .i64 (a.s : Int)] := (Cells.fresh w 23 [.bool a.neg, .string ⟨(dtxt a.n).toArray⟩, .int .i64 (a.s : Int)]).alloc _
  have hB : Cells ((w.alloc (.cells #[.bool a.neg, .string ⟨(dtxt a.n).toArray⟩, .int .i64 (a.s : Int)] 23)).alloc (.cells #[.bool b.neg, .string ⟨(dtxt b.n).toArray⟩, .int .i64 (b.s : Int)] 23)) (w.heap.size + 1) 23 [.bool b.neg, .string ⟨(dtxt b.n).toArray⟩, .int .i64 (b.s : Int)] := by have := Cells.fresh (w.alloc (.cells #[.bool a.neg, .string ⟨(dtxt a.n).toArray⟩, .int .i64 (a.s : Int)] 23)) 23 [.bool b.neg, .string ⟨(dtxt b.n).toArray⟩, .int .i64 (b.s : Int)]; simpa using this
  have HK := hid (((Kp.refl [] w).alloc (.cells #[.bool a.neg, .string ⟨(dtxt a.n).toArray⟩, .int .i64 (a.s : Int)] 23)).alloc (.cells #[.bool b.neg, .string ⟨(dtxt b.n).toArray⟩, .int .i64 (b.s : Int)] 23))
  have HA := hid hA
  have HB := hid hB
  clear hA hB
  go_enter Tryd.func5, Tryd.ntmps5
  go_wp2_with fail
  refine (hsh _).mono ?_
  rintro e w1 ⟨rfl, k1⟩
  have C0 := HA.out.keep k1 (by simp)
  have a0 : _ = some (Value.bool a.neg) := C0.cell 0
  have a1 : _ = some (Value.string ⟨(dtxt a.n).toArray⟩) := C0.cell 1
  have a2 : _ = some (Value.int .i64 (a.s : Int)) := C0.cell 2
  have C1 := HB.out.keep k1 (by simp)
  have b0 : _ = some (Value.bool b.neg) := C1.cell 0
  have b1 : _ = some (Value.string ⟨(dtxt b.n).toArray⟩) := C1.cell 1
  have b2 : _ = some (Value.int .i64 (b.s : Int)) := C1.cell 2
  clear C0 C1
  go_wp2_with fail
  refine (m0 _).mono ?_
  rintro e w2 ⟨rfl, k2⟩
  replace a0 := k2.cell a0 (by simp)
  replace a1 := k2.cell a1 (by simp)
  replace a2 := k2.cell a2 (by simp)
  replace b0 := k2.cell b0 (by simp)
  replace b1 := k2.cell b1 (by simp)
  replace b2 := k2.cell b2 (by simp)
  go_wp2_with fail
  refine (m1 _).mono ?_
  rintro e w3 ⟨rfl, k3⟩
  replace a0 := k3.cell a0 (by simp)
  replace a1 := k3.cell a1 (by simp)
  replace a2 := k3.cell a2 (by simp)
  replace b0 := k3.cell b0 (by simp)
  replace b1 := k3.cell b1 (by simp)
  replace b2 := k3.cell b2 (by simp)
  go_wp2_with fail
  refine (j1 _).mono ?_
  rintro e w4 ⟨rfl, k4⟩
  obtain ⟨K4, x0, x1, x2⟩ := k4.loc (.bool (oN S)) (.string ⟨(oL S).toArray⟩) (.int .i64 (oS S))
  replace a0 := K4.cell a0 (by simp)
  replace a1 := K4.cell a1 (by simp)
  replace a2 := K4.cell a2 (by simp)
  replace b0 := K4.cell b0 (by simp)
  replace b1 := K4.cell b1 (by simp)
  replace b2 := K4.cell b2 (by simp)
  go_wp2_with fail
  refine (j2 _).mono ?_
  rintro e w5 ⟨rfl, k5⟩
  obtain ⟨K5, y0, y1, y2⟩ := k5.loc (.bool (oN S)) (.string ⟨(oL S).toArray⟩) (.int .i64 (oS S))
  replace a0 := K5.cell a0 (by simp)
  replace a1 := K5.cell a1 (by simp)
  replace a2 := K5.cell a2 (by simp)
  replace b0 := K5.cell b0 (by simp)
  replace b1 := K5.cell b1 (by simp)
  replace b2 := K5.cell b2 (by simp)
  replace x0 := K5.cell x0 (by simp)
  replace x1 := K5.cell x1 (by simp)
  replace x2 := K5.cell x2 (by simp)
  go_wp2_with fail
  refine (j3 _).mono ?_
  rintro e w6 ⟨rfl, k6⟩
  obtain ⟨K6, p0, p1, p2⟩ := k6.loc (.bool (oN D)) (.string ⟨(oL D).toArray⟩) (.int .i64 (oS D))
  replace a0 := K6.cell a0 (by simp)
  replace a1 := K6.cell a1 (by simp)
  replace a2 := K6.cell a2 (by simp)
  replace b0 := K6.cell b0 (by simp)
  replace b1 := K6.cell b1 (by simp)
  replace b2 := K6.cell b2 (by simp)
  replace x0 := K6.cell x0 (by simp)
  replace x1 := K6.cell x1 (by simp)
  replace x2 := K6.cell x2 (by simp)
  replace y0 := K6.cell y0 (by simp)
  replace y1 := K6.cell y1 (by simp)
  replace y2 := K6.cell y2 (by simp)
  go_wp2_with fail
  refine (j4 _).mono ?_
  rintro e w7 ⟨rfl, k7⟩
  obtain ⟨K7, q0, q1, q2⟩ := k7.loc (.bool (oN D)) (.string ⟨(oL D).toArray⟩) (.int .i64 (oS D))
  replace a0 := K7.cell a0 (by simp)
  replace a1 := K7.cell a1 (by simp)
  replace a2 := K7.cell a2 (by simp)
  replace b0 := K7.cell b0 (by simp)
  replace b1 := K7.cell b1 (by simp)
  replace b2 := K7.cell b2 (by simp)
  replace x0 := K7.cell x0 (by simp)
  replace x1 := K7.cell x1 (by simp)
  replace x2 := K7.cell x2 (by simp)
  replace y0 := K7.cell y0 (by simp)
  replace y1 := K7.cell y1 (by simp)
  replace y2 := K7.cell y2 (by simp)
  replace p0 := K7.cell p0 (by simp)
  replace p1 := K7.cell p1 (by simp)
  replace p2 := K7.cell p2 (by simp)
  go_wp2_with fail
  refine (j5 _).mono ?_
  rintro e w8 ⟨rfl, k8⟩
  obtain ⟨K8, r0, r1, r2⟩ := k8.loc (.bool (oN M)) (.string ⟨(oL M).toArray⟩) (.int .i64 (oS M))
  replace a0 := K8.cell a0 (by simp)
  replace a1 := K8.cell a1 (by simp)
  replace a2 := K8.cell a2 (by simp)
  replace b0 := K8.cell b0 (by simp)
  replace b1 := K8.cell b1 (by simp)
  replace b2 := K8.cell b2 (by simp)
  replace x0 := K8.cell x0 (by simp)
  replace x1 := K8.cell x1 (by simp)
  replace x2 := K8.cell x2 (by simp)
  replace y0 := K8.cell y0 (by simp)
  replace y1 := K8.cell y1 (by simp)
  replace y2 := K8.cell y2 (by simp)
  replace p0 := K8.cell p0 (by simp)
  replace p1 := K8.cell p1 (by simp)
  replace p2 := K8.cell p2 (by simp)
  replace q0 := K8.cell q0 (by simp)
  replace q1 := K8.cell q1 (by simp)
  replace q2 := K8.cell q2 (by simp)
  go_wp2_with fail
  refine (j6 _).mono ?_
  rintro e w9 ⟨rfl, k9⟩
  obtain ⟨K9, s0, s1, s2⟩ := k9.loc (.bool (oN M)) (.string ⟨(oL M).toArray⟩) (.int .i64 (oS M))
  replace a0 := K9.cell a0 (by simp)
  replace a1 := K9.cell a1 (by simp)
  replace a2 := K9.cell a2 (by simp)
  replace b0 := K9.cell b0 (by simp)
  replace b1 := K9.cell b1 (by simp)
  replace b2 := K9.cell b2 (by simp)
  replace x0 := K9.cell x0 (by simp)
  replace x1 := K9.cell x1 (by simp)
  replace x2 := K9.cell x2 (by simp)
  replace y0 := K9.cell y0 (by simp)
  replace y1 := K9.cell y1 (by simp)
  replace y2 := K9.cell y2 (by simp)
  replace p0 := K9.cell p0 (by simp)
  replace p1 := K9.cell p1 (by simp)
  replace p2 := K9.cell p2 (by simp)
  replace q0 := K9.cell q0 (by simp)
  replace q1 := K9.cell q1 (by simp)
  replace q2 := K9.cell q2 (by simp)
  replace r0 := K9.cell r0 (by simp)
  replace r1 := K9.cell r1 (by simp)
  replace r2 := K9.cell r2 (by simp)
  have KK := hid (((((((((HK.out.nil k1).nil k2).nil k3).nil K4).nil K5).nil K6).nil K7).nil K8).nil K9)
  clear k1 k2 k3 k4 k5 k6 k7 k8 k9 K4 K5 K6 K7 K8 K9 hsh m0 m1 j1 j2 j3 j4 j5 j6
  go_wp2_with fail
  refine lin_start (fun w' => w'.cell? ⟨w4.heap.size, 0, none⟩ = some (Value.bool (oN S)) ∧ w'.cell? ⟨w4.heap.size, 1, none⟩ = some (Value.string ⟨(oL S).toArray⟩) ∧ w'.cell? ⟨w4.heap.size, 2, none⟩ = some (Value.int .i64 (oS S)) ∧ w'.cell? ⟨w5.heap.size, 0, none⟩ = some (Value.bool (oN S)) ∧ w'.cell? ⟨w5.heap.size, 1, none⟩ = some (Value.string ⟨(oL S).toArray⟩) ∧ w'.cell? ⟨w5.heap.size, 2, none⟩ = some (Value.int .i64 (oS S)) ∧ w'.cell? ⟨w6.heap.size, 0, none⟩ = some (Value.bool (oN D)) ∧ w'.cell? ⟨w6.heap.size, 1, none⟩ = some (Value.string ⟨(oL D).toArray⟩) ∧ w'.cell? ⟨w6.heap.size, 2, none⟩ = some (Value.int .i64 (oS D)) ∧ w'.cell? ⟨w7.heap.size, 0, none⟩ = some (Value.bool (oN D)) ∧ w'.cell? ⟨w7.heap.size, 1, none⟩ = some (Value.string ⟨(oL D).toArray⟩) ∧ w'.cell? ⟨w7.heap.size, 2, none⟩ = some (Value.int .i64 (oS D)) ∧ w'.cell? ⟨w8.heap.size, 0, none⟩ = some (Value.bool (oN M)) ∧ w'.cell? ⟨w8.heap.size, 1, none⟩ = some (Value.string ⟨(oL M).toArray⟩) ∧ w'.cell? ⟨w8.heap.size, 2, none⟩ = some (Value.int .i64 (oS M)) ∧ w'.cell? ⟨w9.heap.size, 0, none⟩ = some (Value.bool (oN M)) ∧ w'.cell? ⟨w9.heap.size, 1, none⟩ = some (Value.string ⟨(oL M).toArray⟩) ∧ w'.cell? ⟨w9.heap.size, 2, none⟩ = some (Value.int .i64 (oS M)) ∧ w'.cell? ⟨w.heap.size, 0, none⟩ = some (Value.bool a.neg) ∧ w'.cell? ⟨w.heap.size, 1, none⟩ = some (Value.string ⟨(dtxt a.n).toArray⟩) ∧ w'.cell? ⟨w.heap.size, 2, none⟩ = some (Value.int .i64 (a.s : Int)) ∧ w'.cell? ⟨w.heap.size + 1, 0, none⟩ = some (Value.bool b.neg) ∧ w'.cell? ⟨w.heap.size + 1, 1, none⟩ = some (Value.string ⟨(dtxt b.n).toArray⟩) ∧ w'.cell? ⟨w.heap.size + 1, 2, none⟩ = some (Value.int .i64 (b.s : Int))) ((Stays.cell _ _).and ((Stays.cell _ _).and ((Stays.cell _ _).and ((Stays.cell _ _).and ((Stays.cell _ _).and ((Stays.cell _ _).and ((Stays.cell _ _).and ((Stays.cell _ _).and ((Stays.cell _ _).and ((Stays.cell _ _).and ((Stays.cell _ _).and ((Stays.cell _ _).and ((Stays.cell _ _).and ((Stays.cell _ _).and ((Stays.cell _ _).and ((Stays.cell _ _).and ((Stays.cell _ _).and ((Stays.cell _ _).and ((Stays.cell _ _).and ((Stays.cell _ _).and ((Stays.cell _ _).and ((Stays.cell _ _).and ((Stays.cell _ _).and ((Stays.cell _ _))))))))))))))))))))))))) (by kernel_rfl) ⟨x0, x1, x2, y0, y1, y2, p0, p1, p2, q0, q1, q2, r0, r1, r2, s0, s1, s2, a0, a1, a2, b0, b1, b2⟩ (fun hSS hS => ?_)
  refine lin_val (i := 0) (v := ?_) rfl (by kernel_rfl) (by kernel_rfl) (by kernel_rfl) (fun _ _ _ h => h) hSS hS rfl (fun w hSw => ?_) ?_
  rotate_left
  · obtain ⟨q0, q1, q2, q3, q4, q5, q6, q7, q8, q9, q10, q11, q12, q13, q14, q15, q16, q17, q18, q19, q20, q21, q22, q23⟩ := hSw; go_simp; first | done | with_reducible rfl
  simp only [Act.put, List.setIfInBounds_toArray, List.set_cons_zero, List.set_cons_succ]
  refine lin_val (i := 1) (v := ?_) rfl (by kernel_rfl) (by kernel_rfl) (by kernel_rfl) (fun _ _ _ h => h) hSS hS rfl (fun w hSw => ?_) ?_
  rotate_left
  · obtain ⟨q0, q1, q2, q3, q4, q5, q6, q7, q8, q9, q10, q11, q12, q13, q14, q15, q16, q17, q18, q19, q20, q21, q22, q23⟩ := hSw; go_simp; first | done | with_reducible rfl
  simp only [Act.put, List.setIfInBounds_toArray, List.set_cons_zero, List.set_cons_succ]
  refine lin_val (i := 2) (v := ?_) rfl (by kernel_rfl) (by kernel_rfl) (by kernel_rfl) (fun _ _ _ h => h) hSS hS rfl (fun w hSw => ?_) ?_
  rotate_left
  · obtain ⟨q0, q1, q2, q3, q4, q5, q6, q7, q8, q9, q10, q11, q12, q13, q14, q15, q16, q17, q18, q19, q20, q21, q22, q23⟩ := hSw; go_simp; first | done | with_reducible rfl
  simp only [Act.put, List.setIfInBounds_toArray, List.set_cons_zero, List.set_cons_succ]
  refine lin_val (i := 3) (v := ?_) rfl (by kernel_rfl) (by kernel_rfl) (by kernel_rfl) (fun _ _ _ h => h) hSS hS rfl (fun w hSw => ?_) ?_
  rotate_left
  · obtain ⟨q0, q1, q2, q3, q4, q5, q6, q7, q8, q9, q10, q11, q12, q13, q14, q15, q16, q17, q18, q19, q20, q21, q22, q23⟩ := hSw; go_simp; first | done | with_reducible rfl
  simp only [Act.put, List.setIfInBounds_toArray, List.set_cons_zero, List.set_cons_succ]
  refine lin_val (i := 4) (v := ?_) rfl (by kernel_rfl) (by kernel_rfl) (by kernel_rfl) (fun _ _ _ h => h) hSS hS rfl (fun w hSw => ?_) ?_
  rotate_left
  · obtain ⟨q0, q1, q2, q3, q4, q5, q6, q7, q8, q9, q10, q11, q12, q13, q14, q15, q16, q17, q18, q19, q20, q21, q22, q23⟩ := hSw; go_simp; first | done | with_reducible rfl
  simp only [Act.put, List.setIfInBounds_toArray, List.set_cons_zero, List.set_cons_succ]
  refine lin_val (i := 5) (v := ?_) rfl (by kernel_rfl) (by kernel_rfl) (by kernel_rfl) (fun _ _ _ h => h) hSS hS rfl (fun w hSw => ?_) ?_
  rotate_left
  · obtain ⟨q0, q1, q2, q3, q4, q5, q6, q7, q8, q9, q10, q11, q12, q13, q14, q15, q16, q17, q18, q19, q20, q21, q22, q23⟩ := hSw; go_simp; first | done | with_reducible rfl
  simp only [Act.put, List.setIfInBounds_toArray, List.set_cons_zero, List.set_cons_succ]
  refine lin_val (i := 6) (v := ?_) rfl (by kernel_rfl) (by kernel_rfl) (by kernel_rfl) (fun _ _ _ h => h) hSS hS rfl (fun w hSw => ?_) ?_
  rotate_left
  · obtain ⟨q0, q1, q2, q3, q4, q5, q6, q7, q8, q9, q10, q11, q12, q13, q14, q15, q16, q17, q18, q19, q20, q21, q22, q23⟩ := hSw; go_simp; first | done | with_reducible rfl
  simp only [Act.put, List.setIfInBounds_toArray, List.set_cons_zero, List.set_cons_succ]
  refine lin_val (i := 7) (v := ?_) rfl (by kernel_rfl) (by kernel_rfl) (by kernel_rfl) (fun _ _ _ h => h) hSS hS rfl (fun w hSw => ?_) ?_
  rotate_left
  · obtain ⟨q0, q1, q2, q3, q4, q5, q6, q7, q8, q9, q10, q11, q12, q13, q14, q15, q16, q17, q18, q19, q20, q21, q22, q23⟩ := hSw; go_simp; first | done | with_reducible rfl
  simp only [Act.put, List.setIfInBounds_toArray, List.set_cons_zero, List.set_cons_succ]
  refine lin_val (i := 8) (v := ?_) rfl (by kernel_rfl) (by kernel_rfl) (by kernel_rfl) (fun _ _ _ h => h) hSS hS rfl (fun w hSw => ?_) ?_
  rotate_left
  · obtain ⟨q0, q1, q2, q3, q4, q5, q6, q7, q8, q9, q10, q11, q12, q13, q14, q15, q16, q17, q18, q19, q20, q21, q22, q23⟩ := hSw; go_simp; first | done | with_reducible rfl
  simp only [Act.put, List.setIfInBounds_toArray, List.set_cons_zero, List.set_cons_succ]
  refine lin_val (i := 9) (v := ?_) rfl (by kernel_rfl) (by kernel_rfl) (by kernel_rfl) (fun _ _ _ h => h) hSS hS rfl (fun w hSw => ?_) ?_
  rotate_left
  · obtain ⟨q0, q1, q2, q3, q4, q5, q6, q7, q8, q9, q10, q11, q12, q13, q14, q15, q16, q17, q18, q19, q20, q21, q22, q23⟩ := hSw; go_simp; first | done | with_reducible rfl
  simp only [Act.put, List.setIfInBounds_toArray, List.set_cons_zero, List.set_cons_succ]
  refine lin_val (i := 10) (v := ?_) rfl (by kernel_rfl) (by kernel_rfl) (by kernel_rfl) (fun _ _ _ h => h) hSS hS rfl (fun w hSw => ?_) ?_
  rotate_left
  · obtain ⟨q0, q1, q2, q3, q4, q5, q6, q7, q8, q9, q10, q11, q12, q13, q14, q15, q16, q17, q18, q19, q20, q21, q22, q23⟩ := hSw; go_simp; first | done | with_reducible rfl
  simp only [Act.put, List.setIfInBounds_toArray, List.set_cons_zero, List.set_cons_succ]
  refine lin_val (i := 11) (v := ?_) rfl (by kernel_rfl) (by kernel_rfl) (by kernel_rfl) (fun _ _ _ h => h) hSS hS rfl (fun w hSw => ?_) ?_
  rotate_left
  · obtain ⟨q0, q1, q2, q3, q4, q5, q6, q7, q8, q9, q10, q11, q12, q13, q14, q15, q16, q17, q18, q19, q20, q21, q22, q23⟩ := hSw; go_simp; first | done | with_reducible rfl
  simp only [Act.put, List.setIfInBounds_toArray, List.set_cons_zero, List.set_cons_succ]
  refine lin_val (i := 12) (v := ?_) rfl (by kernel_rfl) (by kernel_rfl) (by kernel_rfl) (fun _ _ _ h => h) hSS hS rfl (fun w hSw => ?_) ?_
  rotate_left
  · obtain ⟨q0, q1, q2, q3, q4, q5, q6, q7, q8, q9, q10, q11, q12, q13, q14, q15, q16, q17, q18, q19, q20, q21, q22, q23⟩ := hSw; go_simp; first | done | with_reducible rfl
  simp only [Act.put, List.setIfInBounds_toArray, List.set_cons_zero, List.set_cons_succ]
  refine lin_val (i := 13) (v := ?_) rfl (by kernel_rfl) (by kernel_rfl) (by kernel_rfl) (fun _ _ _ h => h) hSS hS rfl (fun w hSw => ?_) ?_
  rotate_left
  · obtain ⟨q0, q1, q2, q3, q4, q5, q6, q7, q8, q9, q10, q11, q12, q13, q14, q15, q16, q17, q18, q19, q20, q21, q22, q23⟩ := hSw; go_simp; first | done | with_reducible rfl
  simp only [Act.put, List.setIfInBounds_toArray, List.set_cons_zero, List.set_cons_succ]
  refine lin_val (i := 14) (v := ?_) rfl (by kernel_rfl) (by kernel_rfl) (by kernel_rfl) (fun _ _ _ h => h) hSS hS rfl (fun w hSw => ?_) ?_
  rotate_left
  · obtain ⟨q0, q1, q2, q3, q4, q5, q6, q7, q8, q9, q10, q11, q12, q13, q14, q15, q16, q17, q18, q19, q20, q21, q22, q23⟩ := hSw; go_simp; first | done | with_reducible rfl
  simp only [Act.put, List.setIfInBounds_toArray, List.set_cons_zero, List.set_cons_succ]
  refine lin_val (i := 15) (v := ?_) rfl (by kernel_rfl) (by kernel_rfl) (by kernel_rfl) (fun _ _ _ h => h) hSS hS rfl (fun w hSw => ?_) ?_
  rotate_left
  · obtain ⟨q0, q1, q2, q3, q4, q5, q6, q7, q8, q9, q10, q11, q12, q13, q14, q15, q16, q17, q18, q19, q20, q21, q22, q23⟩ := hSw; go_simp; first | done | with_reducible rfl
  simp only [Act.put, List.setIfInBounds_toArray, List.set_cons_zero, List.set_cons_succ]
  refine lin_val (i := 16) (v := ?_) rfl (by kernel_rfl) (by kernel_rfl) (by kernel_rfl) (fun _ _ _ h => h) hSS hS rfl (fun w hSw => ?_) ?_
  rotate_left
  · obtain ⟨q0, q1, q2, q3, q4, q5, q6, q7, q8, q9, q10, q11, q12, q13, q14, q15, q16, q17, q18, q19, q20, q21, q22, q23⟩ := hSw; go_simp; first | done | with_reducible rfl
  simp only [Act.put, List.setIfInBounds_toArray, List.set_cons_zero, List.set_cons_succ]
  refine lin_val (i := 17) (v := ?_) rfl (by kernel_rfl) (by kernel_rfl) (by kernel_rfl) (fun _ _ _ h => h) hSS hS rfl (fun w hSw => ?_) ?_
  rotate_left
  · obtain ⟨q0, q1, q2, q3, q4, q5, q6, q7, q8, q9, q10, q11, q12, q13, q14, q15, q16, q17, q18, q19, q20, q21, q22, q23⟩ := hSw; go_simp; first | done | with_reducible rfl
  simp only [Act.put, List.setIfInBounds_toArray, List.set_cons_zero, List.set_cons_succ]
  refine lin_val (i := 18) (v := ?_) rfl (by kernel_rfl) (by kernel_rfl) (by kernel_rfl) (fun _ _ _ h => h) hSS hS rfl (fun w hSw => ?_) ?_
  rotate_left
  · obtain ⟨q0, q1, q2, q3, q4, q5, q6, q7, q8, q9, q10, q11, q12, q13, q14, q15, q16, q17, q18, q19, q20, q21, q22, q23⟩ := hSw; go_simp; first | done | with_reducible rfl
  simp only [Act.put, List.setIfInBounds_toArray, List.set_cons_zero, List.set_cons_succ]
  refine lin_val (i := 19) (v := ?_) rfl (by kernel_rfl) (by kernel_rfl) (by kernel_rfl) (fun _ _ _ h => h) hSS hS rfl (fun w hSw => ?_) ?_
  rotate_left
  · obtain ⟨q0, q1, q2, q3, q4, q5, q6, q7, q8, q9, q10, q11, q12, q13, q14, q15, q16, q17, q18, q19, q20, q21, q22, q23⟩ := hSw; go_simp; first | done | with_reducible rfl
  simp only [Act.put, List.setIfInBounds_toArray, List.set_cons_zero, List.set_cons_succ]
  refine lin_val (i := 20) (v := ?_) rfl (by kernel_rfl) (by kernel_rfl) (by kernel_rfl) (fun _ _ _ h => h) hSS hS rfl (fun w hSw => ?_) ?_
  rotate_left
  · obtain ⟨q0, q1, q2, q3, q4, q5, q6, q7, q8, q9, q10, q11, q12, q13, q14, q15, q16, q17, q18, q19, q20, q21, q22, q23⟩ := hSw; go_simp; first | done | with_reducible rfl
  simp only [Act.put, List.setIfInBounds_toArray, List.set_cons_zero, List.set_cons_succ]
  refine lin_val (i := 21) (v := ?_) rfl (by kernel_rfl) (by kernel_rfl) (by kernel_rfl) (fun _ _ _ h => h) hSS hS rfl (fun w hSw => ?_) ?_
  rotate_left
  · obtain ⟨q0, q1, q2, q3, q4, q5, q6, q7, q8, q9, q10, q11, q12, q13, q14, q15, q16, q17, q18, q19, q20, q21, q22, q23⟩ := hSw; go_simp; first | done | with_reducible rfl
  simp only [Act.put, List.setIfInBounds_toArray, List.set_cons_zero, List.set_cons_succ]
  refine lin_val (i := 22) (v := ?_) rfl (by kernel_rfl) (by kernel_rfl) (by kernel_rfl) (fun _ _ _ h => h) hSS hS rfl (fun w hSw => ?_) ?_
  rotate_left
  · obtain ⟨q0, q1, q2, q3, q4, q5, q6, q7, q8, q9, q10, q11, q12, q13, q14, q15, q16, q17, q18, q19, q20, q21, q22, q23⟩ := hSw; go_simp; first | done | with_reducible rfl
  simp only [Act.put, List.setIfInBounds_toArray, List.set_cons_zero, List.set_cons_succ]
  refine lin_val (i := 23) (v := ?_) rfl (by kernel_rfl) (by kernel_rfl) (by kernel_rfl) (fun _ _ _ h => h) hSS hS rfl (fun w hSw => ?_) ?_
  rotate_left
  · obtain ⟨q0, q1, q2, q3, q4, q5, q6, q7, q8, q9, q10, q11, q12, q13, q14, q15, q16, q17, q18, q19, q20, q21, q22, q23⟩ := hSw; go_simp; first | done | with_reducible rfl
  simp only [Act.put, List.setIfInBounds_toArray, List.set_cons_zero, List.set_cons_succ]
  refine lin_val (i := 24) (v := ?_) rfl (by kernel_rfl) (by kernel_rfl) (by kernel_rfl) (fun _ _ _ h => h) hSS hS rfl (fun w hSw => ?_) ?_
  rotate_left
  · obtain ⟨q0, q1, q2, q3, q4, q5, q6, q7, q8, q9, q10, q11, q12, q13, q14, q15, q16, q17, q18, q19, q20, q21, q22, q23⟩ := hSw; go_simp; first | done | with_reducible rfl
  simp only [Act.put, List.setIfInBounds_toArray, List.set_cons_zero, List.set_cons_succ]
  refine lin_val (i := 25) (v := ?_) rfl (by kernel_rfl) (by kernel_rfl) (by kernel_rfl) (fun _ _ _ h => h) hSS hS rfl (fun w hSw => ?_) ?_
  rotate_left
  · obtain ⟨q0, q1, q2, q3, q4, q5, q6, q7, q8, q9, q10, q11, q12, q13, q14, q15, q16, q17, q18, q19, q20, q21, q22, q23⟩ := hSw; go_simp; first | done | with_reducible rfl
  simp only [Act.put, List.setIfInBounds_toArray, List.set_cons_zero, List.set_cons_succ]
  refine lin_val (i := 26) (v := ?_) rfl (by kernel_rfl) (by kernel_rfl) (by kernel_rfl) (fun _ _ _ h => h) hSS hS rfl (fun w hSw => ?_) ?_
  rotate_left
  · obtain ⟨q0, q1, q2, q3, q4, q5, q6, q7, q8, q9, q10, q11, q12, q13, q14, q15, q16, q17, q18, q19, q20, q21, q22, q23⟩ := hSw; go_simp; first | done | with_reducible rfl
  simp only [Act.put, List.setIfInBounds_toArray, List.set_cons_zero, List.set_cons_succ]
  refine lin_val (i := 27) (v := ?_) rfl (by kernel_rfl) (by kernel_rfl) (by kernel_rfl) (fun _ _ _ h => h) hSS hS rfl (fun w hSw => ?_) ?_
  rotate_left
  · obtain ⟨q0, q1, q2, q3, q4, q5, q6, q7, q8, q9, q10, q11, q12, q13, q14, q15, q16, q17, q18, q19, q20, q21, q22, q23⟩ := hSw; go_simp; first | done | with_reducible rfl
  simp only [Act.put, List.setIfInBounds_toArray, List.set_cons_zero, List.set_cons_succ]
  refine lin_val (i := 28) (v := ?_) rfl (by kernel_rfl) (by kernel_rfl) (by kernel_rfl) (fun _ _ _ h => h) hSS hS rfl (fun w hSw => ?_) ?_
  rotate_left
  · obtain ⟨q0, q1, q2, q3, q4, q5, q6, q7, q8, q9, q10, q11, q12, q13, q14, q15, q16, q17, q18, q19, q20, q21, q22, q23⟩ := hSw; go_simp; first | done | with_reducible rfl
  simp only [Act.put, List.setIfInBounds_toArray, List.set_cons_zero, List.set_cons_succ]
  refine lin_val (i := 29) (v := ?_) rfl (by kernel_rfl) (by kernel_rfl) (by kernel_rfl) (fun _ _ _ h => h) hSS hS rfl (fun w hSw => ?_) ?_
  rotate_left
  · obtain ⟨q0, q1, q2, q3, q4, q5, q6, q7, q8, q9, q10, q11, q12, q13, q14, q15, q16, q17, q18, q19, q20, q21, q22, q23⟩ := hSw; go_simp; first | done | with_reducible rfl
  simp only [Act.put, List.setIfInBounds_toArray, List.set_cons_zero, List.set_cons_succ]
  refine lin_val (i := 30) (v := ?_) rfl (by kernel_rfl) (by kernel_rfl) (by kernel_rfl) (fun _ _ _ h => h) hSS hS rfl (fun w hSw => ?_) ?_
  rotate_left
  · obtain ⟨q0, q1, q2, q3, q4, q5, q6, q7, q8, q9, q10, q11, q12, q13, q14, q15, q16, q17, q18, q19, q20, q21, q22, q23⟩ := hSw; go_simp; first | done | with_reducible rfl
  simp only [Act.put, List.setIfInBounds_toArray, List.set_cons_zero, List.set_cons_succ]
  refine lin_val (i := 31) (v := ?_) rfl (by kernel_rfl) (by kernel_rfl) (by kernel_rfl) (fun _ _ _ h => h) hSS hS rfl (fun w hSw => ?_) ?_
  rotate_left
  · obtain ⟨q0, q1, q2, q3, q4, q5, q6, q7, q8, q9, q10, q11, q12, q13, q14, q15, q16, q17, q18, q19, q20, q21, q22, q23⟩ := hSw; go_simp; first | done | with_reducible rfl
  simp only [Act.put, List.setIfInBounds_toArray, List.set_cons_zero, List.set_cons_succ]
  refine lin_val (i := 32) (v := ?_) rfl (by kernel_rfl) (by kernel_rfl) (by kernel_rfl) (fun _ _ _ h => h) hSS hS rfl (fun w hSw => ?_) ?_
  rotate_left
  · obtain ⟨q0, q1, q2, q3, q4, q5, q6, q7, q8, q9, q10, q11, q12, q13, q14, q15, q16, q17, q18, q19, q20, q21, q22, q23⟩ := hSw; go_simp; first | done | with_reducible rfl
  simp only [Act.put, List.setIfInBounds_toArray, List.set_cons_zero, List.set_cons_succ]
  refine lin_val (i := 33) (v := ?_) rfl (by kernel_rfl) (by kernel_rfl) (by kernel_rfl) (fun _ _ _ h => h) hSS hS rfl (fun w hSw => ?_) ?_
  rotate_left
  · obtain ⟨q0, q1, q2, q3, q4, q5, q6, q7, q8, q9, q10, q11, q12, q13, q14, q15, q16, q17, q18, q19, q20, q21, q22, q23⟩ := hSw; go_simp; first | done | with_reducible rfl
  simp only [Act.put, List.setIfInBounds_toArray, List.set_cons_zero, List.set_cons_succ]
  refine lin_call (i := 34) rfl (by kernel_rfl) (by kernel_rfl) (by kernel_rfl) (fun _ _ _ h => h) hSS hS rfl (fun w _ => c1 w) (fun w hSw => ?_) ?_
  · obtain ⟨q0, q1, q2, q3, q4, q5, q6, q7, q8, q9, q10, q11, q12, q13, q14, q15, q16, q17, q18, q19, q20, q21, q22, q23⟩ := hSw; go_simp
  simp only [Act.put, List.setIfInBounds_toArray, List.set_cons_zero, List.set_cons_succ]
  refine lin_val (i := 35) (v := ?_) rfl (by kernel_rfl) (by kernel_rfl) (by kernel_rfl) (fun _ _ _ h => h) hSS hS rfl (fun w hSw => ?_) ?_
  rotate_left
  · obtain ⟨q0, q1, q2, q3, q4, q5, q6, q7, q8, q9, q10, q11, q12, q13, q14, q15, q16, q17, q18, q19, q20, q21, q22, q23⟩ := hSw; go_simp; first | done | with_reducible rfl
  simp only [Act.put, List.setIfInBounds_toArray, List.set_cons_zero, List.set_cons_succ]
  refine lin_val (i := 36) (v := ?_) rfl (by kernel_rfl) (by kernel_rfl) (by kernel_rfl) (fun _ _ _ h => h) hSS hS rfl (fun w hSw => ?_) ?_
  rotate_left
  · obtain ⟨q0, q1, q2, q3, q4, q5, q6, q7, q8, q9, q10, q11, q12, q13, q14, q15, q16, q17, q18, q19, q20, q21, q22, q23⟩ := hSw; go_simp; first | done | with_reducible rfl
  simp only [Act.put, List.setIfInBounds_toArray, List.set_cons_zero, List.set_cons_succ]
  refine lin_call (i := 37) rfl (by kernel_rfl) (by kernel_rfl) (by kernel_rfl) (fun _ _ _ h => h) hSS hS rfl (fun w _ => c2 w) (fun w hSw => ?_) ?_
  · obtain ⟨q0, q1, q2, q3, q4, q5, q6, q7, q8, q9, q10, q11, q12, q13, q14, q15, q16, q17, q18, q19, q20, q21, q22, q23⟩ := hSw; go_simp
  simp only [Act.put, List.setIfInBounds_toArray, List.set_cons_zero, List.set_cons_succ]
  refine lin_val (i := 38) (v := ?_) rfl (by kernel_rfl) (by kernel_rfl) (by kernel_rfl) (fun _ _ _ h => h) hSS hS rfl (fun w hSw => ?_) ?_
  rotate_left
  · obtain ⟨q0, q1, q2, q3, q4, q5, q6, q7, q8, q9, q10, q11, q12, q13, q14, q15, q16, q17, q18, q19, q20, q21, q22, q23⟩ := hSw; go_simp; first | done | with_reducible rfl
  simp only [Act.put, List.setIfInBounds_toArray, List.set_cons_zero, List.set_cons_succ]
  refine lin_val (i := 39) (v := ?_) rfl (by kernel_rfl) (by kernel_rfl) (by kernel_rfl) (fun _ _ _ h => h) hSS hS rfl (fun w hSw => ?_) ?_
  rotate_left
  · obtain ⟨q0, q1, q2, q3, q4, q5, q6, q7, q8, q9, q10, q11, q12, q13, q14, q15, q16, q17, q18, q19, q20, q21, q22, q23⟩ := hSw; go_simp; first | done | with_reducible rfl
  simp only [Act.put, List.setIfInBounds_toArray, List.set_cons_zero, List.set_cons_succ]
  refine lin_val (i := 40) (v := ?_) rfl (by kernel_rfl) (by kernel_rfl) (by kernel_rfl) (fun _ _ _ h => h) hSS hS rfl (fun w hSw => ?_) ?_
  rotate_left
  · obtain ⟨q0, q1, q2, q3, q4, q5, q6, q7, q8, q9, q10, q11, q12, q13, q14, q15, q16, q17, q18, q19, q20, q21, q22, q23⟩ := hSw; go_simp; first | done | with_reducible rfl
  simp only [Act.put, List.setIfInBounds_toArray, List.set_cons_zero, List.set_cons_succ]
  refine lin_done (by kernel_rfl) (fun wq kq => ?_) _
  clear hS hSS
  go_wp2_with fail
  go_ret
  exact ⟨rfl, KK.out.drew.nil kq⟩
theorem works_any (w : World) (a b : RawD) (ha : a.ok) (hb : b.ok) :
    Calls Tryd.prog 5 #[.agg #[.bool a.neg, .string ⟨a.l.toArray⟩, .int .i64 a.s], .agg #[.bool b.neg, .string ⟨b.l.toArray⟩, .int .i64 b.s]] w (YesPost w) := by
  cases ma : mayL a.neg a.l a.s with
  | false => exact works_n0 w a b ha hb ma _ rfl
  | true =>
    cases mb : mayL b.neg b.l b.s with
    | false => exact works_n1 w a b ha hb ma mb
    | true =>
      obtain ⟨d, hd, rfl⟩ := RawD.is ma
      obtain ⟨e, he, rfl⟩ := RawD.is mb
      exact works_yes w d e hd he
theorem works_card (W : World) (_ : Tabs W) (b : Bool) (l : List UInt8) (z : Int) (hl : l.length ≤ 9223372036854775807) (h1 : -9223372036854775808 ≤ z) (h2 : z ≤ 9223372036854775807)
    (b' : Bool) (l' : List UInt8) (z' : Int) (hl' : l'.length ≤ 9223372036854775807) (h1' : -9223372036854775808 ≤ z') (h2' : z' ≤ 9223372036854775807) :
    Calls Tryd.prog 5 #[.agg #[.bool b, .string ⟨l.toArray⟩, .int .i64 z], .agg #[.bool b', .string ⟨l'.toArray⟩, .int .i64 z']] W (YesPost W) := works_any W ⟨b, l, z⟩ ⟨b', l', z'⟩ ⟨hl, h1, h2⟩ ⟨hl', h1', h2'⟩
end Go.Proofs.YtampgimmodomoaaDoor
