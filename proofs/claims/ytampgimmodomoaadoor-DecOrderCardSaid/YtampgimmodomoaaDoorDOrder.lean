/- DecOrder: decimals are in one order, and numbers are in it as they are. -/
import Derived.Test.YtampgimmodomoaaDoorDShown
import Derived.Test.YtampgimmodomoaaDoorDMay
import Derived.Test.YtampgimmodomoaaDoorDInt
import Derived.Test.YtampgimmodomoaaDoorDCmpD
import Derived.Test.YtampgimmodomoaaDoorDOpenDec
namespace Go.Proofs.YtampgimmodomoaaDoor
open Go Go.RowKit Go.Lib

theorem ok_i64 {n : Int} (hn : -9223372036854775808 ≤ n ∧ n ≤ 9223372036854775807) : Ok (intD n) := ok_int (by
  have : n.natAbs ≤ 9223372036854775808 := by omega
  exact Nat.lt_of_le_of_lt this (by unfold topN; decide))
theorem int_form (w : World) (n : Int) (hn : -9223372036854775808 ≤ n ∧ n ≤ 9223372036854775807) :
    Calls Tryd.prog 33 #[.int .i64 n] w fun e w' => e = .returned (.agg #[.bool (intD n).neg, .string ⟨(dtxt (intD n).n).toArray⟩, .int .i64 ((intD n).s : Int)]) ∧ Kp [] w w' := int_any w n hn
theorem may_ok {d : Dc} (hd : Ok d) (w : World) : Calls Tryd.prog 19 #[.agg #[.bool d.neg, .string ⟨(dtxt d.n).toArray⟩, .int .i64 (d.s : Int)]] w fun e w' => e = .returned (.bool true) ∧ Kp [] w w' := by
  have h := may_any w d.neg (dtxt d.n) (d.s : Int) (by have := length_dtxt_le (k := 60) hd.1 (by decide); omega) (by have := hd.2.1; omega)
  rw [(may_iff _ _ _).2 ⟨d, hd, rfl, rfl, rfl⟩] at h
  exact h
theorem may_not {r : RawD} (hr : r.ok) (h : mayL r.neg r.l r.s = false) (w : World) : Calls Tryd.prog 19 #[.agg #[.bool r.neg, .string ⟨r.l.toArray⟩, .int .i64 r.s]] w fun e w' => e = .returned (.bool false) ∧ Kp [] w w' := by
  have h2 := may_any w r.neg r.l r.s hr.1 hr.2
  rw [h] at h2
  exact h2
theorem may_yes {r : RawD} (hr : r.ok) (h : mayL r.neg r.l r.s = true) (w : World) : Calls Tryd.prog 19 #[.agg #[.bool r.neg, .string ⟨r.l.toArray⟩, .int .i64 r.s]] w fun e w' => e = .returned (.bool true) ∧ Kp [] w w' := by
  have h2 := may_any w r.neg r.l r.s hr.1 hr.2
  rw [h] at h2
  exact h2
/-- A decimal that may be, as it came in. -/
theorem RawD.is {r : RawD} (h : mayL r.neg r.l r.s = true) : ∃ d, Ok d ∧ r = ⟨d.neg, dtxt d.n, (d.s : Int)⟩ := by
  obtain ⟨d, hd, e1, e2, e3⟩ := (may_iff _ _ _).1 h
  refine ⟨d, hd, ?_⟩
  obtain ⟨a, b, c⟩ := r
  dsimp only at e1 e2 e3
  rw [e1, e2, e3]
set_option maxRecDepth 100000 in
set_option maxHeartbeats 6400000 in
theorem order_lt_n0 (w : World) (x y : Int) (hx : -9223372036854775808 ≤ x ∧ x ≤ 9223372036854775807) (hy : -9223372036854775808 ≤ y ∧ y ≤ 9223372036854775807) (hxy : x < y) (a b c : RawD) (ha : a.ok) (ma : mayL a.neg a.l a.s = false) :
    Calls Tryd.prog 10 #[.agg #[.bool a.neg, .string ⟨a.l.toArray⟩, .int .i64 a.s, .bool b.neg, .string ⟨b.l.toArray⟩, .int .i64 b.s, .bool c.neg, .string ⟨c.l.toArray⟩, .int .i64 c.s], .int .i64 x, .int .i64 y] w (YesPost w) := by
  have hsh := fun W => shown_any W
  have hi1 := fun W => int_form W x hx
  have hi2 := fun W => int_form W y hy
  have hcm := fun W => cmpD_any W (intD x) (intD y) (ok_i64 hx) (ok_i64 hy)
  rw [show cmpD (intD x) (intD y) = (-1) from by rw [cmp_int]; unfold sgn; rw [if_pos (by omega)]] at hcm
  have him := fun W => may_ok (ok_i64 hx) W
  have HC := hid (Cells.fresh w 41 [.bool a.neg, .string ⟨a.l.toArray⟩, .int .i64 a.s, .bool b.neg, .string ⟨b.l.toArray⟩, .int .i64 b.s, .bool c.neg, .string ⟨c.l.toArray⟩, .int .i64 c.s])
  have HK := hid ((Kp.refl [] w).alloc (.cells #[.bool a.neg, .string ⟨a.l.toArray⟩, .int .i64 a.s, .bool b.neg, .string ⟨b.l.toArray⟩, .int .i64 b.s, .bool c.neg, .string ⟨c.l.toArray⟩, .int .i64 c.s] 41))
  have hma := fun W => may_not ha ma W
  clear ha
  obtain ⟨I, hI⟩ : ∃ I, I = intD x := ⟨_, rfl⟩
  obtain ⟨J, hJ⟩ : ∃ J, J = intD y := ⟨_, rfl⟩
  simp only [← hI, ← hJ] at hi1 hi2 hcm him
  clear hI hJ
  go_enter Tryd.func10, Tryd.ntmps10
  go_wp2_with fail
  refine (hsh _).mono ?_
  rintro e w1 ⟨rfl, k1⟩
  go_wp2_with fail
  refine (hi1 _).mono ?_
  rintro e w2 ⟨rfl, k2⟩
  go_wp2_with fail
  refine (hi2 _).mono ?_
  rintro e w3 ⟨rfl, k3⟩
  go_wp2_with fail
  refine (hcm _).mono ?_
  rintro e w4 ⟨rfl, k4⟩
  go_wp2_with fail
  refine (hi1 _).mono ?_
  rintro e w5 ⟨rfl, k5⟩
  go_wp2_with fail
  refine (him _).mono ?_
  rintro e w6 ⟨rfl, k6⟩
  have KK := ((((k1.nil k2).nil k3).nil k4).nil k5).nil k6
  have C := HC.out.keep KK (by simp)
  have z0 : _ = some (Value.bool a.neg) := C.cell 0
  have z1 : _ = some (Value.string ⟨a.l.toArray⟩) := C.cell 1
  have z2 : _ = some (Value.int .i64 a.s) := C.cell 2
  go_wp2_with fail
  refine (hma _).mono ?_
  rintro e w7 ⟨rfl, k7⟩
  go_wp2_with fail
  go_ret
  exact ⟨rfl, (((((((HK.out.nil k1).nil k2).nil k3).nil k4).nil k5).nil k6).nil k7)⟩
set_option maxRecDepth 100000 in
set_option maxHeartbeats 6400000 in
theorem order_lt_n1 (w : World) (x y : Int) (hx : -9223372036854775808 ≤ x ∧ x ≤ 9223372036854775807) (hy : -9223372036854775808 ≤ y ∧ y ≤ 9223372036854775807) (hxy : x < y) (a b c : RawD) (ha : a.ok) (hb : b.ok) (ma : mayL a.neg a.l a.s = true) (mb : mayL b.neg b.l b.s = false) :
    Calls Tryd.prog 10 #[.agg #[.bool a.neg, .string ⟨a.l.toArray⟩, .int .i64 a.s, .bool b.neg, .string ⟨b.l.toArray⟩, .int .i64 b.s, .bool c.neg, .string ⟨c.l.toArray⟩, .int .i64 c.s], .int .i64 x, .int .i64 y] w (YesPost w) := by
  have hsh := fun W => shown_any W
  have hi1 := fun W => int_form W x hx
  have hi2 := fun W => int_form W y hy
  have hcm := fun W => cmpD_any W (intD x) (intD y) (ok_i64 hx) (ok_i64 hy)
  rw [show cmpD (intD x) (intD y) = (-1) from by rw [cmp_int]; unfold sgn; rw [if_pos (by omega)]] at hcm
  have him := fun W => may_ok (ok_i64 hx) W
  have HC := hid (Cells.fresh w 41 [.bool a.neg, .string ⟨a.l.toArray⟩, .int .i64 a.s, .bool b.neg, .string ⟨b.l.toArray⟩, .int .i64 b.s, .bool c.neg, .string ⟨c.l.toArray⟩, .int .i64 c.s])
  have HK := hid ((Kp.refl [] w).alloc (.cells #[.bool a.neg, .string ⟨a.l.toArray⟩, .int .i64 a.s, .bool b.neg, .string ⟨b.l.toArray⟩, .int .i64 b.s, .bool c.neg, .string ⟨c.l.toArray⟩, .int .i64 c.s] 41))
  have hma := fun W => may_yes ha ma W
  have hmb := fun W => may_not hb mb W
  clear ha hb
  obtain ⟨I, hI⟩ : ∃ I, I = intD x := ⟨_, rfl⟩
  obtain ⟨J, hJ⟩ : ∃ J, J = intD y := ⟨_, rfl⟩
  simp only [← hI, ← hJ] at hi1 hi2 hcm him
  clear hI hJ
  go_enter Tryd.func10, Tryd.ntmps10
  go_wp2_with fail
  refine (hsh _).mono ?_
  rintro e w1 ⟨rfl, k1⟩
  go_wp2_with fail
  refine (hi1 _).mono ?_
  rintro e w2 ⟨rfl, k2⟩
  go_wp2_with fail
  refine (hi2 _).mono ?_
  rintro e w3 ⟨rfl, k3⟩
  go_wp2_with fail
  refine (hcm _).mono ?_
  rintro e w4 ⟨rfl, k4⟩
  go_wp2_with fail
  refine (hi1 _).mono ?_
  rintro e w5 ⟨rfl, k5⟩
  go_wp2_with fail
  refine (him _).mono ?_
  rintro e w6 ⟨rfl, k6⟩
  have KK := ((((k1.nil k2).nil k3).nil k4).nil k5).nil k6
  have C := HC.out.keep KK (by simp)
  have z0 : _ = some (Value.bool a.neg) := C.cell 0
  have z1 : _ = some (Value.string ⟨a.l.toArray⟩) := C.cell 1
  have z2 : _ = some (Value.int .i64 a.s) := C.cell 2
  have z3 : _ = some (Value.bool b.neg) := C.cell 3
  have z4 : _ = some (Value.string ⟨b.l.toArray⟩) := C.cell 4
  have z5 : _ = some (Value.int .i64 b.s) := C.cell 5
  go_wp2_with fail
  refine (hma _).mono ?_
  rintro e w7 ⟨rfl, k7⟩
  replace z0 := k7.cell z0 (by simp)
  replace z1 := k7.cell z1 (by simp)
  replace z2 := k7.cell z2 (by simp)
  replace z3 := k7.cell z3 (by simp)
  replace z4 := k7.cell z4 (by simp)
  replace z5 := k7.cell z5 (by simp)
  go_wp2_with fail
  refine (hmb _).mono ?_
  rintro e w8 ⟨rfl, k8⟩
  go_wp2_with fail
  go_ret
  exact ⟨rfl, ((((((((HK.out.nil k1).nil k2).nil k3).nil k4).nil k5).nil k6).nil k7).nil k8)⟩
set_option maxRecDepth 100000 in
set_option maxHeartbeats 6400000 in
theorem order_lt_n2 (w : World) (x y : Int) (hx : -9223372036854775808 ≤ x ∧ x ≤ 9223372036854775807) (hy : -9223372036854775808 ≤ y ∧ y ≤ 9223372036854775807) (hxy : x < y) (a b c : RawD) (ha : a.ok) (hb : b.ok) (hc : c.ok) (ma : mayL a.neg a.l a.s = true) (mb : mayL b.neg b.l b.s = true) (mc : mayL c.neg c.l c.s = false) :
    Calls Tryd.prog 10 #[.agg #[.bool a.neg, .string ⟨a.l.toArray⟩, .int .i64 a.s, .bool b.neg, .string ⟨b.l.toArray⟩, .int .i64 b.s, .bool c.neg, .string ⟨c.l.toArray⟩, .int .i64 c.s], .int .i64 x, .int .i64 y] w (YesPost w) := by
  have hsh := fun W => shown_any W
  have hi1 := fun W => int_form W x hx
  have hi2 := fun W => int_form W y hy
  have hcm := fun W => cmpD_any W (intD x) (intD y) (ok_i64 hx) (ok_i64 hy)
  rw [show cmpD (intD x) (intD y) = (-1) from by rw [cmp_int]; unfold sgn; rw [if_pos (by omega)]] at hcm
  have him := fun W => may_ok (ok_i64 hx) W
  have HC := hid (Cells.fresh w 41 [.bool a.neg, .string ⟨a.l.toArray⟩, .int .i64 a.s, .bool b.neg, .string ⟨b.l.toArray⟩, .int .i64 b.s, .bool c.neg, .string ⟨c.l.toArray⟩, .int .i64 c.s])
  have HK := hid ((Kp.refl [] w).alloc (.cells #[.bool a.neg, .string ⟨a.l.toArray⟩, .int .i64 a.s, .bool b.neg, .string ⟨b.l.toArray⟩, .int .i64 b.s, .bool c.neg, .string ⟨c.l.toArray⟩, .int .i64 c.s] 41))
  have hma := fun W => may_yes ha ma W
  have hmb := fun W => may_yes hb mb W
  have hmc := fun W => may_not hc mc W
  clear ha hb hc
  obtain ⟨I, hI⟩ : ∃ I, I = intD x := ⟨_, rfl⟩
  obtain ⟨J, hJ⟩ : ∃ J, J = intD y := ⟨_, rfl⟩
  simp only [← hI, ← hJ] at hi1 hi2 hcm him
  clear hI hJ
  go_enter Tryd.func10, Tryd.ntmps10
  go_wp2_with fail
  refine (hsh _).mono ?_
  rintro e w1 ⟨rfl, k1⟩
  go_wp2_with fail
  refine (hi1 _).mono ?_
  rintro e w2 ⟨rfl, k2⟩
  go_wp2_with fail
  refine (hi2 _).mono ?_
  rintro e w3 ⟨rfl, k3⟩
  go_wp2_with fail
  refine (hcm _).mono ?_
  rintro e w4 ⟨rfl, k4⟩
  go_wp2_with fail
  refine (hi1 _).mono ?_
  rintro e w5 ⟨rfl, k5⟩
  go_wp2_with fail
  refine (him _).mono ?_
  rintro e w6 ⟨rfl, k6⟩
  have KK := ((((k1.nil k2).nil k3).nil k4).nil k5).nil k6
  have C := HC.out.keep KK (by simp)
  have z0 : _ = some (Value.bool a.neg) := C.cell 0
  have z1 : _ = some (Value.string ⟨a.l.toArray⟩) := C.cell 1
  have z2 : _ = some (Value.int .i64 a.s) := C.cell 2
  have z3 : _ = some (Value.bool b.neg) := C.cell 3
  have z4 : _ = some (Value.string ⟨b.l.toArray⟩) := C.cell 4
  have z5 : _ = some (Value.int .i64 b.s) := C.cell 5
  have z6 : _ = some (Value.bool c.neg) := C.cell 6
  have z7 : _ = some (Value.string ⟨c.l.toArray⟩) := C.cell 7
  have z8 : _ = some (Value.int .i64 c.s) := C.cell 8
  go_wp2_with fail
  refine (hma _).mono ?_
  rintro e w7 ⟨rfl, k7⟩
  replace z0 := k7.cell z0 (by simp)
  replace z1 := k7.cell z1 (by simp)
  replace z2 := k7.cell z2 (by simp)
  replace z3 := k7.cell z3 (by simp)
  replace z4 := k7.cell z4 (by simp)
  replace z5 := k7.cell z5 (by simp)
  replace z6 := k7.cell z6 (by simp)
  replace z7 := k7.cell z7 (by simp)
  replace z8 := k7.cell z8 (by simp)
  go_wp2_with fail
  refine (hmb _).mono ?_
  rintro e w8 ⟨rfl, k8⟩
  replace z0 := k8.cell z0 (by simp)
  replace z1 := k8.cell z1 (by simp)
  replace z2 := k8.cell z2 (by simp)
  replace z3 := k8.cell z3 (by simp)
  replace z4 := k8.cell z4 (by simp)
  replace z5 := k8.cell z5 (by simp)
  replace z6 := k8.cell z6 (by simp)
  replace z7 := k8.cell z7 (by simp)
  replace z8 := k8.cell z8 (by simp)
  go_wp2_with fail
  refine (hmc _).mono ?_
  rintro e w9 ⟨rfl, k9⟩
  go_wp2_with fail
  go_ret
  exact ⟨rfl, (((((((((HK.out.nil k1).nil k2).nil k3).nil k4).nil k5).nil k6).nil k7).nil k8).nil k9)⟩
set_option maxRecDepth 100000 in
set_option maxHeartbeats 6400000 in
theorem order_lt_a (w : World) (x y : Int) (hx : -9223372036854775808 ≤ x ∧ x ≤ 9223372036854775807) (hy : -9223372036854775808 ≤ y ∧ y ≤ 9223372036854775807) (hxy : x < y) (a b c : Dc) (ha : Ok a) (hb : Ok b) (hc : Ok c) :
    Calls Tryd.prog 10 #[.agg #[.bool a.neg, .string ⟨(dtxt a.n).toArray⟩, .int .i64 (a.s : Int), .bool b.neg, .string ⟨(dtxt b.n).toArray⟩, .int .i64 (b.s : Int), .bool c.neg, .string ⟨(dtxt c.n).toArray⟩, .int .i64 (c.s : Int)], .int .i64 x, .int .i64 y] w (YesPost w) := by
  have hsh := fun W => shown_any W
  have hi1 := fun W => int_form W x hx
  have hi2 := fun W => int_form W y hy
  have hcm := fun W => cmpD_any W (intD x) (intD y) (ok_i64 hx) (ok_i64 hy)
  rw [show cmpD (intD x) (intD y) = (-1) from by rw [cmp_int]; unfold sgn; rw [if_pos (by omega)]] at hcm
  have him := fun W => may_ok (ok_i64 hx) W
  have HC := hid (Cells.fresh w 41 [.bool a.neg, .string ⟨(dtxt a.n).toArray⟩, .int .i64 (a.s : Int), .bool b.neg, .string ⟨(dtxt b.n).toArray⟩, .int .i64 (b.s : Int), .bool c.neg, .string ⟨(dtxt c.n).toArray⟩, .int .i64 (c.s : Int)])
  have HK := hid ((Kp.refl [] w).alloc (.cells #[.bool a.neg, .string ⟨(dtxt a.n).toArray⟩, .int .i64 (a.s : Int), .bool b.neg, .string ⟨(dtxt b.n).toArray⟩, .int .i64 (b.s : Int), .bool c.neg, .string ⟨(dtxt c.n).toArray⟩, .int .i64 (c.s : Int)] 41))
  have hma := fun W => may_ok ha W
  have hmb := fun W => may_ok hb W
  have hmc := fun W => may_ok hc W
  have q1 := fun W => cmpD_any W a b ha hb
  have q2 := fun W => cmpD_any W b c hb hc
  have q3 := fun W => cmpD_any W a c ha hc
  have hlaw := cmpD_le_trans (a := a) (b := b) (c := c)
  obtain ⟨g1, e1⟩ : ∃ g, g = cmpD a b := ⟨_, rfl⟩
  obtain ⟨g2, e2⟩ : ∃ g, g = cmpD b c := ⟨_, rfl⟩
  obtain ⟨g3, e3⟩ : ∃ g, g = cmpD a c := ⟨_, rfl⟩
  simp only [← e1, ← e2, ← e3] at q1 q2 q3 hlaw
  clear e1 e2 e3 ha hb hc
  obtain ⟨I, hI⟩ : ∃ I, I = intD x := ⟨_, rfl⟩
  obtain ⟨J, hJ⟩ : ∃ J, J = intD y := ⟨_, rfl⟩
  simp only [← hI, ← hJ] at hi1 hi2 hcm him
  clear hI hJ
  by_cases h1 : 0 < g1
  · clear hlaw q2 q3
    go_enter Tryd.func10, Tryd.ntmps10
    go_wp2_with fail
    refine (hsh _).mono ?_
    rintro e w1 ⟨rfl, k1⟩
    go_wp2_with fail
    refine (hi1 _).mono ?_
    rintro e w2 ⟨rfl, k2⟩
    go_wp2_with fail
    refine (hi2 _).mono ?_
    rintro e w3 ⟨rfl, k3⟩
    go_wp2_with fail
    refine (hcm _).mono ?_
    rintro e w4 ⟨rfl, k4⟩
    go_wp2_with fail
    refine (hi1 _).mono ?_
    rintro e w5 ⟨rfl, k5⟩
    go_wp2_with fail
    refine (him _).mono ?_
    rintro e w6 ⟨rfl, k6⟩
    have KK := ((((k1.nil k2).nil k3).nil k4).nil k5).nil k6
    have C := HC.out.keep KK (by simp)
    have z0 : _ = some (Value.bool a.neg) := C.cell 0
    have z1 : _ = some (Value.string ⟨(dtxt a.n).toArray⟩) := C.cell 1
    have z2 : _ = some (Value.int .i64 (a.s : Int)) := C.cell 2
    have z3 : _ = some (Value.bool b.neg) := C.cell 3
    have z4 : _ = some (Value.string ⟨(dtxt b.n).toArray⟩) := C.cell 4
    have z5 : _ = some (Value.int .i64 (b.s : Int)) := C.cell 5
    have z6 : _ = some (Value.bool c.neg) := C.cell 6
    have z7 : _ = some (Value.string ⟨(dtxt c.n).toArray⟩) := C.cell 7
    have z8 : _ = some (Value.int .i64 (c.s : Int)) := C.cell 8
    go_wp2_with fail
    refine (hma _).mono ?_
    rintro e w7 ⟨rfl, k7⟩
    replace z0 := k7.cell z0 (by simp)
    replace z1 := k7.cell z1 (by simp)
    replace z2 := k7.cell z2 (by simp)
    replace z3 := k7.cell z3 (by simp)
    replace z4 := k7.cell z4 (by simp)
    replace z5 := k7.cell z5 (by simp)
    replace z6 := k7.cell z6 (by simp)
    replace z7 := k7.cell z7 (by simp)
    replace z8 := k7.cell z8 (by simp)
    go_wp2_with fail
    refine (hmb _).mono ?_
    rintro e w8 ⟨rfl, k8⟩
    replace z0 := k8.cell z0 (by simp)
    replace z1 := k8.cell z1 (by simp)
    replace z2 := k8.cell z2 (by simp)
    replace z3 := k8.cell z3 (by simp)
    replace z4 := k8.cell z4 (by simp)
    replace z5 := k8.cell z5 (by simp)
    replace z6 := k8.cell z6 (by simp)
    replace z7 := k8.cell z7 (by simp)
    replace z8 := k8.cell z8 (by simp)
    go_wp2_with fail
    refine (hmc _).mono ?_
    rintro e w9 ⟨rfl, k9⟩
    replace z0 := k9.cell z0 (by simp)
    replace z1 := k9.cell z1 (by simp)
    replace z2 := k9.cell z2 (by simp)
    replace z3 := k9.cell z3 (by simp)
    replace z4 := k9.cell z4 (by simp)
    replace z5 := k9.cell z5 (by simp)
    replace z6 := k9.cell z6 (by simp)
    replace z7 := k9.cell z7 (by simp)
    replace z8 := k9.cell z8 (by simp)
    go_wp2_with fail
    refine (q1 _).mono ?_
    rintro e w10 ⟨rfl, k10⟩
    replace z0 := k10.cell z0 (by simp)
    replace z1 := k10.cell z1 (by simp)
    replace z2 := k10.cell z2 (by simp)
    replace z3 := k10.cell z3 (by simp)
    replace z4 := k10.cell z4 (by simp)
    replace z5 := k10.cell z5 (by simp)
    replace z6 := k10.cell z6 (by simp)
    replace z7 := k10.cell z7 (by simp)
    replace z8 := k10.cell z8 (by simp)
    go_wp2_with fail
    go_ret
    exact ⟨rfl, ((((((((((HK.out.nil k1).nil k2).nil k3).nil k4).nil k5).nil k6).nil k7).nil k8).nil k9).nil k10)⟩
  by_cases h2 : 0 < g2
  · have h1 : g1 ≤ 0 := by omega
    clear hlaw q3
    go_enter Tryd.func10, Tryd.ntmps10
    go_wp2_with fail
    refine (hsh _).mono ?_
    rintro e w1 ⟨rfl, k1⟩
    go_wp2_with fail
    refine (hi1 _).mono ?_
    rintro e w2 ⟨rfl, k2⟩
    go_wp2_with fail
    refine (hi2 _).mono ?_
    rintro e w3 ⟨rfl, k3⟩
    go_wp2_with fail
    refine (hcm _).mono ?_
    rintro e w4 ⟨rfl, k4⟩
    go_wp2_with fail
    refine (hi1 _).mono ?_
    rintro e w5 ⟨rfl, k5⟩
    go_wp2_with fail
    refine (him _).mono ?_
    rintro e w6 ⟨rfl, k6⟩
    have KK := ((((k1.nil k2).nil k3).nil k4).nil k5).nil k6
    have C := HC.out.keep KK (by simp)
    have z0 : _ = some (Value.bool a.neg) := C.cell 0
    have z1 : _ = some (Value.string ⟨(dtxt a.n).toArray⟩) := C.cell 1
    have z2 : _ = some (Value.int .i64 (a.s : Int)) := C.cell 2
    have z3 : _ = some (Value.bool b.neg) := C.cell 3
    have z4 : _ = some (Value.string ⟨(dtxt b.n).toArray⟩) := C.cell 4
    have z5 : _ = some (Value.int .i64 (b.s : Int)) := C.cell 5
    have z6 : _ = some (Value.bool c.neg) := C.cell 6
    have z7 : _ = some (Value.string ⟨(dtxt c.n).toArray⟩) := C.cell 7
    have z8 : _ = some (Value.int .i64 (c.s : Int)) := C.cell 8
    go_wp2_with fail
    refine (hma _).mono ?_
    rintro e w7 ⟨rfl, k7⟩
    replace z0 := k7.cell z0 (by simp)
    replace z1 := k7.cell z1 (by simp)
    replace z2 := k7.cell z2 (by simp)
    replace z3 := k7.cell z3 (by simp)
    replace z4 := k7.cell z4 (by simp)
    replace z5 := k7.cell z5 (by simp)
    replace z6 := k7.cell z6 (by simp)
    replace z7 := k7.cell z7 (by simp)
    replace z8 := k7.cell z8 (by simp)
    go_wp2_with fail
    refine (hmb _).mono ?_
    rintro e w8 ⟨rfl, k8⟩
    replace z0 := k8.cell z0 (by simp)
    replace z1 := k8.cell z1 (by simp)
    replace z2 := k8.cell z2 (by simp)
    replace z3 := k8.cell z3 (by simp)
    replace z4 := k8.cell z4 (by simp)
    replace z5 := k8.cell z5 (by simp)
    replace z6 := k8.cell z6 (by simp)
    replace z7 := k8.cell z7 (by simp)
    replace z8 := k8.cell z8 (by simp)
    go_wp2_with fail
    refine (hmc _).mono ?_
    rintro e w9 ⟨rfl, k9⟩
    replace z0 := k9.cell z0 (by simp)
    replace z1 := k9.cell z1 (by simp)
    replace z2 := k9.cell z2 (by simp)
    replace z3 := k9.cell z3 (by simp)
    replace z4 := k9.cell z4 (by simp)
    replace z5 := k9.cell z5 (by simp)
    replace z6 := k9.cell z6 (by simp)
    replace z7 := k9.cell z7 (by simp)
    replace z8 := k9.cell z8 (by simp)
    go_wp2_with fail
    refine (q1 _).mono ?_
    rintro e w10 ⟨rfl, k10⟩
    replace z0 := k10.cell z0 (by simp)
    replace z1 := k10.cell z1 (by simp)
    replace z2 := k10.cell z2 (by simp)
    replace z3 := k10.cell z3 (by simp)
    replace z4 := k10.cell z4 (by simp)
    replace z5 := k10.cell z5 (by simp)
    replace z6 := k10.cell z6 (by simp)
    replace z7 := k10.cell z7 (by simp)
    replace z8 := k10.cell z8 (by simp)
    go_wp2_with fail
    refine (q2 _).mono ?_
    rintro e w11 ⟨rfl, k11⟩
    replace z0 := k11.cell z0 (by simp)
    replace z1 := k11.cell z1 (by simp)
    replace z2 := k11.cell z2 (by simp)
    replace z3 := k11.cell z3 (by simp)
    replace z4 := k11.cell z4 (by simp)
    replace z5 := k11.cell z5 (by simp)
    replace z6 := k11.cell z6 (by simp)
    replace z7 := k11.cell z7 (by simp)
    replace z8 := k11.cell z8 (by simp)
    go_wp2_with fail
    go_ret
    exact ⟨rfl, (((((((((((HK.out.nil k1).nil k2).nil k3).nil k4).nil k5).nil k6).nil k7).nil k8).nil k9).nil k10).nil k11)⟩
  have h3 : g3 ≤ 0 := hlaw (by omega) (by omega)
  clear hlaw
  go_enter Tryd.func10, Tryd.ntmps10
  go_wp2_with fail
  refine (hsh _).mono ?_
  rintro e w1 ⟨rfl, k1⟩
  go_wp2_with fail
  refine (hi1 _).mono ?_
  rintro e w2 ⟨rfl, k2⟩
  go_wp2_with fail
  refine (hi2 _).mono ?_
  rintro e w3 ⟨rfl, k3⟩
  go_wp2_with fail
  refine (hcm _).mono ?_
  rintro e w4 ⟨rfl, k4⟩
  go_wp2_with fail
  refine (hi1 _).mono ?_
  rintro e w5 ⟨rfl, k5⟩
  go_wp2_with fail
  refine (him _).mono ?_
  rintro e w6 ⟨rfl, k6⟩
  have KK := ((((k1.nil k2).nil k3).nil k4).nil k5).nil k6
  have C := HC.out.keep KK (by simp)
  have z0 : _ = some (Value.bool a.neg) := C.cell 0
  have z1 : _ = some (Value.string ⟨(dtxt a.n).toArray⟩) := C.cell 1
  have z2 : _ = some (Value.int .i64 (a.s : Int)) := C.cell 2
  have z3 : _ = some (Value.bool b.neg) := C.cell 3
  have z4 : _ = some (Value.string ⟨(dtxt b.n).toArray⟩) := C.cell 4
  have z5 : _ = some (Value.int .i64 (b.s : Int)) := C.cell 5
  have z6 : _ = some (Value.bool c.neg) := C.cell 6
  have z7 : _ = some (Value.string ⟨(dtxt c.n).toArray⟩) := C.cell 7
  have z8 : _ = some (Value.int .i64 (c.s : Int)) := C.cell 8
  go_wp2_with fail
  refine (hma _).mono ?_
  rintro e w7 ⟨rfl, k7⟩
  replace z0 := k7.cell z0 (by simp)
  replace z1 := k7.cell z1 (by simp)
  replace z2 := k7.cell z2 (by simp)
  replace z3 := k7.cell z3 (by simp)
  replace z4 := k7.cell z4 (by simp)
  replace z5 := k7.cell z5 (by simp)
  replace z6 := k7.cell z6 (by simp)
  replace z7 := k7.cell z7 (by simp)
  replace z8 := k7.cell z8 (by simp)
  go_wp2_with fail
  refine (hmb _).mono ?_
  rintro e w8 ⟨rfl, k8⟩
  replace z0 := k8.cell z0 (by simp)
  replace z1 := k8.cell z1 (by simp)
  replace z2 := k8.cell z2 (by simp)
  replace z3 := k8.cell z3 (by simp)
  replace z4 := k8.cell z4 (by simp)
  replace z5 := k8.cell z5 (by simp)
  replace z6 := k8.cell z6 (by simp)
  replace z7 := k8.cell z7 (by simp)
  replace z8 := k8.cell z8 (by simp)
  go_wp2_with fail
  refine (hmc _).mono ?_
  rintro e w9 ⟨rfl, k9⟩
  replace z0 := k9.cell z0 (by simp)
  replace z1 := k9.cell z1 (by simp)
  replace z2 := k9.cell z2 (by simp)
  replace z3 := k9.cell z3 (by simp)
  replace z4 := k9.cell z4 (by simp)
  replace z5 := k9.cell z5 (by simp)
  replace z6 := k9.cell z6 (by simp)
  replace z7 := k9.cell z7 (by simp)
  replace z8 := k9.cell z8 (by simp)
  go_wp2_with fail
  refine (q1 _).mono ?_
  rintro e w10 ⟨rfl, k10⟩
  replace z0 := k10.cell z0 (by simp)
  replace z1 := k10.cell z1 (by simp)
  replace z2 := k10.cell z2 (by simp)
  replace z3 := k10.cell z3 (by simp)
  replace z4 := k10.cell z4 (by simp)
  replace z5 := k10.cell z5 (by simp)
  replace z6 := k10.cell z6 (by simp)
  replace z7 := k10.cell z7 (by simp)
  replace z8 := k10.cell z8 (by simp)
  go_wp2_with fail
  refine (q2 _).mono ?_
  rintro e w11 ⟨rfl, k11⟩
  replace z0 := k11.cell z0 (by simp)
  replace z1 := k11.cell z1 (by simp)
  replace z2 := k11.cell z2 (by simp)
  replace z3 := k11.cell z3 (by simp)
  replace z4 := k11.cell z4 (by simp)
  replace z5 := k11.cell z5 (by simp)
  replace z6 := k11.cell z6 (by simp)
  replace z7 := k11.cell z7 (by simp)
  replace z8 := k11.cell z8 (by simp)
  go_wp2_with fail
  refine (q3 _).mono ?_
  rintro e w12 ⟨rfl, k12⟩
  replace z0 := k12.cell z0 (by simp)
  replace z1 := k12.cell z1 (by simp)
  replace z2 := k12.cell z2 (by simp)
  replace z3 := k12.cell z3 (by simp)
  replace z4 := k12.cell z4 (by simp)
  replace z5 := k12.cell z5 (by simp)
  replace z6 := k12.cell z6 (by simp)
  replace z7 := k12.cell z7 (by simp)
  replace z8 := k12.cell z8 (by simp)
  go_wp2_with fail
  go_ret
  exact ⟨rfl, ((((((((((((HK.out.nil k1).nil k2).nil k3).nil k4).nil k5).nil k6).nil k7).nil k8).nil k9).nil k10).nil k11).nil k12)⟩
set_option maxRecDepth 100000 in
set_option maxHeartbeats 6400000 in
theorem order_gt_n0 (w : World) (x y : Int) (hx : -9223372036854775808 ≤ x ∧ x ≤ 9223372036854775807) (hy : -9223372036854775808 ≤ y ∧ y ≤ 9223372036854775807) (hxy : y < x) (a b c : RawD) (ha : a.ok) (ma : mayL a.neg a.l a.s = false) :
    Calls Tryd.prog 10 #[.agg #[.bool a.neg, .string ⟨a.l.toArray⟩, .int .i64 a.s, .bool b.neg, .string ⟨b.l.toArray⟩, .int .i64 b.s, .bool c.neg, .string ⟨c.l.toArray⟩, .int .i64 c.s], .int .i64 x, .int .i64 y] w (YesPost w) := by
  have hsh := fun W => shown_any W
  have hi1 := fun W => int_form W x hx
  have hi2 := fun W => int_form W y hy
  have hcm := fun W => cmpD_any W (intD x) (intD y) (ok_i64 hx) (ok_i64 hy)
  rw [show cmpD (intD x) (intD y) = 1 from by rw [cmp_int]; unfold sgn; rw [if_neg (by omega), if_pos (by omega)]] at hcm
  have him := fun W => may_ok (ok_i64 hx) W
  have HC := hid (Cells.fresh w 41 [.bool a.neg, .string ⟨a.l.toArray⟩, .int .i64 a.s, .bool b.neg, .string ⟨b.l.toArray⟩, .int .i64 b.s, .bool c.neg, .string ⟨c.l.toArray⟩, .int .i64 c.s])
  have HK := hid ((Kp.refl [] w).alloc (.cells #[.bool a.neg, .string ⟨a.l.toArray⟩, .int .i64 a.s, .bool b.neg, .string ⟨b.l.toArray⟩, .int .i64 b.s, .bool c.neg, .string ⟨c.l.toArray⟩, .int .i64 c.s] 41))
  have hma := fun W => may_not ha ma W
  clear ha
  obtain ⟨I, hI⟩ : ∃ I, I = intD x := ⟨_, rfl⟩
  obtain ⟨J, hJ⟩ : ∃ J, J = intD y := ⟨_, rfl⟩
  simp only [← hI, ← hJ] at hi1 hi2 hcm him
  clear hI hJ
  go_enter Tryd.func10, Tryd.ntmps10
  go_wp2_with fail
  refine (hsh _).mono ?_
  rintro e w1 ⟨rfl, k1⟩
  go_wp2_with fail
  refine (hi1 _).mono ?_
  rintro e w2 ⟨rfl, k2⟩
  go_wp2_with fail
  refine (hi2 _).mono ?_
  rintro e w3 ⟨rfl, k3⟩
  go_wp2_with fail
  refine (hcm _).mono ?_
  rintro e w4 ⟨rfl, k4⟩
  go_wp2_with fail
  refine (hi1 _).mono ?_
  rintro e w5 ⟨rfl, k5⟩
  go_wp2_with fail
  refine (him _).mono ?_
  rintro e w6 ⟨rfl, k6⟩
  have KK := ((((k1.nil k2).nil k3).nil k4).nil k5).nil k6
  have C := HC.out.keep KK (by simp)
  have z0 : _ = some (Value.bool a.neg) := C.cell 0
  have z1 : _ = some (Value.string ⟨a.l.toArray⟩) := C.cell 1
  have z2 : _ = some (Value.int .i64 a.s) := C.cell 2
  go_wp2_with fail
  refine (hma _).mono ?_
  rintro e w7 ⟨rfl, k7⟩
  go_wp2_with fail
  go_ret
  exact ⟨rfl, (((((((HK.out.nil k1).nil k2).nil k3).nil k4).nil k5).nil k6).nil k7)⟩
set_option maxRecDepth 100000 in
set_option maxHeartbeats 6400000 in
theorem order_gt_n1 (w : World) (x y : Int) (hx : -9223372036854775808 ≤ x ∧ x ≤ 9223372036854775807) (hy : -9223372036854775808 ≤ y ∧ y ≤ 9223372036854775807) (hxy : y < x) (a b c : RawD) (ha : a.ok) (hb : b.ok) (ma : mayL a.neg a.l a.s = true) (mb : mayL b.neg b.l b.s = false) :
    Calls Tryd.prog 10 #[.agg #[.bool a.neg, .string ⟨a.l.toArray⟩, .int .i64 a.s, .bool b.neg, .string ⟨b.l.toArray⟩, .int .i64 b.s, .bool c.neg, .string ⟨c.l.toArray⟩, .int .i64 c.s], .int .i64 x, .int .i64 y] w (YesPost w) := by
  have hsh := fun W => shown_any W
  have hi1 := fun W => int_form W x hx
  have hi2 := fun W => int_form W y hy
  have hcm := fun W => cmpD_any W (intD x) (intD y) (ok_i64 hx) (ok_i64 hy)
  rw [show cmpD (intD x) (intD y) = 1 from by rw [cmp_int]; unfold sgn; rw [if_neg (by omega), if_pos (by omega)]] at hcm
  have him := fun W => may_ok (ok_i64 hx) W
  have HC := hid (Cells.fresh w 41 [.bool a.neg, .string ⟨a.l.toArray⟩, .int .i64 a.s, .bool b.neg, .string ⟨b.l.toArray⟩, .int .i64 b.s, .bool c.neg, .string ⟨c.l.toArray⟩, .int .i64 c.s])
  have HK := hid ((Kp.refl [] w).alloc (.cells #[.bool a.neg, .string ⟨a.l.toArray⟩, .int .i64 a.s, .bool b.neg, .string ⟨b.l.toArray⟩, .int .i64 b.s, .bool c.neg, .string ⟨c.l.toArray⟩, .int .i64 c.s] 41))
  have hma := fun W => may_yes ha ma W
  have hmb := fun W => may_not hb mb W
  clear ha hb
  obtain ⟨I, hI⟩ : ∃ I, I = intD x := ⟨_, rfl⟩
  obtain ⟨J, hJ⟩ : ∃ J, J = intD y := ⟨_, rfl⟩
  simp only [← hI, ← hJ] at hi1 hi2 hcm him
  clear hI hJ
  go_enter Tryd.func10, Tryd.ntmps10
  go_wp2_with fail
  refine (hsh _).mono ?_
  rintro e w1 ⟨rfl, k1⟩
  go_wp2_with fail
  refine (hi1 _).mono ?_
  rintro e w2 ⟨rfl, k2⟩
  go_wp2_with fail
  refine (hi2 _).mono ?_
  rintro e w3 ⟨rfl, k3⟩
  go_wp2_with fail
  refine (hcm _).mono ?_
  rintro e w4 ⟨rfl, k4⟩
  go_wp2_with fail
  refine (hi1 _).mono ?_
  rintro e w5 ⟨rfl, k5⟩
  go_wp2_with fail
  refine (him _).mono ?_
  rintro e w6 ⟨rfl, k6⟩
  have KK := ((((k1.nil k2).nil k3).nil k4).nil k5).nil k6
  have C := HC.out.keep KK (by simp)
  have z0 : _ = some (Value.bool a.neg) := C.cell 0
  have z1 : _ = some (Value.string ⟨a.l.toArray⟩) := C.cell 1
  have z2 : _ = some (Value.int .i64 a.s) := C.cell 2
  have z3 : _ = some (Value.bool b.neg) := C.cell 3
  have z4 : _ = some (Value.string ⟨b.l.toArray⟩) := C.cell 4
  have z5 : _ = some (Value.int .i64 b.s) := C.cell 5
  go_wp2_with fail
  refine (hma _).mono ?_
  rintro e w7 ⟨rfl, k7⟩
  replace z0 := k7.cell z0 (by simp)
  replace z1 := k7.cell z1 (by simp)
  replace z2 := k7.cell z2 (by simp)
  replace z3 := k7.cell z3 (by simp)
  replace z4 := k7.cell z4 (by simp)
  replace z5 := k7.cell z5 (by simp)
  go_wp2_with fail
  refine (hmb _).mono ?_
  rintro e w8 ⟨rfl, k8⟩
  go_wp2_with fail
  go_ret
  exact ⟨rfl, ((((((((HK.out.nil k1).nil k2).nil k3).nil k4).nil k5).nil k6).nil k7).nil k8)⟩
set_option maxRecDepth 100000 in
set_option maxHeartbeats 6400000 in
theorem order_gt_n2 (w : World) (x y : Int) (hx : -9223372036854775808 ≤ x ∧ x ≤ 9223372036854775807) (hy : -9223372036854775808 ≤ y ∧ y ≤ 9223372036854775807) (hxy : y < x) (a b c : RawD) (ha : a.ok) (hb : b.ok) (hc : c.ok) (ma : mayL a.neg a.l a.s = true) (mb : mayL b.neg b.l b.s = true) (mc : mayL c.neg c.l c.s = false) :
    Calls Tryd.prog 10 #[.agg #[.bool a.neg, .string ⟨a.l.toArray⟩, .int .i64 a.s, .bool b.neg, .string ⟨b.l.toArray⟩, .int .i64 b.s, .bool c.neg, .string ⟨c.l.toArray⟩, .int .i64 c.s], .int .i64 x, .int .i64 y] w (YesPost w) := by
  have hsh := fun W => shown_any W
  have hi1 := fun W => int_form W x hx
  have hi2 := fun W => int_form W y hy
  have hcm := fun W => cmpD_any W (intD x) (intD y) (ok_i64 hx) (ok_i64 hy)
  rw [show cmpD (intD x) (intD y) = 1 from by rw [cmp_int]; unfold sgn; rw [if_neg (by omega), if_pos (by omega)]] at hcm
  have him := fun W => may_ok (ok_i64 hx) W
  have HC := hid (Cells.fresh w 41 [.bool a.neg, .string ⟨a.l.toArray⟩, .int .i64 a.s, .bool b.neg, .string ⟨b.l.toArray⟩, .int .i64 b.s, .bool c.neg, .string ⟨c.l.toArray⟩, .int .i64 c.s])
  have HK := hid ((Kp.refl [] w).alloc (.cells #[.bool a.neg, .string ⟨a.l.toArray⟩, .int .i64 a.s, .bool b.neg, .string ⟨b.l.toArray⟩, .int .i64 b.s, .bool c.neg, .string ⟨c.l.toArray⟩, .int .i64 c.s] 41))
  have hma := fun W => may_yes ha ma W
  have hmb := fun W => may_yes hb mb W
  have hmc := fun W => may_not hc mc W
  clear ha hb hc
  obtain ⟨I, hI⟩ : ∃ I, I = intD x := ⟨_, rfl⟩
  obtain ⟨J, hJ⟩ : ∃ J, J = intD y := ⟨_, rfl⟩
  simp only [← hI, ← hJ] at hi1 hi2 hcm him
  clear hI hJ
  go_enter Tryd.func10, Tryd.ntmps10
  go_wp2_with fail
  refine (hsh _).mono ?_
  rintro e w1 ⟨rfl, k1⟩
  go_wp2_with fail
  refine (hi1 _).mono ?_
  rintro e w2 ⟨rfl, k2⟩
  go_wp2_with fail
  refine (hi2 _).mono ?_
  rintro e w3 ⟨rfl, k3⟩
  go_wp2_with fail
  refine (hcm _).mono ?_
  rintro e w4 ⟨rfl, k4⟩
  go_wp2_with fail
  refine (hi1 _).mono ?_
  rintro e w5 ⟨rfl, k5⟩
  go_wp2_with fail
  refine (him _).mono ?_
  rintro e w6 ⟨rfl, k6⟩
  have KK := ((((k1.nil k2).nil k3).nil k4).nil k5).nil k6
  have C := HC.out.keep KK (by simp)
  have z0 : _ = some (Value.bool a.neg) := C.cell 0
  have z1 : _ = some (Value.string ⟨a.l.toArray⟩) := C.cell 1
  have z2 : _ = some (Value.int .i64 a.s) := C.cell 2
  have z3 : _ = some (Value.bool b.neg) := C.cell 3
  have z4 : _ = some (Value.string ⟨b.l.toArray⟩) := C.cell 4
  have z5 : _ = some (Value.int .i64 b.s) := C.cell 5
  have z6 : _ = some (Value.bool c.neg) := C.cell 6
  have z7 : _ = some (Value.string ⟨c.l.toArray⟩) := C.cell 7
  have z8 : _ = some (Value.int .i64 c.s) := C.cell 8
  go_wp2_with fail
  refine (hma _).mono ?_
  rintro e w7 ⟨rfl, k7⟩
  replace z0 := k7.cell z0 (by simp)
  replace z1 := k7.cell z1 (by simp)
  replace z2 := k7.cell z2 (by simp)
  replace z3 := k7.cell z3 (by simp)
  replace z4 := k7.cell z4 (by simp)
  replace z5 := k7.cell z5 (by simp)
  replace z6 := k7.cell z6 (by simp)
  replace z7 := k7.cell z7 (by simp)
  replace z8 := k7.cell z8 (by simp)
  go_wp2_with fail
  refine (hmb _).mono ?_
  rintro e w8 ⟨rfl, k8⟩
  replace z0 := k8.cell z0 (by simp)
  replace z1 := k8.cell z1 (by simp)
  replace z2 := k8.cell z2 (by simp)
  replace z3 := k8.cell z3 (by simp)
  replace z4 := k8.cell z4 (by simp)
  replace z5 := k8.cell z5 (by simp)
  replace z6 := k8.cell z6 (by simp)
  replace z7 := k8.cell z7 (by simp)
  replace z8 := k8.cell z8 (by simp)
  go_wp2_with fail
  refine (hmc _).mono ?_
  rintro e w9 ⟨rfl, k9⟩
  go_wp2_with fail
  go_ret
  exact ⟨rfl, (((((((((HK.out.nil k1).nil k2).nil k3).nil k4).nil k5).nil k6).nil k7).nil k8).nil k9)⟩
set_option maxRecDepth 100000 in
set_option maxHeartbeats 6400000 in
theorem order_gt_a (w : World) (x y : Int) (hx : -9223372036854775808 ≤ x ∧ x ≤ 9223372036854775807) (hy : -9223372036854775808 ≤ y ∧ y ≤ 9223372036854775807) (hxy : y < x) (a b c : Dc) (ha : Ok a) (hb : Ok b) (hc : Ok c) :
    Calls Tryd.prog 10 #[.agg #[.bool a.neg, .string ⟨(dtxt a.n).toArray⟩, .int .i64 (a.s : Int), .bool b.neg, .string ⟨(dtxt b.n).toArray⟩, .int .i64 (b.s : Int), .bool c.neg, .string ⟨(dtxt c.n).toArray⟩, .int .i64 (c.s : Int)], .int .i64 x, .int .i64 y] w (YesPost w) := by
  have hsh := fun W => shown_any W
  have hi1 := fun W => int_form W x hx
  have hi2 := fun W => int_form W y hy
  have hcm := fun W => cmpD_any W (intD x) (intD y) (ok_i64 hx) (ok_i64 hy)
  rw [show cmpD (intD x) (intD y) = 1 from by rw [cmp_int]; unfold sgn; rw [if_neg (by omega), if_pos (by omega)]] at hcm
  have him := fun W => may_ok (ok_i64 hx) W
  have HC := hid (Cells.fresh w 41 [.bool a.neg, .string ⟨(dtxt a.n).toArray⟩, .int .i64 (a.s : Int), .bool b.neg, .string ⟨(dtxt b.n).toArray⟩, .int .i64 (b.s : Int), .bool c.neg, .string ⟨(dtxt c.n).toArray⟩, .int .i64 (c.s : Int)])
  have HK := hid ((Kp.refl [] w).alloc (.cells #[.bool a.neg, .string ⟨(dtxt a.n).toArray⟩, .int .i64 (a.s : Int), .bool b.neg, .string ⟨(dtxt b.n).toArray⟩, .int .i64 (b.s : Int), .bool c.neg, .string ⟨(dtxt c.n).toArray⟩, .int .i64 (c.s : Int)] 41))
  have hma := fun W => may_ok ha W
  have hmb := fun W => may_ok hb W
  have hmc := fun W => may_ok hc W
  have q1 := fun W => cmpD_any W a b ha hb
  have q2 := fun W => cmpD_any W b c hb hc
  have q3 := fun W => cmpD_any W a c ha hc
  have hlaw := cmpD_le_trans (a := a) (b := b) (c := c)
  obtain ⟨g1, e1⟩ : ∃ g, g = cmpD a b := ⟨_, rfl⟩
  obtain ⟨g2, e2⟩ : ∃ g, g = cmpD b c := ⟨_, rfl⟩
  obtain ⟨g3, e3⟩ : ∃ g, g = cmpD a c := ⟨_, rfl⟩
  simp only [← e1, ← e2, ← e3] at q1 q2 q3 hlaw
  clear e1 e2 e3 ha hb hc
  obtain ⟨I, hI⟩ : ∃ I, I = intD x := ⟨_, rfl⟩
  obtain ⟨J, hJ⟩ : ∃ J, J = intD y := ⟨_, rfl⟩
  simp only [← hI, ← hJ] at hi1 hi2 hcm him
  clear hI hJ
  by_cases h1 : 0 < g1
  · clear hlaw q2 q3
    go_enter Tryd.func10, Tryd.ntmps10
    go_wp2_with fail
    refine (hsh _).mono ?_
    rintro e w1 ⟨rfl, k1⟩
    go_wp2_with fail
    refine (hi1 _).mono ?_
    rintro e w2 ⟨rfl, k2⟩
    go_wp2_with fail
    refine (hi2 _).mono ?_
    rintro e w3 ⟨rfl, k3⟩
    go_wp2_with fail
    refine (hcm _).mono ?_
    rintro e w4 ⟨rfl, k4⟩
    go_wp2_with fail
    refine (hi1 _).mono ?_
    rintro e w5 ⟨rfl, k5⟩
    go_wp2_with fail
    refine (him _).mono ?_
    rintro e w6 ⟨rfl, k6⟩
    have KK := ((((k1.nil k2).nil k3).nil k4).nil k5).nil k6
    have C := HC.out.keep KK (by simp)
    have z0 : _ = some (Value.bool a.neg) := C.cell 0
    have z1 : _ = some (Value.string ⟨(dtxt a.n).toArray⟩) := C.cell 1
    have z2 : _ = some (Value.int .i64 (a.s : Int)) := C.cell 2
    have z3 : _ = some (Value.bool b.neg) := C.cell 3
    have z4 : _ = some (Value.string ⟨(dtxt b.n).toArray⟩) := C.cell 4
    have z5 : _ = some (Value.int .i64 (b.s : Int)) := C.cell 5
    have z6 : _ = some (Value.bool c.neg) := C.cell 6
    have z7 : _ = some (Value.string ⟨(dtxt c.n).toArray⟩) := C.cell 7
    have z8 : _ = some (Value.int .i64 (c.s : Int)) := C.cell 8
    go_wp2_with fail
    refine (hma _).mono ?_
    rintro e w7 ⟨rfl, k7⟩
    replace z0 := k7.cell z0 (by simp)
    replace z1 := k7.cell z1 (by simp)
    replace z2 := k7.cell z2 (by simp)
    replace z3 := k7.cell z3 (by simp)
    replace z4 := k7.cell z4 (by simp)
    replace z5 := k7.cell z5 (by simp)
    replace z6 := k7.cell z6 (by simp)
    replace z7 := k7.cell z7 (by simp)
    replace z8 := k7.cell z8 (by simp)
    go_wp2_with fail
    refine (hmb _).mono ?_
    rintro e w8 ⟨rfl, k8⟩
    replace z0 := k8.cell z0 (by simp)
    replace z1 := k8.cell z1 (by simp)
    replace z2 := k8.cell z2 (by simp)
    replace z3 := k8.cell z3 (by simp)
    replace z4 := k8.cell z4 (by simp)
    replace z5 := k8.cell z5 (by simp)
    replace z6 := k8.cell z6 (by simp)
    replace z7 := k8.cell z7 (by simp)
    replace z8 := k8.cell z8 (by simp)
    go_wp2_with fail
    refine (hmc _).mono ?_
    rintro e w9 ⟨rfl, k9⟩
    replace z0 := k9.cell z0 (by simp)
    replace z1 := k9.cell z1 (by simp)
    replace z2 := k9.cell z2 (by simp)
    replace z3 := k9.cell z3 (by simp)
    replace z4 := k9.cell z4 (by simp)
    replace z5 := k9.cell z5 (by simp)
    replace z6 := k9.cell z6 (by simp)
    replace z7 := k9.cell z7 (by simp)
    replace z8 := k9.cell z8 (by simp)
    go_wp2_with fail
    refine (q1 _).mono ?_
    rintro e w10 ⟨rfl, k10⟩
    replace z0 := k10.cell z0 (by simp)
    replace z1 := k10.cell z1 (by simp)
    replace z2 := k10.cell z2 (by simp)
    replace z3 := k10.cell z3 (by simp)
    replace z4 := k10.cell z4 (by simp)
    replace z5 := k10.cell z5 (by simp)
    replace z6 := k10.cell z6 (by simp)
    replace z7 := k10.cell z7 (by simp)
    replace z8 := k10.cell z8 (by simp)
    go_wp2_with fail
    go_ret
    exact ⟨rfl, ((((((((((HK.out.nil k1).nil k2).nil k3).nil k4).nil k5).nil k6).nil k7).nil k8).nil k9).nil k10)⟩
  by_cases h2 : 0 < g2
  · have h1 : g1 ≤ 0 := by omega
    clear hlaw q3
    go_enter Tryd.func10, Tryd.ntmps10
    go_wp2_with fail
    refine (hsh _).mono ?_
    rintro e w1 ⟨rfl, k1⟩
    go_wp2_with fail
    refine (hi1 _).mono ?_
    rintro e w2 ⟨rfl, k2⟩
    go_wp2_with fail
    refine (hi2 _).mono ?_
    rintro e w3 ⟨rfl, k3⟩
    go_wp2_with fail
    refine (hcm _).mono ?_
    rintro e w4 ⟨rfl, k4⟩
    go_wp2_with fail
    refine (hi1 _).mono ?_
    rintro e w5 ⟨rfl, k5⟩
    go_wp2_with fail
    refine (him _).mono ?_
    rintro e w6 ⟨rfl, k6⟩
    have KK := ((((k1.nil k2).nil k3).nil k4).nil k5).nil k6
    have C := HC.out.keep KK (by simp)
    have z0 : _ = some (Value.bool a.neg) := C.cell 0
    have z1 : _ = some (Value.string ⟨(dtxt a.n).toArray⟩) := C.cell 1
    have z2 : _ = some (Value.int .i64 (a.s : Int)) := C.cell 2
    have z3 : _ = some (Value.bool b.neg) := C.cell 3
    have z4 : _ = some (Value.string ⟨(dtxt b.n).toArray⟩) := C.cell 4
    have z5 : _ = some (Value.int .i64 (b.s : Int)) := C.cell 5
    have z6 : _ = some (Value.bool c.neg) := C.cell 6
    have z7 : _ = some (Value.string ⟨(dtxt c.n).toArray⟩) := C.cell 7
    have z8 : _ = some (Value.int .i64 (c.s : Int)) := C.cell 8
    go_wp2_with fail
    refine (hma _).mono ?_
    rintro e w7 ⟨rfl, k7⟩
    replace z0 := k7.cell z0 (by simp)
    replace z1 := k7.cell z1 (by simp)
    replace z2 := k7.cell z2 (by simp)
    replace z3 := k7.cell z3 (by simp)
    replace z4 := k7.cell z4 (by simp)
    replace z5 := k7.cell z5 (by simp)
    replace z6 := k7.cell z6 (by simp)
    replace z7 := k7.cell z7 (by simp)
    replace z8 := k7.cell z8 (by simp)
    go_wp2_with fail
    refine (hmb _).mono ?_
    rintro e w8 ⟨rfl, k8⟩
    replace z0 := k8.cell z0 (by simp)
    replace z1 := k8.cell z1 (by simp)
    replace z2 := k8.cell z2 (by simp)
    replace z3 := k8.cell z3 (by simp)
    replace z4 := k8.cell z4 (by simp)
    replace z5 := k8.cell z5 (by simp)
    replace z6 := k8.cell z6 (by simp)
    replace z7 := k8.cell z7 (by simp)
    replace z8 := k8.cell z8 (by simp)
    go_wp2_with fail
    refine (hmc _).mono ?_
    rintro e w9 ⟨rfl, k9⟩
    replace z0 := k9.cell z0 (by simp)
    replace z1 := k9.cell z1 (by simp)
    replace z2 := k9.cell z2 (by simp)
    replace z3 := k9.cell z3 (by simp)
    replace z4 := k9.cell z4 (by simp)
    replace z5 := k9.cell z5 (by simp)
    replace z6 := k9.cell z6 (by simp)
    replace z7 := k9.cell z7 (by simp)
    replace z8 := k9.cell z8 (by simp)
    go_wp2_with fail
    refine (q1 _).mono ?_
    rintro e w10 ⟨rfl, k10⟩
    replace z0 := k10.cell z0 (by simp)
    replace z1 := k10.cell z1 (by simp)
    replace z2 := k10.cell z2 (by simp)
    replace z3 := k10.cell z3 (by simp)
    replace z4 := k10.cell z4 (by simp)
    replace z5 := k10.cell z5 (by simp)
    replace z6 := k10.cell z6 (by simp)
    replace z7 := k10.cell z7 (by simp)
    replace z8 := k10.cell z8 (by simp)
    go_wp2_with fail
    refine (q2 _).mono ?_
    rintro e w11 ⟨rfl, k11⟩
    replace z0 := k11.cell z0 (by simp)
    replace z1 := k11.cell z1 (by simp)
    replace z2 := k11.cell z2 (by simp)
    replace z3 := k11.cell z3 (by simp)
    replace z4 := k11.cell z4 (by simp)
    replace z5 := k11.cell z5 (by simp)
    replace z6 := k11.cell z6 (by simp)
    replace z7 := k11.cell z7 (by simp)
    replace z8 := k11.cell z8 (by simp)
    go_wp2_with fail
    go_ret
    exact ⟨rfl, (((((((((((HK.out.nil k1).nil k2).nil k3).nil k4).nil k5).nil k6).nil k7).nil k8).nil k9).nil k10).nil k11)⟩
  have h3 : g3 ≤ 0 := hlaw (by omega) (by omega)
  clear hlaw
  go_enter Tryd.func10, Tryd.ntmps10
  go_wp2_with fail
  refine (hsh _).mono ?_
  rintro e w1 ⟨rfl, k1⟩
  go_wp2_with fail
  refine (hi1 _).mono ?_
  rintro e w2 ⟨rfl, k2⟩
  go_wp2_with fail
  refine (hi2 _).mono ?_
  rintro e w3 ⟨rfl, k3⟩
  go_wp2_with fail
  refine (hcm _).mono ?_
  rintro e w4 ⟨rfl, k4⟩
  go_wp2_with fail
  refine (hi1 _).mono ?_
  rintro e w5 ⟨rfl, k5⟩
  go_wp2_with fail
  refine (him _).mono ?_
  rintro e w6 ⟨rfl, k6⟩
  have KK := ((((k1.nil k2).nil k3).nil k4).nil k5).nil k6
  have C := HC.out.keep KK (by simp)
  have z0 : _ = some (Value.bool a.neg) := C.cell 0
  have z1 : _ = some (Value.string ⟨(dtxt a.n).toArray⟩) := C.cell 1
  have z2 : _ = some (Value.int .i64 (a.s : Int)) := C.cell 2
  have z3 : _ = some (Value.bool b.neg) := C.cell 3
  have z4 : _ = some (Value.string ⟨(dtxt b.n).toArray⟩) := C.cell 4
  have z5 : _ = some (Value.int .i64 (b.s : Int)) := C.cell 5
  have z6 : _ = some (Value.bool c.neg) := C.cell 6
  have z7 : _ = some (Value.string ⟨(dtxt c.n).toArray⟩) := C.cell 7
  have z8 : _ = some (Value.int .i64 (c.s : Int)) := C.cell 8
  go_wp2_with fail
  refine (hma _).mono ?_
  rintro e w7 ⟨rfl, k7⟩
  replace z0 := k7.cell z0 (by simp)
  replace z1 := k7.cell z1 (by simp)
  replace z2 := k7.cell z2 (by simp)
  replace z3 := k7.cell z3 (by simp)
  replace z4 := k7.cell z4 (by simp)
  replace z5 := k7.cell z5 (by simp)
  replace z6 := k7.cell z6 (by simp)
  replace z7 := k7.cell z7 (by simp)
  replace z8 := k7.cell z8 (by simp)
  go_wp2_with fail
  refine (hmb _).mono ?_
  rintro e w8 ⟨rfl, k8⟩
  replace z0 := k8.cell z0 (by simp)
  replace z1 := k8.cell z1 (by simp)
  replace z2 := k8.cell z2 (by simp)
  replace z3 := k8.cell z3 (by simp)
  replace z4 := k8.cell z4 (by simp)
  replace z5 := k8.cell z5 (by simp)
  replace z6 := k8.cell z6 (by simp)
  replace z7 := k8.cell z7 (by simp)
  replace z8 := k8.cell z8 (by simp)
  go_wp2_with fail
  refine (hmc _).mono ?_
  rintro e w9 ⟨rfl, k9⟩
  replace z0 := k9.cell z0 (by simp)
  replace z1 := k9.cell z1 (by simp)
  replace z2 := k9.cell z2 (by simp)
  replace z3 := k9.cell z3 (by simp)
  replace z4 := k9.cell z4 (by simp)
  replace z5 := k9.cell z5 (by simp)
  replace z6 := k9.cell z6 (by simp)
  replace z7 := k9.cell z7 (by simp)
  replace z8 := k9.cell z8 (by simp)
  go_wp2_with fail
  refine (q1 _).mono ?_
  rintro e w10 ⟨rfl, k10⟩
  replace z0 := k10.cell z0 (by simp)
  replace z1 := k10.cell z1 (by simp)
  replace z2 := k10.cell z2 (by simp)
  replace z3 := k10.cell z3 (by simp)
  replace z4 := k10.cell z4 (by simp)
  replace z5 := k10.cell z5 (by simp)
  replace z6 := k10.cell z6 (by simp)
  replace z7 := k10.cell z7 (by simp)
  replace z8 := k10.cell z8 (by simp)
  go_wp2_with fail
  refine (q2 _).mono ?_
  rintro e w11 ⟨rfl, k11⟩
  replace z0 := k11.cell z0 (by simp)
  replace z1 := k11.cell z1 (by simp)
  replace z2 := k11.cell z2 (by simp)
  replace z3 := k11.cell z3 (by simp)
  replace z4 := k11.cell z4 (by simp)
  replace z5 := k11.cell z5 (by simp)
  replace z6 := k11.cell z6 (by simp)
  replace z7 := k11.cell z7 (by simp)
  replace z8 := k11.cell z8 (by simp)
  go_wp2_with fail
  refine (q3 _).mono ?_
  rintro e w12 ⟨rfl, k12⟩
  replace z0 := k12.cell z0 (by simp)
  replace z1 := k12.cell z1 (by simp)
  replace z2 := k12.cell z2 (by simp)
  replace z3 := k12.cell z3 (by simp)
  replace z4 := k12.cell z4 (by simp)
  replace z5 := k12.cell z5 (by simp)
  replace z6 := k12.cell z6 (by simp)
  replace z7 := k12.cell z7 (by simp)
  replace z8 := k12.cell z8 (by simp)
  go_wp2_with fail
  go_ret
  exact ⟨rfl, ((((((((((((HK.out.nil k1).nil k2).nil k3).nil k4).nil k5).nil k6).nil k7).nil k8).nil k9).nil k10).nil k11).nil k12)⟩
set_option maxRecDepth 100000 in
set_option maxHeartbeats 6400000 in
theorem order_eq_n0 (w : World) (x y : Int) (hx : -9223372036854775808 ≤ x ∧ x ≤ 9223372036854775807) (hy : -9223372036854775808 ≤ y ∧ y ≤ 9223372036854775807) (hxy : x = y) (a b c : RawD) (ha : a.ok) (ma : mayL a.neg a.l a.s = false) :
    Calls Tryd.prog 10 #[.agg #[.bool a.neg, .string ⟨a.l.toArray⟩, .int .i64 a.s, .bool b.neg, .string ⟨b.l.toArray⟩, .int .i64 b.s, .bool c.neg, .string ⟨c.l.toArray⟩, .int .i64 c.s], .int .i64 x, .int .i64 y] w (YesPost w) := by
  have hsh := fun W => shown_any W
  have hi1 := fun W => int_form W x hx
  have hi2 := fun W => int_form W y hy
  have hcm := fun W => cmpD_any W (intD x) (intD y) (ok_i64 hx) (ok_i64 hy)
  rw [show cmpD (intD x) (intD y) = 0 from by rw [cmp_int]; unfold sgn; rw [if_neg (by omega), if_neg (by omega)]] at hcm
  have him := fun W => may_ok (ok_i64 hx) W
  have HC := hid (Cells.fresh w 41 [.bool a.neg, .string ⟨a.l.toArray⟩, .int .i64 a.s, .bool b.neg, .string ⟨b.l.toArray⟩, .int .i64 b.s, .bool c.neg, .string ⟨c.l.toArray⟩, .int .i64 c.s])
  have HK := hid ((Kp.refl [] w).alloc (.cells #[.bool a.neg, .string ⟨a.l.toArray⟩, .int .i64 a.s, .bool b.neg, .string ⟨b.l.toArray⟩, .int .i64 b.s, .bool c.neg, .string ⟨c.l.toArray⟩, .int .i64 c.s] 41))
  have hma := fun W => may_not ha ma W
  clear ha
  obtain ⟨I, hI⟩ : ∃ I, I = intD x := ⟨_, rfl⟩
  obtain ⟨J, hJ⟩ : ∃ J, J = intD y := ⟨_, rfl⟩
  simp only [← hI, ← hJ] at hi1 hi2 hcm him
  clear hI hJ
  subst hxy
  go_enter Tryd.func10, Tryd.ntmps10
  go_wp2_with fail
  refine (hsh _).mono ?_
  rintro e w1 ⟨rfl, k1⟩
  go_wp2_with fail
  refine (hi1 _).mono ?_
  rintro e w2 ⟨rfl, k2⟩
  go_wp2_with fail
  refine (hi2 _).mono ?_
  rintro e w3 ⟨rfl, k3⟩
  go_wp2_with fail
  refine (hcm _).mono ?_
  rintro e w4 ⟨rfl, k4⟩
  go_wp2_with fail
  refine (hi1 _).mono ?_
  rintro e w5 ⟨rfl, k5⟩
  go_wp2_with fail
  refine (him _).mono ?_
  rintro e w6 ⟨rfl, k6⟩
  have KK := ((((k1.nil k2).nil k3).nil k4).nil k5).nil k6
  have C := HC.out.keep KK (by simp)
  have z0 : _ = some (Value.bool a.neg) := C.cell 0
  have z1 : _ = some (Value.string ⟨a.l.toArray⟩) := C.cell 1
  have z2 : _ = some (Value.int .i64 a.s) := C.cell 2
  go_wp2_with fail
  refine (hma _).mono ?_
  rintro e w7 ⟨rfl, k7⟩
  go_wp2_with fail
  go_ret
  exact ⟨rfl, (((((((HK.out.nil k1).nil k2).nil k3).nil k4).nil k5).nil k6).nil k7)⟩
set_option maxRecDepth 100000 in
set_option maxHeartbeats 6400000 in
theorem order_eq_n1 (w : World) (x y : Int) (hx : -9223372036854775808 ≤ x ∧ x ≤ 9223372036854775807) (hy : -9223372036854775808 ≤ y ∧ y ≤ 9223372036854775807) (hxy : x = y) (a b c : RawD) (ha : a.ok) (hb : b.ok) (ma : mayL a.neg a.l a.s = true) (mb : mayL b.neg b.l b.s = false) :
    Calls Tryd.prog 10 #[.agg #[.bool a.neg, .string ⟨a.l.toArray⟩, .int .i64 a.s, .bool b.neg, .string ⟨b.l.toArray⟩, .int .i64 b.s, .bool c.neg, .string ⟨c.l.toArray⟩, .int .i64 c.s], .int .i64 x, .int .i64 y] w (YesPost w) := by
  have hsh := fun W => shown_any W
  have hi1 := fun W => int_form W x hx
  have hi2 := fun W => int_form W y hy
  have hcm := fun W => cmpD_any W (intD x) (intD y) (ok_i64 hx) (ok_i64 hy)
  rw [show cmpD (intD x) (intD y) = 0 from by rw [cmp_int]; unfold sgn; rw [if_neg (by omega), if_neg (by omega)]] at hcm
  have him := fun W => may_ok (ok_i64 hx) W
  have HC := hid (Cells.fresh w 41 [.bool a.neg, .string ⟨a.l.toArray⟩, .int .i64 a.s, .bool b.neg, .string ⟨b.l.toArray⟩, .int .i64 b.s, .bool c.neg, .string ⟨c.l.toArray⟩, .int .i64 c.s])
  have HK := hid ((Kp.refl [] w).alloc (.cells #[.bool a.neg, .string ⟨a.l.toArray⟩, .int .i64 a.s, .bool b.neg, .string ⟨b.l.toArray⟩, .int .i64 b.s, .bool c.neg, .string ⟨c.l.toArray⟩, .int .i64 c.s] 41))
  have hma := fun W => may_yes ha ma W
  have hmb := fun W => may_not hb mb W
  clear ha hb
  obtain ⟨I, hI⟩ : ∃ I, I = intD x := ⟨_, rfl⟩
  obtain ⟨J, hJ⟩ : ∃ J, J = intD y := ⟨_, rfl⟩
  simp only [← hI, ← hJ] at hi1 hi2 hcm him
  clear hI hJ
  subst hxy
  go_enter Tryd.func10, Tryd.ntmps10
  go_wp2_with fail
  refine (hsh _).mono ?_
  rintro e w1 ⟨rfl, k1⟩
  go_wp2_with fail
  refine (hi1 _).mono ?_
  rintro e w2 ⟨rfl, k2⟩
  go_wp2_with fail
  refine (hi2 _).mono ?_
  rintro e w3 ⟨rfl, k3⟩
  go_wp2_with fail
  refine (hcm _).mono ?_
  rintro e w4 ⟨rfl, k4⟩
  go_wp2_with fail
  refine (hi1 _).mono ?_
  rintro e w5 ⟨rfl, k5⟩
  go_wp2_with fail
  refine (him _).mono ?_
  rintro e w6 ⟨rfl, k6⟩
  have KK := ((((k1.nil k2).nil k3).nil k4).nil k5).nil k6
  have C := HC.out.keep KK (by simp)
  have z0 : _ = some (Value.bool a.neg) := C.cell 0
  have z1 : _ = some (Value.string ⟨a.l.toArray⟩) := C.cell 1
  have z2 : _ = some (Value.int .i64 a.s) := C.cell 2
  have z3 : _ = some (Value.bool b.neg) := C.cell 3
  have z4 : _ = some (Value.string ⟨b.l.toArray⟩) := C.cell 4
  have z5 : _ = some (Value.int .i64 b.s) := C.cell 5
  go_wp2_with fail
  refine (hma _).mono ?_
  rintro e w7 ⟨rfl, k7⟩
  replace z0 := k7.cell z0 (by simp)
  replace z1 := k7.cell z1 (by simp)
  replace z2 := k7.cell z2 (by simp)
  replace z3 := k7.cell z3 (by simp)
  replace z4 := k7.cell z4 (by simp)
  replace z5 := k7.cell z5 (by simp)
  go_wp2_with fail
  refine (hmb _).mono ?_
  rintro e w8 ⟨rfl, k8⟩
  go_wp2_with fail
  go_ret
  exact ⟨rfl, ((((((((HK.out.nil k1).nil k2).nil k3).nil k4).nil k5).nil k6).nil k7).nil k8)⟩
set_option maxRecDepth 100000 in
set_option maxHeartbeats 6400000 in
theorem order_eq_n2 (w : World) (x y : Int) (hx : -9223372036854775808 ≤ x ∧ x ≤ 9223372036854775807) (hy : -9223372036854775808 ≤ y ∧ y ≤ 9223372036854775807) (hxy : x = y) (a b c : RawD) (ha : a.ok) (hb : b.ok) (hc : c.ok) (ma : mayL a.neg a.l a.s = true) (mb : mayL b.neg b.l b.s = true) (mc : mayL c.neg c.l c.s = false) :
    Calls Tryd.prog 10 #[.agg #[.bool a.neg, .string ⟨a.l.toArray⟩, .int .i64 a.s, .bool b.neg, .string ⟨b.l.toArray⟩, .int .i64 b.s, .bool c.neg, .string ⟨c.l.toArray⟩, .int .i64 c.s], .int .i64 x, .int .i64 y] w (YesPost w) := by
  have hsh := fun W => shown_any W
  have hi1 := fun W => int_form W x hx
  have hi2 := fun W => int_form W y hy
  have hcm := fun W => cmpD_any W (intD x) (intD y) (ok_i64 hx) (ok_i64 hy)
  rw [show cmpD (intD x) (intD y) = 0 from by rw [cmp_int]; unfold sgn; rw [if_neg (by omega), if_neg (by omega)]] at hcm
  have him := fun W => may_ok (ok_i64 hx) W
  have HC := hid (Cells.fresh w 41 [.bool a.neg, .string ⟨a.l.toArray⟩, .int .i64 a.s, .bool b.neg, .string ⟨b.l.toArray⟩, .int .i64 b.s, .bool c.neg, .string ⟨c.l.toArray⟩, .int .i64 c.s])
  have HK := hid ((Kp.refl [] w).alloc (.cells #[.bool a.neg, .string ⟨a.l.toArray⟩, .int .i64 a.s, .bool b.neg, .string ⟨b.l.toArray⟩, .int .i64 b.s, .bool c.neg, .string ⟨c.l.toArray⟩, .int .i64 c.s] 41))
  have hma := fun W => may_yes ha ma W
  have hmb := fun W => may_yes hb mb W
  have hmc := fun W => may_not hc mc W
  clear ha hb hc
  obtain ⟨I, hI⟩ : ∃ I, I = intD x := ⟨_, rfl⟩
  obtain ⟨J, hJ⟩ : ∃ J, J = intD y := ⟨_, rfl⟩
  simp only [← hI, ← hJ] at hi1 hi2 hcm him
  clear hI hJ
  subst hxy
  go_enter Tryd.func10, Tryd.ntmps10
  go_wp2_with fail
  refine (hsh _).mono ?_
  rintro e w1 ⟨rfl, k1⟩
  go_wp2_with fail
  refine (hi1 _).mono ?_
  rintro e w2 ⟨rfl, k2⟩
  go_wp2_with fail
  refine (hi2 _).mono ?_
  rintro e w3 ⟨rfl, k3⟩
  go_wp2_with fail
  refine (hcm _).mono ?_
  rintro e w4 ⟨rfl, k4⟩
  go_wp2_with fail
  refine (hi1 _).mono ?_
  rintro e w5 ⟨rfl, k5⟩
  go_wp2_with fail
  refine (him _).mono ?_
  rintro e w6 ⟨rfl, k6⟩
  have KK := ((((k1.nil k2).nil k3).nil k4).nil k5).nil k6
  have C := HC.out.keep KK (by simp)
  have z0 : _ = some (Value.bool a.neg) := C.cell 0
  have z1 : _ = some (Value.string ⟨a.l.toArray⟩) := C.cell 1
  have z2 : _ = some (Value.int .i64 a.s) := C.cell 2
  have z3 : _ = some (Value.bool b.neg) := C.cell 3
  have z4 : _ = some (Value.string ⟨b.l.toArray⟩) := C.cell 4
  have z5 : _ = some (Value.int .i64 b.s) := C.cell 5
  have z6 : _ = some (Value.bool c.neg) := C.cell 6
  have z7 : _ = some (Value.string ⟨c.l.toArray⟩) := C.cell 7
  have z8 : _ = some (Value.int .i64 c.s) := C.cell 8
  go_wp2_with fail
  refine (hma _).mono ?_
  rintro e w7 ⟨rfl, k7⟩
  replace z0 := k7.cell z0 (by simp)
  replace z1 := k7.cell z1 (by simp)
  replace z2 := k7.cell z2 (by simp)
  replace z3 := k7.cell z3 (by simp)
  replace z4 := k7.cell z4 (by simp)
  replace z5 := k7.cell z5 (by simp)
  replace z6 := k7.cell z6 (by simp)
  replace z7 := k7.cell z7 (by simp)
  replace z8 := k7.cell z8 (by simp)
  go_wp2_with fail
  refine (hmb _).mono ?_
  rintro e w8 ⟨rfl, k8⟩
  replace z0 := k8.cell z0 (by simp)
  replace z1 := k8.cell z1 (by simp)
  replace z2 := k8.cell z2 (by simp)
  replace z3 := k8.cell z3 (by simp)
  replace z4 := k8.cell z4 (by simp)
  replace z5 := k8.cell z5 (by simp)
  replace z6 := k8.cell z6 (by simp)
  replace z7 := k8.cell z7 (by simp)
  replace z8 := k8.cell z8 (by simp)
  go_wp2_with fail
  refine (hmc _).mono ?_
  rintro e w9 ⟨rfl, k9⟩
  go_wp2_with fail
  go_ret
  exact ⟨rfl, (((((((((HK.out.nil k1).nil k2).nil k3).nil k4).nil k5).nil k6).nil k7).nil k8).nil k9)⟩
set_option maxRecDepth 100000 in
set_option maxHeartbeats 6400000 in
theorem order_eq_a (w : World) (x y : Int) (hx : -9223372036854775808 ≤ x ∧ x ≤ 9223372036854775807) (hy : -9223372036854775808 ≤ y ∧ y ≤ 9223372036854775807) (hxy : x = y) (a b c : Dc) (ha : Ok a) (hb : Ok b) (hc : Ok c) :
    Calls Tryd.prog 10 #[.agg #[.bool a.neg, .string ⟨(dtxt a.n).toArray⟩, .int .i64 (a.s : Int), .bool b.neg, .string ⟨(dtxt b.n).toArray⟩, .int .i64 (b.s : Int), .bool c.neg, .string ⟨(dtxt c.n).toArray⟩, .int .i64 (c.s : Int)], .int .i64 x, .int .i64 y] w (YesPost w) := by
  have hsh := fun W => shown_any W
  have hi1 := fun W => int_form W x hx
  have hi2 := fun W => int_form W y hy
  have hcm := fun W => cmpD_any W (intD x) (intD y) (ok_i64 hx) (ok_i64 hy)
  rw [show cmpD (intD x) (intD y) = 0 from by rw [cmp_int]; unfold sgn; rw [if_neg (by omega), if_neg (by omega)]] at hcm
  have him := fun W => may_ok (ok_i64 hx) W
  have HC := hid (Cells.fresh w 41 [.bool a.neg, .string ⟨(dtxt a.n).toArray⟩, .int .i64 (a.s : Int), .bool b.neg, .string ⟨(dtxt b.n).toArray⟩, .int .i64 (b.s : Int), .bool c.neg, .string ⟨(dtxt c.n).toArray⟩, .int .i64 (c.s : Int)])
  have HK := hid ((Kp.refl [] w).alloc (.cells #[.bool a.neg, .string ⟨(dtxt a.n).toArray⟩, .int .i64 (a.s : Int), .bool b.neg, .string ⟨(dtxt b.n).toArray⟩, .int .i64 (b.s : Int), .bool c.neg, .string ⟨(dtxt c.n).toArray⟩, .int .i64 (c.s : Int)] 41))
  have hma := fun W => may_ok ha W
  have hmb := fun W => may_ok hb W
  have hmc := fun W => may_ok hc W
  have q1 := fun W => cmpD_any W a b ha hb
  have q2 := fun W => cmpD_any W b c hb hc
  have q3 := fun W => cmpD_any W a c ha hc
  have hlaw := cmpD_le_trans (a := a) (b := b) (c := c)
  obtain ⟨g1, e1⟩ : ∃ g, g = cmpD a b := ⟨_, rfl⟩
  obtain ⟨g2, e2⟩ : ∃ g, g = cmpD b c := ⟨_, rfl⟩
  obtain ⟨g3, e3⟩ : ∃ g, g = cmpD a c := ⟨_, rfl⟩
  simp only [← e1, ← e2, ← e3] at q1 q2 q3 hlaw
  clear e1 e2 e3 ha hb hc
  obtain ⟨I, hI⟩ : ∃ I, I = intD x := ⟨_, rfl⟩
  obtain ⟨J, hJ⟩ : ∃ J, J = intD y := ⟨_, rfl⟩
  simp only [← hI, ← hJ] at hi1 hi2 hcm him
  clear hI hJ
  subst hxy
  by_cases h1 : 0 < g1
  · clear hlaw q2 q3
    go_enter Tryd.func10, Tryd.ntmps10
    go_wp2_with fail
    refine (hsh _).mono ?_
    rintro e w1 ⟨rfl, k1⟩
    go_wp2_with fail
    refine (hi1 _).mono ?_
    rintro e w2 ⟨rfl, k2⟩
    go_wp2_with fail
    refine (hi2 _).mono ?_
    rintro e w3 ⟨rfl, k3⟩
    go_wp2_with fail
    refine (hcm _).mono ?_
    rintro e w4 ⟨rfl, k4⟩
    go_wp2_with fail
    refine (hi1 _).mono ?_
    rintro e w5 ⟨rfl, k5⟩
    go_wp2_with fail
    refine (him _).mono ?_
    rintro e w6 ⟨rfl, k6⟩
    have KK := ((((k1.nil k2).nil k3).nil k4).nil k5).nil k6
    have C := HC.out.keep KK (by simp)
    have z0 : _ = some (Value.bool a.neg) := C.cell 0
    have z1 : _ = some (Value.string ⟨(dtxt a.n).toArray⟩) := C.cell 1
    have z2 : _ = some (Value.int .i64 (a.s : Int)) := C.cell 2
    have z3 : _ = some (Value.bool b.neg) := C.cell 3
    have z4 : _ = some (Value.string ⟨(dtxt b.n).toArray⟩) := C.cell 4
    have z5 : _ = some (Value.int .i64 (b.s : Int)) := C.cell 5
    have z6 : _ = some (Value.bool c.neg) := C.cell 6
    have z7 : _ = some (Value.string ⟨(dtxt c.n).toArray⟩) := C.cell 7
    have z8 : _ = some (Value.int .i64 (c.s : Int)) := C.cell 8
    go_wp2_with fail
    refine (hma _).mono ?_
    rintro e w7 ⟨rfl, k7⟩
    replace z0 := k7.cell z0 (by simp)
    replace z1 := k7.cell z1 (by simp)
    replace z2 := k7.cell z2 (by simp)
    replace z3 := k7.cell z3 (by simp)
    replace z4 := k7.cell z4 (by simp)
    replace z5 := k7.cell z5 (by simp)
    replace z6 := k7.cell z6 (by simp)
    replace z7 := k7.cell z7 (by simp)
    replace z8 := k7.cell z8 (by simp)
    go_wp2_with fail
    refine (hmb _).mono ?_
    rintro e w8 ⟨rfl, k8⟩
    replace z0 := k8.cell z0 (by simp)
    replace z1 := k8.cell z1 (by simp)
    replace z2 := k8.cell z2 (by simp)
    replace z3 := k8.cell z3 (by simp)
    replace z4 := k8.cell z4 (by simp)
    replace z5 := k8.cell z5 (by simp)
    replace z6 := k8.cell z6 (by simp)
    replace z7 := k8.cell z7 (by simp)
    replace z8 := k8.cell z8 (by simp)
    go_wp2_with fail
    refine (hmc _).mono ?_
    rintro e w9 ⟨rfl, k9⟩
    replace z0 := k9.cell z0 (by simp)
    replace z1 := k9.cell z1 (by simp)
    replace z2 := k9.cell z2 (by simp)
    replace z3 := k9.cell z3 (by simp)
    replace z4 := k9.cell z4 (by simp)
    replace z5 := k9.cell z5 (by simp)
    replace z6 := k9.cell z6 (by simp)
    replace z7 := k9.cell z7 (by simp)
    replace z8 := k9.cell z8 (by simp)
    go_wp2_with fail
    refine (q1 _).mono ?_
    rintro e w10 ⟨rfl, k10⟩
    replace z0 := k10.cell z0 (by simp)
    replace z1 := k10.cell z1 (by simp)
    replace z2 := k10.cell z2 (by simp)
    replace z3 := k10.cell z3 (by simp)
    replace z4 := k10.cell z4 (by simp)
    replace z5 := k10.cell z5 (by simp)
    replace z6 := k10.cell z6 (by simp)
    replace z7 := k10.cell z7 (by simp)
    replace z8 := k10.cell z8 (by simp)
    go_wp2_with fail
    go_ret
    exact ⟨rfl, ((((((((((HK.out.nil k1).nil k2).nil k3).nil k4).nil k5).nil k6).nil k7).nil k8).nil k9).nil k10)⟩
  by_cases h2 : 0 < g2
  · have h1 : g1 ≤ 0 := by omega
    clear hlaw q3
    go_enter Tryd.func10, Tryd.ntmps10
    go_wp2_with fail
    refine (hsh _).mono ?_
    rintro e w1 ⟨rfl, k1⟩
    go_wp2_with fail
    refine (hi1 _).mono ?_
    rintro e w2 ⟨rfl, k2⟩
    go_wp2_with fail
    refine (hi2 _).mono ?_
    rintro e w3 ⟨rfl, k3⟩
    go_wp2_with fail
    refine (hcm _).mono ?_
    rintro e w4 ⟨rfl, k4⟩
    go_wp2_with fail
    refine (hi1 _).mono ?_
    rintro e w5 ⟨rfl, k5⟩
    go_wp2_with fail
    refine (him _).mono ?_
    rintro e w6 ⟨rfl, k6⟩
    have KK := ((((k1.nil k2).nil k3).nil k4).nil k5).nil k6
    have C := HC.out.keep KK (by simp)
    have z0 : _ = some (Value.bool a.neg) := C.cell 0
    have z1 : _ = some (Value.string ⟨(dtxt a.n).toArray⟩) := C.cell 1
    have z2 : _ = some (Value.int .i64 (a.s : Int)) := C.cell 2
    have z3 : _ = some (Value.bool b.neg) := C.cell 3
    have z4 : _ = some (Value.string ⟨(dtxt b.n).toArray⟩) := C.cell 4
    have z5 : _ = some (Value.int .i64 (b.s : Int)) := C.cell 5
    have z6 : _ = some (Value.bool c.neg) := C.cell 6
    have z7 : _ = some (Value.string ⟨(dtxt c.n).toArray⟩) := C.cell 7
    have z8 : _ = some (Value.int .i64 (c.s : Int)) := C.cell 8
    go_wp2_with fail
    refine (hma _).mono ?_
    rintro e w7 ⟨rfl, k7⟩
    replace z0 := k7.cell z0 (by simp)
    replace z1 := k7.cell z1 (by simp)
    replace z2 := k7.cell z2 (by simp)
    replace z3 := k7.cell z3 (by simp)
    replace z4 := k7.cell z4 (by simp)
    replace z5 := k7.cell z5 (by simp)
    replace z6 := k7.cell z6 (by simp)
    replace z7 := k7.cell z7 (by simp)
    replace z8 := k7.cell z8 (by simp)
    go_wp2_with fail
    refine (hmb _).mono ?_
    rintro e w8 ⟨rfl, k8⟩
    replace z0 := k8.cell z0 (by simp)
    replace z1 := k8.cell z1 (by simp)
    replace z2 := k8.cell z2 (by simp)
    replace z3 := k8.cell z3 (by simp)
    replace z4 := k8.cell z4 (by simp)
    replace z5 := k8.cell z5 (by simp)
    replace z6 := k8.cell z6 (by simp)
    replace z7 := k8.cell z7 (by simp)
    replace z8 := k8.cell z8 (by simp)
    go_wp2_with fail
    refine (hmc _).mono ?_
    rintro e w9 ⟨rfl, k9⟩
    replace z0 := k9.cell z0 (by simp)
    replace z1 := k9.cell z1 (by simp)
    replace z2 := k9.cell z2 (by simp)
    replace z3 := k9.cell z3 (by simp)
    replace z4 := k9.cell z4 (by simp)
    replace z5 := k9.cell z5 (by simp)
    replace z6 := k9.cell z6 (by simp)
    replace z7 := k9.cell z7 (by simp)
    replace z8 := k9.cell z8 (by simp)
    go_wp2_with fail
    refine (q1 _).mono ?_
    rintro e w10 ⟨rfl, k10⟩
    replace z0 := k10.cell z0 (by simp)
    replace z1 := k10.cell z1 (by simp)
    replace z2 := k10.cell z2 (by simp)
    replace z3 := k10.cell z3 (by simp)
    replace z4 := k10.cell z4 (by simp)
    replace z5 := k10.cell z5 (by simp)
    replace z6 := k10.cell z6 (by simp)
    replace z7 := k10.cell z7 (by simp)
    replace z8 := k10.cell z8 (by simp)
    go_wp2_with fail
    refine (q2 _).mono ?_
    rintro e w11 ⟨rfl, k11⟩
    replace z0 := k11.cell z0 (by simp)
    replace z1 := k11.cell z1 (by simp)
    replace z2 := k11.cell z2 (by simp)
    replace z3 := k11.cell z3 (by simp)
    replace z4 := k11.cell z4 (by simp)
    replace z5 := k11.cell z5 (by simp)
    replace z6 := k11.cell z6 (by simp)
    replace z7 := k11.cell z7 (by simp)
    replace z8 := k11.cell z8 (by simp)
    go_wp2_with fail
    go_ret
    exact ⟨rfl, (((((((((((HK.out.nil k1).nil k2).nil k3).nil k4).nil k5).nil k6).nil k7).nil k8).nil k9).nil k10).nil k11)⟩
  have h3 : g3 ≤ 0 := hlaw (by omega) (by omega)
  clear hlaw
  go_enter Tryd.func10, Tryd.ntmps10
  go_wp2_with fail
  refine (hsh _).mono ?_
  rintro e w1 ⟨rfl, k1⟩
  go_wp2_with fail
  refine (hi1 _).mono ?_
  rintro e w2 ⟨rfl, k2⟩
  go_wp2_with fail
  refine (hi2 _).mono ?_
  rintro e w3 ⟨rfl, k3⟩
  go_wp2_with fail
  refine (hcm _).mono ?_
  rintro e w4 ⟨rfl, k4⟩
  go_wp2_with fail
  refine (hi1 _).mono ?_
  rintro e w5 ⟨rfl, k5⟩
  go_wp2_with fail
  refine (him _).mono ?_
  rintro e w6 ⟨rfl, k6⟩
  have KK := ((((k1.nil k2).nil k3).nil k4).nil k5).nil k6
  have C := HC.out.keep KK (by simp)
  have z0 : _ = some (Value.bool a.neg) := C.cell 0
  have z1 : _ = some (Value.string ⟨(dtxt a.n).toArray⟩) := C.cell 1
  have z2 : _ = some (Value.int .i64 (a.s : Int)) := C.cell 2
  have z3 : _ = some (Value.bool b.neg) := C.cell 3
  have z4 : _ = some (Value.string ⟨(dtxt b.n).toArray⟩) := C.cell 4
  have z5 : _ = some (Value.int .i64 (b.s : Int)) := C.cell 5
  have z6 : _ = some (Value.bool c.neg) := C.cell 6
  have z7 : _ = some (Value.string ⟨(dtxt c.n).toArray⟩) := C.cell 7
  have z8 : _ = some (Value.int .i64 (c.s : Int)) := C.cell 8
  go_wp2_with fail
  refine (hma _).mono ?_
  rintro e w7 ⟨rfl, k7⟩
  replace z0 := k7.cell z0 (by simp)
  replace z1 := k7.cell z1 (by simp)
  replace z2 := k7.cell z2 (by simp)
  replace z3 := k7.cell z3 (by simp)
  replace z4 := k7.cell z4 (by simp)
  replace z5 := k7.cell z5 (by simp)
  replace z6 := k7.cell z6 (by simp)
  replace z7 := k7.cell z7 (by simp)
  replace z8 := k7.cell z8 (by simp)
  go_wp2_with fail
  refine (hmb _).mono ?_
  rintro e w8 ⟨rfl, k8⟩
  replace z0 := k8.cell z0 (by simp)
  replace z1 := k8.cell z1 (by simp)
  replace z2 := k8.cell z2 (by simp)
  replace z3 := k8.cell z3 (by simp)
  replace z4 := k8.cell z4 (by simp)
  replace z5 := k8.cell z5 (by simp)
  replace z6 := k8.cell z6 (by simp)
  replace z7 := k8.cell z7 (by simp)
  replace z8 := k8.cell z8 (by simp)
  go_wp2_with fail
  refine (hmc _).mono ?_
  rintro e w9 ⟨rfl, k9⟩
  replace z0 := k9.cell z0 (by simp)
  replace z1 := k9.cell z1 (by simp)
  replace z2 := k9.cell z2 (by simp)
  replace z3 := k9.cell z3 (by simp)
  replace z4 := k9.cell z4 (by simp)
  replace z5 := k9.cell z5 (by simp)
  replace z6 := k9.cell z6 (by simp)
  replace z7 := k9.cell z7 (by simp)
  replace z8 := k9.cell z8 (by simp)
  go_wp2_with fail
  refine (q1 _).mono ?_
  rintro e w10 ⟨rfl, k10⟩
  replace z0 := k10.cell z0 (by simp)
  replace z1 := k10.cell z1 (by simp)
  replace z2 := k10.cell z2 (by simp)
  replace z3 := k10.cell z3 (by simp)
  replace z4 := k10.cell z4 (by simp)
  replace z5 := k10.cell z5 (by simp)
  replace z6 := k10.cell z6 (by simp)
  replace z7 := k10.cell z7 (by simp)
  replace z8 := k10.cell z8 (by simp)
  go_wp2_with fail
  refine (q2 _).mono ?_
  rintro e w11 ⟨rfl, k11⟩
  replace z0 := k11.cell z0 (by simp)
  replace z1 := k11.cell z1 (by simp)
  replace z2 := k11.cell z2 (by simp)
  replace z3 := k11.cell z3 (by simp)
  replace z4 := k11.cell z4 (by simp)
  replace z5 := k11.cell z5 (by simp)
  replace z6 := k11.cell z6 (by simp)
  replace z7 := k11.cell z7 (by simp)
  replace z8 := k11.cell z8 (by simp)
  go_wp2_with fail
  refine (q3 _).mono ?_
  rintro e w12 ⟨rfl, k12⟩
  replace z0 := k12.cell z0 (by simp)
  replace z1 := k12.cell z1 (by simp)
  replace z2 := k12.cell z2 (by simp)
  replace z3 := k12.cell z3 (by simp)
  replace z4 := k12.cell z4 (by simp)
  replace z5 := k12.cell z5 (by simp)
  replace z6 := k12.cell z6 (by simp)
  replace z7 := k12.cell z7 (by simp)
  replace z8 := k12.cell z8 (by simp)
  go_wp2_with fail
  go_ret
  exact ⟨rfl, ((((((((((((HK.out.nil k1).nil k2).nil k3).nil k4).nil k5).nil k6).nil k7).nil k8).nil k9).nil k10).nil k11).nil k12)⟩
theorem order_any (w : World) (a b c : RawD) (ha : a.ok) (hb : b.ok) (hc : c.ok) (x y : Int) (hx : -9223372036854775808 ≤ x ∧ x ≤ 9223372036854775807) (hy : -9223372036854775808 ≤ y ∧ y ≤ 9223372036854775807) :
    Calls Tryd.prog 10 #[.agg (a.cs ++ b.cs ++ c.cs).toArray, .int .i64 x, .int .i64 y] w (YesPost w) := by
  cases ma : mayL a.neg a.l a.s with
  | false =>
    rcases Int.lt_trichotomy x y with h | h | h
    · exact order_lt_n0 w x y hx hy h a b c ha ma
    · exact order_eq_n0 w x y hx hy h a b c ha ma
    · exact order_gt_n0 w x y hx hy h a b c ha ma
  | true =>
    cases mb : mayL b.neg b.l b.s with
    | false =>
      rcases Int.lt_trichotomy x y with h | h | h
      · exact order_lt_n1 w x y hx hy h a b c ha hb ma mb
      · exact order_eq_n1 w x y hx hy h a b c ha hb ma mb
      · exact order_gt_n1 w x y hx hy h a b c ha hb ma mb
    | true =>
      cases mc : mayL c.neg c.l c.s with
      | false =>
        rcases Int.lt_trichotomy x y with h | h | h
        · exact order_lt_n2 w x y hx hy h a b c ha hb hc ma mb mc
        · exact order_eq_n2 w x y hx hy h a b c ha hb hc ma mb mc
        · exact order_gt_n2 w x y hx hy h a b c ha hb hc ma mb mc
      | true =>
        obtain ⟨d, hd, rfl⟩ := RawD.is ma
        obtain ⟨e, he, rfl⟩ := RawD.is mb
        obtain ⟨f, hf, rfl⟩ := RawD.is mc
        rcases Int.lt_trichotomy x y with h | h | h
        · exact order_lt_a w x y hx hy h d e f hd he hf
        · exact order_eq_a w x y hx hy h d e f hd he hf
        · exact order_gt_a w x y hx hy h d e f hd he hf
theorem order_card (W : World) (_ : Tabs W) (a b c : RawD) (ha : a.ok) (hb : b.ok) (hc : c.ok) (x : Int) (hx : -9223372036854775808 ≤ x ∧ x ≤ 9223372036854775807) (y : Int) (hy : -9223372036854775808 ≤ y ∧ y ≤ 9223372036854775807) :
    Calls Tryd.prog 10 #[.agg (a.cs ++ b.cs ++ c.cs).toArray, .int .i64 x, .int .i64 y] W (YesPost W) := order_any W a b c ha hb hc x y hx hy
end Go.Proofs.YtampgimmodomoaaDoor
