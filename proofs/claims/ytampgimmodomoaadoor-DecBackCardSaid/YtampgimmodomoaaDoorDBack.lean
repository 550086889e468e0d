/- DecBack: what was printed is parsed as it was. -/
import Derived.Test.YtampgimmodomoaaDoorDShown
import Derived.Test.YtampgimmodomoaaDoorDMay
import Derived.Test.YtampgimmodomoaaDoorDOpenDec
import Derived.Test.YtampgimmodomoaaDoorDMore
namespace Go.Proofs.YtampgimmodomoaaDoor
open Go Go.RowKit Go.Lib

theorem few_ok (l : List UInt8) : (fewL l).length ≤ 9223372036854775807 := by have := fewL_len l; omega
set_option maxRecDepth 100000 in
set_option maxHeartbeats 6400000 in
theorem back_no_bad (w : World) (neg : Bool) (L : List UInt8) (sc : Int) (hL : L.length ≤ 9223372036854775807) (hsc : -9223372036854775808 ≤ sc ∧ sc ≤ 9223372036854775807) (s : List UInt8) (hs : s.length ≤ 9223372036854775807)
    (hm : mayL neg (fewL L) sc = false)
    (hy : parseL (fewL s) = none) :
    Calls Tryd.prog 3 #[.agg #[.bool neg, .string ⟨L.toArray⟩, .int .i64 sc], .string ⟨s.toArray⟩] w (YesPost w) := by
  have hsh := fun W => shown_any W
  have hf1 := fun W => few_any W L hL
  have hf2 := fun W => few_any W s hs
  have hfl := fewL_len s
  have HC := hid (Cells.fresh w 23 [.bool neg, .string ⟨L.toArray⟩, .int .i64 sc])
  have HK := hid ((Kp.refl [] w).alloc (.cells #[.bool neg, .string ⟨L.toArray⟩, .int .i64 sc] 23))
  have hmy := fun W => may_any W neg (fewL L) sc (few_ok L) hsc
  rw [hm] at hmy
  have hps := parse_bad (l := fewL s) (by omega) hy
  clear hL hs hfl hm hy
  obtain ⟨F, hF⟩ : ∃ F, F = fewL L := ⟨_, rfl⟩
  obtain ⟨G, hG⟩ : ∃ G, G = fewL s := ⟨_, rfl⟩
  simp only [← hF, ← hG] at hf1 hf2 hmy hps
  clear hF hG
  go_enter Tryd.func3, Tryd.ntmps3
  go_wp2_with fail
  refine (hsh _).mono ?_
  rintro e w1 ⟨rfl, k1⟩
  have C1 := HC.out.keep k1 (by simp)
  have z0 := C1.cell 0
  have z1 := C1.cell 1
  have z2 := C1.cell 2
  have f1 := C1.free 1
  go_wp2_with fail
  refine (hf1 _).mono ?_
  rintro e w2 ⟨rfl, hw2⟩
  have hw2 := hw2.symm
  subst hw2
  have C2 := C1.put 1 (.string ⟨F.toArray⟩)
  have K2 := (HK.out.nil k1).setCell (p := ⟨w.heap.size, 1, none⟩) (fun h => by simp at h) (.string ⟨F.toArray⟩)
  have y0 : _ = some (Value.bool neg) := C2.cell 0
  have y1 : _ = some (Value.string ⟨F.toArray⟩) := C2.cell 1
  have y2 : _ = some (Value.int .i64 sc) := C2.cell 2
  go_wp2_with fail
  refine (hmy _).mono ?_
  rintro e w3 ⟨rfl, k3⟩
  replace y0 := k3.cell y0 (by simp)
  replace y1 := k3.cell y1 (by simp)
  replace y2 := k3.cell y2 (by simp)
  go_wp2_with fail
  refine (hf2 _).mono ?_
  rintro e w4 ⟨rfl, hw⟩
  have hw := hw.symm
  subst hw
  go_wp2_with fail
  refine (hps _).mono ?_
  rintro e w5 ⟨rfl, k5⟩
  obtain ⟨K5, y_0, y_1, y_2⟩ := k5.loc (.bool false) (.string ⟨#[]⟩) (.int .i64 0)
  go_wp2_with fail
  go_ret
  exact ⟨rfl, ((K2.nil k3).nil K5)⟩
set_option maxRecDepth 100000 in
set_option maxHeartbeats 6400000 in
theorem back_no_big (w : World) (neg : Bool) (L : List UInt8) (sc : Int) (hL : L.length ≤ 9223372036854775807) (hsc : -9223372036854775808 ≤ sc ∧ sc ≤ 9223372036854775807) (s : List UInt8) (hs : s.length ≤ 9223372036854775807)
    (hm : mayL neg (fewL L) sc = false)
    (hy : parseL (fewL s) = some none) :
    Calls Tryd.prog 3 #[.agg #[.bool neg, .string ⟨L.toArray⟩, .int .i64 sc], .string ⟨s.toArray⟩] w (YesPost w) := by
  have hsh := fun W => shown_any W
  have hf1 := fun W => few_any W L hL
  have hf2 := fun W => few_any W s hs
  have hfl := fewL_len s
  have HC := hid (Cells.fresh w 23 [.bool neg, .string ⟨L.toArray⟩, .int .i64 sc])
  have HK := hid ((Kp.refl [] w).alloc (.cells #[.bool neg, .string ⟨L.toArray⟩, .int .i64 sc] 23))
  have hmy := fun W => may_any W neg (fewL L) sc (few_ok L) hsc
  rw [hm] at hmy
  have hps := parse_big (l := fewL s) (by omega) hy
  clear hL hs hfl hm hy
  obtain ⟨F, hF⟩ : ∃ F, F = fewL L := ⟨_, rfl⟩
  obtain ⟨G, hG⟩ : ∃ G, G = fewL s := ⟨_, rfl⟩
  simp only [← hF, ← hG] at hf1 hf2 hmy hps
  clear hF hG
  go_enter Tryd.func3, Tryd.ntmps3
  go_wp2_with fail
  refine (hsh _).mono ?_
  rintro e w1 ⟨rfl, k1⟩
  have C1 := HC.out.keep k1 (by simp)
  have z0 := C1.cell 0
  have z1 := C1.cell 1
  have z2 := C1.cell 2
  have f1 := C1.free 1
  go_wp2_with fail
  refine (hf1 _).mono ?_
  rintro e w2 ⟨rfl, hw2⟩
  have hw2 := hw2.symm
  subst hw2
  have C2 := C1.put 1 (.string ⟨F.toArray⟩)
  have K2 := (HK.out.nil k1).setCell (p := ⟨w.heap.size, 1, none⟩) (fun h => by simp at h) (.string ⟨F.toArray⟩)
  have y0 : _ = some (Value.bool neg) := C2.cell 0
  have y1 : _ = some (Value.string ⟨F.toArray⟩) := C2.cell 1
  have y2 : _ = some (Value.int .i64 sc) := C2.cell 2
  go_wp2_with fail
  refine (hmy _).mono ?_
  rintro e w3 ⟨rfl, k3⟩
  replace y0 := k3.cell y0 (by simp)
  replace y1 := k3.cell y1 (by simp)
  replace y2 := k3.cell y2 (by simp)
  go_wp2_with fail
  refine (hf2 _).mono ?_
  rintro e w4 ⟨rfl, hw⟩
  have hw := hw.symm
  subst hw
  go_wp2_with fail
  refine (hps _).mono ?_
  rintro e w5 ⟨rfl, k5⟩
  obtain ⟨K5, y_0, y_1, y_2⟩ := k5.loc (.bool false) (.string ⟨#[]⟩) (.int .i64 0)
  go_wp2_with fail
  go_ret
  exact ⟨rfl, ((K2.nil k3).nil K5)⟩
set_option maxRecDepth 100000 in
set_option maxHeartbeats 6400000 in
theorem back_no_sure (w : World) (neg : Bool) (L : List UInt8) (sc : Int) (hL : L.length ≤ 9223372036854775807) (hsc : -9223372036854775808 ≤ sc ∧ sc ≤ 9223372036854775807) (s : List UInt8) (hs : s.length ≤ 9223372036854775807)
    (hm : mayL neg (fewL L) sc = false)
    (y : Dc) (hy : parseL (fewL s) = some (some y)) :
    Calls Tryd.prog 3 #[.agg #[.bool neg, .string ⟨L.toArray⟩, .int .i64 sc], .string ⟨s.toArray⟩] w (YesPost w) := by
  have hsh := fun W => shown_any W
  have hf1 := fun W => few_any W L hL
  have hf2 := fun W => few_any W s hs
  have hfl := fewL_len s
  have HC := hid (Cells.fresh w 23 [.bool neg, .string ⟨L.toArray⟩, .int .i64 sc])
  have HK := hid ((Kp.refl [] w).alloc (.cells #[.bool neg, .string ⟨L.toArray⟩, .int .i64 sc] 23))
  have hmy := fun W => may_any W neg (fewL L) sc (few_ok L) hsc
  rw [hm] at hmy
  have hps := parse_sure (l := fewL s) (by omega) hy
  have hyo := parse_ok hy
  have hyp := fun W => print_ok hyo W
  have hyb := parse_sure (l := printL y) (by have := print_len hyo; omega) (parse_back hyo)
  have hym := fun W => may_any W y.neg (dtxt y.n) (y.s : Int) (by have := length_dtxt_le (k := 60) hyo.1 (by decide); omega) (by have := hyo.2.1; omega)
  rw [(may_iff _ _ _).2 ⟨y, hyo, rfl, rfl, rfl⟩] at hym
  clear hL hs hfl hm hy hyo
  obtain ⟨F, hF⟩ : ∃ F, F = fewL L := ⟨_, rfl⟩
  obtain ⟨G, hG⟩ : ∃ G, G = fewL s := ⟨_, rfl⟩
  simp only [← hF, ← hG] at hf1 hf2 hmy hps
  clear hF hG
  obtain ⟨R, hR⟩ : ∃ R, R = printL y := ⟨_, rfl⟩
  rw [← hR] at hyp hyb
  clear hR
  go_enter Tryd.func3, Tryd.ntmps3
  go_wp2_with fail
  refine (hsh _).mono ?_
  rintro e w1 ⟨rfl, k1⟩
  have C1 := HC.out.keep k1 (by simp)
  have z0 := C1.cell 0
  have z1 := C1.cell 1
  have z2 := C1.cell 2
  have f1 := C1.free 1
  go_wp2_with fail
  refine (hf1 _).mono ?_
  rintro e w2 ⟨rfl, hw2⟩
  have hw2 := hw2.symm
  subst hw2
  have C2 := C1.put 1 (.string ⟨F.toArray⟩)
  have K2 := (HK.out.nil k1).setCell (p := ⟨w.heap.size, 1, none⟩) (fun h => by simp at h) (.string ⟨F.toArray⟩)
  have y0 : _ = some (Value.bool neg) := C2.cell 0
  have y1 : _ = some (Value.string ⟨F.toArray⟩) := C2.cell 1
  have y2 : _ = some (Value.int .i64 sc) := C2.cell 2
  go_wp2_with fail
  refine (hmy _).mono ?_
  rintro e w3 ⟨rfl, k3⟩
  replace y0 := k3.cell y0 (by simp)
  replace y1 := k3.cell y1 (by simp)
  replace y2 := k3.cell y2 (by simp)
  go_wp2_with fail
  refine (hf2 _).mono ?_
  rintro e w4 ⟨rfl, hw⟩
  have hw := hw.symm
  subst hw
  go_wp2_with fail
  refine (hps _).mono ?_
  rintro e w5 ⟨rfl, k5⟩
  obtain ⟨K5, y_0, y_1, y_2⟩ := k5.loc (.bool y.neg) (.string ⟨(dtxt y.n).toArray⟩) (.int .i64 (y.s : Int))
  go_wp2_with fail
  refine (hyp _).mono ?_
  rintro e w6 ⟨rfl, k6⟩
  replace y_0 := k6.cell y_0 (by simp)
  replace y_1 := k6.cell y_1 (by simp)
  replace y_2 := k6.cell y_2 (by simp)
  go_wp2_with fail
  refine (hyb _).mono ?_
  rintro e w7 ⟨rfl, k7⟩
  obtain ⟨K7, v0, v1, v2⟩ := k7.loc (.bool y.neg) (.string ⟨(dtxt y.n).toArray⟩) (.int .i64 (y.s : Int))
  replace y_0 := K7.cell y_0 (by simp)
  replace y_1 := K7.cell y_1 (by simp)
  replace y_2 := K7.cell y_2 (by simp)
  go_wp2_with fail
  refine (hym _).mono ?_
  rintro e w8 ⟨rfl, k8⟩
  replace y_0 := k8.cell y_0 (by simp)
  replace y_1 := k8.cell y_1 (by simp)
  replace y_2 := k8.cell y_2 (by simp)
  replace v0 := k8.cell v0 (by simp)
  replace v1 := k8.cell v1 (by simp)
  replace v2 := k8.cell v2 (by simp)
  go_wp2_with fail
  go_ret
  exact ⟨rfl, (((((K2.nil k3).nil K5).nil k6).nil K7).nil k8)⟩
set_option maxRecDepth 100000 in
set_option maxHeartbeats 6400000 in
theorem back_yes_bad (w : World) (neg : Bool) (L : List UInt8) (sc : Int) (hL : L.length ≤ 9223372036854775807) (hsc : -9223372036854775808 ≤ sc ∧ sc ≤ 9223372036854775807) (s : List UInt8) (hs : s.length ≤ 9223372036854775807)
    (d : Dc) (hd : Ok d) (e1 : neg = d.neg) (e2 : fewL L = dtxt d.n) (e3 : sc = (d.s : Int))
    (hy : parseL (fewL s) = none) :
    Calls Tryd.prog 3 #[.agg #[.bool neg, .string ⟨L.toArray⟩, .int .i64 sc], .string ⟨s.toArray⟩] w (YesPost w) := by
  have hsh := fun W => shown_any W
  have hf1 := fun W => few_any W L hL
  have hf2 := fun W => few_any W s hs
  have hfl := fewL_len s
  have HC := hid (Cells.fresh w 23 [.bool neg, .string ⟨L.toArray⟩, .int .i64 sc])
  have HK := hid ((Kp.refl [] w).alloc (.cells #[.bool neg, .string ⟨L.toArray⟩, .int .i64 sc] 23))
  have hm : mayL neg (fewL L) sc = true := (may_iff neg (fewL L) sc).2 ⟨d, hd, e1, e2, e3⟩
  have hmy := fun W => may_any W neg (fewL L) sc (few_ok L) hsc
  rw [hm] at hmy
  have hpr := fun W => print_ok hd W
  have hpb := parse_sure (l := printL d) (by have := print_len hd; omega) (parse_back hd)
  rw [← e1, ← e2, ← e3] at hpr hpb
  have hps := parse_bad (l := fewL s) (by omega) hy
  clear hL hs hfl hm hy e1 e2 e3 hd
  obtain ⟨F, hF⟩ : ∃ F, F = fewL L := ⟨_, rfl⟩
  obtain ⟨G, hG⟩ : ∃ G, G = fewL s := ⟨_, rfl⟩
  simp only [← hF, ← hG] at hf1 hf2 hmy hps hpr hpb
  clear hF hG
  obtain ⟨T, hT⟩ : ∃ T, T = printL d := ⟨_, rfl⟩
  rw [← hT] at hpr hpb
  clear hT
  go_enter Tryd.func3, Tryd.ntmps3
  go_wp2_with fail
  refine (hsh _).mono ?_
  rintro e w1 ⟨rfl, k1⟩
  have C1 := HC.out.keep k1 (by simp)
  have z0 := C1.cell 0
  have z1 := C1.cell 1
  have z2 := C1.cell 2
  have f1 := C1.free 1
  go_wp2_with fail
  refine (hf1 _).mono ?_
  rintro e w2 ⟨rfl, hw2⟩
  have hw2 := hw2.symm
  subst hw2
  have C2 := C1.put 1 (.string ⟨F.toArray⟩)
  have K2 := (HK.out.nil k1).setCell (p := ⟨w.heap.size, 1, none⟩) (fun h => by simp at h) (.string ⟨F.toArray⟩)
  have y0 : _ = some (Value.bool neg) := C2.cell 0
  have y1 : _ = some (Value.string ⟨F.toArray⟩) := C2.cell 1
  have y2 : _ = some (Value.int .i64 sc) := C2.cell 2
  go_wp2_with fail
  refine (hmy _).mono ?_
  rintro e w3 ⟨rfl, k3⟩
  replace y0 := k3.cell y0 (by simp)
  replace y1 := k3.cell y1 (by simp)
  replace y2 := k3.cell y2 (by simp)
  go_wp2_with fail
  refine (hpr _).mono ?_
  rintro e w4 ⟨rfl, k4⟩
  replace y0 := k4.cell y0 (by simp)
  replace y1 := k4.cell y1 (by simp)
  replace y2 := k4.cell y2 (by simp)
  go_wp2_with fail
  refine (hpb _).mono ?_
  rintro e w5 ⟨rfl, k5⟩
  obtain ⟨K5, x0, x1, x2⟩ := k5.loc (.bool neg) (.string ⟨F.toArray⟩) (.int .i64 sc)
  replace y0 := K5.cell y0 (by simp)
  replace y1 := K5.cell y1 (by simp)
  replace y2 := K5.cell y2 (by simp)
  go_wp2_with fail
  refine (hf2 _).mono ?_
  rintro e w6 ⟨rfl, hw⟩
  have hw := hw.symm
  subst hw
  go_wp2_with fail
  refine (hps _).mono ?_
  rintro e w7 ⟨rfl, k7⟩
  obtain ⟨K7, y_0, y_1, y_2⟩ := k7.loc (.bool false) (.string ⟨#[]⟩) (.int .i64 0)
  go_wp2_with fail
  go_ret
  exact ⟨rfl, ((((K2.nil k3).nil k4).nil K5).nil K7)⟩
set_option maxRecDepth 100000 in
set_option maxHeartbeats 6400000 in
theorem back_yes_big (w : World) (neg : Bool) (L : List UInt8) (sc : Int) (hL : L.length ≤ 9223372036854775807) (hsc : -9223372036854775808 ≤ sc ∧ sc ≤ 9223372036854775807) (s : List UInt8) (hs : s.length ≤ 9223372036854775807)
    (d : Dc) (hd : Ok d) (e1 : neg = d.neg) (e2 : fewL L = dtxt d.n) (e3 : sc = (d.s : Int))
    (hy : parseL (fewL s) = some none) :
    Calls Tryd.prog 3 #[.agg #[.bool neg, .string ⟨L.toArray⟩, .int .i64 sc], .string ⟨s.toArray⟩] w (YesPost w) := by
  have hsh := fun W => shown_any W
  have hf1 := fun W => few_any W L hL
  have hf2 := fun W => few_any W s hs
  have hfl := fewL_len s
  have HC := hid (Cells.fresh w 23 [.bool neg, .string ⟨L.toArray⟩, .int .i64 sc])
  have HK := hid ((Kp.refl [] w).alloc (.cells #[.bool neg, .string ⟨L.toArray⟩, .int .i64 sc] 23))
  have hm : mayL neg (fewL L) sc = true := (may_iff neg (fewL L) sc).2 ⟨d, hd, e1, e2, e3⟩
  have hmy := fun W => may_any W neg (fewL L) sc (few_ok L) hsc
  rw [hm] at hmy
  have hpr := fun W => print_ok hd W
  have hpb := parse_sure (l := printL d) (by have := print_len hd; omega) (parse_back hd)
  rw [← e1, ← e2, ← e3] at hpr hpb
  have hps := parse_big (l := fewL s) (by omega) hy
  clear hL hs hfl hm hy e1 e2 e3 hd
  obtain ⟨F, hF⟩ : ∃ F, F = fewL L := ⟨_, rfl⟩
  obtain ⟨G, hG⟩ : ∃ G, G = fewL s := ⟨_, rfl⟩
  simp only [← hF, ← hG] at hf1 hf2 hmy hps hpr hpb
  clear hF hG
  obtain ⟨T, hT⟩ : ∃ T, T = printL d := ⟨_, rfl⟩
  rw [← hT] at hpr hpb
  clear hT
  go_enter Tryd.func3, Tryd.ntmps3
  go_wp2_with fail
  refine (hsh _).mono ?_
  rintro e w1 ⟨rfl, k1⟩
  have C1 := HC.out.keep k1 (by simp)
  have z0 := C1.cell 0
  have z1 := C1.cell 1
  have z2 := C1.cell 2
  have f1 := C1.free 1
  go_wp2_with fail
  refine (hf1 _).mono ?_
  rintro e w2 ⟨rfl, hw2⟩
  have hw2 := hw2.symm
  subst hw2
  have C2 := C1.put 1 (.string ⟨F.toArray⟩)
  have K2 := (HK.out.nil k1).setCell (p := ⟨w.heap.size, 1, none⟩) (fun h => by simp at h) (.string ⟨F.toArray⟩)
  have y0 : _ = some (Value.bool neg) := C2.cell 0
  have y1 : _ = some (Value.string ⟨F.toArray⟩) := C2.cell 1
  have y2 : _ = some (Value.int .i64 sc) := C2.cell 2
  go_wp2_with fail
  refine (hmy _).mono ?_
  rintro e w3 ⟨rfl, k3⟩
  replace y0 := k3.cell y0 (by simp)
  replace y1 := k3.cell y1 (by simp)
  replace y2 := k3.cell y2 (by simp)
  go_wp2_with fail
  refine (hpr _).mono ?_
  rintro e w4 ⟨rfl, k4⟩
  replace y0 := k4.cell y0 (by simp)
  replace y1 := k4.cell y1 (by simp)
  replace y2 := k4.cell y2 (by simp)
  go_wp2_with fail
  refine (hpb _).mono ?_
  rintro e w5 ⟨rfl, k5⟩
  obtain ⟨K5, x0, x1, x2⟩ := k5.loc (.bool neg) (.string ⟨F.toArray⟩) (.int .i64 sc)
  replace y0 := K5.cell y0 (by simp)
  replace y1 := K5.cell y1 (by simp)
  replace y2 := K5.cell y2 (by simp)
  go_wp2_with fail
  refine (hf2 _).mono ?_
  rintro e w6 ⟨rfl, hw⟩
  have hw := hw.symm
  subst hw
  go_wp2_with fail
  refine (hps _).mono ?_
  rintro e w7 ⟨rfl, k7⟩
  obtain ⟨K7, y_0, y_1, y_2⟩ := k7.loc (.bool false) (.string ⟨#[]⟩) (.int .i64 0)
  go_wp2_with fail
  go_ret
  exact ⟨rfl, ((((K2.nil k3).nil k4).nil K5).nil K7)⟩
set_option maxRecDepth 100000 in
set_option maxHeartbeats 6400000 in
theorem back_yes_sure (w : World) (neg : Bool) (L : List UInt8) (sc : Int) (hL : L.length ≤ 9223372036854775807) (hsc : -9223372036854775808 ≤ sc ∧ sc ≤ 9223372036854775807) (s : List UInt8) (hs : s.length ≤ 9223372036854775807)
    (d : Dc) (hd : Ok d) (e1 : neg = d.neg) (e2 : fewL L = dtxt d.n) (e3 : sc = (d.s : Int))
    (y : Dc) (hy : parseL (fewL s) = some (some y)) :
    Calls Tryd.prog 3 #[.agg #[.bool neg, .string ⟨L.toArray⟩, .int .i64 sc], .string ⟨s.toArray⟩] w (YesPost w) := by
  have hsh := fun W => shown_any W
  have hf1 := fun W => few_any W L hL
  have hf2 := fun W => few_any W s hs
  have hfl := fewL_len s
  have HC := hid (Cells.fresh w 23 [.bool neg, .string ⟨L.toArray⟩, .int .i64 sc])
  have HK := hid ((Kp.refl [] w).alloc (.cells #[.bool neg, .string ⟨L.toArray⟩, .int .i64 sc] 23))
  have hm : mayL neg (fewL L) sc = true := (may_iff neg (fewL L) sc).2 ⟨d, hd, e1, e2, e3⟩
  have hmy := fun W => may_any W neg (fewL L) sc (few_ok L) hsc
  rw [hm] at hmy
  have hpr := fun W => print_ok hd W
  have hpb := parse_sure (l := printL d) (by have := print_len hd; omega) (parse_back hd)
  rw [← e1, ← e2, ← e3] at hpr hpb
  have hps := parse_sure (l := fewL s) (by omega) hy
  have hyo := parse_ok hy
  have hyp := fun W => print_ok hyo W
  have hyb := parse_sure (l := printL y) (by have := print_len hyo; omega) (parse_back hyo)
  have hym := fun W => may_any W y.neg (dtxt y.n) (y.s : Int) (by have := length_dtxt_le (k := 60) hyo.1 (by decide); omega) (by have := hyo.2.1; omega)
  rw [(may_iff _ _ _).2 ⟨y, hyo, rfl, rfl, rfl⟩] at hym
  clear hL hs hfl hm hy e1 e2 e3 hd hyo
  obtain ⟨F, hF⟩ : ∃ F, F = fewL L := ⟨_, rfl⟩
  obtain ⟨G, hG⟩ : ∃ G, G = fewL s := ⟨_, rfl⟩
  simp only [← hF, ← hG] at hf1 hf2 hmy hps hpr hpb
  clear hF hG
  obtain ⟨T, hT⟩ : ∃ T, T = printL d := ⟨_, rfl⟩
  rw [← hT] at hpr hpb
  clear hT
  obtain ⟨R, hR⟩ : ∃ R, R = printL y := ⟨_, rfl⟩
  rw [← hR] at hyp hyb
  clear hR
  go_enter Tryd.func3, Tryd.ntmps3
  go_wp2_with fail
  refine (hsh _).mono ?_
  rintro e w1 ⟨rfl, k1⟩
  have C1 := HC.out.keep k1 (by simp)
  have z0 := C1.cell 0
  have z1 := C1.cell 1
  have z2 := C1.cell 2
  have f1 := C1.free 1
  go_wp2_with fail
  refine (hf1 _).mono ?_
  rintro e w2 ⟨rfl, hw2⟩
  have hw2 := hw2.symm
  subst hw2
  have C2 := C1.put 1 (.string ⟨F.toArray⟩)
  have K2 := (HK.out.nil k1).setCell (p := ⟨w.heap.size, 1, none⟩) (fun h => by simp at h) (.string ⟨F.toArray⟩)
  have y0 : _ = some (Value.bool neg) := C2.cell 0
  have y1 : _ = some (Value.string ⟨F.toArray⟩) := C2.cell 1
  have y2 : _ = some (Value.int .i64 sc) := C2.cell 2
  go_wp2_with fail
  refine (hmy _).mono ?_
  rintro e w3 ⟨rfl, k3⟩
  replace y0 := k3.cell y0 (by simp)
  replace y1 := k3.cell y1 (by simp)
  replace y2 := k3.cell y2 (by simp)
  go_wp2_with fail
  refine (hpr _).mono ?_
  rintro e w4 ⟨rfl, k4⟩
  replace y0 := k4.cell y0 (by simp)
  replace y1 := k4.cell y1 (by simp)
  replace y2 := k4.cell y2 (by simp)
  go_wp2_with fail
  refine (hpb _).mono ?_
  rintro e w5 ⟨rfl, k5⟩
  obtain ⟨K5, x0, x1, x2⟩ := k5.loc (.bool neg) (.string ⟨F.toArray⟩) (.int .i64 sc)
  replace y0 := K5.cell y0 (by simp)
  replace y1 := K5.cell y1 (by simp)
  replace y2 := K5.cell y2 (by simp)
  go_wp2_with fail
  refine (hf2 _).mono ?_
  rintro e w6 ⟨rfl, hw⟩
  have hw := hw.symm
  subst hw
  go_wp2_with fail
  refine (hps _).mono ?_
  rintro e w7 ⟨rfl, k7⟩
  obtain ⟨K7, y_0, y_1, y_2⟩ := k7.loc (.bool y.neg) (.string ⟨(dtxt y.n).toArray⟩) (.int .i64 (y.s : Int))
  go_wp2_with fail
  refine (hyp _).mono ?_
  rintro e w8 ⟨rfl, k8⟩
  replace y_0 := k8.cell y_0 (by simp)
  replace y_1 := k8.cell y_1 (by simp)
  replace y_2 := k8.cell y_2 (by simp)
  go_wp2_with fail
  refine (hyb _).mono ?_
  rintro e w9 ⟨rfl, k9⟩
  obtain ⟨K9, v0, v1, v2⟩ := k9.loc (.bool y.neg) (.string ⟨(dtxt y.n).toArray⟩) (.int .i64 (y.s : Int))
  replace y_0 := K9.cell y_0 (by simp)
  replace y_1 := K9.cell y_1 (by simp)
  replace y_2 := K9.cell y_2 (by simp)
  go_wp2_with fail
  refine (hym _).mono ?_
  rintro e w10 ⟨rfl, k10⟩
  replace y_0 := k10.cell y_0 (by simp)
  replace y_1 := k10.cell y_1 (by simp)
  replace y_2 := k10.cell y_2 (by simp)
  replace v0 := k10.cell v0 (by simp)
  replace v1 := k10.cell v1 (by simp)
  replace v2 := k10.cell v2 (by simp)
  go_wp2_with fail
  go_ret
  exact ⟨rfl, (((((((K2.nil k3).nil k4).nil K5).nil K7).nil k8).nil K9).nil k10)⟩
theorem back_any (w : World) (neg : Bool) (L : List UInt8) (sc : Int) (hL : L.length ≤ 9223372036854775807) (hsc : -9223372036854775808 ≤ sc ∧ sc ≤ 9223372036854775807) (s : List UInt8) (hs : s.length ≤ 9223372036854775807) :
    Calls Tryd.prog 3 #[.agg #[.bool neg, .string ⟨L.toArray⟩, .int .i64 sc], .string ⟨s.toArray⟩] w (YesPost w) := by
  cases hm : mayL neg (fewL L) sc with
  | false =>
    rcases hy : parseL (fewL s) with _ | (_ | y)
    · exact back_no_bad w neg L sc hL hsc s hs hm hy
    · exact back_no_big w neg L sc hL hsc s hs hm hy
    · exact back_no_sure w neg L sc hL hsc s hs hm y hy
  | true =>
    obtain ⟨d, hd, e1, e2, e3⟩ := (may_iff _ _ _).1 hm
    rcases hy : parseL (fewL s) with _ | (_ | y)
    · exact back_yes_bad w neg L sc hL hsc s hs d hd e1 e2 e3 hy
    · exact back_yes_big w neg L sc hL hsc s hs d hd e1 e2 e3 hy
    · exact back_yes_sure w neg L sc hL hsc s hs d hd e1 e2 e3 y hy
theorem back_card (W : World) (_ : Tabs W) (b : Bool) (l : List UInt8) (z : Int) (hl : l.length ≤ 9223372036854775807) (h1 : -9223372036854775808 ≤ z) (h2 : z ≤ 9223372036854775807) (s : ByteArray) (ws : s.size ≤ maxLen) :
    Calls Tryd.prog 3 #[.agg #[.bool b, .string ⟨l.toArray⟩, .int .i64 z], .string s] W (YesPost W) := by
  have h := back_any W b l z hl ⟨h1, h2⟩ s.data.toList (by unfold maxLen at ws; exact ws)
  rw [bytes_back] at h
  exact h
end Go.Proofs.YtampgimmodomoaaDoor
