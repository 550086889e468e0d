/- DivideBack: what is left, and the quotient, come to the first. -/
import Derived.Test.YtampgimmodomoaaDoorDVBase
import Derived.Test.YtampgimmodomoaaDoorDVMore
namespace Go.Proofs.YtampgimmodomoaaDoor
open Go Go.RowKit Go.Lib

theorem plain_ok {d : Dc} (h : Ok d) : Ok ⟨false, d.n, d.s⟩ := ⟨h.1, h.2.1, fun e => ⟨(h.2.2.1 e).1, rfl⟩, h.2.2.2⟩
set_option maxRecDepth 100000 in
set_option maxHeartbeats 12800000 in
theorem vback_no (w : World) (a b : RawD) (ha : a.ok) (hb : b.ok) (hm : (mayL a.neg a.l a.s && mayL b.neg b.l b.s) = false) :
    Calls Tryd.prog 12 #[.agg #[.bool a.neg, .string ⟨a.l.toArray⟩, .int .i64 a.s], .agg #[.bool b.neg, .string ⟨b.l.toArray⟩, .int .i64 b.s]] w (YesPost w) := by
  have hsh := fun W => vshown_any W
  have m0 := fun W => vmay_any W a b ha hb
  simp only [hm] at m0
  clear ha hb hm
  have HBa : Cells (w.alloc (.cells #[.bool a.neg, .string ⟨a.l.toArray⟩, .int .i64 a.s] 23)) w.heap.size 23 [.bool a.neg, .string ⟨a.l.toArray⟩, .int .i64 a.s] := Cells.fresh w 23 [.bool a.neg, .string ⟨a.l.toArray⟩, .int .i64 a.s]
  have HBb : Cells ((w.alloc (.cells #[.bool a.neg, .string ⟨a.l.toArray⟩, .int .i64 a.s] 23)).alloc (.cells #[.bool b.neg, .string ⟨b.l.toArray⟩, .int .i64 b.s] 23)) (w.heap.size + 1) 23 [.bool b.neg, .string ⟨b.l.toArray⟩, .int .i64 b.s] := Cells.fresh1 _ _ 23 [.bool b.neg, .string ⟨b.l.toArray⟩, .int .i64 b.s]
  have HK := hid (((Kp.refl [] w).alloc (.cells #[.bool a.neg, .string ⟨a.l.toArray⟩, .int .i64 a.s] 23)).alloc (.cells #[.bool b.neg, .string ⟨b.l.toArray⟩, .int .i64 b.s] 23))
  have HCa := hid ((HBa).alloc (.cells #[.bool b.neg, .string ⟨b.l.toArray⟩, .int .i64 b.s] 23))
  have HCb := hid (HBb)
  clear HBa HBb
  go_enter Tryd.func12, Tryd.ntmps12
  go_wp2_with fail
  refine (hsh _).mono ?_
  rintro e w1 ⟨rfl, k1⟩
  have Ca := HCa.out.keep k1 (by simp)
  have a0 : _ = some (Value.bool a.neg) := Ca.cell 0
  have a1 : _ = some (Value.string ⟨a.l.toArray⟩) := Ca.cell 1
  have a2 : _ = some (Value.int .i64 a.s) := Ca.cell 2
  have Cb := HCb.out.keep k1 (by simp)
  have b0 : _ = some (Value.bool b.neg) := Cb.cell 0
  have b1 : _ = some (Value.string ⟨b.l.toArray⟩) := Cb.cell 1
  have b2 : _ = some (Value.int .i64 b.s) := Cb.cell 2
  clear Ca Cb
  go_wp2_with fail
  refine (m0 _).mono ?_
  rintro e w2 ⟨rfl, k2⟩
  replace a0 := k2.cell a0 (by simp)
  replace a1 := k2.cell a1 (by simp)
  replace a2 := k2.cell a2 (by simp)
  replace b0 := k2.cell b0 (by simp)
  replace b1 := k2.cell b1 (by simp)
  replace b2 := k2.cell b2 (by simp)
  go_wp2_with fail
  go_ret
  exact ⟨rfl, ((HK.out.nil k1).nil k2).alloc _⟩
set_option maxRecDepth 100000 in
set_option maxHeartbeats 12800000 in
theorem vback_z (w : World) (a : Dc) (ha : Ok a) :
    Calls Tryd.prog 12 #[.agg #[.bool a.neg, .string ⟨(dtxt a.n).toArray⟩, .int .i64 (a.s : Int)], .agg #[.bool false, .string ⟨#[48]⟩, .int .i64 0]] w (YesPost w) := by
  have hsh := fun W => vshown_any W
  have m0 : ∀ W, Calls Tryd.prog 36 #[.agg #[.bool a.neg, .string ⟨(dtxt a.n).toArray⟩, .int .i64 (a.s : Int)], .agg #[.bool false, .string ⟨#[48]⟩, .int .i64 0]] W fun e w' => e = .returned (.bool true) ∧ Kp [] W w' := fun W => vmay_ok2 (b := zeroD) ha ok_zero W
  have q1 : ∀ W, Calls Tryd.prog 39 #[.agg #[.bool a.neg, .string ⟨(dtxt a.n).toArray⟩, .int .i64 (a.s : Int)], .agg #[.bool false, .string ⟨#[48]⟩, .int .i64 0]] W fun e w' => e = .returned (.tuple #[.agg #[.bool false, .string ⟨#[]⟩, .int .i64 0], .int .i64 5]) ∧ Kp [] W w' := fun W => mod_zero_any W a zeroD rfl
  have q2 : ∀ W, Calls Tryd.prog 37 #[.agg #[.bool a.neg, .string ⟨(dtxt a.n).toArray⟩, .int .i64 (a.s : Int)], .agg #[.bool false, .string ⟨#[48]⟩, .int .i64 0]] W fun e w' => e = .returned (.tuple #[.agg #[.bool false, .string ⟨#[]⟩, .int .i64 0], .int .i64 5]) ∧ Kp [] W w' := fun W => div_zero_any W a zeroD rfl
  clear ha
  have HBa : Cells (w.alloc (.cells #[.bool a.neg, .string ⟨(dtxt a.n).toArray⟩, .int .i64 (a.s : Int)] 23)) w.heap.size 23 [.bool a.neg, .string ⟨(dtxt a.n).toArray⟩, .int .i64 (a.s : Int)] := Cells.fresh w 23 [.bool a.neg, .string ⟨(dtxt a.n).toArray⟩, .int .i64 (a.s : Int)]
  have HBb : Cells ((w.alloc (.cells #[.bool a.neg, .string ⟨(dtxt a.n).toArray⟩, .int .i64 (a.s : Int)] 23)).alloc (.cells #[.bool false, .string ⟨#[48]⟩, .int .i64 0] 23)) (w.heap.size + 1) 23 [.bool false, .string ⟨#[48]⟩, .int .i64 0] := Cells.fresh1 _ _ 23 [.bool false, .string ⟨#[48]⟩, .int .i64 0]
  have HK := hid (((Kp.refl [] w).alloc (.cells #[.bool a.neg, .string ⟨(dtxt a.n).toArray⟩, .int .i64 (a.s : Int)] 23)).alloc (.cells #[.bool false, .string ⟨#[48]⟩, .int .i64 0] 23))
  have HCa := hid ((HBa).alloc (.cells #[.bool false, .string ⟨#[48]⟩, .int .i64 0] 23))
  have HCb := hid (HBb)
  clear HBa HBb
  go_enter Tryd.func12, Tryd.ntmps12
  go_wp2_with fail
  refine (hsh _).mono ?_
  rintro e w1 ⟨rfl, k1⟩
  have Ca := HCa.out.keep k1 (by simp)
  have a0 : _ = some (Value.bool a.neg) := Ca.cell 0
  have a1 : _ = some (Value.string ⟨(dtxt a.n).toArray⟩) := Ca.cell 1
  have a2 : _ = some (Value.int .i64 (a.s : Int)) := Ca.cell 2
  have Cb := HCb.out.keep k1 (by simp)
  have b0 : _ = some (Value.bool false) := Cb.cell 0
  have b1 : _ = some (Value.string ⟨#[48]⟩) := Cb.cell 1
  have b2 : _ = some (Value.int .i64 0) := Cb.cell 2
  clear Ca Cb
  go_wp2_with fail
  refine (m0 _).mono ?_
  rintro e w2 ⟨rfl, k2⟩
  replace a0 := k2.cell a0 (by simp)
  replace a1 := k2.cell a1 (by simp)
  replace a2 := k2.cell a2 (by simp)
  replace b0 := k2.cell b0 (by simp)
  replace b1 := k2.cell b1 (by simp)
  replace b2 := k2.cell b2 (by simp)
  obtain ⟨WZ, hWZ⟩ : ∃ WZ, WZ = w2.alloc (.cells #[.bool false, .string ⟨#[48]⟩, .int .i64 0] 23) := ⟨_, rfl⟩
  have kWZ : Kp [] w2 WZ := by rw [hWZ]; exact (Kp.refl [] _).alloc _
  have Cn : Cells WZ (w2.heap.size) 23 [.bool false, .string ⟨#[48]⟩, .int .i64 0] := by rw [hWZ]; exact (Cells.fresh w2 23 [.bool false, .string ⟨#[48]⟩, .int .i64 0])
  have Hn0 : Hid (_ = some (Value.bool false)) := hid (Cn.cell 0)
  have Hn1 : Hid (_ = some (Value.string ⟨#[48]⟩)) := hid (Cn.cell 1)
  have Hn2 : Hid (_ = some (Value.int .i64 0)) := hid (Cn.cell 2)
  clear Cn
  have Ha0 := hid (kWZ.cell a0 (by simp))
  have Ha1 := hid (kWZ.cell a1 (by simp))
  have Ha2 := hid (kWZ.cell a2 (by simp))
  have Hb0 := hid (kWZ.cell b0 (by simp))
  have Hb1 := hid (kWZ.cell b1 (by simp))
  have Hb2 := hid (kWZ.cell b2 (by simp))
  have HWZ := hid hWZ
  clear hWZ
  go_upto_region 4 with fail
  rw [← HWZ.out]
  replace a0 := Ha0.out
  replace a1 := Ha1.out
  replace a2 := Ha2.out
  replace b0 := Hb0.out
  replace b1 := Hb1.out
  replace b2 := Hb2.out
  have n0 := Hn0.out
  have n1 := Hn1.out
  have n2 := Hn2.out
  clear Ha0 Ha1 Ha2 Hb0 Hb1 Hb2 Hn0 Hn1 Hn2
  go_wp2_with fail
  refine (q1 _).mono ?_
  rintro e w3 ⟨rfl, k3⟩
  obtain ⟨K3, m0, m1, m2⟩ := k3.loc (.bool false) (.string ⟨#[]⟩) (.int .i64 0)
  replace a0 := K3.cell a0 (by simp)
  replace a1 := K3.cell a1 (by simp)
  replace a2 := K3.cell a2 (by simp)
  replace b0 := K3.cell b0 (by simp)
  replace b1 := K3.cell b1 (by simp)
  replace b2 := K3.cell b2 (by simp)
  replace n0 := K3.cell n0 (by simp)
  replace n1 := K3.cell n1 (by simp)
  replace n2 := K3.cell n2 (by simp)
  go_wp2_with fail
  refine (q2 _).mono ?_
  rintro e w4 ⟨rfl, k4⟩
  obtain ⟨K4, x0, x1, x2⟩ := k4.loc (.bool false) (.string ⟨#[]⟩) (.int .i64 0)
  replace a0 := K4.cell a0 (by simp)
  replace a1 := K4.cell a1 (by simp)
  replace a2 := K4.cell a2 (by simp)
  replace b0 := K4.cell b0 (by simp)
  replace b1 := K4.cell b1 (by simp)
  replace b2 := K4.cell b2 (by simp)
  replace n0 := K4.cell n0 (by simp)
  replace n1 := K4.cell n1 (by simp)
  replace n2 := K4.cell n2 (by simp)
  replace m0 := K4.cell m0 (by simp)
  replace m1 := K4.cell m1 (by simp)
  replace m2 := K4.cell m2 (by simp)
  go_wp2_with fail
  go_ret
  exact ⟨rfl, (((((HK.out.nil k1).nil k2).nil kWZ).nil K3).nil K4)⟩
set_option maxRecDepth 100000 in
set_option maxHeartbeats 12800000 in
theorem vback_mz_o0 (w : World) (a b : Dc) (ha : Ok a) (hb : Ok b) (hb0 : b.n ≠ 0) (hM : modD a b = some zeroD) (hP : mulD a b = none) :
    Calls Tryd.prog 12 #[.agg #[.bool a.neg, .string ⟨(dtxt a.n).toArray⟩, .int .i64 (a.s : Int)], .agg #[.bool b.neg, .string ⟨(dtxt b.n).toArray⟩, .int .i64 (b.s : Int)]] w (YesPost w) := by
  have hsh := fun W => vshown_any W
  have m0 : ∀ W, Calls Tryd.prog 36 #[.agg #[.bool a.neg, .string ⟨(dtxt a.n).toArray⟩, .int .i64 (a.s : Int)], .agg #[.bool b.neg, .string ⟨(dtxt b.n).toArray⟩, .int .i64 (b.s : Int)]] W fun e w' => e = .returned (.bool true) ∧ Kp [] W w' := fun W => by
    have h := vmay_ok2 (a := a) (b := b) ha hb W
    exact h
  have om := (mod_ok hb0 hM).1
  have less := mod_less hb0 hM
  have q1 : ∀ W, Calls Tryd.prog 39 #[.agg #[.bool a.neg, .string ⟨(dtxt a.n).toArray⟩, .int .i64 (a.s : Int)], .agg #[.bool b.neg, .string ⟨(dtxt b.n).toArray⟩, .int .i64 (b.s : Int)]] W fun e w' => e = .returned (.tuple #[.agg #[.bool false, .string ⟨#[48]⟩, .int .i64 0], .int .i64 0]) ∧ Kp [] W w' := fun W => by
    have h := mod_sure (a := a) (b := b) ha hb hb0 hM W
    exact h
  have okm : Ok ⟨false, (zeroD).n, (zeroD).s⟩ := plain_ok om
  have okb : Ok ⟨false, b.n, b.s⟩ := plain_ok hb
  have q2 : ∀ W, Calls Tryd.prog 30 #[.agg #[.bool false, .string ⟨#[48]⟩, .int .i64 0], .agg #[.bool false, .string ⟨(dtxt b.n).toArray⟩, .int .i64 (b.s : Int)]] W fun e w' => e = .returned (.int .i64 (-1)) ∧ Kp [] W w' := fun W => by
    have h := (rcmp_any W ⟨false, (zeroD).n, (zeroD).s⟩ ⟨false, b.n, b.s⟩ okm okb).mono (fun e w' h => (⟨by rw [h.1, less], h.2⟩ : e = .returned (.int .i64 (-1)) ∧ Kp [] W w'))
    exact h
  have q3 : ∀ W, Calls Tryd.prog 28 #[.agg #[.bool a.neg, .string ⟨(dtxt a.n).toArray⟩, .int .i64 (a.s : Int)], .agg #[.bool b.neg, .string ⟨(dtxt b.n).toArray⟩, .int .i64 (b.s : Int)]] W fun e w' => e = .returned (.tuple #[.agg #[.bool false, .string ⟨#[]⟩, .int .i64 0], .int .i64 3]) ∧ Kp [] W w' := fun W => by
    have h := rmul_none (a := a) (b := b) ha hb hP W
    exact h
  have bb := dtxt_no48 hb0
  clear ha hb hb0 hM om less okm okb hP
  have HBa : Cells (w.alloc (.cells #[.bool a.neg, .string ⟨(dtxt a.n).toArray⟩, .int .i64 (a.s : Int)] 23)) w.heap.size 23 [.bool a.neg, .string ⟨(dtxt a.n).toArray⟩, .int .i64 (a.s : Int)] := Cells.fresh w 23 [.bool a.neg, .string ⟨(dtxt a.n).toArray⟩, .int .i64 (a.s : Int)]
  have HBb : Cells ((w.alloc (.cells #[.bool a.neg, .string ⟨(dtxt a.n).toArray⟩, .int .i64 (a.s : Int)] 23)).alloc (.cells #[.bool b.neg, .string ⟨(dtxt b.n).toArray⟩, .int .i64 (b.s : Int)] 23)) (w.heap.size + 1) 23 [.bool b.neg, .string ⟨(dtxt b.n).toArray⟩, .int .i64 (b.s : Int)] := Cells.fresh1 _ _ 23 [.bool b.neg, .string ⟨(dtxt b.n).toArray⟩, .int .i64 (b.s : Int)]
  have HK := hid (((Kp.refl [] w).alloc (.cells #[.bool a.neg, .string ⟨(dtxt a.n).toArray⟩, .int .i64 (a.s : Int)] 23)).alloc (.cells #[.bool b.neg, .string ⟨(dtxt b.n).toArray⟩, .int .i64 (b.s : Int)] 23))
  have HCa := hid ((HBa).alloc (.cells #[.bool b.neg, .string ⟨(dtxt b.n).toArray⟩, .int .i64 (b.s : Int)] 23))
  have HCb := hid (HBb)
  clear HBa HBb
  go_enter Tryd.func12, Tryd.ntmps12
  go_wp2_with fail
  refine (hsh _).mono ?_
  rintro e w1 ⟨rfl, k1⟩
  have Ca := HCa.out.keep k1 (by simp)
  have a0 : _ = some (Value.bool a.neg) := Ca.cell 0
  have a1 : _ = some (Value.string ⟨(dtxt a.n).toArray⟩) := Ca.cell 1
  have a2 : _ = some (Value.int .i64 (a.s : Int)) := Ca.cell 2
  have Cb := HCb.out.keep k1 (by simp)
  have b0 : _ = some (Value.bool b.neg) := Cb.cell 0
  have b1 : _ = some (Value.string ⟨(dtxt b.n).toArray⟩) := Cb.cell 1
  have b2 : _ = some (Value.int .i64 (b.s : Int)) := Cb.cell 2
  clear Ca Cb
  go_wp2_with fail
  refine (m0 _).mono ?_
  rintro e w2 ⟨rfl, k2⟩
  replace a0 := k2.cell a0 (by simp)
  replace a1 := k2.cell a1 (by simp)
  replace a2 := k2.cell a2 (by simp)
  replace b0 := k2.cell b0 (by simp)
  replace b1 := k2.cell b1 (by simp)
  replace b2 := k2.cell b2 (by simp)
  obtain ⟨WZ, hWZ⟩ : ∃ WZ, WZ = w2.alloc (.cells #[.bool false, .string ⟨#[48]⟩, .int .i64 0] 23) := ⟨_, rfl⟩
  have kWZ : Kp [] w2 WZ := by rw [hWZ]; exact (Kp.refl [] _).alloc _
  have Cn : Cells WZ (w2.heap.size) 23 [.bool false, .string ⟨#[48]⟩, .int .i64 0] := by rw [hWZ]; exact (Cells.fresh w2 23 [.bool false, .string ⟨#[48]⟩, .int .i64 0])
  have Hn0 : Hid (_ = some (Value.bool false)) := hid (Cn.cell 0)
  have Hn1 : Hid (_ = some (Value.string ⟨#[48]⟩)) := hid (Cn.cell 1)
  have Hn2 : Hid (_ = some (Value.int .i64 0)) := hid (Cn.cell 2)
  clear Cn
  have Ha0 := hid (kWZ.cell a0 (by simp))
  have Ha1 := hid (kWZ.cell a1 (by simp))
  have Ha2 := hid (kWZ.cell a2 (by simp))
  have Hb0 := hid (kWZ.cell b0 (by simp))
  have Hb1 := hid (kWZ.cell b1 (by simp))
  have Hb2 := hid (kWZ.cell b2 (by simp))
  have HWZ := hid hWZ
  clear hWZ
  go_upto_region 4 with fail
  rw [← HWZ.out]
  replace a0 := Ha0.out
  replace a1 := Ha1.out
  replace a2 := Ha2.out
  replace b0 := Hb0.out
  replace b1 := Hb1.out
  replace b2 := Hb2.out
  have n0 := Hn0.out
  have n1 := Hn1.out
  have n2 := Hn2.out
  clear Ha0 Ha1 Ha2 Hb0 Hb1 Hb2 Hn0 Hn1 Hn2
  go_wp2_with fail
  refine (q1 _).mono ?_
  rintro e w3 ⟨rfl, k3⟩
  obtain ⟨K3, m0, m1, m2⟩ := k3.loc (.bool false) (.string ⟨#[48]⟩) (.int .i64 0)
  replace a0 := K3.cell a0 (by simp)
  replace a1 := K3.cell a1 (by simp)
  replace a2 := K3.cell a2 (by simp)
  replace b0 := K3.cell b0 (by simp)
  replace b1 := K3.cell b1 (by simp)
  replace b2 := K3.cell b2 (by simp)
  replace n0 := K3.cell n0 (by simp)
  replace n1 := K3.cell n1 (by simp)
  replace n2 := K3.cell n2 (by simp)
  obtain ⟨WB, hWB⟩ : ∃ WB, WB = ((w3.alloc (.cells #[.bool false, .string ⟨#[48]⟩, .int .i64 0] 23)).alloc (.cells #[.bool false, .string ⟨(dtxt b.n).toArray⟩, .int .i64 (b.s : Int)] 23)).alloc (.cells #[.bool false, .string ⟨#[48]⟩, .int .i64 0] 23) := ⟨_, rfl⟩
  have kWB : Kp [] (w3.alloc (.cells #[.bool false, .string ⟨#[48]⟩, .int .i64 0] 23)) WB := by rw [hWB]; exact ((Kp.refl [] _).alloc _).alloc _
  have Cg : Cells WB (w3.heap.size + 1) 23 [.bool false, .string ⟨(dtxt b.n).toArray⟩, .int .i64 (b.s : Int)] := by rw [hWB]; have h := (Cells.fresh (w3.alloc (.cells #[.bool false, .string ⟨#[48]⟩, .int .i64 0] 23)) 23 [.bool false, .string ⟨(dtxt b.n).toArray⟩, .int .i64 (b.s : Int)]).alloc (.cells #[.bool false, .string ⟨#[48]⟩, .int .i64 0] 23); simpa using h
  have Hg0 : Hid (_ = some (Value.bool false)) := hid (Cg.cell 0)
  have Hg1 : Hid (_ = some (Value.string ⟨(dtxt b.n).toArray⟩)) := hid (Cg.cell 1)
  have Hg2 : Hid (_ = some (Value.int .i64 (b.s : Int))) := hid (Cg.cell 2)
  clear Cg
  have Cl : Cells WB (w3.heap.size + 1 + 1) 23 [.bool false, .string ⟨#[48]⟩, .int .i64 0] := by rw [hWB]; have h := Cells.fresh1 (w3.alloc (.cells #[.bool false, .string ⟨#[48]⟩, .int .i64 0] 23)) (.cells #[.bool false, .string ⟨(dtxt b.n).toArray⟩, .int .i64 (b.s : Int)] 23) 23 [.bool false, .string ⟨#[48]⟩, .int .i64 0]; simpa using h
  have Hl0 : Hid (_ = some (Value.bool false)) := hid (Cl.cell 0)
  have Hl1 : Hid (_ = some (Value.string ⟨#[48]⟩)) := hid (Cl.cell 1)
  have Hl2 : Hid (_ = some (Value.int .i64 0)) := hid (Cl.cell 2)
  clear Cl
  have Ha0 := hid (kWB.cell a0 (by simp))
  have Ha1 := hid (kWB.cell a1 (by simp))
  have Ha2 := hid (kWB.cell a2 (by simp))
  have Hb0 := hid (kWB.cell b0 (by simp))
  have Hb1 := hid (kWB.cell b1 (by simp))
  have Hb2 := hid (kWB.cell b2 (by simp))
  have Hn0 := hid (kWB.cell n0 (by simp))
  have Hn1 := hid (kWB.cell n1 (by simp))
  have Hn2 := hid (kWB.cell n2 (by simp))
  have Hm0 := hid (kWB.cell m0 (by simp))
  have Hm1 := hid (kWB.cell m1 (by simp))
  have Hm2 := hid (kWB.cell m2 (by simp))
  have HWB := hid hWB
  clear hWB
  go_upto_region 15 with fail
  rw [← HWB.out]
  replace a0 := Ha0.out
  replace a1 := Ha1.out
  replace a2 := Ha2.out
  replace b0 := Hb0.out
  replace b1 := Hb1.out
  replace b2 := Hb2.out
  replace n0 := Hn0.out
  replace n1 := Hn1.out
  replace n2 := Hn2.out
  replace m0 := Hm0.out
  replace m1 := Hm1.out
  replace m2 := Hm2.out
  have g0 := Hg0.out
  have g1 := Hg1.out
  have g2 := Hg2.out
  have l0 := Hl0.out
  have l1 := Hl1.out
  have l2 := Hl2.out
  clear Ha0 Ha1 Ha2 Hb0 Hb1 Hb2 Hn0 Hn1 Hn2 Hm0 Hm1 Hm2 Hg0 Hg1 Hg2 Hl0 Hl1 Hl2
  go_wp2_with fail
  refine (q2 _).mono ?_
  rintro e w4 ⟨rfl, k4⟩
  replace a0 := k4.cell a0 (by simp)
  replace a1 := k4.cell a1 (by simp)
  replace a2 := k4.cell a2 (by simp)
  replace b0 := k4.cell b0 (by simp)
  replace b1 := k4.cell b1 (by simp)
  replace b2 := k4.cell b2 (by simp)
  replace n0 := k4.cell n0 (by simp)
  replace n1 := k4.cell n1 (by simp)
  replace n2 := k4.cell n2 (by simp)
  replace m0 := k4.cell m0 (by simp)
  replace m1 := k4.cell m1 (by simp)
  replace m2 := k4.cell m2 (by simp)
  go_wp2_with fail
  refine (q3 _).mono ?_
  rintro e w5 ⟨rfl, k5⟩
  obtain ⟨K5, p0, p1, p2⟩ := k5.loc (.bool false) (.string ⟨#[]⟩) (.int .i64 0)
  replace a0 := K5.cell a0 (by simp)
  replace a1 := K5.cell a1 (by simp)
  replace a2 := K5.cell a2 (by simp)
  replace b0 := K5.cell b0 (by simp)
  replace b1 := K5.cell b1 (by simp)
  replace b2 := K5.cell b2 (by simp)
  replace n0 := K5.cell n0 (by simp)
  replace n1 := K5.cell n1 (by simp)
  replace n2 := K5.cell n2 (by simp)
  replace m0 := K5.cell m0 (by simp)
  replace m1 := K5.cell m1 (by simp)
  replace m2 := K5.cell m2 (by simp)
  go_wp2_with fail
  go_ret
  exact ⟨rfl, (((((((HK.out.nil k1).nil k2).nil kWZ).nil K3).nil kWB).nil k4).nil K5)⟩
set_option maxRecDepth 100000 in
set_option maxHeartbeats 12800000 in
theorem vback_mz_ol (w : World) (a b : Dc) (ha : Ok a) (hb : Ok b) (hb0 : b.n ≠ 0) (hM : modD a b = some zeroD) (p : Dc) (hP : mulD a b = some p) (hl : 34 < (dtxt a.n).length) :
    Calls Tryd.prog 12 #[.agg #[.bool a.neg, .string ⟨(dtxt a.n).toArray⟩, .int .i64 (a.s : Int)], .agg #[.bool b.neg, .string ⟨(dtxt b.n).toArray⟩, .int .i64 (b.s : Int)]] w (YesPost w) := by
  have hsh := fun W => vshown_any W
  have m0 : ∀ W, Calls Tryd.prog 36 #[.agg #[.bool a.neg, .string ⟨(dtxt a.n).toArray⟩, .int .i64 (a.s : Int)], .agg #[.bool b.neg, .string ⟨(dtxt b.n).toArray⟩, .int .i64 (b.s : Int)]] W fun e w' => e = .returned (.bool true) ∧ Kp [] W w' := fun W => by
    have h := vmay_ok2 (a := a) (b := b) ha hb W
    exact h
  have om := (mod_ok hb0 hM).1
  have less := mod_less hb0 hM
  have q1 : ∀ W, Calls Tryd.prog 39 #[.agg #[.bool a.neg, .string ⟨(dtxt a.n).toArray⟩, .int .i64 (a.s : Int)], .agg #[.bool b.neg, .string ⟨(dtxt b.n).toArray⟩, .int .i64 (b.s : Int)]] W fun e w' => e = .returned (.tuple #[.agg #[.bool false, .string ⟨#[48]⟩, .int .i64 0], .int .i64 0]) ∧ Kp [] W w' := fun W => by
    have h := mod_sure (a := a) (b := b) ha hb hb0 hM W
    exact h
  have okm : Ok ⟨false, (zeroD).n, (zeroD).s⟩ := plain_ok om
  have okb : Ok ⟨false, b.n, b.s⟩ := plain_ok hb
  have q2 : ∀ W, Calls Tryd.prog 30 #[.agg #[.bool false, .string ⟨#[48]⟩, .int .i64 0], .agg #[.bool false, .string ⟨(dtxt b.n).toArray⟩, .int .i64 (b.s : Int)]] W fun e w' => e = .returned (.int .i64 (-1)) ∧ Kp [] W w' := fun W => by
    have h := (rcmp_any W ⟨false, (zeroD).n, (zeroD).s⟩ ⟨false, b.n, b.s⟩ okm okb).mono (fun e w' h => (⟨by rw [h.1, less], h.2⟩ : e = .returned (.int .i64 (-1)) ∧ Kp [] W w'))
    exact h
  have op := (mulD_ok hP).1
  have q3 : ∀ W, Calls Tryd.prog 28 #[.agg #[.bool a.neg, .string ⟨(dtxt a.n).toArray⟩, .int .i64 (a.s : Int)], .agg #[.bool b.neg, .string ⟨(dtxt b.n).toArray⟩, .int .i64 (b.s : Int)]] W fun e w' => e = .returned (.tuple #[.agg #[.bool p.neg, .string ⟨(dtxt p.n).toArray⟩, .int .i64 (p.s : Int)], .int .i64 0]) ∧ Kp [] W w' := fun W => by
    have h := rmul_sure (a := a) (b := b) ha hb hP W
    exact h
  have bl : decide (((dtxt a.n).length : Int) ≤ 34) = false := decide_eq_false (by omega)
  have hal : (⟨(dtxt a.n).toArray⟩ : ByteArray).size = (dtxt a.n).length := size_mk _
  have bb := dtxt_no48 hb0
  clear ha hb hb0 hM om less okm okb hP op hl
  have HBa : Cells (w.alloc (.cells #[.bool a.neg, .string ⟨(dtxt a.n).toArray⟩, .int .i64 (a.s : Int)] 23)) w.heap.size 23 [.bool a.neg, .string ⟨(dtxt a.n).toArray⟩, .int .i64 (a.s : Int)] := Cells.fresh w 23 [.bool a.neg, .string ⟨(dtxt a.n).toArray⟩, .int .i64 (a.s : Int)]
  have HBb : Cells ((w.alloc (.cells #[.bool a.neg, .string ⟨(dtxt a.n).toArray⟩, .int .i64 (a.s : Int)] 23)).alloc (.cells #[.bool b.neg, .string ⟨(dtxt b.n).toArray⟩, .int .i64 (b.s : Int)] 23)) (w.heap.size + 1) 23 [.bool b.neg, .string ⟨(dtxt b.n).toArray⟩, .int .i64 (b.s : Int)] := Cells.fresh1 _ _ 23 [.bool b.neg, .string ⟨(dtxt b.n).toArray⟩, .int .i64 (b.s : Int)]
  have HK := hid (((Kp.refl [] w).alloc (.cells #[.bool a.neg, .string ⟨(dtxt a.n).toArray⟩, .int .i64 (a.s : Int)] 23)).alloc (.cells #[.bool b.neg, .string ⟨(dtxt b.n).toArray⟩, .int .i64 (b.s : Int)] 23))
  have HCa := hid ((HBa).alloc (.cells #[.bool b.neg, .string ⟨(dtxt b.n).toArray⟩, .int .i64 (b.s : Int)] 23))
  have HCb := hid (HBb)
  clear HBa HBb
  go_enter Tryd.func12, Tryd.ntmps12
  go_wp2_with fail
  refine (hsh _).mono ?_
  rintro e w1 ⟨rfl, k1⟩
  have Ca := HCa.out.keep k1 (by simp)
  have a0 : _ = some (Value.bool a.neg) := Ca.cell 0
  have a1 : _ = some (Value.string ⟨(dtxt a.n).toArray⟩) := Ca.cell 1
  have a2 : _ = some (Value.int .i64 (a.s : Int)) := Ca.cell 2
  have Cb := HCb.out.keep k1 (by simp)
  have b0 : _ = some (Value.bool b.neg) := Cb.cell 0
  have b1 : _ = some (Value.string ⟨(dtxt b.n).toArray⟩) := Cb.cell 1
  have b2 : _ = some (Value.int .i64 (b.s : Int)) := Cb.cell 2
  clear Ca Cb
  go_wp2_with fail
  refine (m0 _).mono ?_
  rintro e w2 ⟨rfl, k2⟩
  replace a0 := k2.cell a0 (by simp)
  replace a1 := k2.cell a1 (by simp)
  replace a2 := k2.cell a2 (by simp)
  replace b0 := k2.cell b0 (by simp)
  replace b1 := k2.cell b1 (by simp)
  replace b2 := k2.cell b2 (by simp)
  obtain ⟨WZ, hWZ⟩ : ∃ WZ, WZ = w2.alloc (.cells #[.bool false, .string ⟨#[48]⟩, .int .i64 0] 23) := ⟨_, rfl⟩
  have kWZ : Kp [] w2 WZ := by rw [hWZ]; exact (Kp.refl [] _).alloc _
  have Cn : Cells WZ (w2.heap.size) 23 [.bool false, .string ⟨#[48]⟩, .int .i64 0] := by rw [hWZ]; exact (Cells.fresh w2 23 [.bool false, .string ⟨#[48]⟩, .int .i64 0])
  have Hn0 : Hid (_ = some (Value.bool false)) := hid (Cn.cell 0)
  have Hn1 : Hid (_ = some (Value.string ⟨#[48]⟩)) := hid (Cn.cell 1)
  have Hn2 : Hid (_ = some (Value.int .i64 0)) := hid (Cn.cell 2)
  clear Cn
  have Ha0 := hid (kWZ.cell a0 (by simp))
  have Ha1 := hid (kWZ.cell a1 (by simp))
  have Ha2 := hid (kWZ.cell a2 (by simp))
  have Hb0 := hid (kWZ.cell b0 (by simp))
  have Hb1 := hid (kWZ.cell b1 (by simp))
  have Hb2 := hid (kWZ.cell b2 (by simp))
  have HWZ := hid hWZ
  clear hWZ
  go_upto_region 4 with fail
  rw [← HWZ.out]
  replace a0 := Ha0.out
  replace a1 := Ha1.out
  replace a2 := Ha2.out
  replace b0 := Hb0.out
  replace b1 := Hb1.out
  replace b2 := Hb2.out
  have n0 := Hn0.out
  have n1 := Hn1.out
  have n2 := Hn2.out
  clear Ha0 Ha1 Ha2 Hb0 Hb1 Hb2 Hn0 Hn1 Hn2
  go_wp2_with fail
  refine (q1 _).mono ?_
  rintro e w3 ⟨rfl, k3⟩
  obtain ⟨K3, m0, m1, m2⟩ := k3.loc (.bool false) (.string ⟨#[48]⟩) (.int .i64 0)
  replace a0 := K3.cell a0 (by simp)
  replace a1 := K3.cell a1 (by simp)
  replace a2 := K3.cell a2 (by simp)
  replace b0 := K3.cell b0 (by simp)
  replace b1 := K3.cell b1 (by simp)
  replace b2 := K3.cell b2 (by simp)
  replace n0 := K3.cell n0 (by simp)
  replace n1 := K3.cell n1 (by simp)
  replace n2 := K3.cell n2 (by simp)
  obtain ⟨WB, hWB⟩ : ∃ WB, WB = ((w3.alloc (.cells #[.bool false, .string ⟨#[48]⟩, .int .i64 0] 23)).alloc (.cells #[.bool false, .string ⟨(dtxt b.n).toArray⟩, .int .i64 (b.s : Int)] 23)).alloc (.cells #[.bool false, .string ⟨#[48]⟩, .int .i64 0] 23) := ⟨_, rfl⟩
  have kWB : Kp [] (w3.alloc (.cells #[.bool false, .string ⟨#[48]⟩, .int .i64 0] 23)) WB := by rw [hWB]; exact ((Kp.refl [] _).alloc _).alloc _
  have Cg : Cells WB (w3.heap.size + 1) 23 [.bool false, .string ⟨(dtxt b.n).toArray⟩, .int .i64 (b.s : Int)] := by rw [hWB]; have h := (Cells.fresh (w3.alloc (.cells #[.bool false, .string ⟨#[48]⟩, .int .i64 0] 23)) 23 [.bool false, .string ⟨(dtxt b.n).toArray⟩, .int .i64 (b.s : Int)]).alloc (.cells #[.bool false, .string ⟨#[48]⟩, .int .i64 0] 23); simpa using h
  have Hg0 : Hid (_ = some (Value.bool false)) := hid (Cg.cell 0)
  have Hg1 : Hid (_ = some (Value.string ⟨(dtxt b.n).toArray⟩)) := hid (Cg.cell 1)
  have Hg2 : Hid (_ = some (Value.int .i64 (b.s : Int))) := hid (Cg.cell 2)
  clear Cg
  have Cl : Cells WB (w3.heap.size + 1 + 1) 23 [.bool false, .string ⟨#[48]⟩, .int .i64 0] := by rw [hWB]; have h := Cells.fresh1 (w3.alloc (.cells #[.bool false, .string ⟨#[48]⟩, .int .i64 0] 23)) (.cells #[.bool false, .string ⟨(dtxt b.n).toArray⟩, .int .i64 (b.s : Int)] 23) 23 [.bool false, .string ⟨#[48]⟩, .int .i64 0]; simpa using h
  have Hl0 : Hid (_ = some (Value.bool false)) := hid (Cl.cell 0)
  have Hl1 : Hid (_ = some (Value.string ⟨#[48]⟩)) := hid (Cl.cell 1)
  have Hl2 : Hid (_ = some (Value.int .i64 0)) := hid (Cl.cell 2)
  clear Cl
  have Ha0 := hid (kWB.cell a0 (by simp))
  have Ha1 := hid (kWB.cell a1 (by simp))
  have Ha2 := hid (kWB.cell a2 (by simp))
  have Hb0 := hid (kWB.cell b0 (by simp))
  have Hb1 := hid (kWB.cell b1 (by simp))
  have Hb2 := hid (kWB.cell b2 (by simp))
  have Hn0 := hid (kWB.cell n0 (by simp))
  have Hn1 := hid (kWB.cell n1 (by simp))
  have Hn2 := hid (kWB.cell n2 (by simp))
  have Hm0 := hid (kWB.cell m0 (by simp))
  have Hm1 := hid (kWB.cell m1 (by simp))
  have Hm2 := hid (kWB.cell m2 (by simp))
  have HWB := hid hWB
  clear hWB
  go_upto_region 15 with fail
  rw [← HWB.out]
  replace a0 := Ha0.out
  replace a1 := Ha1.out
  replace a2 := Ha2.out
  replace b0 := Hb0.out
  replace b1 := Hb1.out
  replace b2 := Hb2.out
  replace n0 := Hn0.out
  replace n1 := Hn1.out
  replace n2 := Hn2.out
  replace m0 := Hm0.out
  replace m1 := Hm1.out
  replace m2 := Hm2.out
  have g0 := Hg0.out
  have g1 := Hg1.out
  have g2 := Hg2.out
  have l0 := Hl0.out
  have l1 := Hl1.out
  have l2 := Hl2.out
  clear Ha0 Ha1 Ha2 Hb0 Hb1 Hb2 Hn0 Hn1 Hn2 Hm0 Hm1 Hm2 Hg0 Hg1 Hg2 Hl0 Hl1 Hl2
  go_wp2_with fail
  refine (q2 _).mono ?_
  rintro e w4 ⟨rfl, k4⟩
  replace a0 := k4.cell a0 (by simp)
  replace a1 := k4.cell a1 (by simp)
  replace a2 := k4.cell a2 (by simp)
  replace b0 := k4.cell b0 (by simp)
  replace b1 := k4.cell b1 (by simp)
  replace b2 := k4.cell b2 (by simp)
  replace n0 := k4.cell n0 (by simp)
  replace n1 := k4.cell n1 (by simp)
  replace n2 := k4.cell n2 (by simp)
  replace m0 := k4.cell m0 (by simp)
  replace m1 := k4.cell m1 (by simp)
  replace m2 := k4.cell m2 (by simp)
  go_wp2_with fail
  refine (q3 _).mono ?_
  rintro e w5 ⟨rfl, k5⟩
  obtain ⟨K5, p0, p1, p2⟩ := k5.loc (.bool p.neg) (.string ⟨(dtxt p.n).toArray⟩) (.int .i64 (p.s : Int))
  replace a0 := K5.cell a0 (by simp)
  replace a1 := K5.cell a1 (by simp)
  replace a2 := K5.cell a2 (by simp)
  replace b0 := K5.cell b0 (by simp)
  replace b1 := K5.cell b1 (by simp)
  replace b2 := K5.cell b2 (by simp)
  replace n0 := K5.cell n0 (by simp)
  replace n1 := K5.cell n1 (by simp)
  replace n2 := K5.cell n2 (by simp)
  replace m0 := K5.cell m0 (by simp)
  replace m1 := K5.cell m1 (by simp)
  replace m2 := K5.cell m2 (by simp)
  go_wp2_with fail
  go_ret
  exact ⟨rfl, (((((((HK.out.nil k1).nil k2).nil kWZ).nil K3).nil kWB).nil k4).nil K5)⟩
set_option maxRecDepth 100000 in
set_option maxHeartbeats 12800000 in
theorem vback_mz_oz (w : World) (b : Dc) (ha : Ok zeroD) (hb : Ok b) (hb0 : b.n ≠ 0) (hM : modD zeroD b = some zeroD) (p : Dc) (hP : mulD zeroD b = some p) :
    Calls Tryd.prog 12 #[.agg #[.bool false, .string ⟨#[48]⟩, .int .i64 0], .agg #[.bool b.neg, .string ⟨(dtxt b.n).toArray⟩, .int .i64 (b.s : Int)]] w (YesPost w) := by
  have hsh := fun W => vshown_any W
  have m0 : ∀ W, Calls Tryd.prog 36 #[.agg #[.bool false, .string ⟨#[48]⟩, .int .i64 0], .agg #[.bool b.neg, .string ⟨(dtxt b.n).toArray⟩, .int .i64 (b.s : Int)]] W fun e w' => e = .returned (.bool true) ∧ Kp [] W w' := fun W => by
    have h := vmay_ok2 (a := zeroD) (b := b) ha hb W
    exact h
  have om := (mod_ok hb0 hM).1
  have less := mod_less hb0 hM
  have q1 : ∀ W, Calls Tryd.prog 39 #[.agg #[.bool false, .string ⟨#[48]⟩, .int .i64 0], .agg #[.bool b.neg, .string ⟨(dtxt b.n).toArray⟩, .int .i64 (b.s : Int)]] W fun e w' => e = .returned (.tuple #[.agg #[.bool false, .string ⟨#[48]⟩, .int .i64 0], .int .i64 0]) ∧ Kp [] W w' := fun W => by
    have h := mod_sure (a := zeroD) (b := b) ha hb hb0 hM W
    exact h
  have okm : Ok ⟨false, (zeroD).n, (zeroD).s⟩ := plain_ok om
  have okb : Ok ⟨false, b.n, b.s⟩ := plain_ok hb
  have q2 : ∀ W, Calls Tryd.prog 30 #[.agg #[.bool false, .string ⟨#[48]⟩, .int .i64 0], .agg #[.bool false, .string ⟨(dtxt b.n).toArray⟩, .int .i64 (b.s : Int)]] W fun e w' => e = .returned (.int .i64 (-1)) ∧ Kp [] W w' := fun W => by
    have h := (rcmp_any W ⟨false, (zeroD).n, (zeroD).s⟩ ⟨false, b.n, b.s⟩ okm okb).mono (fun e w' h => (⟨by rw [h.1, less], h.2⟩ : e = .returned (.int .i64 (-1)) ∧ Kp [] W w'))
    exact h
  have op := (mulD_ok hP).1
  have q3 : ∀ W, Calls Tryd.prog 28 #[.agg #[.bool false, .string ⟨#[48]⟩, .int .i64 0], .agg #[.bool b.neg, .string ⟨(dtxt b.n).toArray⟩, .int .i64 (b.s : Int)]] W fun e w' => e = .returned (.tuple #[.agg #[.bool p.neg, .string ⟨(dtxt p.n).toArray⟩, .int .i64 (p.s : Int)], .int .i64 0]) ∧ Kp [] W w' := fun W => by
    have h := rmul_sure (a := zeroD) (b := b) ha hb hP W
    exact h
  have hl34 : zeroD.n < 10 ^ 34 := by decide
  have q4 : ∀ W, Calls Tryd.prog 37 #[.agg #[.bool p.neg, .string ⟨(dtxt p.n).toArray⟩, .int .i64 (p.s : Int)], .agg #[.bool b.neg, .string ⟨(dtxt b.n).toArray⟩, .int .i64 (b.s : Int)]] W fun e w' => e = .returned (.tuple #[.agg #[.bool false, .string ⟨#[48]⟩, .int .i64 0], .int .i64 0]) ∧ Kp [] W w' := fun W => by
    have h := div_sure op hb hb0 (div_mul (a := zeroD) ha hb hb0 hP hl34) W
    exact h
  have q5 : ∀ W, Calls Tryd.prog 39 #[.agg #[.bool p.neg, .string ⟨(dtxt p.n).toArray⟩, .int .i64 (p.s : Int)], .agg #[.bool false, .string ⟨#[48]⟩, .int .i64 0]] W fun e w' => e = .returned (.tuple #[.agg #[.bool false, .string ⟨#[]⟩, .int .i64 0], .int .i64 5]) ∧ Kp [] W w' := fun W => by
    have h := mod_zero_any W p zeroD rfl
    exact h
  have bb := dtxt_no48 hb0
  clear ha hb hb0 hM om less okm okb hP op hl34
  have HBa : Cells (w.alloc (.cells #[.bool false, .string ⟨#[48]⟩, .int .i64 0] 23)) w.heap.size 23 [.bool false, .string ⟨#[48]⟩, .int .i64 0] := Cells.fresh w 23 [.bool false, .string ⟨#[48]⟩, .int .i64 0]
  have HBb : Cells ((w.alloc (.cells #[.bool false, .string ⟨#[48]⟩, .int .i64 0] 23)).alloc (.cells #[.bool b.neg, .string ⟨(dtxt b.n).toArray⟩, .int .i64 (b.s : Int)] 23)) (w.heap.size + 1) 23 [.bool b.neg, .string ⟨(dtxt b.n).toArray⟩, .int .i64 (b.s : Int)] := Cells.fresh1 _ _ 23 [.bool b.neg, .string ⟨(dtxt b.n).toArray⟩, .int .i64 (b.s : Int)]
  have HK := hid (((Kp.refl [] w).alloc (.cells #[.bool false, .string ⟨#[48]⟩, .int .i64 0] 23)).alloc (.cells #[.bool b.neg, .string ⟨(dtxt b.n).toArray⟩, .int .i64 (b.s : Int)] 23))
  have HCa := hid ((HBa).alloc (.cells #[.bool b.neg, .string ⟨(dtxt b.n).toArray⟩, .int .i64 (b.s : Int)] 23))
  have HCb := hid (HBb)
  clear HBa HBb
  go_enter Tryd.func12, Tryd.ntmps12
  go_wp2_with fail
  refine (hsh _).mono ?_
  rintro e w1 ⟨rfl, k1⟩
  have Ca := HCa.out.keep k1 (by simp)
  have a0 : _ = some (Value.bool false) := Ca.cell 0
  have a1 : _ = some (Value.string ⟨#[48]⟩) := Ca.cell 1
  have a2 : _ = some (Value.int .i64 0) := Ca.cell 2
  have Cb := HCb.out.keep k1 (by simp)
  have b0 : _ = some (Value.bool b.neg) := Cb.cell 0
  have b1 : _ = some (Value.string ⟨(dtxt b.n).toArray⟩) := Cb.cell 1
  have b2 : _ = some (Value.int .i64 (b.s : Int)) := Cb.cell 2
  clear Ca Cb
  go_wp2_with fail
  refine (m0 _).mono ?_
  rintro e w2 ⟨rfl, k2⟩
  replace a0 := k2.cell a0 (by simp)
  replace a1 := k2.cell a1 (by simp)
  replace a2 := k2.cell a2 (by simp)
  replace b0 := k2.cell b0 (by simp)
  replace b1 := k2.cell b1 (by simp)
  replace b2 := k2.cell b2 (by simp)
  obtain ⟨WZ, hWZ⟩ : ∃ WZ, WZ = w2.alloc (.cells #[.bool false, .string ⟨#[48]⟩, .int .i64 0] 23) := ⟨_, rfl⟩
  have kWZ : Kp [] w2 WZ := by rw [hWZ]; exact (Kp.refl [] _).alloc _
  have Cn : Cells WZ (w2.heap.size) 23 [.bool false, .string ⟨#[48]⟩, .int .i64 0] := by rw [hWZ]; exact (Cells.fresh w2 23 [.bool false, .string ⟨#[48]⟩, .int .i64 0])
  have Hn0 : Hid (_ = some (Value.bool false)) := hid (Cn.cell 0)
  have Hn1 : Hid (_ = some (Value.string ⟨#[48]⟩)) := hid (Cn.cell 1)
  have Hn2 : Hid (_ = some (Value.int .i64 0)) := hid (Cn.cell 2)
  clear Cn
  have Ha0 := hid (kWZ.cell a0 (by simp))
  have Ha1 := hid (kWZ.cell a1 (by simp))
  have Ha2 := hid (kWZ.cell a2 (by simp))
  have Hb0 := hid (kWZ.cell b0 (by simp))
  have Hb1 := hid (kWZ.cell b1 (by simp))
  have Hb2 := hid (kWZ.cell b2 (by simp))
  have HWZ := hid hWZ
  clear hWZ
  go_upto_region 4 with fail
  rw [← HWZ.out]
  replace a0 := Ha0.out
  replace a1 := Ha1.out
  replace a2 := Ha2.out
  replace b0 := Hb0.out
  replace b1 := Hb1.out
  replace b2 := Hb2.out
  have n0 := Hn0.out
  have n1 := Hn1.out
  have n2 := Hn2.out
  clear Ha0 Ha1 Ha2 Hb0 Hb1 Hb2 Hn0 Hn1 Hn2
  go_wp2_with fail
  refine (q1 _).mono ?_
  rintro e w3 ⟨rfl, k3⟩
  obtain ⟨K3, m0, m1, m2⟩ := k3.loc (.bool false) (.string ⟨#[48]⟩) (.int .i64 0)
  replace a0 := K3.cell a0 (by simp)
  replace a1 := K3.cell a1 (by simp)
  replace a2 := K3.cell a2 (by simp)
  replace b0 := K3.cell b0 (by simp)
  replace b1 := K3.cell b1 (by simp)
  replace b2 := K3.cell b2 (by simp)
  replace n0 := K3.cell n0 (by simp)
  replace n1 := K3.cell n1 (by simp)
  replace n2 := K3.cell n2 (by simp)
  obtain ⟨WB, hWB⟩ : ∃ WB, WB = ((w3.alloc (.cells #[.bool false, .string ⟨#[48]⟩, .int .i64 0] 23)).alloc (.cells #[.bool false, .string ⟨(dtxt b.n).toArray⟩, .int .i64 (b.s : Int)] 23)).alloc (.cells #[.bool false, .string ⟨#[48]⟩, .int .i64 0] 23) := ⟨_, rfl⟩
  have kWB : Kp [] (w3.alloc (.cells #[.bool false, .string ⟨#[48]⟩, .int .i64 0] 23)) WB := by rw [hWB]; exact ((Kp.refl [] _).alloc _).alloc _
  have Cg : Cells WB (w3.heap.size + 1) 23 [.bool false, .string ⟨(dtxt b.n).toArray⟩, .int .i64 (b.s : Int)] := by rw [hWB]; have h := (Cells.fresh (w3.alloc (.cells #[.bool false, .string ⟨#[48]⟩, .int .i64 0] 23)) 23 [.bool false, .string ⟨(dtxt b.n).toArray⟩, .int .i64 (b.s : Int)]).alloc (.cells #[.bool false, .string ⟨#[48]⟩, .int .i64 0] 23); simpa using h
  have Hg0 : Hid (_ = some (Value.bool false)) := hid (Cg.cell 0)
  have Hg1 : Hid (_ = some (Value.string ⟨(dtxt b.n).toArray⟩)) := hid (Cg.cell 1)
  have Hg2 : Hid (_ = some (Value.int .i64 (b.s : Int))) := hid (Cg.cell 2)
  clear Cg
  have Cl : Cells WB (w3.heap.size + 1 + 1) 23 [.bool false, .string ⟨#[48]⟩, .int .i64 0] := by rw [hWB]; have h := Cells.fresh1 (w3.alloc (.cells #[.bool false, .string ⟨#[48]⟩, .int .i64 0] 23)) (.cells #[.bool false, .string ⟨(dtxt b.n).toArray⟩, .int .i64 (b.s : Int)] 23) 23 [.bool false, .string ⟨#[48]⟩, .int .i64 0]; simpa using h
  have Hl0 : Hid (_ = some (Value.bool false)) := hid (Cl.cell 0)
  have Hl1 : Hid (_ = some (Value.string ⟨#[48]⟩)) := hid (Cl.cell 1)
  have Hl2 : Hid (_ = some (Value.int .i64 0)) := hid (Cl.cell 2)
  clear Cl
  have Ha0 := hid (kWB.cell a0 (by simp))
  have Ha1 := hid (kWB.cell a1 (by simp))
  have Ha2 := hid (kWB.cell a2 (by simp))
  have Hb0 := hid (kWB.cell b0 (by simp))
  have Hb1 := hid (kWB.cell b1 (by simp))
  have Hb2 := hid (kWB.cell b2 (by simp))
  have Hn0 := hid (kWB.cell n0 (by simp))
  have Hn1 := hid (kWB.cell n1 (by simp))
  have Hn2 := hid (kWB.cell n2 (by simp))
  have Hm0 := hid (kWB.cell m0 (by simp))
  have Hm1 := hid (kWB.cell m1 (by simp))
  have Hm2 := hid (kWB.cell m2 (by simp))
  have HWB := hid hWB
  clear hWB
  go_upto_region 15 with fail
  rw [← HWB.out]
  replace a0 := Ha0.out
  replace a1 := Ha1.out
  replace a2 := Ha2.out
  replace b0 := Hb0.out
  replace b1 := Hb1.out
  replace b2 := Hb2.out
  replace n0 := Hn0.out
  replace n1 := Hn1.out
  replace n2 := Hn2.out
  replace m0 := Hm0.out
  replace m1 := Hm1.out
  replace m2 := Hm2.out
  have g0 := Hg0.out
  have g1 := Hg1.out
  have g2 := Hg2.out
  have l0 := Hl0.out
  have l1 := Hl1.out
  have l2 := Hl2.out
  clear Ha0 Ha1 Ha2 Hb0 Hb1 Hb2 Hn0 Hn1 Hn2 Hm0 Hm1 Hm2 Hg0 Hg1 Hg2 Hl0 Hl1 Hl2
  go_wp2_with fail
  refine (q2 _).mono ?_
  rintro e w4 ⟨rfl, k4⟩
  replace a0 := k4.cell a0 (by simp)
  replace a1 := k4.cell a1 (by simp)
  replace a2 := k4.cell a2 (by simp)
  replace b0 := k4.cell b0 (by simp)
  replace b1 := k4.cell b1 (by simp)
  replace b2 := k4.cell b2 (by simp)
  replace n0 := k4.cell n0 (by simp)
  replace n1 := k4.cell n1 (by simp)
  replace n2 := k4.cell n2 (by simp)
  replace m0 := k4.cell m0 (by simp)
  replace m1 := k4.cell m1 (by simp)
  replace m2 := k4.cell m2 (by simp)
  go_wp2_with fail
  refine (q3 _).mono ?_
  rintro e w5 ⟨rfl, k5⟩
  obtain ⟨K5, p0, p1, p2⟩ := k5.loc (.bool p.neg) (.string ⟨(dtxt p.n).toArray⟩) (.int .i64 (p.s : Int))
  replace a0 := K5.cell a0 (by simp)
  replace a1 := K5.cell a1 (by simp)
  replace a2 := K5.cell a2 (by simp)
  replace b0 := K5.cell b0 (by simp)
  replace b1 := K5.cell b1 (by simp)
  replace b2 := K5.cell b2 (by simp)
  replace n0 := K5.cell n0 (by simp)
  replace n1 := K5.cell n1 (by simp)
  replace n2 := K5.cell n2 (by simp)
  replace m0 := K5.cell m0 (by simp)
  replace m1 := K5.cell m1 (by simp)
  replace m2 := K5.cell m2 (by simp)
  go_wp2_with fail
  refine (q4 _).mono ?_
  rintro e w6 ⟨rfl, k6⟩
  obtain ⟨K6, x0, x1, x2⟩ := k6.loc (.bool false) (.string ⟨#[48]⟩) (.int .i64 0)
  replace a0 := K6.cell a0 (by simp)
  replace a1 := K6.cell a1 (by simp)
  replace a2 := K6.cell a2 (by simp)
  replace b0 := K6.cell b0 (by simp)
  replace b1 := K6.cell b1 (by simp)
  replace b2 := K6.cell b2 (by simp)
  replace n0 := K6.cell n0 (by simp)
  replace n1 := K6.cell n1 (by simp)
  replace n2 := K6.cell n2 (by simp)
  replace m0 := K6.cell m0 (by simp)
  replace m1 := K6.cell m1 (by simp)
  replace m2 := K6.cell m2 (by simp)
  replace p0 := K6.cell p0 (by simp)
  replace p1 := K6.cell p1 (by simp)
  replace p2 := K6.cell p2 (by simp)
  go_wp2_with fail
  refine (q5 _).mono ?_
  rintro e w7 ⟨rfl, k7⟩
  obtain ⟨K7, r0, r1, r2⟩ := k7.loc (.bool false) (.string ⟨#[]⟩) (.int .i64 0)
  replace a0 := K7.cell a0 (by simp)
  replace a1 := K7.cell a1 (by simp)
  replace a2 := K7.cell a2 (by simp)
  replace b0 := K7.cell b0 (by simp)
  replace b1 := K7.cell b1 (by simp)
  replace b2 := K7.cell b2 (by simp)
  replace n0 := K7.cell n0 (by simp)
  replace n1 := K7.cell n1 (by simp)
  replace n2 := K7.cell n2 (by simp)
  replace m0 := K7.cell m0 (by simp)
  replace m1 := K7.cell m1 (by simp)
  replace m2 := K7.cell m2 (by simp)
  replace p0 := K7.cell p0 (by simp)
  replace p1 := K7.cell p1 (by simp)
  replace p2 := K7.cell p2 (by simp)
  replace x0 := K7.cell x0 (by simp)
  replace x1 := K7.cell x1 (by simp)
  replace x2 := K7.cell x2 (by simp)
  go_wp2_with fail
  go_ret
  exact ⟨rfl, (((((((((HK.out.nil k1).nil k2).nil kWZ).nil K3).nil kWB).nil k4).nil K5).nil K6).nil K7)⟩
set_option maxRecDepth 100000 in
set_option maxHeartbeats 12800000 in
theorem vback_mz_ob (w : World) (a b : Dc) (ha : Ok a) (hb : Ok b) (hb0 : b.n ≠ 0) (hM : modD a b = some zeroD) (p : Dc) (hP : mulD a b = some p) (hl : (dtxt a.n).length ≤ 34) (ha0 : a.n ≠ 0) (hbs : b.s = 0) :
    Calls Tryd.prog 12 #[.agg #[.bool a.neg, .string ⟨(dtxt a.n).toArray⟩, .int .i64 (a.s : Int)], .agg #[.bool b.neg, .string ⟨(dtxt b.n).toArray⟩, .int .i64 0]] w (YesPost w) := by
  have hsh := fun W => vshown_any W
  have m0 : ∀ W, Calls Tryd.prog 36 #[.agg #[.bool a.neg, .string ⟨(dtxt a.n).toArray⟩, .int .i64 (a.s : Int)], .agg #[.bool b.neg, .string ⟨(dtxt b.n).toArray⟩, .int .i64 0]] W fun e w' => e = .returned (.bool true) ∧ Kp [] W w' := fun W => by
    have h := vmay_ok2 (a := a) (b := b) ha hb W
    rw [hbs] at h
    exact h
  have om := (mod_ok hb0 hM).1
  have less := mod_less hb0 hM
  have q1 : ∀ W, Calls Tryd.prog 39 #[.agg #[.bool a.neg, .string ⟨(dtxt a.n).toArray⟩, .int .i64 (a.s : Int)], .agg #[.bool b.neg, .string ⟨(dtxt b.n).toArray⟩, .int .i64 0]] W fun e w' => e = .returned (.tuple #[.agg #[.bool false, .string ⟨#[48]⟩, .int .i64 0], .int .i64 0]) ∧ Kp [] W w' := fun W => by
    have h := mod_sure (a := a) (b := b) ha hb hb0 hM W
    rw [hbs] at h
    exact h
  have okm : Ok ⟨false, (zeroD).n, (zeroD).s⟩ := plain_ok om
  have okb : Ok ⟨false, b.n, b.s⟩ := plain_ok hb
  have q2 : ∀ W, Calls Tryd.prog 30 #[.agg #[.bool false, .string ⟨#[48]⟩, .int .i64 0], .agg #[.bool false, .string ⟨(dtxt b.n).toArray⟩, .int .i64 0]] W fun e w' => e = .returned (.int .i64 (-1)) ∧ Kp [] W w' := fun W => by
    have h := (rcmp_any W ⟨false, (zeroD).n, (zeroD).s⟩ ⟨false, b.n, b.s⟩ okm okb).mono (fun e w' h => (⟨by rw [h.1, less], h.2⟩ : e = .returned (.int .i64 (-1)) ∧ Kp [] W w'))
    rw [hbs] at h
    exact h
  have op := (mulD_ok hP).1
  have q3 : ∀ W, Calls Tryd.prog 28 #[.agg #[.bool a.neg, .string ⟨(dtxt a.n).toArray⟩, .int .i64 (a.s : Int)], .agg #[.bool b.neg, .string ⟨(dtxt b.n).toArray⟩, .int .i64 0]] W fun e w' => e = .returned (.tuple #[.agg #[.bool p.neg, .string ⟨(dtxt p.n).toArray⟩, .int .i64 (p.s : Int)], .int .i64 0]) ∧ Kp [] W w' := fun W => by
    have h := rmul_sure (a := a) (b := b) ha hb hP W
    rw [hbs] at h
    exact h
  have bl : decide (((dtxt a.n).length : Int) ≤ 34) = true := decide_eq_true (by omega)
  have hal : (⟨(dtxt a.n).toArray⟩ : ByteArray).size = (dtxt a.n).length := size_mk _
  have hl34 : a.n < 10 ^ 34 := by have h := val_lt _ (digs_dtxt a.n); rw [val_dtxt] at h; exact Nat.lt_of_lt_of_le h (Nat.pow_le_pow_right (by decide) hl)
  have ba := dtxt_no48 ha0
  have q4 : ∀ W, Calls Tryd.prog 37 #[.agg #[.bool p.neg, .string ⟨(dtxt p.n).toArray⟩, .int .i64 (p.s : Int)], .agg #[.bool b.neg, .string ⟨(dtxt b.n).toArray⟩, .int .i64 0]] W fun e w' => e = .returned (.tuple #[.agg #[.bool a.neg, .string ⟨(dtxt a.n).toArray⟩, .int .i64 (a.s : Int)], .int .i64 0]) ∧ Kp [] W w' := fun W => by
    have h := div_sure op hb hb0 (div_mul (a := a) ha hb hb0 hP hl34) W
    rw [hbs] at h
    exact h
  have q5 : ∀ W, Calls Tryd.prog 39 #[.agg #[.bool p.neg, .string ⟨(dtxt p.n).toArray⟩, .int .i64 (p.s : Int)], .agg #[.bool a.neg, .string ⟨(dtxt a.n).toArray⟩, .int .i64 (a.s : Int)]] W fun e w' => e = .returned (.tuple #[.agg #[.bool false, .string ⟨#[48]⟩, .int .i64 0], .int .i64 0]) ∧ Kp [] W w' := fun W => by
    have h := mod_sure op ha ha0 (mod_mul ha hb ha0 hbs hP) W
    exact h
  have bb := dtxt_no48 hb0
  clear ha hb hb0 hM om less okm okb hP op hl hl34 ha0 hbs
  have HBa : Cells (w.alloc (.cells #[.bool a.neg, .string ⟨(dtxt a.n).toArray⟩, .int .i64 (a.s : Int)] 23)) w.heap.size 23 [.bool a.neg, .string ⟨(dtxt a.n).toArray⟩, .int .i64 (a.s : Int)] := Cells.fresh w 23 [.bool a.neg, .string ⟨(dtxt a.n).toArray⟩, .int .i64 (a.s : Int)]
  have HBb : Cells ((w.alloc (.cells #[.bool a.neg, .string ⟨(dtxt a.n).toArray⟩, .int .i64 (a.s : Int)] 23)).alloc (.cells #[.bool b.neg, .string ⟨(dtxt b.n).toArray⟩, .int .i64 0] 23)) (w.heap.size + 1) 23 [.bool b.neg, .string ⟨(dtxt b.n).toArray⟩, .int .i64 0] := Cells.fresh1 _ _ 23 [.bool b.neg, .string ⟨(dtxt b.n).toArray⟩, .int .i64 0]
  have HK := hid (((Kp.refl [] w).alloc (.cells #[.bool a.neg, .string ⟨(dtxt a.n).toArray⟩, .int .i64 (a.s : Int)] 23)).alloc (.cells #[.bool b.neg, .string ⟨(dtxt b.n).toArray⟩, .int .i64 0] 23))
  have HCa := hid ((HBa).alloc (.cells #[.bool b.neg, .string ⟨(dtxt b.n).toArray⟩, .int .i64 0] 23))
  have HCb := hid (HBb)
  clear HBa HBb
  go_enter Tryd.func12, Tryd.ntmps12
  go_wp2_with fail
  refine (hsh _).mono ?_
  rintro e w1 ⟨rfl, k1⟩
  have Ca := HCa.out.keep k1 (by simp)
  have a0 : _ = some (Value.bool a.neg) := Ca.cell 0
  have a1 : _ = some (Value.string ⟨(dtxt a.n).toArray⟩) := Ca.cell 1
  have a2 : _ = some (Value.int .i64 (a.s : Int)) := Ca.cell 2
  have Cb := HCb.out.keep k1 (by simp)
  have b0 : _ = some (Value.bool b.neg) := Cb.cell 0
  have b1 : _ = some (Value.string ⟨(dtxt b.n).toArray⟩) := Cb.cell 1
  have b2 : _ = some (Value.int .i64 0) := Cb.cell 2
  clear Ca Cb
  go_wp2_with fail
  refine (m0 _).mono ?_
  rintro e w2 ⟨rfl, k2⟩
  replace a0 := k2.cell a0 (by simp)
  replace a1 := k2.cell a1 (by simp)
  replace a2 := k2.cell a2 (by simp)
  replace b0 := k2.cell b0 (by simp)
  replace b1 := k2.cell b1 (by simp)
  replace b2 := k2.cell b2 (by simp)
  obtain ⟨WZ, hWZ⟩ : ∃ WZ, WZ = w2.alloc (.cells #[.bool false, .string ⟨#[48]⟩, .int .i64 0] 23) := ⟨_, rfl⟩
  have kWZ : Kp [] w2 WZ := by rw [hWZ]; exact (Kp.refl [] _).alloc _
  have Cn : Cells WZ (w2.heap.size) 23 [.bool false, .string ⟨#[48]⟩, .int .i64 0] := by rw [hWZ]; exact (Cells.fresh w2 23 [.bool false, .string ⟨#[48]⟩, .int .i64 0])
  have Hn0 : Hid (_ = some (Value.bool false)) := hid (Cn.cell 0)
  have Hn1 : Hid (_ = some (Value.string ⟨#[48]⟩)) := hid (Cn.cell 1)
  have Hn2 : Hid (_ = some (Value.int .i64 0)) := hid (Cn.cell 2)
  clear Cn
  have Ha0 := hid (kWZ.cell a0 (by simp))
  have Ha1 := hid (kWZ.cell a1 (by simp))
  have Ha2 := hid (kWZ.cell a2 (by simp))
  have Hb0 := hid (kWZ.cell b0 (by simp))
  have Hb1 := hid (kWZ.cell b1 (by simp))
  have Hb2 := hid (kWZ.cell b2 (by simp))
  have HWZ := hid hWZ
  clear hWZ
  go_upto_region 4 with fail
  rw [← HWZ.out]
  replace a0 := Ha0.out
  replace a1 := Ha1.out
  replace a2 := Ha2.out
  replace b0 := Hb0.out
  replace b1 := Hb1.out
  replace b2 := Hb2.out
  have n0 := Hn0.out
  have n1 := Hn1.out
  have n2 := Hn2.out
  clear Ha0 Ha1 Ha2 Hb0 Hb1 Hb2 Hn0 Hn1 Hn2
  go_wp2_with fail
  refine (q1 _).mono ?_
  rintro e w3 ⟨rfl, k3⟩
  obtain ⟨K3, m0, m1, m2⟩ := k3.loc (.bool false) (.string ⟨#[48]⟩) (.int .i64 0)
  replace a0 := K3.cell a0 (by simp)
  replace a1 := K3.cell a1 (by simp)
  replace a2 := K3.cell a2 (by simp)
  replace b0 := K3.cell b0 (by simp)
  replace b1 := K3.cell b1 (by simp)
  replace b2 := K3.cell b2 (by simp)
  replace n0 := K3.cell n0 (by simp)
  replace n1 := K3.cell n1 (by simp)
  replace n2 := K3.cell n2 (by simp)
  obtain ⟨WB, hWB⟩ : ∃ WB, WB = ((w3.alloc (.cells #[.bool false, .string ⟨#[48]⟩, .int .i64 0] 23)).alloc (.cells #[.bool false, .string ⟨(dtxt b.n).toArray⟩, .int .i64 0] 23)).alloc (.cells #[.bool false, .string ⟨#[48]⟩, .int .i64 0] 23) := ⟨_, rfl⟩
  have kWB : Kp [] (w3.alloc (.cells #[.bool false, .string ⟨#[48]⟩, .int .i64 0] 23)) WB := by rw [hWB]; exact ((Kp.refl [] _).alloc _).alloc _
  have Cg : Cells WB (w3.heap.size + 1) 23 [.bool false, .string ⟨(dtxt b.n).toArray⟩, .int .i64 0] := by rw [hWB]; have h := (Cells.fresh (w3.alloc (.cells #[.bool false, .string ⟨#[48]⟩, .int .i64 0] 23)) 23 [.bool false, .string ⟨(dtxt b.n).toArray⟩, .int .i64 0]).alloc (.cells #[.bool false, .string ⟨#[48]⟩, .int .i64 0] 23); simpa using h
  have Hg0 : Hid (_ = some (Value.bool false)) := hid (Cg.cell 0)
  have Hg1 : Hid (_ = some (Value.string ⟨(dtxt b.n).toArray⟩)) := hid (Cg.cell 1)
  have Hg2 : Hid (_ = some (Value.int .i64 0)) := hid (Cg.cell 2)
  clear Cg
  have Cl : Cells WB (w3.heap.size + 1 + 1) 23 [.bool false, .string ⟨#[48]⟩, .int .i64 0] := by rw [hWB]; have h := Cells.fresh1 (w3.alloc (.cells #[.bool false, .string ⟨#[48]⟩, .int .i64 0] 23)) (.cells #[.bool false, .string ⟨(dtxt b.n).toArray⟩, .int .i64 0] 23) 23 [.bool false, .string ⟨#[48]⟩, .int .i64 0]; simpa using h
  have Hl0 : Hid (_ = some (Value.bool false)) := hid (Cl.cell 0)
  have Hl1 : Hid (_ = some (Value.string ⟨#[48]⟩)) := hid (Cl.cell 1)
  have Hl2 : Hid (_ = some (Value.int .i64 0)) := hid (Cl.cell 2)
  clear Cl
  have Ha0 := hid (kWB.cell a0 (by simp))
  have Ha1 := hid (kWB.cell a1 (by simp))
  have Ha2 := hid (kWB.cell a2 (by simp))
  have Hb0 := hid (kWB.cell b0 (by simp))
  have Hb1 := hid (kWB.cell b1 (by simp))
  have Hb2 := hid (kWB.cell b2 (by simp))
  have Hn0 := hid (kWB.cell n0 (by simp))
  have Hn1 := hid (kWB.cell n1 (by simp))
  have Hn2 := hid (kWB.cell n2 (by simp))
  have Hm0 := hid (kWB.cell m0 (by simp))
  have Hm1 := hid (kWB.cell m1 (by simp))
  have Hm2 := hid (kWB.cell m2 (by simp))
  have HWB := hid hWB
  clear hWB
  go_upto_region 15 with fail
  rw [← HWB.out]
  replace a0 := Ha0.out
  replace a1 := Ha1.out
  replace a2 := Ha2.out
  replace b0 := Hb0.out
  replace b1 := Hb1.out
  replace b2 := Hb2.out
  replace n0 := Hn0.out
  replace n1 := Hn1.out
  replace n2 := Hn2.out
  replace m0 := Hm0.out
  replace m1 := Hm1.out
  replace m2 := Hm2.out
  have g0 := Hg0.out
  have g1 := Hg1.out
  have g2 := Hg2.out
  have l0 := Hl0.out
  have l1 := Hl1.out
  have l2 := Hl2.out
  clear Ha0 Ha1 Ha2 Hb0 Hb1 Hb2 Hn0 Hn1 Hn2 Hm0 Hm1 Hm2 Hg0 Hg1 Hg2 Hl0 Hl1 Hl2
  go_wp2_with fail
  refine (q2 _).mono ?_
  rintro e w4 ⟨rfl, k4⟩
  replace a0 := k4.cell a0 (by simp)
  replace a1 := k4.cell a1 (by simp)
  replace a2 := k4.cell a2 (by simp)
  replace b0 := k4.cell b0 (by simp)
  replace b1 := k4.cell b1 (by simp)
  replace b2 := k4.cell b2 (by simp)
  replace n0 := k4.cell n0 (by simp)
  replace n1 := k4.cell n1 (by simp)
  replace n2 := k4.cell n2 (by simp)
  replace m0 := k4.cell m0 (by simp)
  replace m1 := k4.cell m1 (by simp)
  replace m2 := k4.cell m2 (by simp)
  go_wp2_with fail
  refine (q3 _).mono ?_
  rintro e w5 ⟨rfl, k5⟩
  obtain ⟨K5, p0, p1, p2⟩ := k5.loc (.bool p.neg) (.string ⟨(dtxt p.n).toArray⟩) (.int .i64 (p.s : Int))
  replace a0 := K5.cell a0 (by simp)
  replace a1 := K5.cell a1 (by simp)
  replace a2 := K5.cell a2 (by simp)
  replace b0 := K5.cell b0 (by simp)
  replace b1 := K5.cell b1 (by simp)
  replace b2 := K5.cell b2 (by simp)
  replace n0 := K5.cell n0 (by simp)
  replace n1 := K5.cell n1 (by simp)
  replace n2 := K5.cell n2 (by simp)
  replace m0 := K5.cell m0 (by simp)
  replace m1 := K5.cell m1 (by simp)
  replace m2 := K5.cell m2 (by simp)
  go_wp2_with fail
  refine (q4 _).mono ?_
  rintro e w6 ⟨rfl, k6⟩
  obtain ⟨K6, x0, x1, x2⟩ := k6.loc (.bool a.neg) (.string ⟨(dtxt a.n).toArray⟩) (.int .i64 (a.s : Int))
  replace a0 := K6.cell a0 (by simp)
  replace a1 := K6.cell a1 (by simp)
  replace a2 := K6.cell a2 (by simp)
  replace b0 := K6.cell b0 (by simp)
  replace b1 := K6.cell b1 (by simp)
  replace b2 := K6.cell b2 (by simp)
  replace n0 := K6.cell n0 (by simp)
  replace n1 := K6.cell n1 (by simp)
  replace n2 := K6.cell n2 (by simp)
  replace m0 := K6.cell m0 (by simp)
  replace m1 := K6.cell m1 (by simp)
  replace m2 := K6.cell m2 (by simp)
  replace p0 := K6.cell p0 (by simp)
  replace p1 := K6.cell p1 (by simp)
  replace p2 := K6.cell p2 (by simp)
  go_wp2_with fail
  refine (q5 _).mono ?_
  rintro e w7 ⟨rfl, k7⟩
  obtain ⟨K7, r0, r1, r2⟩ := k7.loc (.bool false) (.string ⟨#[48]⟩) (.int .i64 0)
  replace a0 := K7.cell a0 (by simp)
  replace a1 := K7.cell a1 (by simp)
  replace a2 := K7.cell a2 (by simp)
  replace b0 := K7.cell b0 (by simp)
  replace b1 := K7.cell b1 (by simp)
  replace b2 := K7.cell b2 (by simp)
  replace n0 := K7.cell n0 (by simp)
  replace n1 := K7.cell n1 (by simp)
  replace n2 := K7.cell n2 (by simp)
  replace m0 := K7.cell m0 (by simp)
  replace m1 := K7.cell m1 (by simp)
  replace m2 := K7.cell m2 (by simp)
  replace p0 := K7.cell p0 (by simp)
  replace p1 := K7.cell p1 (by simp)
  replace p2 := K7.cell p2 (by simp)
  replace x0 := K7.cell x0 (by simp)
  replace x1 := K7.cell x1 (by simp)
  replace x2 := K7.cell x2 (by simp)
  go_wp2_with fail
  go_ret
  exact ⟨rfl, (((((((((HK.out.nil k1).nil k2).nil kWZ).nil K3).nil kWB).nil k4).nil K5).nil K6).nil K7)⟩
set_option maxRecDepth 100000 in
set_option maxHeartbeats 12800000 in
theorem vback_mz_on (w : World) (a b : Dc) (ha : Ok a) (hb : Ok b) (hb0 : b.n ≠ 0) (hM : modD a b = some zeroD) (p : Dc) (hP : mulD a b = some p) (hl : (dtxt a.n).length ≤ 34) (ha0 : a.n ≠ 0) (hbs : b.s ≠ 0) :
    Calls Tryd.prog 12 #[.agg #[.bool a.neg, .string ⟨(dtxt a.n).toArray⟩, .int .i64 (a.s : Int)], .agg #[.bool b.neg, .string ⟨(dtxt b.n).toArray⟩, .int .i64 (b.s : Int)]] w (YesPost w) := by
  have hsh := fun W => vshown_any W
  have m0 : ∀ W, Calls Tryd.prog 36 #[.agg #[.bool a.neg, .string ⟨(dtxt a.n).toArray⟩, .int .i64 (a.s : Int)], .agg #[.bool b.neg, .string ⟨(dtxt b.n).toArray⟩, .int .i64 (b.s : Int)]] W fun e w' => e = .returned (.bool true) ∧ Kp [] W w' := fun W => by
    have h := vmay_ok2 (a := a) (b := b) ha hb W
    exact h
  have om := (mod_ok hb0 hM).1
  have less := mod_less hb0 hM
  have q1 : ∀ W, Calls Tryd.prog 39 #[.agg #[.bool a.neg, .string ⟨(dtxt a.n).toArray⟩, .int .i64 (a.s : Int)], .agg #[.bool b.neg, .string ⟨(dtxt b.n).toArray⟩, .int .i64 (b.s : Int)]] W fun e w' => e = .returned (.tuple #[.agg #[.bool false, .string ⟨#[48]⟩, .int .i64 0], .int .i64 0]) ∧ Kp [] W w' := fun W => by
    have h := mod_sure (a := a) (b := b) ha hb hb0 hM W
    exact h
  have okm : Ok ⟨false, (zeroD).n, (zeroD).s⟩ := plain_ok om
  have okb : Ok ⟨false, b.n, b.s⟩ := plain_ok hb
  have q2 : ∀ W, Calls Tryd.prog 30 #[.agg #[.bool false, .string ⟨#[48]⟩, .int .i64 0], .agg #[.bool false, .string ⟨(dtxt b.n).toArray⟩, .int .i64 (b.s : Int)]] W fun e w' => e = .returned (.int .i64 (-1)) ∧ Kp [] W w' := fun W => by
    have h := (rcmp_any W ⟨false, (zeroD).n, (zeroD).s⟩ ⟨false, b.n, b.s⟩ okm okb).mono (fun e w' h => (⟨by rw [h.1, less], h.2⟩ : e = .returned (.int .i64 (-1)) ∧ Kp [] W w'))
    exact h
  have op := (mulD_ok hP).1
  have q3 : ∀ W, Calls Tryd.prog 28 #[.agg #[.bool a.neg, .string ⟨(dtxt a.n).toArray⟩, .int .i64 (a.s : Int)], .agg #[.bool b.neg, .string ⟨(dtxt b.n).toArray⟩, .int .i64 (b.s : Int)]] W fun e w' => e = .returned (.tuple #[.agg #[.bool p.neg, .string ⟨(dtxt p.n).toArray⟩, .int .i64 (p.s : Int)], .int .i64 0]) ∧ Kp [] W w' := fun W => by
    have h := rmul_sure (a := a) (b := b) ha hb hP W
    exact h
  have bl : decide (((dtxt a.n).length : Int) ≤ 34) = true := decide_eq_true (by omega)
  have hal : (⟨(dtxt a.n).toArray⟩ : ByteArray).size = (dtxt a.n).length := size_mk _
  have hl34 : a.n < 10 ^ 34 := by have h := val_lt _ (digs_dtxt a.n); rw [val_dtxt] at h; exact Nat.lt_of_lt_of_le h (Nat.pow_le_pow_right (by decide) hl)
  have ba := dtxt_no48 ha0
  have q4 : ∀ W, Calls Tryd.prog 37 #[.agg #[.bool p.neg, .string ⟨(dtxt p.n).toArray⟩, .int .i64 (p.s : Int)], .agg #[.bool b.neg, .string ⟨(dtxt b.n).toArray⟩, .int .i64 (b.s : Int)]] W fun e w' => e = .returned (.tuple #[.agg #[.bool a.neg, .string ⟨(dtxt a.n).toArray⟩, .int .i64 (a.s : Int)], .int .i64 0]) ∧ Kp [] W w' := fun W => by
    have h := div_sure op hb hb0 (div_mul (a := a) ha hb hb0 hP hl34) W
    exact h
  obtain ⟨r, hr⟩ := mod_some op ha ha0
  have bs : ((b.s : Int) == 0) = false := by rw [beq_eq_false_iff_ne]; omega
  have q5 : ∀ W, Calls Tryd.prog 39 #[.agg #[.bool p.neg, .string ⟨(dtxt p.n).toArray⟩, .int .i64 (p.s : Int)], .agg #[.bool a.neg, .string ⟨(dtxt a.n).toArray⟩, .int .i64 (a.s : Int)]] W fun e w' => e = .returned (.tuple #[.agg #[.bool r.neg, .string ⟨(dtxt r.n).toArray⟩, .int .i64 (r.s : Int)], .int .i64 0]) ∧ Kp [] W w' := fun W => by
    have h := mod_sure op ha ha0 hr W
    exact h
  have bb := dtxt_no48 hb0
  clear ha hb hb0 hM om less okm okb hP op hl hl34 ha0 hbs hr
  have HBa : Cells (w.alloc (.cells #[.bool a.neg, .string ⟨(dtxt a.n).toArray⟩, .int .i64 (a.s : Int)] 23)) w.heap.size 23 [.bool a.neg, .string ⟨(dtxt a.n).toArray⟩, .int .i64 (a.s : Int)] := Cells.fresh w 23 [.bool a.neg, .string ⟨(dtxt a.n).toArray⟩, .int .i64 (a.s : Int)]
  have HBb : Cells ((w.alloc (.cells #[.bool a.neg, .string ⟨(dtxt a.n).toArray⟩, .int .i64 (a.s : Int)] 23)).alloc (.cells #[.bool b.neg, .string ⟨(dtxt b.n).toArray⟩, .int .i64 (b.s : Int)] 23)) (w.heap.size + 1) 23 [.bool b.neg, .string ⟨(dtxt b.n).toArray⟩, .int .i64 (b.s : Int)] := Cells.fresh1 _ _ 23 [.bool b.neg, .string ⟨(dtxt b.n).toArray⟩, .int .i64 (b.s : Int)]
  have HK := hid (((Kp.refl [] w).alloc (.cells #[.bool a.neg, .string ⟨(dtxt a.n).toArray⟩, .int .i64 (a.s : Int)] 23)).alloc (.cells #[.bool b.neg, .string ⟨(dtxt b.n).toArray⟩, .int .i64 (b.s : Int)] 23))
  have HCa := hid ((HBa).alloc (.cells #[.bool b.neg, .string ⟨(dtxt b.n).toArray⟩, .int .i64 (b.s : Int)] 23))
  have HCb := hid (HBb)
  clear HBa HBb
  go_enter Tryd.func12, Tryd.ntmps12
  go_wp2_with fail
  refine (hsh _).mono ?_
  rintro e w1 ⟨rfl, k1⟩
  have Ca := HCa.out.keep k1 (by simp)
  have a0 : _ = some (Value.bool a.neg) := Ca.cell 0
  have a1 : _ = some (Value.string ⟨(dtxt a.n).toArray⟩) := Ca.cell 1
  have a2 : _ = some (Value.int .i64 (a.s : Int)) := Ca.cell 2
  have Cb := HCb.out.keep k1 (by simp)
  have b0 : _ = some (Value.bool b.neg) := Cb.cell 0
  have b1 : _ = some (Value.string ⟨(dtxt b.n).toArray⟩) := Cb.cell 1
  have b2 : _ = some (Value.int .i64 (b.s : Int)) := Cb.cell 2
  clear Ca Cb
  go_wp2_with fail
  refine (m0 _).mono ?_
  rintro e w2 ⟨rfl, k2⟩
  replace a0 := k2.cell a0 (by simp)
  replace a1 := k2.cell a1 (by simp)
  replace a2 := k2.cell a2 (by simp)
  replace b0 := k2.cell b0 (by simp)
  replace b1 := k2.cell b1 (by simp)
  replace b2 := k2.cell b2 (by simp)
  obtain ⟨WZ, hWZ⟩ : ∃ WZ, WZ = w2.alloc (.cells #[.bool false, .string ⟨#[48]⟩, .int .i64 0] 23) := ⟨_, rfl⟩
  have kWZ : Kp [] w2 WZ := by rw [hWZ]; exact (Kp.refl [] _).alloc _
  have Cn : Cells WZ (w2.heap.size) 23 [.bool false, .string ⟨#[48]⟩, .int .i64 0] := by rw [hWZ]; exact (Cells.fresh w2 23 [.bool false, .string ⟨#[48]⟩, .int .i64 0])
  have Hn0 : Hid (_ = some (Value.bool false)) := hid (Cn.cell 0)
  have Hn1 : Hid (_ = some (Value.string ⟨#[48]⟩)) := hid (Cn.cell 1)
  have Hn2 : Hid (_ = some (Value.int .i64 0)) := hid (Cn.cell 2)
  clear Cn
  have Ha0 := hid (kWZ.cell a0 (by simp))
  have Ha1 := hid (kWZ.cell a1 (by simp))
  have Ha2 := hid (kWZ.cell a2 (by simp))
  have Hb0 := hid (kWZ.cell b0 (by simp))
  have Hb1 := hid (kWZ.cell b1 (by simp))
  have Hb2 := hid (kWZ.cell b2 (by simp))
  have HWZ := hid hWZ
  clear hWZ
  go_upto_region 4 with fail
  rw [← HWZ.out]
  replace a0 := Ha0.out
  replace a1 := Ha1.out
  replace a2 := Ha2.out
  replace b0 := Hb0.out
  replace b1 := Hb1.out
  replace b2 := Hb2.out
  have n0 := Hn0.out
  have n1 := Hn1.out
  have n2 := Hn2.out
  clear Ha0 Ha1 Ha2 Hb0 Hb1 Hb2 Hn0 Hn1 Hn2
  go_wp2_with fail
  refine (q1 _).mono ?_
  rintro e w3 ⟨rfl, k3⟩
  obtain ⟨K3, m0, m1, m2⟩ := k3.loc (.bool false) (.string ⟨#[48]⟩) (.int .i64 0)
  replace a0 := K3.cell a0 (by simp)
  replace a1 := K3.cell a1 (by simp)
  replace a2 := K3.cell a2 (by simp)
  replace b0 := K3.cell b0 (by simp)
  replace b1 := K3.cell b1 (by simp)
  replace b2 := K3.cell b2 (by simp)
  replace n0 := K3.cell n0 (by simp)
  replace n1 := K3.cell n1 (by simp)
  replace n2 := K3.cell n2 (by simp)
  obtain ⟨WB, hWB⟩ : ∃ WB, WB = ((w3.alloc (.cells #[.bool false, .string ⟨#[48]⟩, .int .i64 0] 23)).alloc (.cells #[.bool false, .string ⟨(dtxt b.n).toArray⟩, .int .i64 (b.s : Int)] 23)).alloc (.cells #[.bool false, .string ⟨#[48]⟩, .int .i64 0] 23) := ⟨_, rfl⟩
  have kWB : Kp [] (w3.alloc (.cells #[.bool false, .string ⟨#[48]⟩, .int .i64 0] 23)) WB := by rw [hWB]; exact ((Kp.refl [] _).alloc _).alloc _
  have Cg : Cells WB (w3.heap.size + 1) 23 [.bool false, .string ⟨(dtxt b.n).toArray⟩, .int .i64 (b.s : Int)] := by rw [hWB]; have h := (Cells.fresh (w3.alloc (.cells #[.bool false, .string ⟨#[48]⟩, .int .i64 0] 23)) 23 [.bool false, .string ⟨(dtxt b.n).toArray⟩, .int .i64 (b.s : Int)]).alloc (.cells #[.bool false, .string ⟨#[48]⟩, .int .i64 0] 23); simpa using h
  have Hg0 : Hid (_ = some (Value.bool false)) := hid (Cg.cell 0)
  have Hg1 : Hid (_ = some (Value.string ⟨(dtxt b.n).toArray⟩)) := hid (Cg.cell 1)
  have Hg2 : Hid (_ = some (Value.int .i64 (b.s : Int))) := hid (Cg.cell 2)
  clear Cg
  have Cl : Cells WB (w3.heap.size + 1 + 1) 23 [.bool false, .string ⟨#[48]⟩, .int .i64 0] := by rw [hWB]; have h := Cells.fresh1 (w3.alloc (.cells #[.bool false, .string ⟨#[48]⟩, .int .i64 0] 23)) (.cells #[.bool false, .string ⟨(dtxt b.n).toArray⟩, .int .i64 (b.s : Int)] 23) 23 [.bool false, .string ⟨#[48]⟩, .int .i64 0]; simpa using h
  have Hl0 : Hid (_ = some (Value.bool false)) := hid (Cl.cell 0)
  have Hl1 : Hid (_ = some (Value.string ⟨#[48]⟩)) := hid (Cl.cell 1)
  have Hl2 : Hid (_ = some (Value.int .i64 0)) := hid (Cl.cell 2)
  clear Cl
  have Ha0 := hid (kWB.cell a0 (by simp))
  have Ha1 := hid (kWB.cell a1 (by simp))
  have Ha2 := hid (kWB.cell a2 (by simp))
  have Hb0 := hid (kWB.cell b0 (by simp))
  have Hb1 := hid (kWB.cell b1 (by simp))
  have Hb2 := hid (kWB.cell b2 (by simp))
  have Hn0 := hid (kWB.cell n0 (by simp))
  have Hn1 := hid (kWB.cell n1 (by simp))
  have Hn2 := hid (kWB.cell n2 (by simp))
  have Hm0 := hid (kWB.cell m0 (by simp))
  have Hm1 := hid (kWB.cell m1 (by simp))
  have Hm2 := hid (kWB.cell m2 (by simp))
  have HWB := hid hWB
  clear hWB
  go_upto_region 15 with fail
  rw [← HWB.out]
  replace a0 := Ha0.out
  replace a1 := Ha1.out
  replace a2 := Ha2.out
  replace b0 := Hb0.out
  replace b1 := Hb1.out
  replace b2 := Hb2.out
  replace n0 := Hn0.out
  replace n1 := Hn1.out
  replace n2 := Hn2.out
  replace m0 := Hm0.out
  replace m1 := Hm1.out
  replace m2 := Hm2.out
  have g0 := Hg0.out
  have g1 := Hg1.out
  have g2 := Hg2.out
  have l0 := Hl0.out
  have l1 := Hl1.out
  have l2 := Hl2.out
  clear Ha0 Ha1 Ha2 Hb0 Hb1 Hb2 Hn0 Hn1 Hn2 Hm0 Hm1 Hm2 Hg0 Hg1 Hg2 Hl0 Hl1 Hl2
  go_wp2_with fail
  refine (q2 _).mono ?_
  rintro e w4 ⟨rfl, k4⟩
  replace a0 := k4.cell a0 (by simp)
  replace a1 := k4.cell a1 (by simp)
  replace a2 := k4.cell a2 (by simp)
  replace b0 := k4.cell b0 (by simp)
  replace b1 := k4.cell b1 (by simp)
  replace b2 := k4.cell b2 (by simp)
  replace n0 := k4.cell n0 (by simp)
  replace n1 := k4.cell n1 (by simp)
  replace n2 := k4.cell n2 (by simp)
  replace m0 := k4.cell m0 (by simp)
  replace m1 := k4.cell m1 (by simp)
  replace m2 := k4.cell m2 (by simp)
  go_wp2_with fail
  refine (q3 _).mono ?_
  rintro e w5 ⟨rfl, k5⟩
  obtain ⟨K5, p0, p1, p2⟩ := k5.loc (.bool p.neg) (.string ⟨(dtxt p.n).toArray⟩) (.int .i64 (p.s : Int))
  replace a0 := K5.cell a0 (by simp)
  replace a1 := K5.cell a1 (by simp)
  replace a2 := K5.cell a2 (by simp)
  replace b0 := K5.cell b0 (by simp)
  replace b1 := K5.cell b1 (by simp)
  replace b2 := K5.cell b2 (by simp)
  replace n0 := K5.cell n0 (by simp)
  replace n1 := K5.cell n1 (by simp)
  replace n2 := K5.cell n2 (by simp)
  replace m0 := K5.cell m0 (by simp)
  replace m1 := K5.cell m1 (by simp)
  replace m2 := K5.cell m2 (by simp)
  go_wp2_with fail
  refine (q4 _).mono ?_
  rintro e w6 ⟨rfl, k6⟩
  obtain ⟨K6, x0, x1, x2⟩ := k6.loc (.bool a.neg) (.string ⟨(dtxt a.n).toArray⟩) (.int .i64 (a.s : Int))
  replace a0 := K6.cell a0 (by simp)
  replace a1 := K6.cell a1 (by simp)
  replace a2 := K6.cell a2 (by simp)
  replace b0 := K6.cell b0 (by simp)
  replace b1 := K6.cell b1 (by simp)
  replace b2 := K6.cell b2 (by simp)
  replace n0 := K6.cell n0 (by simp)
  replace n1 := K6.cell n1 (by simp)
  replace n2 := K6.cell n2 (by simp)
  replace m0 := K6.cell m0 (by simp)
  replace m1 := K6.cell m1 (by simp)
  replace m2 := K6.cell m2 (by simp)
  replace p0 := K6.cell p0 (by simp)
  replace p1 := K6.cell p1 (by simp)
  replace p2 := K6.cell p2 (by simp)
  go_wp2_with fail
  refine (q5 _).mono ?_
  rintro e w7 ⟨rfl, k7⟩
  obtain ⟨K7, r0, r1, r2⟩ := k7.loc (.bool r.neg) (.string ⟨(dtxt r.n).toArray⟩) (.int .i64 (r.s : Int))
  replace a0 := K7.cell a0 (by simp)
  replace a1 := K7.cell a1 (by simp)
  replace a2 := K7.cell a2 (by simp)
  replace b0 := K7.cell b0 (by simp)
  replace b1 := K7.cell b1 (by simp)
  replace b2 := K7.cell b2 (by simp)
  replace n0 := K7.cell n0 (by simp)
  replace n1 := K7.cell n1 (by simp)
  replace n2 := K7.cell n2 (by simp)
  replace m0 := K7.cell m0 (by simp)
  replace m1 := K7.cell m1 (by simp)
  replace m2 := K7.cell m2 (by simp)
  replace p0 := K7.cell p0 (by simp)
  replace p1 := K7.cell p1 (by simp)
  replace p2 := K7.cell p2 (by simp)
  replace x0 := K7.cell x0 (by simp)
  replace x1 := K7.cell x1 (by simp)
  replace x2 := K7.cell x2 (by simp)
  go_wp2_with fail
  go_ret
  exact ⟨rfl, (((((((((HK.out.nil k1).nil k2).nil kWZ).nil K3).nil kWB).nil k4).nil K5).nil K6).nil K7)⟩
set_option maxRecDepth 100000 in
set_option maxHeartbeats 12800000 in
theorem vback_mn_o0 (w : World) (a b : Dc) (ha : Ok a) (hb : Ok b) (hb0 : b.n ≠ 0) (m : Dc) (hM : modD a b = some m) (hm0 : m.n ≠ 0) (hmneg : m.neg = a.neg) (hP : mulD a b = none) :
    Calls Tryd.prog 12 #[.agg #[.bool a.neg, .string ⟨(dtxt a.n).toArray⟩, .int .i64 (a.s : Int)], .agg #[.bool b.neg, .string ⟨(dtxt b.n).toArray⟩, .int .i64 (b.s : Int)]] w (YesPost w) := by
  have hsh := fun W => vshown_any W
  have m0 : ∀ W, Calls Tryd.prog 36 #[.agg #[.bool a.neg, .string ⟨(dtxt a.n).toArray⟩, .int .i64 (a.s : Int)], .agg #[.bool b.neg, .string ⟨(dtxt b.n).toArray⟩, .int .i64 (b.s : Int)]] W fun e w' => e = .returned (.bool true) ∧ Kp [] W w' := fun W => by
    have h := vmay_ok2 (a := a) (b := b) ha hb W
    exact h
  have om := (mod_ok hb0 hM).1
  have less := mod_less hb0 hM
  have q1 : ∀ W, Calls Tryd.prog 39 #[.agg #[.bool a.neg, .string ⟨(dtxt a.n).toArray⟩, .int .i64 (a.s : Int)], .agg #[.bool b.neg, .string ⟨(dtxt b.n).toArray⟩, .int .i64 (b.s : Int)]] W fun e w' => e = .returned (.tuple #[.agg #[.bool a.neg, .string ⟨(dtxt m.n).toArray⟩, .int .i64 (m.s : Int)], .int .i64 0]) ∧ Kp [] W w' := fun W => by
    have h := mod_sure (a := a) (b := b) ha hb hb0 hM W
    rw [hmneg] at h
    exact h
  have okm : Ok ⟨false, (m).n, (m).s⟩ := plain_ok om
  have okb : Ok ⟨false, b.n, b.s⟩ := plain_ok hb
  have q2 : ∀ W, Calls Tryd.prog 30 #[.agg #[.bool false, .string ⟨(dtxt m.n).toArray⟩, .int .i64 (m.s : Int)], .agg #[.bool false, .string ⟨(dtxt b.n).toArray⟩, .int .i64 (b.s : Int)]] W fun e w' => e = .returned (.int .i64 (-1)) ∧ Kp [] W w' := fun W => by
    have h := (rcmp_any W ⟨false, (m).n, (m).s⟩ ⟨false, b.n, b.s⟩ okm okb).mono (fun e w' h => (⟨by rw [h.1, less], h.2⟩ : e = .returned (.int .i64 (-1)) ∧ Kp [] W w'))
    exact h
  have q3 : ∀ W, Calls Tryd.prog 28 #[.agg #[.bool a.neg, .string ⟨(dtxt a.n).toArray⟩, .int .i64 (a.s : Int)], .agg #[.bool b.neg, .string ⟨(dtxt b.n).toArray⟩, .int .i64 (b.s : Int)]] W fun e w' => e = .returned (.tuple #[.agg #[.bool false, .string ⟨#[]⟩, .int .i64 0], .int .i64 3]) ∧ Kp [] W w' := fun W => by
    have h := rmul_none (a := a) (b := b) ha hb hP W
    exact h
  have bb := dtxt_no48 hb0
  have bm := dtxt_no48 hm0
  clear ha hb hb0 hM om less okm okb hP hm0 hmneg
  have HBa : Cells (w.alloc (.cells #[.bool a.neg, .string ⟨(dtxt a.n).toArray⟩, .int .i64 (a.s : Int)] 23)) w.heap.size 23 [.bool a.neg, .string ⟨(dtxt a.n).toArray⟩, .int .i64 (a.s : Int)] := Cells.fresh w 23 [.bool a.neg, .string ⟨(dtxt a.n).toArray⟩, .int .i64 (a.s : Int)]
  have HBb : Cells ((w.alloc (.cells #[.bool a.neg, .string ⟨(dtxt a.n).toArray⟩, .int .i64 (a.s : Int)] 23)).alloc (.cells #[.bool b.neg, .string ⟨(dtxt b.n).toArray⟩, .int .i64 (b.s : Int)] 23)) (w.heap.size + 1) 23 [.bool b.neg, .string ⟨(dtxt b.n).toArray⟩, .int .i64 (b.s : Int)] := Cells.fresh1 _ _ 23 [.bool b.neg, .string ⟨(dtxt b.n).toArray⟩, .int .i64 (b.s : Int)]
  have HK := hid (((Kp.refl [] w).alloc (.cells #[.bool a.neg, .string ⟨(dtxt a.n).toArray⟩, .int .i64 (a.s : Int)] 23)).alloc (.cells #[.bool b.neg, .string ⟨(dtxt b.n).toArray⟩, .int .i64 (b.s : Int)] 23))
  have HCa := hid ((HBa).alloc (.cells #[.bool b.neg, .string ⟨(dtxt b.n).toArray⟩, .int .i64 (b.s : Int)] 23))
  have HCb := hid (HBb)
  clear HBa HBb
  go_enter Tryd.func12, Tryd.ntmps12
  go_wp2_with fail
  refine (hsh _).mono ?_
  rintro e w1 ⟨rfl, k1⟩
  have Ca := HCa.out.keep k1 (by simp)
  have a0 : _ = some (Value.bool a.neg) := Ca.cell 0
  have a1 : _ = some (Value.string ⟨(dtxt a.n).toArray⟩) := Ca.cell 1
  have a2 : _ = some (Value.int .i64 (a.s : Int)) := Ca.cell 2
  have Cb := HCb.out.keep k1 (by simp)
  have b0 : _ = some (Value.bool b.neg) := Cb.cell 0
  have b1 : _ = some (Value.string ⟨(dtxt b.n).toArray⟩) := Cb.cell 1
  have b2 : _ = some (Value.int .i64 (b.s : Int)) := Cb.cell 2
  clear Ca Cb
  go_wp2_with fail
  refine (m0 _).mono ?_
  rintro e w2 ⟨rfl, k2⟩
  replace a0 := k2.cell a0 (by simp)
  replace a1 := k2.cell a1 (by simp)
  replace a2 := k2.cell a2 (by simp)
  replace b0 := k2.cell b0 (by simp)
  replace b1 := k2.cell b1 (by simp)
  replace b2 := k2.cell b2 (by simp)
  obtain ⟨WZ, hWZ⟩ : ∃ WZ, WZ = w2.alloc (.cells #[.bool false, .string ⟨#[48]⟩, .int .i64 0] 23) := ⟨_, rfl⟩
  have kWZ : Kp [] w2 WZ := by rw [hWZ]; exact (Kp.refl [] _).alloc _
  have Cn : Cells WZ (w2.heap.size) 23 [.bool false, .string ⟨#[48]⟩, .int .i64 0] := by rw [hWZ]; exact (Cells.fresh w2 23 [.bool false, .string ⟨#[48]⟩, .int .i64 0])
  have Hn0 : Hid (_ = some (Value.bool false)) := hid (Cn.cell 0)
  have Hn1 : Hid (_ = some (Value.string ⟨#[48]⟩)) := hid (Cn.cell 1)
  have Hn2 : Hid (_ = some (Value.int .i64 0)) := hid (Cn.cell 2)
  clear Cn
  have Ha0 := hid (kWZ.cell a0 (by simp))
  have Ha1 := hid (kWZ.cell a1 (by simp))
  have Ha2 := hid (kWZ.cell a2 (by simp))
  have Hb0 := hid (kWZ.cell b0 (by simp))
  have Hb1 := hid (kWZ.cell b1 (by simp))
  have Hb2 := hid (kWZ.cell b2 (by simp))
  have HWZ := hid hWZ
  clear hWZ
  go_upto_region 4 with fail
  rw [← HWZ.out]
  replace a0 := Ha0.out
  replace a1 := Ha1.out
  replace a2 := Ha2.out
  replace b0 := Hb0.out
  replace b1 := Hb1.out
  replace b2 := Hb2.out
  have n0 := Hn0.out
  have n1 := Hn1.out
  have n2 := Hn2.out
  clear Ha0 Ha1 Ha2 Hb0 Hb1 Hb2 Hn0 Hn1 Hn2
  go_wp2_with fail
  refine (q1 _).mono ?_
  rintro e w3 ⟨rfl, k3⟩
  obtain ⟨K3, m0, m1, m2⟩ := k3.loc (.bool a.neg) (.string ⟨(dtxt m.n).toArray⟩) (.int .i64 (m.s : Int))
  replace a0 := K3.cell a0 (by simp)
  replace a1 := K3.cell a1 (by simp)
  replace a2 := K3.cell a2 (by simp)
  replace b0 := K3.cell b0 (by simp)
  replace b1 := K3.cell b1 (by simp)
  replace b2 := K3.cell b2 (by simp)
  replace n0 := K3.cell n0 (by simp)
  replace n1 := K3.cell n1 (by simp)
  replace n2 := K3.cell n2 (by simp)
  obtain ⟨WB, hWB⟩ : ∃ WB, WB = ((w3.alloc (.cells #[.bool a.neg, .string ⟨(dtxt m.n).toArray⟩, .int .i64 (m.s : Int)] 23)).alloc (.cells #[.bool false, .string ⟨(dtxt b.n).toArray⟩, .int .i64 (b.s : Int)] 23)).alloc (.cells #[.bool false, .string ⟨(dtxt m.n).toArray⟩, .int .i64 (m.s : Int)] 23) := ⟨_, rfl⟩
  have kWB : Kp [] (w3.alloc (.cells #[.bool a.neg, .string ⟨(dtxt m.n).toArray⟩, .int .i64 (m.s : Int)] 23)) WB := by rw [hWB]; exact ((Kp.refl [] _).alloc _).alloc _
  have Cg : Cells WB (w3.heap.size + 1) 23 [.bool false, .string ⟨(dtxt b.n).toArray⟩, .int .i64 (b.s : Int)] := by rw [hWB]; have h := (Cells.fresh (w3.alloc (.cells #[.bool a.neg, .string ⟨(dtxt m.n).toArray⟩, .int .i64 (m.s : Int)] 23)) 23 [.bool false, .string ⟨(dtxt b.n).toArray⟩, .int .i64 (b.s : Int)]).alloc (.cells #[.bool false, .string ⟨(dtxt m.n).toArray⟩, .int .i64 (m.s : Int)] 23); simpa using h
  have Hg0 : Hid (_ = some (Value.bool false)) := hid (Cg.cell 0)
  have Hg1 : Hid (_ = some (Value.string ⟨(dtxt b.n).toArray⟩)) := hid (Cg.cell 1)
  have Hg2 : Hid (_ = some (Value.int .i64 (b.s : Int))) := hid (Cg.cell 2)
  clear Cg
  have Cl : Cells WB (w3.heap.size + 1 + 1) 23 [.bool false, .string ⟨(dtxt m.n).toArray⟩, .int .i64 (m.s : Int)] := by rw [hWB]; have h := Cells.fresh1 (w3.alloc (.cells #[.bool a.neg, .string ⟨(dtxt m.n).toArray⟩, .int .i64 (m.s : Int)] 23)) (.cells #[.bool false, .string ⟨(dtxt b.n).toArray⟩, .int .i64 (b.s : Int)] 23) 23 [.bool false, .string ⟨(dtxt m.n).toArray⟩, .int .i64 (m.s : Int)]; simpa using h
  have Hl0 : Hid (_ = some (Value.bool false)) := hid (Cl.cell 0)
  have Hl1 : Hid (_ = some (Value.string ⟨(dtxt m.n).toArray⟩)) := hid (Cl.cell 1)
  have Hl2 : Hid (_ = some (Value.int .i64 (m.s : Int))) := hid (Cl.cell 2)
  clear Cl
  have Ha0 := hid (kWB.cell a0 (by simp))
  have Ha1 := hid (kWB.cell a1 (by simp))
  have Ha2 := hid (kWB.cell a2 (by simp))
  have Hb0 := hid (kWB.cell b0 (by simp))
  have Hb1 := hid (kWB.cell b1 (by simp))
  have Hb2 := hid (kWB.cell b2 (by simp))
  have Hn0 := hid (kWB.cell n0 (by simp))
  have Hn1 := hid (kWB.cell n1 (by simp))
  have Hn2 := hid (kWB.cell n2 (by simp))
  have Hm0 := hid (kWB.cell m0 (by simp))
  have Hm1 := hid (kWB.cell m1 (by simp))
  have Hm2 := hid (kWB.cell m2 (by simp))
  have HWB := hid hWB
  clear hWB
  go_upto_region 15 with fail
  rw [← HWB.out]
  replace a0 := Ha0.out
  replace a1 := Ha1.out
  replace a2 := Ha2.out
  replace b0 := Hb0.out
  replace b1 := Hb1.out
  replace b2 := Hb2.out
  replace n0 := Hn0.out
  replace n1 := Hn1.out
  replace n2 := Hn2.out
  replace m0 := Hm0.out
  replace m1 := Hm1.out
  replace m2 := Hm2.out
  have g0 := Hg0.out
  have g1 := Hg1.out
  have g2 := Hg2.out
  have l0 := Hl0.out
  have l1 := Hl1.out
  have l2 := Hl2.out
  clear Ha0 Ha1 Ha2 Hb0 Hb1 Hb2 Hn0 Hn1 Hn2 Hm0 Hm1 Hm2 Hg0 Hg1 Hg2 Hl0 Hl1 Hl2
  go_wp2_with fail
  refine (q2 _).mono ?_
  rintro e w4 ⟨rfl, k4⟩
  replace a0 := k4.cell a0 (by simp)
  replace a1 := k4.cell a1 (by simp)
  replace a2 := k4.cell a2 (by simp)
  replace b0 := k4.cell b0 (by simp)
  replace b1 := k4.cell b1 (by simp)
  replace b2 := k4.cell b2 (by simp)
  replace n0 := k4.cell n0 (by simp)
  replace n1 := k4.cell n1 (by simp)
  replace n2 := k4.cell n2 (by simp)
  replace m0 := k4.cell m0 (by simp)
  replace m1 := k4.cell m1 (by simp)
  replace m2 := k4.cell m2 (by simp)
  go_wp2_with fail
  refine (q3 _).mono ?_
  rintro e w5 ⟨rfl, k5⟩
  obtain ⟨K5, p0, p1, p2⟩ := k5.loc (.bool false) (.string ⟨#[]⟩) (.int .i64 0)
  replace a0 := K5.cell a0 (by simp)
  replace a1 := K5.cell a1 (by simp)
  replace a2 := K5.cell a2 (by simp)
  replace b0 := K5.cell b0 (by simp)
  replace b1 := K5.cell b1 (by simp)
  replace b2 := K5.cell b2 (by simp)
  replace n0 := K5.cell n0 (by simp)
  replace n1 := K5.cell n1 (by simp)
  replace n2 := K5.cell n2 (by simp)
  replace m0 := K5.cell m0 (by simp)
  replace m1 := K5.cell m1 (by simp)
  replace m2 := K5.cell m2 (by simp)
  go_wp2_with fail
  go_ret
  exact ⟨rfl, (((((((HK.out.nil k1).nil k2).nil kWZ).nil K3).nil kWB).nil k4).nil K5)⟩
set_option maxRecDepth 100000 in
set_option maxHeartbeats 12800000 in
theorem vback_mn_ol (w : World) (a b : Dc) (ha : Ok a) (hb : Ok b) (hb0 : b.n ≠ 0) (m : Dc) (hM : modD a b = some m) (hm0 : m.n ≠ 0) (hmneg : m.neg = a.neg) (p : Dc) (hP : mulD a b = some p) (hl : 34 < (dtxt a.n).length) :
    Calls Tryd.prog 12 #[.agg #[.bool a.neg, .string ⟨(dtxt a.n).toArray⟩, .int .i64 (a.s : Int)], .agg #[.bool b.neg, .string ⟨(dtxt b.n).toArray⟩, .int .i64 (b.s : Int)]] w (YesPost w) := by
  have hsh := fun W => vshown_any W
  have m0 : ∀ W, Calls Tryd.prog 36 #[.agg #[.bool a.neg, .string ⟨(dtxt a.n).toArray⟩, .int .i64 (a.s : Int)], .agg #[.bool b.neg, .string ⟨(dtxt b.n).toArray⟩, .int .i64 (b.s : Int)]] W fun e w' => e = .returned (.bool true) ∧ Kp [] W w' := fun W => by
    have h := vmay_ok2 (a := a) (b := b) ha hb W
    exact h
  have om := (mod_ok hb0 hM).1
  have less := mod_less hb0 hM
  have q1 : ∀ W, Calls Tryd.prog 39 #[.agg #[.bool a.neg, .string ⟨(dtxt a.n).toArray⟩, .int .i64 (a.s : Int)], .agg #[.bool b.neg, .string ⟨(dtxt b.n).toArray⟩, .int .i64 (b.s : Int)]] W fun e w' => e = .returned (.tuple #[.agg #[.bool a.neg, .string ⟨(dtxt m.n).toArray⟩, .int .i64 (m.s : Int)], .int .i64 0]) ∧ Kp [] W w' := fun W => by
    have h := mod_sure (a := a) (b := b) ha hb hb0 hM W
    rw [hmneg] at h
    exact h
  have okm : Ok ⟨false, (m).n, (m).s⟩ := plain_ok om
  have okb : Ok ⟨false, b.n, b.s⟩ := plain_ok hb
  have q2 : ∀ W, Calls Tryd.prog 30 #[.agg #[.bool false, .string ⟨(dtxt m.n).toArray⟩, .int .i64 (m.s : Int)], .agg #[.bool false, .string ⟨(dtxt b.n).toArray⟩, .int .i64 (b.s : Int)]] W fun e w' => e = .returned (.int .i64 (-1)) ∧ Kp [] W w' := fun W => by
    have h := (rcmp_any W ⟨false, (m).n, (m).s⟩ ⟨false, b.n, b.s⟩ okm okb).mono (fun e w' h => (⟨by rw [h.1, less], h.2⟩ : e = .returned (.int .i64 (-1)) ∧ Kp [] W w'))
    exact h
  have op := (mulD_ok hP).1
  have q3 : ∀ W, Calls Tryd.prog 28 #[.agg #[.bool a.neg, .string ⟨(dtxt a.n).toArray⟩, .int .i64 (a.s : Int)], .agg #[.bool b.neg, .string ⟨(dtxt b.n).toArray⟩, .int .i64 (b.s : Int)]] W fun e w' => e = .returned (.tuple #[.agg #[.bool p.neg, .string ⟨(dtxt p.n).toArray⟩, .int .i64 (p.s : Int)], .int .i64 0]) ∧ Kp [] W w' := fun W => by
    have h := rmul_sure (a := a) (b := b) ha hb hP W
    exact h
  have bl : decide (((dtxt a.n).length : Int) ≤ 34) = false := decide_eq_false (by omega)
  have hal : (⟨(dtxt a.n).toArray⟩ : ByteArray).size = (dtxt a.n).length := size_mk _
  have bb := dtxt_no48 hb0
  have bm := dtxt_no48 hm0
  clear ha hb hb0 hM om less okm okb hP op hl hm0 hmneg
  have HBa : Cells (w.alloc (.cells #[.bool a.neg, .string ⟨(dtxt a.n).toArray⟩, .int .i64 (a.s : Int)] 23)) w.heap.size 23 [.bool a.neg, .string ⟨(dtxt a.n).toArray⟩, .int .i64 (a.s : Int)] := Cells.fresh w 23 [.bool a.neg, .string ⟨(dtxt a.n).toArray⟩, .int .i64 (a.s : Int)]
  have HBb : Cells ((w.alloc (.cells #[.bool a.neg, .string ⟨(dtxt a.n).toArray⟩, .int .i64 (a.s : Int)] 23)).alloc (.cells #[.bool b.neg, .string ⟨(dtxt b.n).toArray⟩, .int .i64 (b.s : Int)] 23)) (w.heap.size + 1) 23 [.bool b.neg, .string ⟨(dtxt b.n).toArray⟩, .int .i64 (b.s : Int)] := Cells.fresh1 _ _ 23 [.bool b.neg, .string ⟨(dtxt b.n).toArray⟩, .int .i64 (b.s : Int)]
  have HK := hid (((Kp.refl [] w).alloc (.cells #[.bool a.neg, .string ⟨(dtxt a.n).toArray⟩, .int .i64 (a.s : Int)] 23)).alloc (.cells #[.bool b.neg, .string ⟨(dtxt b.n).toArray⟩, .int .i64 (b.s : Int)] 23))
  have HCa := hid ((HBa).alloc (.cells #[.bool b.neg, .string ⟨(dtxt b.n).toArray⟩, .int .i64 (b.s : Int)] 23))
  have HCb := hid (HBb)
  clear HBa HBb
  go_enter Tryd.func12, Tryd.ntmps12
  go_wp2_with fail
  refine (hsh _).mono ?_
  rintro e w1 ⟨rfl, k1⟩
  have Ca := HCa.out.keep k1 (by simp)
  have a0 : _ = some (Value.bool a.neg) := Ca.cell 0
  have a1 : _ = some (Value.string ⟨(dtxt a.n).toArray⟩) := Ca.cell 1
  have a2 : _ = some (Value.int .i64 (a.s : Int)) := Ca.cell 2
  have Cb := HCb.out.keep k1 (by simp)
  have b0 : _ = some (Value.bool b.neg) := Cb.cell 0
  have b1 : _ = some (Value.string ⟨(dtxt b.n).toArray⟩) := Cb.cell 1
  have b2 : _ = some (Value.int .i64 (b.s : Int)) := Cb.cell 2
  clear Ca Cb
  go_wp2_with fail
  refine (m0 _).mono ?_
  rintro e w2 ⟨rfl, k2⟩
  replace a0 := k2.cell a0 (by simp)
  replace a1 := k2.cell a1 (by simp)
  replace a2 := k2.cell a2 (by simp)
  replace b0 := k2.cell b0 (by simp)
  replace b1 := k2.cell b1 (by simp)
  replace b2 := k2.cell b2 (by simp)
  obtain ⟨WZ, hWZ⟩ : ∃ WZ, WZ = w2.alloc (.cells #[.bool false, .string ⟨#[48]⟩, .int .i64 0] 23) := ⟨_, rfl⟩
  have kWZ : Kp [] w2 WZ := by rw [hWZ]; exact (Kp.refl [] _).alloc _
  have Cn : Cells WZ (w2.heap.size) 23 [.bool false, .string ⟨#[48]⟩, .int .i64 0] := by rw [hWZ]; exact (Cells.fresh w2 23 [.bool false, .string ⟨#[48]⟩, .int .i64 0])
  have Hn0 : Hid (_ = some (Value.bool false)) := hid (Cn.cell 0)
  have Hn1 : Hid (_ = some (Value.string ⟨#[48]⟩)) := hid (Cn.cell 1)
  have Hn2 : Hid (_ = some (Value.int .i64 0)) := hid (Cn.cell 2)
  clear Cn
  have Ha0 := hid (kWZ.cell a0 (by simp))
  have Ha1 := hid (kWZ.cell a1 (by simp))
  have Ha2 := hid (kWZ.cell a2 (by simp))
  have Hb0 := hid (kWZ.cell b0 (by simp))
  have Hb1 := hid (kWZ.cell b1 (by simp))
  have Hb2 := hid (kWZ.cell b2 (by simp))
  have HWZ := hid hWZ
  clear hWZ
  go_upto_region 4 with fail
  rw [← HWZ.out]
  replace a0 := Ha0.out
  replace a1 := Ha1.out
  replace a2 := Ha2.out
  replace b0 := Hb0.out
  replace b1 := Hb1.out
  replace b2 := Hb2.out
  have n0 := Hn0.out
  have n1 := Hn1.out
  have n2 := Hn2.out
  clear Ha0 Ha1 Ha2 Hb0 Hb1 Hb2 Hn0 Hn1 Hn2
  go_wp2_with fail
  refine (q1 _).mono ?_
  rintro e w3 ⟨rfl, k3⟩
  obtain ⟨K3, m0, m1, m2⟩ := k3.loc (.bool a.neg) (.string ⟨(dtxt m.n).toArray⟩) (.int .i64 (m.s : Int))
  replace a0 := K3.cell a0 (by simp)
  replace a1 := K3.cell a1 (by simp)
  replace a2 := K3.cell a2 (by simp)
  replace b0 := K3.cell b0 (by simp)
  replace b1 := K3.cell b1 (by simp)
  replace b2 := K3.cell b2 (by simp)
  replace n0 := K3.cell n0 (by simp)
  replace n1 := K3.cell n1 (by simp)
  replace n2 := K3.cell n2 (by simp)
  obtain ⟨WB, hWB⟩ : ∃ WB, WB = ((w3.alloc (.cells #[.bool a.neg, .string ⟨(dtxt m.n).toArray⟩, .int .i64 (m.s : Int)] 23)).alloc (.cells #[.bool false, .string ⟨(dtxt b.n).toArray⟩, .int .i64 (b.s : Int)] 23)).alloc (.cells #[.bool false, .string ⟨(dtxt m.n).toArray⟩, .int .i64 (m.s : Int)] 23) := ⟨_, rfl⟩
  have kWB : Kp [] (w3.alloc (.cells #[.bool a.neg, .string ⟨(dtxt m.n).toArray⟩, .int .i64 (m.s : Int)] 23)) WB := by rw [hWB]; exact ((Kp.refl [] _).alloc _).alloc _
  have Cg : Cells WB (w3.heap.size + 1) 23 [.bool false, .string ⟨(dtxt b.n).toArray⟩, .int .i64 (b.s : Int)] := by rw [hWB]; have h := (Cells.fresh (w3.alloc (.cells #[.bool a.neg, .string ⟨(dtxt m.n).toArray⟩, .int .i64 (m.s : Int)] 23)) 23 [.bool false, .string ⟨(dtxt b.n).toArray⟩, .int .i64 (b.s : Int)]).alloc (.cells #[.bool false, .string ⟨(dtxt m.n).toArray⟩, .int .i64 (m.s : Int)] 23); simpa using h
  have Hg0 : Hid (_ = some (Value.bool false)) := hid (Cg.cell 0)
  have Hg1 : Hid (_ = some (Value.string ⟨(dtxt b.n).toArray⟩)) := hid (Cg.cell 1)
  have Hg2 : Hid (_ = some (Value.int .i64 (b.s : Int))) := hid (Cg.cell 2)
  clear Cg
  have Cl : Cells WB (w3.heap.size + 1 + 1) 23 [.bool false, .string ⟨(dtxt m.n).toArray⟩, .int .i64 (m.s : Int)] := by rw [hWB]; have h := Cells.fresh1 (w3.alloc (.cells #[.bool a.neg, .string ⟨(dtxt m.n).toArray⟩, .int .i64 (m.s : Int)] 23)) (.cells #[.bool false, .string ⟨(dtxt b.n).toArray⟩, .int .i64 (b.s : Int)] 23) 23 [.bool false, .string ⟨(dtxt m.n).toArray⟩, .int .i64 (m.s : Int)]; simpa using h
  have Hl0 : Hid (_ = some (Value.bool false)) := hid (Cl.cell 0)
  have Hl1 : Hid (_ = some (Value.string ⟨(dtxt m.n).toArray⟩)) := hid (Cl.cell 1)
  have Hl2 : Hid (_ = some (Value.int .i64 (m.s : Int))) := hid (Cl.cell 2)
  clear Cl
  have Ha0 := hid (kWB.cell a0 (by simp))
  have Ha1 := hid (kWB.cell a1 (by simp))
  have Ha2 := hid (kWB.cell a2 (by simp))
  have Hb0 := hid (kWB.cell b0 (by simp))
  have Hb1 := hid (kWB.cell b1 (by simp))
  have Hb2 := hid (kWB.cell b2 (by simp))
  have Hn0 := hid (kWB.cell n0 (by simp))
  have Hn1 := hid (kWB.cell n1 (by simp))
  have Hn2 := hid (kWB.cell n2 (by simp))
  have Hm0 := hid (kWB.cell m0 (by simp))
  have Hm1 := hid (kWB.cell m1 (by simp))
  have Hm2 := hid (kWB.cell m2 (by simp))
  have HWB := hid hWB
  clear hWB
  go_upto_region 15 with fail
  rw [← HWB.out]
  replace a0 := Ha0.out
  replace a1 := Ha1.out
  replace a2 := Ha2.out
  replace b0 := Hb0.out
  replace b1 := Hb1.out
  replace b2 := Hb2.out
  replace n0 := Hn0.out
  replace n1 := Hn1.out
  replace n2 := Hn2.out
  replace m0 := Hm0.out
  replace m1 := Hm1.out
  replace m2 := Hm2.out
  have g0 := Hg0.out
  have g1 := Hg1.out
  have g2 := Hg2.out
  have l0 := Hl0.out
  have l1 := Hl1.out
  have l2 := Hl2.out
  clear Ha0 Ha1 Ha2 Hb0 Hb1 Hb2 Hn0 Hn1 Hn2 Hm0 Hm1 Hm2 Hg0 Hg1 Hg2 Hl0 Hl1 Hl2
  go_wp2_with fail
  refine (q2 _).mono ?_
  rintro e w4 ⟨rfl, k4⟩
  replace a0 := k4.cell a0 (by simp)
  replace a1 := k4.cell a1 (by simp)
  replace a2 := k4.cell a2 (by simp)
  replace b0 := k4.cell b0 (by simp)
  replace b1 := k4.cell b1 (by simp)
  replace b2 := k4.cell b2 (by simp)
  replace n0 := k4.cell n0 (by simp)
  replace n1 := k4.cell n1 (by simp)
  replace n2 := k4.cell n2 (by simp)
  replace m0 := k4.cell m0 (by simp)
  replace m1 := k4.cell m1 (by simp)
  replace m2 := k4.cell m2 (by simp)
  go_wp2_with fail
  refine (q3 _).mono ?_
  rintro e w5 ⟨rfl, k5⟩
  obtain ⟨K5, p0, p1, p2⟩ := k5.loc (.bool p.neg) (.string ⟨(dtxt p.n).toArray⟩) (.int .i64 (p.s : Int))
  replace a0 := K5.cell a0 (by simp)
  replace a1 := K5.cell a1 (by simp)
  replace a2 := K5.cell a2 (by simp)
  replace b0 := K5.cell b0 (by simp)
  replace b1 := K5.cell b1 (by simp)
  replace b2 := K5.cell b2 (by simp)
  replace n0 := K5.cell n0 (by simp)
  replace n1 := K5.cell n1 (by simp)
  replace n2 := K5.cell n2 (by simp)
  replace m0 := K5.cell m0 (by simp)
  replace m1 := K5.cell m1 (by simp)
  replace m2 := K5.cell m2 (by simp)
  go_wp2_with fail
  go_ret
  exact ⟨rfl, (((((((HK.out.nil k1).nil k2).nil kWZ).nil K3).nil kWB).nil k4).nil K5)⟩
set_option maxRecDepth 100000 in
set_option maxHeartbeats 12800000 in
theorem vback_mn_ob (w : World) (a b : Dc) (ha : Ok a) (hb : Ok b) (hb0 : b.n ≠ 0) (m : Dc) (hM : modD a b = some m) (hm0 : m.n ≠ 0) (hmneg : m.neg = a.neg) (p : Dc) (hP : mulD a b = some p) (hl : (dtxt a.n).length ≤ 34) (ha0 : a.n ≠ 0) (hbs : b.s = 0) :
    Calls Tryd.prog 12 #[.agg #[.bool a.neg, .string ⟨(dtxt a.n).toArray⟩, .int .i64 (a.s : Int)], .agg #[.bool b.neg, .string ⟨(dtxt b.n).toArray⟩, .int .i64 0]] w (YesPost w) := by
  have hsh := fun W => vshown_any W
  have m0 : ∀ W, Calls Tryd.prog 36 #[.agg #[.bool a.neg, .string ⟨(dtxt a.n).toArray⟩, .int .i64 (a.s : Int)], .agg #[.bool b.neg, .string ⟨(dtxt b.n).toArray⟩, .int .i64 0]] W fun e w' => e = .returned (.bool true) ∧ Kp [] W w' := fun W => by
    have h := vmay_ok2 (a := a) (b := b) ha hb W
    rw [hbs] at h
    exact h
  have om := (mod_ok hb0 hM).1
  have less := mod_less hb0 hM
  have q1 : ∀ W, Calls Tryd.prog 39 #[.agg #[.bool a.neg, .string ⟨(dtxt a.n).toArray⟩, .int .i64 (a.s : Int)], .agg #[.bool b.neg, .string ⟨(dtxt b.n).toArray⟩, .int .i64 0]] W fun e w' => e = .returned (.tuple #[.agg #[.bool a.neg, .string ⟨(dtxt m.n).toArray⟩, .int .i64 (m.s : Int)], .int .i64 0]) ∧ Kp [] W w' := fun W => by
    have h := mod_sure (a := a) (b := b) ha hb hb0 hM W
    rw [hbs] at h
    rw [hmneg] at h
    exact h
  have okm : Ok ⟨false, (m).n, (m).s⟩ := plain_ok om
  have okb : Ok ⟨false, b.n, b.s⟩ := plain_ok hb
  have q2 : ∀ W, Calls Tryd.prog 30 #[.agg #[.bool false, .string ⟨(dtxt m.n).toArray⟩, .int .i64 (m.s : Int)], .agg #[.bool false, .string ⟨(dtxt b.n).toArray⟩, .int .i64 0]] W fun e w' => e = .returned (.int .i64 (-1)) ∧ Kp [] W w' := fun W => by
    have h := (rcmp_any W ⟨false, (m).n, (m).s⟩ ⟨false, b.n, b.s⟩ okm okb).mono (fun e w' h => (⟨by rw [h.1, less], h.2⟩ : e = .returned (.int .i64 (-1)) ∧ Kp [] W w'))
    rw [hbs] at h
    exact h
  have op := (mulD_ok hP).1
  have q3 : ∀ W, Calls Tryd.prog 28 #[.agg #[.bool a.neg, .string ⟨(dtxt a.n).toArray⟩, .int .i64 (a.s : Int)], .agg #[.bool b.neg, .string ⟨(dtxt b.n).toArray⟩, .int .i64 0]] W fun e w' => e = .returned (.tuple #[.agg #[.bool p.neg, .string ⟨(dtxt p.n).toArray⟩, .int .i64 (p.s : Int)], .int .i64 0]) ∧ Kp [] W w' := fun W => by
    have h := rmul_sure (a := a) (b := b) ha hb hP W
    rw [hbs] at h
    exact h
  have bl : decide (((dtxt a.n).length : Int) ≤ 34) = true := decide_eq_true (by omega)
  have hal : (⟨(dtxt a.n).toArray⟩ : ByteArray).size = (dtxt a.n).length := size_mk _
  have hl34 : a.n < 10 ^ 34 := by have h := val_lt _ (digs_dtxt a.n); rw [val_dtxt] at h; exact Nat.lt_of_lt_of_le h (Nat.pow_le_pow_right (by decide) hl)
  have ba := dtxt_no48 ha0
  have q4 : ∀ W, Calls Tryd.prog 37 #[.agg #[.bool p.neg, .string ⟨(dtxt p.n).toArray⟩, .int .i64 (p.s : Int)], .agg #[.bool b.neg, .string ⟨(dtxt b.n).toArray⟩, .int .i64 0]] W fun e w' => e = .returned (.tuple #[.agg #[.bool a.neg, .string ⟨(dtxt a.n).toArray⟩, .int .i64 (a.s : Int)], .int .i64 0]) ∧ Kp [] W w' := fun W => by
    have h := div_sure op hb hb0 (div_mul (a := a) ha hb hb0 hP hl34) W
    rw [hbs] at h
    exact h
  have q5 : ∀ W, Calls Tryd.prog 39 #[.agg #[.bool p.neg, .string ⟨(dtxt p.n).toArray⟩, .int .i64 (p.s : Int)], .agg #[.bool a.neg, .string ⟨(dtxt a.n).toArray⟩, .int .i64 (a.s : Int)]] W fun e w' => e = .returned (.tuple #[.agg #[.bool false, .string ⟨#[48]⟩, .int .i64 0], .int .i64 0]) ∧ Kp [] W w' := fun W => by
    have h := mod_sure op ha ha0 (mod_mul ha hb ha0 hbs hP) W
    exact h
  have bb := dtxt_no48 hb0
  have bm := dtxt_no48 hm0
  clear ha hb hb0 hM om less okm okb hP op hl hl34 ha0 hbs hm0 hmneg
  have HBa : Cells (w.alloc (.cells #[.bool a.neg, .string ⟨(dtxt a.n).toArray⟩, .int .i64 (a.s : Int)] 23)) w.heap.size 23 [.bool a.neg, .string ⟨(dtxt a.n).toArray⟩, .int .i64 (a.s : Int)] := Cells.fresh w 23 [.bool a.neg, .string ⟨(dtxt a.n).toArray⟩, .int .i64 (a.s : Int)]
  have HBb : Cells ((w.alloc (.cells #[.bool a.neg, .string ⟨(dtxt a.n).toArray⟩, .int .i64 (a.s : Int)] 23)).alloc (.cells #[.bool b.neg, .string ⟨(dtxt b.n).toArray⟩, .int .i64 0] 23)) (w.heap.size + 1) 23 [.bool b.neg, .string ⟨(dtxt b.n).toArray⟩, .int .i64 0] := Cells.fresh1 _ _ 23 [.bool b.neg, .string ⟨(dtxt b.n).toArray⟩, .int .i64 0]
  have HK := hid (((Kp.refl [] w).alloc (.cells #[.bool a.neg, .string ⟨(dtxt a.n).toArray⟩, .int .i64 (a.s : Int)] 23)).alloc (.cells #[.bool b.neg, .string ⟨(dtxt b.n).toArray⟩, .int .i64 0] 23))
  have HCa := hid ((HBa).alloc (.cells #[.bool b.neg, .string ⟨(dtxt b.n).toArray⟩, .int .i64 0] 23))
  have HCb := hid (HBb)
  clear HBa HBb
  go_enter Tryd.func12, Tryd.ntmps12
  go_wp2_with fail
  refine (hsh _).mono ?_
  rintro e w1 ⟨rfl, k1⟩
  have Ca := HCa.out.keep k1 (by simp)
  have a0 : _ = some (Value.bool a.neg) := Ca.cell 0
  have a1 : _ = some (Value.string ⟨(dtxt a.n).toArray⟩) := Ca.cell 1
  have a2 : _ = some (Value.int .i64 (a.s : Int)) := Ca.cell 2
  have Cb := HCb.out.keep k1 (by simp)
  have b0 : _ = some (Value.bool b.neg) := Cb.cell 0
  have b1 : _ = some (Value.string ⟨(dtxt b.n).toArray⟩) := Cb.cell 1
  have b2 : _ = some (Value.int .i64 0) := Cb.cell 2
  clear Ca Cb
  go_wp2_with fail
  refine (m0 _).mono ?_
  rintro e w2 ⟨rfl, k2⟩
  replace a0 := k2.cell a0 (by simp)
  replace a1 := k2.cell a1 (by simp)
  replace a2 := k2.cell a2 (by simp)
  replace b0 := k2.cell b0 (by simp)
  replace b1 := k2.cell b1 (by simp)
  replace b2 := k2.cell b2 (by simp)
  obtain ⟨WZ, hWZ⟩ : ∃ WZ, WZ = w2.alloc (.cells #[.bool false, .string ⟨#[48]⟩, .int .i64 0] 23) := ⟨_, rfl⟩
  have kWZ : Kp [] w2 WZ := by rw [hWZ]; exact (Kp.refl [] _).alloc _
  have Cn : Cells WZ (w2.heap.size) 23 [.bool false, .string ⟨#[48]⟩, .int .i64 0] := by rw [hWZ]; exact (Cells.fresh w2 23 [.bool false, .string ⟨#[48]⟩, .int .i64 0])
  have Hn0 : Hid (_ = some (Value.bool false)) := hid (Cn.cell 0)
  have Hn1 : Hid (_ = some (Value.string ⟨#[48]⟩)) := hid (Cn.cell 1)
  have Hn2 : Hid (_ = some (Value.int .i64 0)) := hid (Cn.cell 2)
  clear Cn
  have Ha0 := hid (kWZ.cell a0 (by simp))
  have Ha1 := hid (kWZ.cell a1 (by simp))
  have Ha2 := hid (kWZ.cell a2 (by simp))
  have Hb0 := hid (kWZ.cell b0 (by simp))
  have Hb1 := hid (kWZ.cell b1 (by simp))
  have Hb2 := hid (kWZ.cell b2 (by simp))
  have HWZ := hid hWZ
  clear hWZ
  go_upto_region 4 with fail
  rw [← HWZ.out]
  replace a0 := Ha0.out
  replace a1 := Ha1.out
  replace a2 := Ha2.out
  replace b0 := Hb0.out
  replace b1 := Hb1.out
  replace b2 := Hb2.out
  have n0 := Hn0.out
  have n1 := Hn1.out
  have n2 := Hn2.out
  clear Ha0 Ha1 Ha2 Hb0 Hb1 Hb2 Hn0 Hn1 Hn2
  go_wp2_with fail
  refine (q1 _).mono ?_
  rintro e w3 ⟨rfl, k3⟩
  obtain ⟨K3, m0, m1, m2⟩ := k3.loc (.bool a.neg) (.string ⟨(dtxt m.n).toArray⟩) (.int .i64 (m.s : Int))
  replace a0 := K3.cell a0 (by simp)
  replace a1 := K3.cell a1 (by simp)
  replace a2 := K3.cell a2 (by simp)
  replace b0 := K3.cell b0 (by simp)
  replace b1 := K3.cell b1 (by simp)
  replace b2 := K3.cell b2 (by simp)
  replace n0 := K3.cell n0 (by simp)
  replace n1 := K3.cell n1 (by simp)
  replace n2 := K3.cell n2 (by simp)
  obtain ⟨WB, hWB⟩ : ∃ WB, WB = ((w3.alloc (.cells #[.bool a.neg, .string ⟨(dtxt m.n).toArray⟩, .int .i64 (m.s : Int)] 23)).alloc (.cells #[.bool false, .string ⟨(dtxt b.n).toArray⟩, .int .i64 0] 23)).alloc (.cells #[.bool false, .string ⟨(dtxt m.n).toArray⟩, .int .i64 (m.s : Int)] 23) := ⟨_, rfl⟩
  have kWB : Kp [] (w3.alloc (.cells #[.bool a.neg, .string ⟨(dtxt m.n).toArray⟩, .int .i64 (m.s : Int)] 23)) WB := by rw [hWB]; exact ((Kp.refl [] _).alloc _).alloc _
  have Cg : Cells WB (w3.heap.size + 1) 23 [.bool false, .string ⟨(dtxt b.n).toArray⟩, .int .i64 0] := by rw [hWB]; have h := (Cells.fresh (w3.alloc (.cells #[.bool a.neg, .string ⟨(dtxt m.n).toArray⟩, .int .i64 (m.s : Int)] 23)) 23 [.bool false, .string ⟨(dtxt b.n).toArray⟩, .int .i64 0]).alloc (.cells #[.bool false, .string ⟨(dtxt m.n).toArray⟩, .int .i64 (m.s : Int)] 23); simpa using h
  have Hg0 : Hid (_ = some (Value.bool false)) := hid (Cg.cell 0)
  have Hg1 : Hid (_ = some (Value.string ⟨(dtxt b.n).toArray⟩)) := hid (Cg.cell 1)
  have Hg2 : Hid (_ = some (Value.int .i64 0)) := hid (Cg.cell 2)
  clear Cg
  have Cl : Cells WB (w3.heap.size + 1 + 1) 23 [.bool false, .string ⟨(dtxt m.n).toArray⟩, .int .i64 (m.s : Int)] := by rw [hWB]; have h := Cells.fresh1 (w3.alloc (.cells #[.bool a.neg, .string ⟨(dtxt m.n).toArray⟩, .int .i64 (m.s : Int)] 23)) (.cells #[.bool false, .string ⟨(dtxt b.n).toArray⟩, .int .i64 0] 23) 23 [.bool false, .string ⟨(dtxt m.n).toArray⟩, .int .i64 (m.s : Int)]; simpa using h
  have Hl0 : Hid (_ = some (Value.bool false)) := hid (Cl.cell 0)
  have Hl1 : Hid (_ = some (Value.string ⟨(dtxt m.n).toArray⟩)) := hid (Cl.cell 1)
  have Hl2 : Hid (_ = some (Value.int .i64 (m.s : Int))) := hid (Cl.cell 2)
  clear Cl
  have Ha0 := hid (kWB.cell a0 (by simp))
  have Ha1 := hid (kWB.cell a1 (by simp))
  have Ha2 := hid (kWB.cell a2 (by simp))
  have Hb0 := hid (kWB.cell b0 (by simp))
  have Hb1 := hid (kWB.cell b1 (by simp))
  have Hb2 := hid (kWB.cell b2 (by simp))
  have Hn0 := hid (kWB.cell n0 (by simp))
  have Hn1 := hid (kWB.cell n1 (by simp))
  have Hn2 := hid (kWB.cell n2 (by simp))
  have Hm0 := hid (kWB.cell m0 (by simp))
  have Hm1 := hid (kWB.cell m1 (by simp))
  have Hm2 := hid (kWB.cell m2 (by simp))
  have HWB := hid hWB
  clear hWB
  go_upto_region 15 with fail
  rw [← HWB.out]
  replace a0 := Ha0.out
  replace a1 := Ha1.out
  replace a2 := Ha2.out
  replace b0 := Hb0.out
  replace b1 := Hb1.out
  replace b2 := Hb2.out
  replace n0 := Hn0.out
  replace n1 := Hn1.out
  replace n2 := Hn2.out
  replace m0 := Hm0.out
  replace m1 := Hm1.out
  replace m2 := Hm2.out
  have g0 := Hg0.out
  have g1 := Hg1.out
  have g2 := Hg2.out
  have l0 := Hl0.out
  have l1 := Hl1.out
  have l2 := Hl2.out
  clear Ha0 Ha1 Ha2 Hb0 Hb1 Hb2 Hn0 Hn1 Hn2 Hm0 Hm1 Hm2 Hg0 Hg1 Hg2 Hl0 Hl1 Hl2
  go_wp2_with fail
  refine (q2 _).mono ?_
  rintro e w4 ⟨rfl, k4⟩
  replace a0 := k4.cell a0 (by simp)
  replace a1 := k4.cell a1 (by simp)
  replace a2 := k4.cell a2 (by simp)
  replace b0 := k4.cell b0 (by simp)
  replace b1 := k4.cell b1 (by simp)
  replace b2 := k4.cell b2 (by simp)
  replace n0 := k4.cell n0 (by simp)
  replace n1 := k4.cell n1 (by simp)
  replace n2 := k4.cell n2 (by simp)
  replace m0 := k4.cell m0 (by simp)
  replace m1 := k4.cell m1 (by simp)
  replace m2 := k4.cell m2 (by simp)
  go_wp2_with fail
  refine (q3 _).mono ?_
  rintro e w5 ⟨rfl, k5⟩
  obtain ⟨K5, p0, p1, p2⟩ := k5.loc (.bool p.neg) (.string ⟨(dtxt p.n).toArray⟩) (.int .i64 (p.s : Int))
  replace a0 := K5.cell a0 (by simp)
  replace a1 := K5.cell a1 (by simp)
  replace a2 := K5.cell a2 (by simp)
  replace b0 := K5.cell b0 (by simp)
  replace b1 := K5.cell b1 (by simp)
  replace b2 := K5.cell b2 (by simp)
  replace n0 := K5.cell n0 (by simp)
  replace n1 := K5.cell n1 (by simp)
  replace n2 := K5.cell n2 (by simp)
  replace m0 := K5.cell m0 (by simp)
  replace m1 := K5.cell m1 (by simp)
  replace m2 := K5.cell m2 (by simp)
  go_wp2_with fail
  refine (q4 _).mono ?_
  rintro e w6 ⟨rfl, k6⟩
  obtain ⟨K6, x0, x1, x2⟩ := k6.loc (.bool a.neg) (.string ⟨(dtxt a.n).toArray⟩) (.int .i64 (a.s : Int))
  replace a0 := K6.cell a0 (by simp)
  replace a1 := K6.cell a1 (by simp)
  replace a2 := K6.cell a2 (by simp)
  replace b0 := K6.cell b0 (by simp)
  replace b1 := K6.cell b1 (by simp)
  replace b2 := K6.cell b2 (by simp)
  replace n0 := K6.cell n0 (by simp)
  replace n1 := K6.cell n1 (by simp)
  replace n2 := K6.cell n2 (by simp)
  replace m0 := K6.cell m0 (by simp)
  replace m1 := K6.cell m1 (by simp)
  replace m2 := K6.cell m2 (by simp)
  replace p0 := K6.cell p0 (by simp)
  replace p1 := K6.cell p1 (by simp)
  replace p2 := K6.cell p2 (by simp)
  go_wp2_with fail
  refine (q5 _).mono ?_
  rintro e w7 ⟨rfl, k7⟩
  obtain ⟨K7, r0, r1, r2⟩ := k7.loc (.bool false) (.string ⟨#[48]⟩) (.int .i64 0)
  replace a0 := K7.cell a0 (by simp)
  replace a1 := K7.cell a1 (by simp)
  replace a2 := K7.cell a2 (by simp)
  replace b0 := K7.cell b0 (by simp)
  replace b1 := K7.cell b1 (by simp)
  replace b2 := K7.cell b2 (by simp)
  replace n0 := K7.cell n0 (by simp)
  replace n1 := K7.cell n1 (by simp)
  replace n2 := K7.cell n2 (by simp)
  replace m0 := K7.cell m0 (by simp)
  replace m1 := K7.cell m1 (by simp)
  replace m2 := K7.cell m2 (by simp)
  replace p0 := K7.cell p0 (by simp)
  replace p1 := K7.cell p1 (by simp)
  replace p2 := K7.cell p2 (by simp)
  replace x0 := K7.cell x0 (by simp)
  replace x1 := K7.cell x1 (by simp)
  replace x2 := K7.cell x2 (by simp)
  go_wp2_with fail
  go_ret
  exact ⟨rfl, (((((((((HK.out.nil k1).nil k2).nil kWZ).nil K3).nil kWB).nil k4).nil K5).nil K6).nil K7)⟩
set_option maxRecDepth 100000 in
set_option maxHeartbeats 12800000 in
theorem vback_mn_on (w : World) (a b : Dc) (ha : Ok a) (hb : Ok b) (hb0 : b.n ≠ 0) (m : Dc) (hM : modD a b = some m) (hm0 : m.n ≠ 0) (hmneg : m.neg = a.neg) (p : Dc) (hP : mulD a b = some p) (hl : (dtxt a.n).length ≤ 34) (ha0 : a.n ≠ 0) (hbs : b.s ≠ 0) :
    Calls Tryd.prog 12 #[.agg #[.bool a.neg, .string ⟨(dtxt a.n).toArray⟩, .int .i64 (a.s : Int)], .agg #[.bool b.neg, .string ⟨(dtxt b.n).toArray⟩, .int .i64 (b.s : Int)]] w (YesPost w) := by
  have hsh := fun W => vshown_any W
  have m0 : ∀ W, Calls Tryd.prog 36 #[.agg #[.bool a.neg, .string ⟨(dtxt a.n).toArray⟩, .int .i64 (a.s : Int)], .agg #[.bool b.neg, .string ⟨(dtxt b.n).toArray⟩, .int .i64 (b.s : Int)]] W fun e w' => e = .returned (.bool true) ∧ Kp [] W w' := fun W => by
    have h := vmay_ok2 (a := a) (b := b) ha hb W
    exact h
  have om := (mod_ok hb0 hM).1
  have less := mod_less hb0 hM
  have q1 : ∀ W, Calls Tryd.prog 39 #[.agg #[.bool a.neg, .string ⟨(dtxt a.n).toArray⟩, .int .i64 (a.s : Int)], .agg #[.bool b.neg, .string ⟨(dtxt b.n).toArray⟩, .int .i64 (b.s : Int)]] W fun e w' => e = .returned (.tuple #[.agg #[.bool a.neg, .string ⟨(dtxt m.n).toArray⟩, .int .i64 (m.s : Int)], .int .i64 0]) ∧ Kp [] W w' := fun W => by
    have h := mod_sure (a := a) (b := b) ha hb hb0 hM W
    rw [hmneg] at h
    exact h
  have okm : Ok ⟨false, (m).n, (m).s⟩ := plain_ok om
  have okb : Ok ⟨false, b.n, b.s⟩ := plain_ok hb
  have q2 : ∀ W, Calls Tryd.prog 30 #[.agg #[.bool false, .string ⟨(dtxt m.n).toArray⟩, .int .i64 (m.s : Int)], .agg #[.bool false, .string ⟨(dtxt b.n).toArray⟩, .int .i64 (b.s : Int)]] W fun e w' => e = .returned (.int .i64 (-1)) ∧ Kp [] W w' := fun W => by
    have h := (rcmp_any W ⟨false, (m).n, (m).s⟩ ⟨false, b.n, b.s⟩ okm okb).mono (fun e w' h => (⟨by rw [h.1, less], h.2⟩ : e = .returned (.int .i64 (-1)) ∧ Kp [] W w'))
    exact h
  have op := (mulD_ok hP).1
  have q3 : ∀ W, Calls Tryd.prog 28 #[.agg #[.bool a.neg, .string ⟨(dtxt a.n).toArray⟩, .int .i64 (a.s : Int)], .agg #[.bool b.neg, .string ⟨(dtxt b.n).toArray⟩, .int .i64 (b.s : Int)]] W fun e w' => e = .returned (.tuple #[.agg #[.bool p.neg, .string ⟨(dtxt p.n).toArray⟩, .int .i64 (p.s : Int)], .int .i64 0]) ∧ Kp [] W w' := fun W => by
    have h := rmul_sure (a := a) (b := b) ha hb hP W
    exact h
  have bl : decide (((dtxt a.n).length : Int) ≤ 34) = true := decide_eq_true (by omega)
  have hal : (⟨(dtxt a.n).toArray⟩ : ByteArray).size = (dtxt a.n).length := size_mk _
  have hl34 : a.n < 10 ^ 34 := by have h := val_lt _ (digs_dtxt a.n); rw [val_dtxt] at h; exact Nat.lt_of_lt_of_le h (Nat.pow_le_pow_right (by decide) hl)
  have ba := dtxt_no48 ha0
  have q4 : ∀ W, Calls Tryd.prog 37 #[.agg #[.bool p.neg, .string ⟨(dtxt p.n).toArray⟩, .int .i64 (p.s : Int)], .agg #[.bool b.neg, .string ⟨(dtxt b.n).toArray⟩, .int .i64 (b.s : Int)]] W fun e w' => e = .returned (.tuple #[.agg #[.bool a.neg, .string ⟨(dtxt a.n).toArray⟩, .int .i64 (a.s : Int)], .int .i64 0]) ∧ Kp [] W w' := fun W => by
    have h := div_sure op hb hb0 (div_mul (a := a) ha hb hb0 hP hl34) W
    exact h
  obtain ⟨r, hr⟩ := mod_some op ha ha0
  have bs : ((b.s : Int) == 0) = false := by rw [beq_eq_false_iff_ne]; omega
  have q5 : ∀ W, Calls Tryd.prog 39 #[.agg #[.bool p.neg, .string ⟨(dtxt p.n).toArray⟩, .int .i64 (p.s : Int)], .agg #[.bool a.neg, .string ⟨(dtxt a.n).toArray⟩, .int .i64 (a.s : Int)]] W fun e w' => e = .returned (.tuple #[.agg #[.bool r.neg, .string ⟨(dtxt r.n).toArray⟩, .int .i64 (r.s : Int)], .int .i64 0]) ∧ Kp [] W w' := fun W => by
    have h := mod_sure op ha ha0 hr W
    exact h
  have bb := dtxt_no48 hb0
  have bm := dtxt_no48 hm0
  clear ha hb hb0 hM om less okm okb hP op hl hl34 ha0 hbs hr hm0 hmneg
  have HBa : Cells (w.alloc (.cells #[.bool a.neg, .string ⟨(dtxt a.n).toArray⟩, .int .i64 (a.s : Int)] 23)) w.heap.size 23 [.bool a.neg, .string ⟨(dtxt a.n).toArray⟩, .int .i64 (a.s : Int)] := Cells.fresh w 23 [.bool a.neg, .string ⟨(dtxt a.n).toArray⟩, .int .i64 (a.s : Int)]
  have HBb : Cells ((w.alloc (.cells #[.bool a.neg, .string ⟨(dtxt a.n).toArray⟩, .int .i64 (a.s : Int)] 23)).alloc (.cells #[.bool b.neg, .string ⟨(dtxt b.n).toArray⟩, .int .i64 (b.s : Int)] 23)) (w.heap.size + 1) 23 [.bool b.neg, .string ⟨(dtxt b.n).toArray⟩, .int .i64 (b.s : Int)] := Cells.fresh1 _ _ 23 [.bool b.neg, .string ⟨(dtxt b.n).toArray⟩, .int .i64 (b.s : Int)]
  have HK := hid (((Kp.refl [] w).alloc (.cells #[.bool a.neg, .string ⟨(dtxt a.n).toArray⟩, .int .i64 (a.s : Int)] 23)).alloc (.cells #[.bool b.neg, .string ⟨(dtxt b.n).toArray⟩, .int .i64 (b.s : Int)] 23))
  have HCa := hid ((HBa).alloc (.cells #[.bool b.neg, .string ⟨(dtxt b.n).toArray⟩, .int .i64 (b.s : Int)] 23))
  have HCb := hid (HBb)
  clear HBa HBb
  go_enter Tryd.func12, Tryd.ntmps12
  go_wp2_with fail
  refine (hsh _).mono ?_
  rintro e w1 ⟨rfl, k1⟩
  have Ca := HCa.out.keep k1 (by simp)
  have a0 : _ = some (Value.bool a.neg) := Ca.cell 0
  have a1 : _ = some (Value.string ⟨(dtxt a.n).toArray⟩) := Ca.cell 1
  have a2 : _ = some (Value.int .i64 (a.s : Int)) := Ca.cell 2
  have Cb := HCb.out.keep k1 (by simp)
  have b0 : _ = some (Value.bool b.neg) := Cb.cell 0
  have b1 : _ = some (Value.string ⟨(dtxt b.n).toArray⟩) := Cb.cell 1
  have b2 : _ = some (Value.int .i64 (b.s : Int)) := Cb.cell 2
  clear Ca Cb
  go_wp2_with fail
  refine (m0 _).mono ?_
  rintro e w2 ⟨rfl, k2⟩
  replace a0 := k2.cell a0 (by simp)
  replace a1 := k2.cell a1 (by simp)
  replace a2 := k2.cell a2 (by simp)
  replace b0 := k2.cell b0 (by simp)
  replace b1 := k2.cell b1 (by simp)
  replace b2 := k2.cell b2 (by simp)
  obtain ⟨WZ, hWZ⟩ : ∃ WZ, WZ = w2.alloc (.cells #[.bool false, .string ⟨#[48]⟩, .int .i64 0] 23) := ⟨_, rfl⟩
  have kWZ : Kp [] w2 WZ := by rw [hWZ]; exact (Kp.refl [] _).alloc _
  have Cn : Cells WZ (w2.heap.size) 23 [.bool false, .string ⟨#[48]⟩, .int .i64 0] := by rw [hWZ]; exact (Cells.fresh w2 23 [.bool false, .string ⟨#[48]⟩, .int .i64 0])
  have Hn0 : Hid (_ = some (Value.bool false)) := hid (Cn.cell 0)
  have Hn1 : Hid (_ = some (Value.string ⟨#[48]⟩)) := hid (Cn.cell 1)
  have Hn2 : Hid (_ = some (Value.int .i64 0)) := hid (Cn.cell 2)
  clear Cn
  have Ha0 := hid (kWZ.cell a0 (by simp))
  have Ha1 := hid (kWZ.cell a1 (by simp))
  have Ha2 := hid (kWZ.cell a2 (by simp))
  have Hb0 := hid (kWZ.cell b0 (by simp))
  have Hb1 := hid (kWZ.cell b1 (by simp))
  have Hb2 := hid (kWZ.cell b2 (by simp))
  have HWZ := hid hWZ
  clear hWZ
  go_upto_region 4 with fail
  rw [← HWZ.out]
  replace a0 := Ha0.out
  replace a1 := Ha1.out
  replace a2 := Ha2.out
  replace b0 := Hb0.out
  replace b1 := Hb1.out
  replace b2 := Hb2.out
  have n0 := Hn0.out
  have n1 := Hn1.out
  have n2 := Hn2.out
  clear Ha0 Ha1 Ha2 Hb0 Hb1 Hb2 Hn0 Hn1 Hn2
  go_wp2_with fail
  refine (q1 _).mono ?_
  rintro e w3 ⟨rfl, k3⟩
  obtain ⟨K3, m0, m1, m2⟩ := k3.loc (.bool a.neg) (.string ⟨(dtxt m.n).toArray⟩) (.int .i64 (m.s : Int))
  replace a0 := K3.cell a0 (by simp)
  replace a1 := K3.cell a1 (by simp)
  replace a2 := K3.cell a2 (by simp)
  replace b0 := K3.cell b0 (by simp)
  replace b1 := K3.cell b1 (by simp)
  replace b2 := K3.cell b2 (by simp)
  replace n0 := K3.cell n0 (by simp)
  replace n1 := K3.cell n1 (by simp)
  replace n2 := K3.cell n2 (by simp)
  obtain ⟨WB, hWB⟩ : ∃ WB, WB = ((w3.alloc (.cells #[.bool a.neg, .string ⟨(dtxt m.n).toArray⟩, .int .i64 (m.s : Int)] 23)).alloc (.cells #[.bool false, .string ⟨(dtxt b.n).toArray⟩, .int .i64 (b.s : Int)] 23)).alloc (.cells #[.bool false, .string ⟨(dtxt m.n).toArray⟩, .int .i64 (m.s : Int)] 23) := ⟨_, rfl⟩
  have kWB : Kp [] (w3.alloc (.cells #[.bool a.neg, .string ⟨(dtxt m.n).toArray⟩, .int .i64 (m.s : Int)] 23)) WB := by rw [hWB]; exact ((Kp.refl [] _).alloc _).alloc _
  have Cg : Cells WB (w3.heap.size + 1) 23 [.bool false, .string ⟨(dtxt b.n).toArray⟩, .int .i64 (b.s : Int)] := by rw [hWB]; have h := (Cells.fresh (w3.alloc (.cells #[.bool a.neg, .string ⟨(dtxt m.n).toArray⟩, .int .i64 (m.s : Int)] 23)) 23 [.bool false, .string ⟨(dtxt b.n).toArray⟩, .int .i64 (b.s : Int)]).alloc (.cells #[.bool false, .string ⟨(dtxt m.n).toArray⟩, .int .i64 (m.s : Int)] 23); simpa using h
  have Hg0 : Hid (_ = some (Value.bool false)) := hid (Cg.cell 0)
  have Hg1 : Hid (_ = some (Value.string ⟨(dtxt b.n).toArray⟩)) := hid (Cg.cell 1)
  have Hg2 : Hid (_ = some (Value.int .i64 (b.s : Int))) := hid (Cg.cell 2)
  clear Cg
  have Cl : Cells WB (w3.heap.size + 1 + 1) 23 [.bool false, .string ⟨(dtxt m.n).toArray⟩, .int .i64 (m.s : Int)] := by rw [hWB]; have h := Cells.fresh1 (w3.alloc (.cells #[.bool a.neg, .string ⟨(dtxt m.n).toArray⟩, .int .i64 (m.s : Int)] 23)) (.cells #[.bool false, .string ⟨(dtxt b.n).toArray⟩, .int .i64 (b.s : Int)] 23) 23 [.bool false, .string ⟨(dtxt m.n).toArray⟩, .int .i64 (m.s : Int)]; simpa using h
  have Hl0 : Hid (_ = some (Value.bool false)) := hid (Cl.cell 0)
  have Hl1 : Hid (_ = some (Value.string ⟨(dtxt m.n).toArray⟩)) := hid (Cl.cell 1)
  have Hl2 : Hid (_ = some (Value.int .i64 (m.s : Int))) := hid (Cl.cell 2)
  clear Cl
  have Ha0 := hid (kWB.cell a0 (by simp))
  have Ha1 := hid (kWB.cell a1 (by simp))
  have Ha2 := hid (kWB.cell a2 (by simp))
  have Hb0 := hid (kWB.cell b0 (by simp))
  have Hb1 := hid (kWB.cell b1 (by simp))
  have Hb2 := hid (kWB.cell b2 (by simp))
  have Hn0 := hid (kWB.cell n0 (by simp))
  have Hn1 := hid (kWB.cell n1 (by simp))
  have Hn2 := hid (kWB.cell n2 (by simp))
  have Hm0 := hid (kWB.cell m0 (by simp))
  have Hm1 := hid (kWB.cell m1 (by simp))
  have Hm2 := hid (kWB.cell m2 (by simp))
  have HWB := hid hWB
  clear hWB
  go_upto_region 15 with fail
  rw [← HWB.out]
  replace a0 := Ha0.out
  replace a1 := Ha1.out
  replace a2 := Ha2.out
  replace b0 := Hb0.out
  replace b1 := Hb1.out
  replace b2 := Hb2.out
  replace n0 := Hn0.out
  replace n1 := Hn1.out
  replace n2 := Hn2.out
  replace m0 := Hm0.out
  replace m1 := Hm1.out
  replace m2 := Hm2.out
  have g0 := Hg0.out
  have g1 := Hg1.out
  have g2 := Hg2.out
  have l0 := Hl0.out
  have l1 := Hl1.out
  have l2 := Hl2.out
  clear Ha0 Ha1 Ha2 Hb0 Hb1 Hb2 Hn0 Hn1 Hn2 Hm0 Hm1 Hm2 Hg0 Hg1 Hg2 Hl0 Hl1 Hl2
  go_wp2_with fail
  refine (q2 _).mono ?_
  rintro e w4 ⟨rfl, k4⟩
  replace a0 := k4.cell a0 (by simp)
  replace a1 := k4.cell a1 (by simp)
  replace a2 := k4.cell a2 (by simp)
  replace b0 := k4.cell b0 (by simp)
  replace b1 := k4.cell b1 (by simp)
  replace b2 := k4.cell b2 (by simp)
  replace n0 := k4.cell n0 (by simp)
  replace n1 := k4.cell n1 (by simp)
  replace n2 := k4.cell n2 (by simp)
  replace m0 := k4.cell m0 (by simp)
  replace m1 := k4.cell m1 (by simp)
  replace m2 := k4.cell m2 (by simp)
  go_wp2_with fail
  refine (q3 _).mono ?_
  rintro e w5 ⟨rfl, k5⟩
  obtain ⟨K5, p0, p1, p2⟩ := k5.loc (.bool p.neg) (.string ⟨(dtxt p.n).toArray⟩) (.int .i64 (p.s : Int))
  replace a0 := K5.cell a0 (by simp)
  replace a1 := K5.cell a1 (by simp)
  replace a2 := K5.cell a2 (by simp)
  replace b0 := K5.cell b0 (by simp)
  replace b1 := K5.cell b1 (by simp)
  replace b2 := K5.cell b2 (by simp)
  replace n0 := K5.cell n0 (by simp)
  replace n1 := K5.cell n1 (by simp)
  replace n2 := K5.cell n2 (by simp)
  replace m0 := K5.cell m0 (by simp)
  replace m1 := K5.cell m1 (by simp)
  replace m2 := K5.cell m2 (by simp)
  go_wp2_with fail
  refine (q4 _).mono ?_
  rintro e w6 ⟨rfl, k6⟩
  obtain ⟨K6, x0, x1, x2⟩ := k6.loc (.bool a.neg) (.string ⟨(dtxt a.n).toArray⟩) (.int .i64 (a.s : Int))
  replace a0 := K6.cell a0 (by simp)
  replace a1 := K6.cell a1 (by simp)
  replace a2 := K6.cell a2 (by simp)
  replace b0 := K6.cell b0 (by simp)
  replace b1 := K6.cell b1 (by simp)
  replace b2 := K6.cell b2 (by simp)
  replace n0 := K6.cell n0 (by simp)
  replace n1 := K6.cell n1 (by simp)
  replace n2 := K6.cell n2 (by simp)
  replace m0 := K6.cell m0 (by simp)
  replace m1 := K6.cell m1 (by simp)
  replace m2 := K6.cell m2 (by simp)
  replace p0 := K6.cell p0 (by simp)
  replace p1 := K6.cell p1 (by simp)
  replace p2 := K6.cell p2 (by simp)
  go_wp2_with fail
  refine (q5 _).mono ?_
  rintro e w7 ⟨rfl, k7⟩
  obtain ⟨K7, r0, r1, r2⟩ := k7.loc (.bool r.neg) (.string ⟨(dtxt r.n).toArray⟩) (.int .i64 (r.s : Int))
  replace a0 := K7.cell a0 (by simp)
  replace a1 := K7.cell a1 (by simp)
  replace a2 := K7.cell a2 (by simp)
  replace b0 := K7.cell b0 (by simp)
  replace b1 := K7.cell b1 (by simp)
  replace b2 := K7.cell b2 (by simp)
  replace n0 := K7.cell n0 (by simp)
  replace n1 := K7.cell n1 (by simp)
  replace n2 := K7.cell n2 (by simp)
  replace m0 := K7.cell m0 (by simp)
  replace m1 := K7.cell m1 (by simp)
  replace m2 := K7.cell m2 (by simp)
  replace p0 := K7.cell p0 (by simp)
  replace p1 := K7.cell p1 (by simp)
  replace p2 := K7.cell p2 (by simp)
  replace x0 := K7.cell x0 (by simp)
  replace x1 := K7.cell x1 (by simp)
  replace x2 := K7.cell x2 (by simp)
  go_wp2_with fail
  go_ret
  exact ⟨rfl, (((((((((HK.out.nil k1).nil k2).nil kWZ).nil K3).nil kWB).nil k4).nil K5).nil K6).nil K7)⟩
theorem vback_any (w : World) (a b : RawD) (ha : a.ok) (hb : b.ok) : Calls Tryd.prog 12 #[.agg #[.bool a.neg, .string ⟨a.l.toArray⟩, .int .i64 a.s], .agg #[.bool b.neg, .string ⟨b.l.toArray⟩, .int .i64 b.s]] w (YesPost w) := by
  cases hm : (mayL a.neg a.l a.s && mayL b.neg b.l b.s) with
  | false => exact vback_no w a b ha hb hm
  | true =>
    rw [Bool.and_eq_true] at hm
    obtain ⟨x, hx, rfl⟩ := RawD.is hm.1
    obtain ⟨y, hy, rfl⟩ := RawD.is hm.2
    dsimp only
    by_cases h0 : y.n = 0
    · obtain ⟨h1, h2⟩ := hy.2.2.1 h0
      rw [h0, h1, h2]
      exact vback_z w x hx
    · obtain ⟨m, hM⟩ := mod_some hx hy h0
      obtain ⟨mok, mneg, -, -⟩ := mod_ok h0 hM
      by_cases hx0 : x.n = 0
      · obtain ⟨h1, h2⟩ := hx.2.2.1 hx0
        have hxz : x = zeroD := by obtain ⟨xg, xn, xs⟩ := x; dsimp only at h1 h2 hx0; rw [h1, h2, hx0]; rfl
        subst hxz
        have hMz : modD zeroD y = some zeroD := by
          unfold modD
          show norm false (0 * 10 ^ y.s % (y.n * 10 ^ 0)) _ = _
          rw [Nat.zero_mul, Nat.zero_mod]
          exact norm_zero_neg _ _
        cases hP : mulD zeroD y with
        | none => exact vback_mz_o0 w zeroD y hx hy h0 hMz hP
        | some p => exact vback_mz_oz w y hx hy h0 hMz p hP
      · by_cases hm0 : m.n = 0
        · obtain ⟨h1, h2⟩ := mok.2.2.1 hm0
          have hmz : m = zeroD := by obtain ⟨xg, xn, xs⟩ := m; dsimp only at h1 h2 hm0; rw [h1, h2, hm0]; rfl
          subst hmz
          cases hP : mulD x y with
          | none => exact vback_mz_o0 w x y hx hy h0 hM hP
          | some p =>
            rcases Nat.lt_or_ge 34 (dtxt x.n).length with hl | hl
            · exact vback_mz_ol w x y hx hy h0 hM p hP hl
            · by_cases hs : y.s = 0
              · rw [hs]; exact vback_mz_ob w x y hx hy h0 hM p hP hl hx0 hs
              · exact vback_mz_on w x y hx hy h0 hM p hP hl hx0 hs
        · cases hP : mulD x y with
          | none => exact vback_mn_o0 w x y hx hy h0 m hM hm0 (mneg hm0) hP
          | some p =>
            rcases Nat.lt_or_ge 34 (dtxt x.n).length with hl | hl
            · exact vback_mn_ol w x y hx hy h0 m hM hm0 (mneg hm0) p hP hl
            · by_cases hs : y.s = 0
              · rw [hs]; exact vback_mn_ob w x y hx hy h0 m hM hm0 (mneg hm0) p hP hl hx0 hs
              · exact vback_mn_on w x y hx hy h0 m hM hm0 (mneg hm0) p hP hl hx0 hs
theorem vback_card (W : World) (_ : Tabs W) (b : Bool) (l : List UInt8) (z : Int) (hl : l.length ≤ 9223372036854775807) (h1 : -9223372036854775808 ≤ z) (h2 : z ≤ 9223372036854775807)
    (b' : Bool) (l' : List UInt8) (z' : Int) (hl' : l'.length ≤ 9223372036854775807) (h1' : -9223372036854775808 ≤ z') (h2' : z' ≤ 9223372036854775807) :
    Calls Tryd.prog 12 #[.agg #[.bool b, .string ⟨l.toArray⟩, .int .i64 z], .agg #[.bool b', .string ⟨l'.toArray⟩, .int .i64 z']] W (YesPost W) := vback_any W ⟨b, l, z⟩ ⟨b', l', z'⟩ ⟨hl, h1, h2⟩ ⟨hl', h1', h2'⟩
end Go.Proofs.YtampgimmodomoaaDoor
