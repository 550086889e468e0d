/- DivideSteps: what is left by one number goes round. -/
import Derived.Test.YtampgimmodomoaaDoorDVBase
import Derived.Test.YtampgimmodomoaaDoorDVMore
namespace Go.Proofs.YtampgimmodomoaaDoor
open Go Go.RowKit Go.Lib

theorem z_pos {d : Dc} (h : d.neg = false) : d.z = (d.n : Int) := by unfold Dc.z; rw [h]; rfl
theorem pos_neg {d : Dc} (h : Ok d) (hz : 0 ≤ d.z) : d.neg = false := by rw [← (z_neg h).1]; exact decide_eq_false (by omega)
theorem steps_plain {a b m t s : Dc} {k : Nat} (hb : Ok b) (hb0 : b.n ≠ 0) (an : a.neg = false) (bn : b.neg = false) (hm : modD a b = some m) (ht : mulD b (intD (k : Int)) = some t) (hs : addD a t = some s) :
    modD s b = some m ∧ t.neg = false ∧ s.neg = false := by
  obtain ⟨tok, tz⟩ := mulD_ok ht
  obtain ⟨sok, sz⟩ := addD_ok hs
  rw [z_int, z_pos bn, show (intD (k : Int)).s = 0 from rfl, Int.pow_zero, Int.mul_one] at tz
  have h10 := p10 b.s
  have h10t := p10 t.s
  have tpos : 0 ≤ t.z := by
    rcases Int.lt_or_le t.z 0 with h | h
    · have h1 := Int.mul_neg_of_neg_of_pos h h10
      have h2 : 0 ≤ (b.n : Int) * (k : Int) * 10 ^ t.s := Int.mul_nonneg (Int.mul_nonneg (by omega) (by omega)) (by omega)
      omega
    · exact h
  have tn := pos_neg tok tpos
  rw [z_pos tn] at tz sz
  rw [z_pos an] at sz
  have h10a := p10 a.s
  have h10s := p10 s.s
  have spos : 0 ≤ s.z := by
    rcases Int.lt_or_le s.z 0 with h | h
    · have h1 := Int.mul_neg_of_neg_of_pos h (Int.mul_pos h10a h10t)
      have h2 : 0 ≤ ((a.n : Int) * 10 ^ t.s + (t.n : Int) * 10 ^ a.s) * 10 ^ s.s := Int.mul_nonneg (Int.add_nonneg (Int.mul_nonneg (by omega) (by omega)) (Int.mul_nonneg (by omega) (by omega))) (by omega)
      omega
    · exact h
  have sn := pos_neg sok spos
  rw [z_pos sn] at sz
  refine ⟨mod_round (t := t) (k := k) hb0 an sn hm ?_ ?_, tn, sn⟩
  · apply Int.ofNat.inj
    show ((t.n * 10 ^ b.s : Nat) : Int) = ((b.n * k * 10 ^ t.s : Nat) : Int)
    simpa using tz
  · apply Int.ofNat.inj
    show ((s.n * (10 ^ a.s * 10 ^ t.s) : Nat) : Int) = (((a.n * 10 ^ t.s + t.n * 10 ^ a.s) * 10 ^ s.s : Nat) : Int)
    simpa using sz
theorem and7b (n : Nat) (h : n < 256) : ∃ k : Nat, k < 8 ∧ bits .and .i64 (n : Int) 7 = (k : Int) := by
  have h2 : ∀ n : Fin 256, bits .and .i64 (n.1 : Int) 7 = ((n.1 % 8 : Nat) : Int) := by decide +kernel
  exact ⟨n % 8, by omega, h2 ⟨n, h⟩⟩
set_option maxRecDepth 100000 in
set_option maxHeartbeats 12800000 in
theorem vsteps_no (w : World) (n : Nat) (a b : RawD) (ha : a.ok) (hb : b.ok) (hm : (mayL a.neg a.l a.s && mayL b.neg b.l b.s) = false) :
    Calls Tryd.prog 13 #[.agg #[.bool a.neg, .string ⟨a.l.toArray⟩, .int .i64 a.s], .agg #[.bool b.neg, .string ⟨b.l.toArray⟩, .int .i64 b.s], .int .u8 (n : Int)] w (YesPost w) := by
  have hsh := fun W => vshown_any W
  have m0 := fun W => vmay_any W a b ha hb
  simp only [hm] at m0
  clear ha hb hm
  have HBa : Cells (w.alloc (.cells #[.bool a.neg, .string ⟨a.l.toArray⟩, .int .i64 a.s] 23)) w.heap.size 23 [.bool a.neg, .string ⟨a.l.toArray⟩, .int .i64 a.s] := Cells.fresh w 23 [.bool a.neg, .string ⟨a.l.toArray⟩, .int .i64 a.s]
  have HBb : Cells ((w.alloc (.cells #[.bool a.neg, .string ⟨a.l.toArray⟩, .int .i64 a.s] 23)).alloc (.cells #[.bool b.neg, .string ⟨b.l.toArray⟩, .int .i64 b.s] 23)) (w.heap.size + 1) 23 [.bool b.neg, .string ⟨b.l.toArray⟩, .int .i64 b.s] := Cells.fresh1 _ _ 23 [.bool b.neg, .string ⟨b.l.toArray⟩, .int .i64 b.s]
  have HK := hid (((Kp.refl [] w).alloc (.cells #[.bool a.neg, .string ⟨a.l.toArray⟩, .int .i64 a.s] 23)).alloc (.cells #[.bool b.neg, .string ⟨b.l.toArray⟩, .int .i64 b.s] 23))
  have HCa := hid ((HBa).alloc (.cells #[.bool b.neg, .string ⟨b.l.toArray⟩, .int .i64 b.s] 23))
  have HCb := hid (HBb)
  clear HBa HBb
  go_enter Tryd.func13, Tryd.ntmps13
  go_wp2_with fail
  refine (hsh _).mono ?_
  rintro e w1 ⟨rfl, k1⟩
  have Ca := HCa.out.keep k1 (by simp)
  have a0 : _ = some (Value.bool a.neg) := Ca.cell 0
  have a1 : _ = some (Value.string ⟨a.l.toArray⟩) := Ca.cell 1
  have a2 : _ = some (Value.int .i64 a.s) := Ca.cell 2
  have Cb := HCb.out.keep k1 (by simp)
  have b0 : _ = some (Value.bool b.neg) := Cb.cell 0
  have b1 : _ = some (Value.string ⟨b.l.toArray⟩) := Cb.cell 1
  have b2 : _ = some (Value.int .i64 b.s) := Cb.cell 2
  clear Ca Cb
  go_wp2_with fail
  refine (m0 _).mono ?_
  rintro e w2 ⟨rfl, k2⟩
  replace a0 := k2.cell a0 (by simp)
  replace a1 := k2.cell a1 (by simp)
  replace a2 := k2.cell a2 (by simp)
  replace b0 := k2.cell b0 (by simp)
  replace b1 := k2.cell b1 (by simp)
  replace b2 := k2.cell b2 (by simp)
  go_wp2_with fail
  go_ret
  exact ⟨rfl, ((HK.out.nil k1).nil k2)⟩
set_option maxRecDepth 100000 in
set_option maxHeartbeats 12800000 in
theorem vsteps_na (w : World) (n an sa : Nat) (bg : Bool) (bn bs : Nat) (ha : Ok (⟨true, an, sa⟩ : Dc)) (hb : Ok (⟨bg, bn, bs⟩ : Dc)) :
    Calls Tryd.prog 13 #[.agg #[.bool true, .string ⟨(dtxt an).toArray⟩, .int .i64 (sa : Int)], .agg #[.bool bg, .string ⟨(dtxt bn).toArray⟩, .int .i64 (bs : Int)], .int .u8 (n : Int)] w (YesPost w) := by
  have hsh := fun W => vshown_any W
  have m0 : ∀ W, Calls Tryd.prog 36 #[.agg #[.bool true, .string ⟨(dtxt an).toArray⟩, .int .i64 (sa : Int)], .agg #[.bool bg, .string ⟨(dtxt bn).toArray⟩, .int .i64 (bs : Int)]] W fun e w' => e = .returned (.bool true) ∧ Kp [] W w' := fun W => vmay_ok2 (a := (⟨true, an, sa⟩ : Dc)) (b := (⟨bg, bn, bs⟩ : Dc)) ha hb W
  clear ha hb
  have HBa : Cells (w.alloc (.cells #[.bool true, .string ⟨(dtxt an).toArray⟩, .int .i64 (sa : Int)] 23)) w.heap.size 23 [.bool true, .string ⟨(dtxt an).toArray⟩, .int .i64 (sa : Int)] := Cells.fresh w 23 [.bool true, .string ⟨(dtxt an).toArray⟩, .int .i64 (sa : Int)]
  have HBb : Cells ((w.alloc (.cells #[.bool true, .string ⟨(dtxt an).toArray⟩, .int .i64 (sa : Int)] 23)).alloc (.cells #[.bool bg, .string ⟨(dtxt bn).toArray⟩, .int .i64 (bs : Int)] 23)) (w.heap.size + 1) 23 [.bool bg, .string ⟨(dtxt bn).toArray⟩, .int .i64 (bs : Int)] := Cells.fresh1 _ _ 23 [.bool bg, .string ⟨(dtxt bn).toArray⟩, .int .i64 (bs : Int)]
  have HK := hid (((Kp.refl [] w).alloc (.cells #[.bool true, .string ⟨(dtxt an).toArray⟩, .int .i64 (sa : Int)] 23)).alloc (.cells #[.bool bg, .string ⟨(dtxt bn).toArray⟩, .int .i64 (bs : Int)] 23))
  have HCa := hid ((HBa).alloc (.cells #[.bool bg, .string ⟨(dtxt bn).toArray⟩, .int .i64 (bs : Int)] 23))
  have HCb := hid (HBb)
  clear HBa HBb
  go_enter Tryd.func13, Tryd.ntmps13
  go_wp2_with fail
  refine (hsh _).mono ?_
  rintro e w1 ⟨rfl, k1⟩
  have Ca := HCa.out.keep k1 (by simp)
  have a0 : _ = some (Value.bool true) := Ca.cell 0
  have a1 : _ = some (Value.string ⟨(dtxt an).toArray⟩) := Ca.cell 1
  have a2 : _ = some (Value.int .i64 (sa : Int)) := Ca.cell 2
  have Cb := HCb.out.keep k1 (by simp)
  have b0 : _ = some (Value.bool bg) := Cb.cell 0
  have b1 : _ = some (Value.string ⟨(dtxt bn).toArray⟩) := Cb.cell 1
  have b2 : _ = some (Value.int .i64 (bs : Int)) := Cb.cell 2
  clear Ca Cb
  go_wp2_with fail
  refine (m0 _).mono ?_
  rintro e w2 ⟨rfl, k2⟩
  replace a0 := k2.cell a0 (by simp)
  replace a1 := k2.cell a1 (by simp)
  replace a2 := k2.cell a2 (by simp)
  replace b0 := k2.cell b0 (by simp)
  replace b1 := k2.cell b1 (by simp)
  replace b2 := k2.cell b2 (by simp)
  go_wp2_with fail
  go_ret
  exact ⟨rfl, ((HK.out.nil k1).nil k2)⟩
set_option maxRecDepth 100000 in
set_option maxHeartbeats 12800000 in
theorem vsteps_nb (w : World) (n an sa : Nat) (bn bs : Nat) (ha : Ok (⟨false, an, sa⟩ : Dc)) (hb : Ok (⟨true, bn, bs⟩ : Dc)) :
    Calls Tryd.prog 13 #[.agg #[.bool false, .string ⟨(dtxt an).toArray⟩, .int .i64 (sa : Int)], .agg #[.bool true, .string ⟨(dtxt bn).toArray⟩, .int .i64 (bs : Int)], .int .u8 (n : Int)] w (YesPost w) := by
  have hsh := fun W => vshown_any W
  have m0 : ∀ W, Calls Tryd.prog 36 #[.agg #[.bool false, .string ⟨(dtxt an).toArray⟩, .int .i64 (sa : Int)], .agg #[.bool true, .string ⟨(dtxt bn).toArray⟩, .int .i64 (bs : Int)]] W fun e w' => e = .returned (.bool true) ∧ Kp [] W w' := fun W => vmay_ok2 (a := (⟨false, an, sa⟩ : Dc)) (b := (⟨true, bn, bs⟩ : Dc)) ha hb W
  clear ha hb
  have HBa : Cells (w.alloc (.cells #[.bool false, .string ⟨(dtxt an).toArray⟩, .int .i64 (sa : Int)] 23)) w.heap.size 23 [.bool false, .string ⟨(dtxt an).toArray⟩, .int .i64 (sa : Int)] := Cells.fresh w 23 [.bool false, .string ⟨(dtxt an).toArray⟩, .int .i64 (sa : Int)]
  have HBb : Cells ((w.alloc (.cells #[.bool false, .string ⟨(dtxt an).toArray⟩, .int .i64 (sa : Int)] 23)).alloc (.cells #[.bool true, .string ⟨(dtxt bn).toArray⟩, .int .i64 (bs : Int)] 23)) (w.heap.size + 1) 23 [.bool true, .string ⟨(dtxt bn).toArray⟩, .int .i64 (bs : Int)] := Cells.fresh1 _ _ 23 [.bool true, .string ⟨(dtxt bn).toArray⟩, .int .i64 (bs : Int)]
  have HK := hid (((Kp.refl [] w).alloc (.cells #[.bool false, .string ⟨(dtxt an).toArray⟩, .int .i64 (sa : Int)] 23)).alloc (.cells #[.bool true, .string ⟨(dtxt bn).toArray⟩, .int .i64 (bs : Int)] 23))
  have HCa := hid ((HBa).alloc (.cells #[.bool true, .string ⟨(dtxt bn).toArray⟩, .int .i64 (bs : Int)] 23))
  have HCb := hid (HBb)
  clear HBa HBb
  go_enter Tryd.func13, Tryd.ntmps13
  go_wp2_with fail
  refine (hsh _).mono ?_
  rintro e w1 ⟨rfl, k1⟩
  have Ca := HCa.out.keep k1 (by simp)
  have a0 : _ = some (Value.bool false) := Ca.cell 0
  have a1 : _ = some (Value.string ⟨(dtxt an).toArray⟩) := Ca.cell 1
  have a2 : _ = some (Value.int .i64 (sa : Int)) := Ca.cell 2
  have Cb := HCb.out.keep k1 (by simp)
  have b0 : _ = some (Value.bool true) := Cb.cell 0
  have b1 : _ = some (Value.string ⟨(dtxt bn).toArray⟩) := Cb.cell 1
  have b2 : _ = some (Value.int .i64 (bs : Int)) := Cb.cell 2
  clear Ca Cb
  go_wp2_with fail
  refine (m0 _).mono ?_
  rintro e w2 ⟨rfl, k2⟩
  replace a0 := k2.cell a0 (by simp)
  replace a1 := k2.cell a1 (by simp)
  replace a2 := k2.cell a2 (by simp)
  replace b0 := k2.cell b0 (by simp)
  replace b1 := k2.cell b1 (by simp)
  replace b2 := k2.cell b2 (by simp)
  go_wp2_with fail
  go_ret
  exact ⟨rfl, ((HK.out.nil k1).nil k2)⟩
set_option maxRecDepth 100000 in
set_option maxHeartbeats 12800000 in
theorem vsteps_nz (w : World) (n an sa : Nat) (ha : Ok (⟨false, an, sa⟩ : Dc)) (hb : Ok zeroD) :
    Calls Tryd.prog 13 #[.agg #[.bool false, .string ⟨(dtxt an).toArray⟩, .int .i64 (sa : Int)], .agg #[.bool false, .string ⟨#[48]⟩, .int .i64 0], .int .u8 (n : Int)] w (YesPost w) := by
  have hsh := fun W => vshown_any W
  have m0 : ∀ W, Calls Tryd.prog 36 #[.agg #[.bool false, .string ⟨(dtxt an).toArray⟩, .int .i64 (sa : Int)], .agg #[.bool false, .string ⟨#[48]⟩, .int .i64 0]] W fun e w' => e = .returned (.bool true) ∧ Kp [] W w' := fun W => vmay_ok2 (a := (⟨false, an, sa⟩ : Dc)) (b := zeroD) ha hb W
  clear ha hb
  have HBa : Cells (w.alloc (.cells #[.bool false, .string ⟨(dtxt an).toArray⟩, .int .i64 (sa : Int)] 23)) w.heap.size 23 [.bool false, .string ⟨(dtxt an).toArray⟩, .int .i64 (sa : Int)] := Cells.fresh w 23 [.bool false, .string ⟨(dtxt an).toArray⟩, .int .i64 (sa : Int)]
  have HBb : Cells ((w.alloc (.cells #[.bool false, .string ⟨(dtxt an).toArray⟩, .int .i64 (sa : Int)] 23)).alloc (.cells #[.bool false, .string ⟨#[48]⟩, .int .i64 0] 23)) (w.heap.size + 1) 23 [.bool false, .string ⟨#[48]⟩, .int .i64 0] := Cells.fresh1 _ _ 23 [.bool false, .string ⟨#[48]⟩, .int .i64 0]
  have HK := hid (((Kp.refl [] w).alloc (.cells #[.bool false, .string ⟨(dtxt an).toArray⟩, .int .i64 (sa : Int)] 23)).alloc (.cells #[.bool false, .string ⟨#[48]⟩, .int .i64 0] 23))
  have HCa := hid ((HBa).alloc (.cells #[.bool false, .string ⟨#[48]⟩, .int .i64 0] 23))
  have HCb := hid (HBb)
  clear HBa HBb
  go_enter Tryd.func13, Tryd.ntmps13
  go_wp2_with fail
  refine (hsh _).mono ?_
  rintro e w1 ⟨rfl, k1⟩
  have Ca := HCa.out.keep k1 (by simp)
  have a0 : _ = some (Value.bool false) := Ca.cell 0
  have a1 : _ = some (Value.string ⟨(dtxt an).toArray⟩) := Ca.cell 1
  have a2 : _ = some (Value.int .i64 (sa : Int)) := Ca.cell 2
  have Cb := HCb.out.keep k1 (by simp)
  have b0 : _ = some (Value.bool false) := Cb.cell 0
  have b1 : _ = some (Value.string ⟨#[48]⟩) := Cb.cell 1
  have b2 : _ = some (Value.int .i64 0) := Cb.cell 2
  clear Ca Cb
  go_wp2_with fail
  refine (m0 _).mono ?_
  rintro e w2 ⟨rfl, k2⟩
  replace a0 := k2.cell a0 (by simp)
  replace a1 := k2.cell a1 (by simp)
  replace a2 := k2.cell a2 (by simp)
  replace b0 := k2.cell b0 (by simp)
  replace b1 := k2.cell b1 (by simp)
  replace b2 := k2.cell b2 (by simp)
  go_wp2_with fail
  go_ret
  exact ⟨rfl, ((HK.out.nil k1).nil k2)⟩
set_option maxRecDepth 100000 in
set_option maxHeartbeats 12800000 in
theorem vsteps_t0 (w : World) (n k an sa bn bs mn ms : Nat) (hk : k < 8) (hand : bits .and .i64 (n : Int) 7 = (k : Int)) (hn : n < 256) (ha : Ok (⟨false, an, sa⟩ : Dc)) (hb : Ok (⟨false, bn, bs⟩ : Dc)) (hb0 : bn ≠ 0) (hM : modD (⟨false, an, sa⟩ : Dc) (⟨false, bn, bs⟩ : Dc) = some (⟨false, mn, ms⟩ : Dc)) (hT : mulD (⟨false, bn, bs⟩ : Dc) (intD (k : Int)) = none) :
    Calls Tryd.prog 13 #[.agg #[.bool false, .string ⟨(dtxt an).toArray⟩, .int .i64 (sa : Int)], .agg #[.bool false, .string ⟨(dtxt bn).toArray⟩, .int .i64 (bs : Int)], .int .u8 (n : Int)] w (YesPost w) := by
  have hsh := fun W => vshown_any W
  have m0 : ∀ W, Calls Tryd.prog 36 #[.agg #[.bool false, .string ⟨(dtxt an).toArray⟩, .int .i64 (sa : Int)], .agg #[.bool false, .string ⟨(dtxt bn).toArray⟩, .int .i64 (bs : Int)]] W fun e w' => e = .returned (.bool true) ∧ Kp [] W w' := fun W => vmay_ok2 (a := (⟨false, an, sa⟩ : Dc)) (b := (⟨false, bn, bs⟩ : Dc)) ha hb W
  have q1 : ∀ W, Calls Tryd.prog 39 #[.agg #[.bool false, .string ⟨(dtxt an).toArray⟩, .int .i64 (sa : Int)], .agg #[.bool false, .string ⟨(dtxt bn).toArray⟩, .int .i64 (bs : Int)]] W fun e w' => e = .returned (.tuple #[.agg #[.bool false, .string ⟨(dtxt mn).toArray⟩, .int .i64 (ms : Int)], .int .i64 0]) ∧ Kp [] W w' := fun W => mod_sure (a := (⟨false, an, sa⟩ : Dc)) (b := (⟨false, bn, bs⟩ : Dc)) ha hb hb0 hM W
  have qi := fun W => rint_any W (k : Int) (by omega)
  have oi : Ok (intD (k : Int)) := ok_i64 (by omega)
  have q2 := fun W => rmul_none (a := (⟨false, bn, bs⟩ : Dc)) hb oi hT W
  have hbB := dtxt_no48 hb0
  have wn : IntKind.i64.wrap (n : Int) = (n : Int) := IntWalk.i64_in _ (by omega)
  generalize intD (k : Int) = I at qi q2
  dsimp only at q2
  clear ha hb hb0 hM hT oi
  have HBa : Cells (w.alloc (.cells #[.bool false, .string ⟨(dtxt an).toArray⟩, .int .i64 (sa : Int)] 23)) w.heap.size 23 [.bool false, .string ⟨(dtxt an).toArray⟩, .int .i64 (sa : Int)] := Cells.fresh w 23 [.bool false, .string ⟨(dtxt an).toArray⟩, .int .i64 (sa : Int)]
  have HBb : Cells ((w.alloc (.cells #[.bool false, .string ⟨(dtxt an).toArray⟩, .int .i64 (sa : Int)] 23)).alloc (.cells #[.bool false, .string ⟨(dtxt bn).toArray⟩, .int .i64 (bs : Int)] 23)) (w.heap.size + 1) 23 [.bool false, .string ⟨(dtxt bn).toArray⟩, .int .i64 (bs : Int)] := Cells.fresh1 _ _ 23 [.bool false, .string ⟨(dtxt bn).toArray⟩, .int .i64 (bs : Int)]
  have HK := hid (((Kp.refl [] w).alloc (.cells #[.bool false, .string ⟨(dtxt an).toArray⟩, .int .i64 (sa : Int)] 23)).alloc (.cells #[.bool false, .string ⟨(dtxt bn).toArray⟩, .int .i64 (bs : Int)] 23))
  have HCa := hid ((HBa).alloc (.cells #[.bool false, .string ⟨(dtxt bn).toArray⟩, .int .i64 (bs : Int)] 23))
  have HCb := hid (HBb)
  clear HBa HBb
  go_enter Tryd.func13, Tryd.ntmps13
  go_wp2_with fail
  refine (hsh _).mono ?_
  rintro e w1 ⟨rfl, k1⟩
  have Ca := HCa.out.keep k1 (by simp)
  have a0 : _ = some (Value.bool false) := Ca.cell 0
  have a1 : _ = some (Value.string ⟨(dtxt an).toArray⟩) := Ca.cell 1
  have a2 : _ = some (Value.int .i64 (sa : Int)) := Ca.cell 2
  have Cb := HCb.out.keep k1 (by simp)
  have b0 : _ = some (Value.bool false) := Cb.cell 0
  have b1 : _ = some (Value.string ⟨(dtxt bn).toArray⟩) := Cb.cell 1
  have b2 : _ = some (Value.int .i64 (bs : Int)) := Cb.cell 2
  clear Ca Cb
  go_wp2_with fail
  refine (m0 _).mono ?_
  rintro e w2 ⟨rfl, k2⟩
  replace a0 := k2.cell a0 (by simp)
  replace a1 := k2.cell a1 (by simp)
  replace a2 := k2.cell a2 (by simp)
  replace b0 := k2.cell b0 (by simp)
  replace b1 := k2.cell b1 (by simp)
  replace b2 := k2.cell b2 (by simp)
  go_wp2_with fail
  refine (q1 _).mono ?_
  rintro e w3 ⟨rfl, k3⟩
  obtain ⟨K3, m0, m1, m2⟩ := k3.loc (.bool false) (.string ⟨(dtxt mn).toArray⟩) (.int .i64 (ms : Int))
  replace a0 := K3.cell a0 (by simp)
  replace a1 := K3.cell a1 (by simp)
  replace a2 := K3.cell a2 (by simp)
  replace b0 := K3.cell b0 (by simp)
  replace b1 := K3.cell b1 (by simp)
  replace b2 := K3.cell b2 (by simp)
  go_wp2_with fail
  refine lin_start (fun w' => w'.cell? ⟨w.heap.size, 0, none⟩ = some (Value.bool false) ∧ w'.cell? ⟨w.heap.size, 1, none⟩ = some (Value.string ⟨(dtxt an).toArray⟩) ∧ w'.cell? ⟨w.heap.size, 2, none⟩ = some (Value.int .i64 (sa : Int)) ∧ w'.cell? ⟨w.heap.size + 1, 0, none⟩ = some (Value.bool false) ∧ w'.cell? ⟨w.heap.size + 1, 1, none⟩ = some (Value.string ⟨(dtxt bn).toArray⟩) ∧ w'.cell? ⟨w.heap.size + 1, 2, none⟩ = some (Value.int .i64 (bs : Int)) ∧ w'.cell? ⟨w3.heap.size, 0, none⟩ = some (Value.bool false) ∧ w'.cell? ⟨w3.heap.size, 1, none⟩ = some (Value.string ⟨(dtxt mn).toArray⟩) ∧ w'.cell? ⟨w3.heap.size, 2, none⟩ = some (Value.int .i64 (ms : Int))) ((Stays.cell _ _).and ((Stays.cell _ _).and ((Stays.cell _ _).and ((Stays.cell _ _).and ((Stays.cell _ _).and ((Stays.cell _ _).and ((Stays.cell _ _).and ((Stays.cell _ _).and ((Stays.cell _ _)))))))))) (by kernel_rfl) ⟨a0, a1, a2, b0, b1, b2, m0, m1, m2⟩ (fun hSS hS => ?_)
  refine lin_val (i := 0) (v := ?_) rfl (by kernel_rfl) (by kernel_rfl) (by kernel_rfl) (fun _ _ _ h => h) hSS hS rfl (fun w hSw => ?_) ?_
  rotate_left
  · obtain ⟨q0, q1, q2, q3, q4, q5, q6, q7, q8⟩ := hSw; go_simp; first | done | with_reducible rfl
  simp only [Act.put, List.setIfInBounds_toArray, List.set_cons_zero, List.set_cons_succ]
  refine lin_val (i := 1) (v := ?_) rfl (by kernel_rfl) (by kernel_rfl) (by kernel_rfl) (fun _ _ _ h => h) hSS hS rfl (fun w hSw => ?_) ?_
  rotate_left
  · obtain ⟨q0, q1, q2, q3, q4, q5, q6, q7, q8⟩ := hSw; go_simp; first | done | with_reducible rfl
  simp only [Act.put, List.setIfInBounds_toArray, List.set_cons_zero, List.set_cons_succ]
  refine lin_val (i := 2) (v := ?_) rfl (by kernel_rfl) (by kernel_rfl) (by kernel_rfl) (fun _ _ _ h => h) hSS hS rfl (fun w hSw => ?_) ?_
  rotate_left
  · obtain ⟨q0, q1, q2, q3, q4, q5, q6, q7, q8⟩ := hSw; go_simp; first | done | with_reducible rfl
  simp only [Act.put, List.setIfInBounds_toArray, List.set_cons_zero, List.set_cons_succ]
  refine lin_val (i := 3) (v := ?_) rfl (by kernel_rfl) (by kernel_rfl) (by kernel_rfl) (fun _ _ _ h => h) hSS hS rfl (fun w hSw => ?_) ?_
  rotate_left
  · obtain ⟨q0, q1, q2, q3, q4, q5, q6, q7, q8⟩ := hSw; go_simp; first | done | with_reducible rfl
  simp only [Act.put, List.setIfInBounds_toArray, List.set_cons_zero, List.set_cons_succ]
  refine lin_call (i := 4) rfl (by kernel_rfl) (by kernel_rfl) (by kernel_rfl) (fun _ _ _ h => h) hSS hS rfl (fun w _ => qi w) (fun w hSw => ?_) ?_
  · obtain ⟨q0, q1, q2, q3, q4, q5, q6, q7, q8⟩ := hSw; go_simp
  simp only [Act.put, List.setIfInBounds_toArray, List.set_cons_zero, List.set_cons_succ]
  refine lin_call (i := 5) rfl (by kernel_rfl) (by kernel_rfl) (by kernel_rfl) (fun _ _ _ h => h) hSS hS rfl (fun w _ => q2 w) (fun w hSw => ?_) ?_
  · obtain ⟨q0, q1, q2, q3, q4, q5, q6, q7, q8⟩ := hSw; go_simp
  simp only [Act.put, List.setIfInBounds_toArray, List.set_cons_zero, List.set_cons_succ]
  refine lin_val (i := 6) (v := ?_) rfl (by kernel_rfl) (by kernel_rfl) (by kernel_rfl) (fun _ _ _ h => h) hSS hS rfl (fun w hSw => ?_) ?_
  rotate_left
  · obtain ⟨q0, q1, q2, q3, q4, q5, q6, q7, q8⟩ := hSw; go_simp; first | done | with_reducible rfl
  simp only [Act.put, List.setIfInBounds_toArray, List.set_cons_zero, List.set_cons_succ]
  refine lin_val (i := 7) (v := ?_) rfl (by kernel_rfl) (by kernel_rfl) (by kernel_rfl) (fun _ _ _ h => h) hSS hS rfl (fun w hSw => ?_) ?_
  rotate_left
  · obtain ⟨q0, q1, q2, q3, q4, q5, q6, q7, q8⟩ := hSw; go_simp; first | done | with_reducible rfl
  simp only [Act.put, List.setIfInBounds_toArray, List.set_cons_zero, List.set_cons_succ]
  refine lin_val (i := 8) (v := ?_) rfl (by kernel_rfl) (by kernel_rfl) (by kernel_rfl) (fun _ _ _ h => h) hSS hS rfl (fun w hSw => ?_) ?_
  rotate_left
  · obtain ⟨q0, q1, q2, q3, q4, q5, q6, q7, q8⟩ := hSw; go_simp; first | done | with_reducible rfl
  simp only [Act.put, List.setIfInBounds_toArray, List.set_cons_zero, List.set_cons_succ]
  refine lin_step (i := 9) (by kernel_rfl) rfl (fun wat kat K hK => ?_)
  go_simp
  refine hK.out _ _ (hSS _ _ hS (kat.alloc _)) (fun hS1 => ?_)
  clear hK K hS1
  try simp only [Act.put, List.setIfInBounds_toArray, List.set_cons_zero, List.set_cons_succ]
  refine lin_step (i := 10) (by kernel_rfl) rfl (fun wbt kbt K hK => ?_)
  have Rt := (Room.fresh wat _ _ _).kept kbt
  obtain ⟨_, _, _, c0, c1, c2, f0, f1, f2⟩ := Rt.cells
  go_simp
  clear c0 c1 c2 f0 f1 f2
  obtain ⟨kdt, t0, t1, t2⟩ := Rt.done ((kat.alloc _).nil kbt) kat.size (.bool false) (.string ⟨#[]⟩) (.int .i64 0)
  refine hK.out _ _ (hSS _ _ hS kdt) (fun hS1 => ?_)
  clear hK K hS Rt kat kbt
  try simp only [Act.put, List.setIfInBounds_toArray, List.set_cons_zero, List.set_cons_succ]
  refine lin_val (i := 11) (v := ?_) rfl (by kernel_rfl) (by kernel_rfl) (by kernel_rfl) (fun _ _ _ h => h) hSS hS1 rfl (fun w hSw => ?_) ?_
  rotate_left
  · go_simp; first | done | with_reducible rfl
  try simp only [Act.put, List.setIfInBounds_toArray, List.set_cons_zero, List.set_cons_succ]
  refine lin_done (by kernel_rfl) (fun wt knt => ?_) _
  replace t0 := knt.cell t0 (by simp)
  replace t1 := knt.cell t1 (by simp)
  replace t2 := knt.cell t2 (by simp)
  have kct := kdt.nil knt
  clear hS1 hSS kdt knt
  replace a0 := kct.cell a0 (by simp)
  replace a1 := kct.cell a1 (by simp)
  replace a2 := kct.cell a2 (by simp)
  replace b0 := kct.cell b0 (by simp)
  replace b1 := kct.cell b1 (by simp)
  replace b2 := kct.cell b2 (by simp)
  replace m0 := kct.cell m0 (by simp)
  replace m1 := kct.cell m1 (by simp)
  replace m2 := kct.cell m2 (by simp)
  go_wp2_with fail
  go_ret
  exact ⟨rfl, ((((HK.out.nil k1).nil k2).nil K3).drew.nil kct)⟩
set_option maxRecDepth 100000 in
set_option maxHeartbeats 12800000 in
theorem vsteps_s0 (w : World) (n k an sa bn bs mn ms : Nat) (hk : k < 8) (hand : bits .and .i64 (n : Int) 7 = (k : Int)) (hn : n < 256) (ha : Ok (⟨false, an, sa⟩ : Dc)) (hb : Ok (⟨false, bn, bs⟩ : Dc)) (hb0 : bn ≠ 0) (hM : modD (⟨false, an, sa⟩ : Dc) (⟨false, bn, bs⟩ : Dc) = some (⟨false, mn, ms⟩ : Dc)) (t : Dc) (hT : mulD (⟨false, bn, bs⟩ : Dc) (intD (k : Int)) = some t) (hS : addD (⟨false, an, sa⟩ : Dc) t = none) :
    Calls Tryd.prog 13 #[.agg #[.bool false, .string ⟨(dtxt an).toArray⟩, .int .i64 (sa : Int)], .agg #[.bool false, .string ⟨(dtxt bn).toArray⟩, .int .i64 (bs : Int)], .int .u8 (n : Int)] w (YesPost w) := by
  have hsh := fun W => vshown_any W
  have m0 : ∀ W, Calls Tryd.prog 36 #[.agg #[.bool false, .string ⟨(dtxt an).toArray⟩, .int .i64 (sa : Int)], .agg #[.bool false, .string ⟨(dtxt bn).toArray⟩, .int .i64 (bs : Int)]] W fun e w' => e = .returned (.bool true) ∧ Kp [] W w' := fun W => vmay_ok2 (a := (⟨false, an, sa⟩ : Dc)) (b := (⟨false, bn, bs⟩ : Dc)) ha hb W
  have q1 : ∀ W, Calls Tryd.prog 39 #[.agg #[.bool false, .string ⟨(dtxt an).toArray⟩, .int .i64 (sa : Int)], .agg #[.bool false, .string ⟨(dtxt bn).toArray⟩, .int .i64 (bs : Int)]] W fun e w' => e = .returned (.tuple #[.agg #[.bool false, .string ⟨(dtxt mn).toArray⟩, .int .i64 (ms : Int)], .int .i64 0]) ∧ Kp [] W w' := fun W => mod_sure (a := (⟨false, an, sa⟩ : Dc)) (b := (⟨false, bn, bs⟩ : Dc)) ha hb hb0 hM W
  have qi := fun W => rint_any W (k : Int) (by omega)
  have oi : Ok (intD (k : Int)) := ok_i64 (by omega)
  have ot := (mulD_ok hT).1
  have q2 := fun W => rmul_sure (a := (⟨false, bn, bs⟩ : Dc)) hb oi hT W
  have q3 := fun W => radd_none (a := (⟨false, an, sa⟩ : Dc)) ha ot hS W
  have hbB := dtxt_no48 hb0
  have wn : IntKind.i64.wrap (n : Int) = (n : Int) := IntWalk.i64_in _ (by omega)
  generalize intD (k : Int) = I at qi q2
  dsimp only at q2 q3
  clear ha hb hb0 hM hT oi ot hS
  have HBa : Cells (w.alloc (.cells #[.bool false, .string ⟨(dtxt an).toArray⟩, .int .i64 (sa : Int)] 23)) w.heap.size 23 [.bool false, .string ⟨(dtxt an).toArray⟩, .int .i64 (sa : Int)] := Cells.fresh w 23 [.bool false, .string ⟨(dtxt an).toArray⟩, .int .i64 (sa : Int)]
  have HBb : Cells ((w.alloc (.cells #[.bool false, .string ⟨(dtxt an).toArray⟩, .int .i64 (sa : Int)] 23)).alloc (.cells #[.bool false, .string ⟨(dtxt bn).toArray⟩, .int .i64 (bs : Int)] 23)) (w.heap.size + 1) 23 [.bool false, .string ⟨(dtxt bn).toArray⟩, .int .i64 (bs : Int)] := Cells.fresh1 _ _ 23 [.bool false, .string ⟨(dtxt bn).toArray⟩, .int .i64 (bs : Int)]
  have HK := hid (((Kp.refl [] w).alloc (.cells #[.bool false, .string ⟨(dtxt an).toArray⟩, .int .i64 (sa : Int)] 23)).alloc (.cells #[.bool false, .string ⟨(dtxt bn).toArray⟩, .int .i64 (bs : Int)] 23))
  have HCa := hid ((HBa).alloc (.cells #[.bool false, .string ⟨(dtxt bn).toArray⟩, .int .i64 (bs : Int)] 23))
  have HCb := hid (HBb)
  clear HBa HBb
  go_enter Tryd.func13, Tryd.ntmps13
  go_wp2_with fail
  refine (hsh _).mono ?_
  rintro e w1 ⟨rfl, k1⟩
  have Ca := HCa.out.keep k1 (by simp)
  have a0 : _ = some (Value.bool false) := Ca.cell 0
  have a1 : _ = some (Value.string ⟨(dtxt an).toArray⟩) := Ca.cell 1
  have a2 : _ = some (Value.int .i64 (sa : Int)) := Ca.cell 2
  have Cb := HCb.out.keep k1 (by simp)
  have b0 : _ = some (Value.bool false) := Cb.cell 0
  have b1 : _ = some (Value.string ⟨(dtxt bn).toArray⟩) := Cb.cell 1
  have b2 : _ = some (Value.int .i64 (bs : Int)) := Cb.cell 2
  clear Ca Cb
  go_wp2_with fail
  refine (m0 _).mono ?_
  rintro e w2 ⟨rfl, k2⟩
  replace a0 := k2.cell a0 (by simp)
  replace a1 := k2.cell a1 (by simp)
  replace a2 := k2.cell a2 (by simp)
  replace b0 := k2.cell b0 (by simp)
  replace b1 := k2.cell b1 (by simp)
  replace b2 := k2.cell b2 (by simp)
  go_wp2_with fail
  refine (q1 _).mono ?_
  rintro e w3 ⟨rfl, k3⟩
  obtain ⟨K3, m0, m1, m2⟩ := k3.loc (.bool false) (.string ⟨(dtxt mn).toArray⟩) (.int .i64 (ms : Int))
  replace a0 := K3.cell a0 (by simp)
  replace a1 := K3.cell a1 (by simp)
  replace a2 := K3.cell a2 (by simp)
  replace b0 := K3.cell b0 (by simp)
  replace b1 := K3.cell b1 (by simp)
  replace b2 := K3.cell b2 (by simp)
  go_wp2_with fail
  refine lin_start (fun w' => w'.cell? ⟨w.heap.size, 0, none⟩ = some (Value.bool false) ∧ w'.cell? ⟨w.heap.size, 1, none⟩ = some (Value.string ⟨(dtxt an).toArray⟩) ∧ w'.cell? ⟨w.heap.size, 2, none⟩ = some (Value.int .i64 (sa : Int)) ∧ w'.cell? ⟨w.heap.size + 1, 0, none⟩ = some (Value.bool false) ∧ w'.cell? ⟨w.heap.size + 1, 1, none⟩ = some (Value.string ⟨(dtxt bn).toArray⟩) ∧ w'.cell? ⟨w.heap.size + 1, 2, none⟩ = some (Value.int .i64 (bs : Int)) ∧ w'.cell? ⟨w3.heap.size, 0, none⟩ = some (Value.bool false) ∧ w'.cell? ⟨w3.heap.size, 1, none⟩ = some (Value.string ⟨(dtxt mn).toArray⟩) ∧ w'.cell? ⟨w3.heap.size, 2, none⟩ = some (Value.int .i64 (ms : Int))) ((Stays.cell _ _).and ((Stays.cell _ _).and ((Stays.cell _ _).and ((Stays.cell _ _).and ((Stays.cell _ _).and ((Stays.cell _ _).and ((Stays.cell _ _).and ((Stays.cell _ _).and ((Stays.cell _ _)))))))))) (by kernel_rfl) ⟨a0, a1, a2, b0, b1, b2, m0, m1, m2⟩ (fun hSS hS => ?_)
  refine lin_val (i := 0) (v := ?_) rfl (by kernel_rfl) (by kernel_rfl) (by kernel_rfl) (fun _ _ _ h => h) hSS hS rfl (fun w hSw => ?_) ?_
  rotate_left
  · obtain ⟨q0, q1, q2, q3, q4, q5, q6, q7, q8⟩ := hSw; go_simp; first | done | with_reducible rfl
  simp only [Act.put, List.setIfInBounds_toArray, List.set_cons_zero, List.set_cons_succ]
  refine lin_val (i := 1) (v := ?_) rfl (by kernel_rfl) (by kernel_rfl) (by kernel_rfl) (fun _ _ _ h => h) hSS hS rfl (fun w hSw => ?_) ?_
  rotate_left
  · obtain ⟨q0, q1, q2, q3, q4, q5, q6, q7, q8⟩ := hSw; go_simp; first | done | with_reducible rfl
  simp only [Act.put, List.setIfInBounds_toArray, List.set_cons_zero, List.set_cons_succ]
  refine lin_val (i := 2) (v := ?_) rfl (by kernel_rfl) (by kernel_rfl) (by kernel_rfl) (fun _ _ _ h => h) hSS hS rfl (fun w hSw => ?_) ?_
  rotate_left
  · obtain ⟨q0, q1, q2, q3, q4, q5, q6, q7, q8⟩ := hSw; go_simp; first | done | with_reducible rfl
  simp only [Act.put, List.setIfInBounds_toArray, List.set_cons_zero, List.set_cons_succ]
  refine lin_val (i := 3) (v := ?_) rfl (by kernel_rfl) (by kernel_rfl) (by kernel_rfl) (fun _ _ _ h => h) hSS hS rfl (fun w hSw => ?_) ?_
  rotate_left
  · obtain ⟨q0, q1, q2, q3, q4, q5, q6, q7, q8⟩ := hSw; go_simp; first | done | with_reducible rfl
  simp only [Act.put, List.setIfInBounds_toArray, List.set_cons_zero, List.set_cons_succ]
  refine lin_call (i := 4) rfl (by kernel_rfl) (by kernel_rfl) (by kernel_rfl) (fun _ _ _ h => h) hSS hS rfl (fun w _ => qi w) (fun w hSw => ?_) ?_
  · obtain ⟨q0, q1, q2, q3, q4, q5, q6, q7, q8⟩ := hSw; go_simp
  simp only [Act.put, List.setIfInBounds_toArray, List.set_cons_zero, List.set_cons_succ]
  refine lin_call (i := 5) rfl (by kernel_rfl) (by kernel_rfl) (by kernel_rfl) (fun _ _ _ h => h) hSS hS rfl (fun w _ => q2 w) (fun w hSw => ?_) ?_
  · obtain ⟨q0, q1, q2, q3, q4, q5, q6, q7, q8⟩ := hSw; go_simp
  simp only [Act.put, List.setIfInBounds_toArray, List.set_cons_zero, List.set_cons_succ]
  refine lin_val (i := 6) (v := ?_) rfl (by kernel_rfl) (by kernel_rfl) (by kernel_rfl) (fun _ _ _ h => h) hSS hS rfl (fun w hSw => ?_) ?_
  rotate_left
  · obtain ⟨q0, q1, q2, q3, q4, q5, q6, q7, q8⟩ := hSw; go_simp; first | done | with_reducible rfl
  simp only [Act.put, List.setIfInBounds_toArray, List.set_cons_zero, List.set_cons_succ]
  refine lin_val (i := 7) (v := ?_) rfl (by kernel_rfl) (by kernel_rfl) (by kernel_rfl) (fun _ _ _ h => h) hSS hS rfl (fun w hSw => ?_) ?_
  rotate_left
  · obtain ⟨q0, q1, q2, q3, q4, q5, q6, q7, q8⟩ := hSw; go_simp; first | done | with_reducible rfl
  simp only [Act.put, List.setIfInBounds_toArray, List.set_cons_zero, List.set_cons_succ]
  refine lin_val (i := 8) (v := ?_) rfl (by kernel_rfl) (by kernel_rfl) (by kernel_rfl) (fun _ _ _ h => h) hSS hS rfl (fun w hSw => ?_) ?_
  rotate_left
  · obtain ⟨q0, q1, q2, q3, q4, q5, q6, q7, q8⟩ := hSw; go_simp; first | done | with_reducible rfl
  simp only [Act.put, List.setIfInBounds_toArray, List.set_cons_zero, List.set_cons_succ]
  refine lin_step (i := 9) (by kernel_rfl) rfl (fun wat kat K hK => ?_)
  go_simp
  refine hK.out _ _ (hSS _ _ hS (kat.alloc _)) (fun hS1 => ?_)
  clear hK K hS1
  try simp only [Act.put, List.setIfInBounds_toArray, List.set_cons_zero, List.set_cons_succ]
  refine lin_step (i := 10) (by kernel_rfl) rfl (fun wbt kbt K hK => ?_)
  have Rt := (Room.fresh wat _ _ _).kept kbt
  obtain ⟨_, _, _, c0, c1, c2, f0, f1, f2⟩ := Rt.cells
  go_simp
  clear c0 c1 c2 f0 f1 f2
  obtain ⟨kdt, t0, t1, t2⟩ := Rt.done ((kat.alloc _).nil kbt) kat.size (.bool t.neg) (.string ⟨(dtxt t.n).toArray⟩) (.int .i64 (t.s : Int))
  refine hK.out _ _ (hSS _ _ hS kdt) (fun hS1 => ?_)
  clear hK K hS Rt kat kbt
  try simp only [Act.put, List.setIfInBounds_toArray, List.set_cons_zero, List.set_cons_succ]
  refine lin_val (i := 11) (v := ?_) rfl (by kernel_rfl) (by kernel_rfl) (by kernel_rfl) (fun _ _ _ h => h) hSS hS1 rfl (fun w hSw => ?_) ?_
  rotate_left
  · go_simp; first | done | with_reducible rfl
  try simp only [Act.put, List.setIfInBounds_toArray, List.set_cons_zero, List.set_cons_succ]
  refine lin_done (by kernel_rfl) (fun wt knt => ?_) _
  replace t0 := knt.cell t0 (by simp)
  replace t1 := knt.cell t1 (by simp)
  replace t2 := knt.cell t2 (by simp)
  have kct := kdt.nil knt
  clear hS1 hSS kdt knt
  replace a0 := kct.cell a0 (by simp)
  replace a1 := kct.cell a1 (by simp)
  replace a2 := kct.cell a2 (by simp)
  replace b0 := kct.cell b0 (by simp)
  replace b1 := kct.cell b1 (by simp)
  replace b2 := kct.cell b2 (by simp)
  replace m0 := kct.cell m0 (by simp)
  replace m1 := kct.cell m1 (by simp)
  replace m2 := kct.cell m2 (by simp)
  go_wp2_with fail
  refine (q3 _).mono ?_
  rintro e w4 ⟨rfl, k4⟩
  obtain ⟨K4, s0, s1, s2⟩ := k4.loc (.bool false) (.string ⟨#[]⟩) (.int .i64 0)
  replace a0 := K4.cell a0 (by simp)
  replace a1 := K4.cell a1 (by simp)
  replace a2 := K4.cell a2 (by simp)
  replace b0 := K4.cell b0 (by simp)
  replace b1 := K4.cell b1 (by simp)
  replace b2 := K4.cell b2 (by simp)
  replace m0 := K4.cell m0 (by simp)
  replace m1 := K4.cell m1 (by simp)
  replace m2 := K4.cell m2 (by simp)
  replace t0 := K4.cell t0 (by simp)
  replace t1 := K4.cell t1 (by simp)
  replace t2 := K4.cell t2 (by simp)
  go_wp2_with fail
  go_ret
  exact ⟨rfl, (((((HK.out.nil k1).nil k2).nil K3).drew.nil kct).nil K4)⟩
set_option maxRecDepth 100000 in
set_option maxHeartbeats 12800000 in
theorem vsteps_yes (w : World) (n k an sa bn bs mn ms : Nat) (hk : k < 8) (hand : bits .and .i64 (n : Int) 7 = (k : Int)) (hn : n < 256) (ha : Ok (⟨false, an, sa⟩ : Dc)) (hb : Ok (⟨false, bn, bs⟩ : Dc)) (hb0 : bn ≠ 0) (hM : modD (⟨false, an, sa⟩ : Dc) (⟨false, bn, bs⟩ : Dc) = some (⟨false, mn, ms⟩ : Dc)) (t : Dc) (hT : mulD (⟨false, bn, bs⟩ : Dc) (intD (k : Int)) = some t) (s : Dc) (hS : addD (⟨false, an, sa⟩ : Dc) t = some s) :
    Calls Tryd.prog 13 #[.agg #[.bool false, .string ⟨(dtxt an).toArray⟩, .int .i64 (sa : Int)], .agg #[.bool false, .string ⟨(dtxt bn).toArray⟩, .int .i64 (bs : Int)], .int .u8 (n : Int)] w (YesPost w) := by
  have hsh := fun W => vshown_any W
  have m0 : ∀ W, Calls Tryd.prog 36 #[.agg #[.bool false, .string ⟨(dtxt an).toArray⟩, .int .i64 (sa : Int)], .agg #[.bool false, .string ⟨(dtxt bn).toArray⟩, .int .i64 (bs : Int)]] W fun e w' => e = .returned (.bool true) ∧ Kp [] W w' := fun W => vmay_ok2 (a := (⟨false, an, sa⟩ : Dc)) (b := (⟨false, bn, bs⟩ : Dc)) ha hb W
  have q1 : ∀ W, Calls Tryd.prog 39 #[.agg #[.bool false, .string ⟨(dtxt an).toArray⟩, .int .i64 (sa : Int)], .agg #[.bool false, .string ⟨(dtxt bn).toArray⟩, .int .i64 (bs : Int)]] W fun e w' => e = .returned (.tuple #[.agg #[.bool false, .string ⟨(dtxt mn).toArray⟩, .int .i64 (ms : Int)], .int .i64 0]) ∧ Kp [] W w' := fun W => mod_sure (a := (⟨false, an, sa⟩ : Dc)) (b := (⟨false, bn, bs⟩ : Dc)) ha hb hb0 hM W
  have qi := fun W => rint_any W (k : Int) (by omega)
  have oi : Ok (intD (k : Int)) := ok_i64 (by omega)
  have ot := (mulD_ok hT).1
  have q2 := fun W => rmul_sure (a := (⟨false, bn, bs⟩ : Dc)) hb oi hT W
  have os := (addD_ok hS).1
  have q3 := fun W => radd_sure (a := (⟨false, an, sa⟩ : Dc)) ha ot hS W
  obtain ⟨hSM, tn, sn⟩ := steps_plain hb hb0 rfl rfl hM hT hS
  have q4 := fun W => mod_sure os hb hb0 hSM W
  have om := (mod_ok hb0 hM).1
  have q5 := fun W => mod_sure om hb hb0 (mod_again hb0 hM) W
  have q6 := fun W => rcmp_any W (⟨false, mn, ms⟩ : Dc) (⟨false, bn, bs⟩ : Dc) om hb
  have q7 := fun W => rcmp_any W (⟨false, mn, ms⟩ : Dc) (⟨false, an, sa⟩ : Dc) om ha
  have e6 := mod_less hb0 hM
  have e7 := mod_le hb0 rfl hM
  dsimp only at e6 e7
  obtain ⟨c7, hc7⟩ : ∃ c, c = cmpD (⟨false, mn, ms⟩ : Dc) (⟨false, an, sa⟩ : Dc) := ⟨_, rfl⟩
  rw [← hc7] at q7 e7
  rw [e6] at q6
  have b7 : decide (c7 ≤ 0) = true := decide_eq_true e7
  clear e6 hc7 om os hSM tn sn
  have hbB := dtxt_no48 hb0
  have wn : IntKind.i64.wrap (n : Int) = (n : Int) := IntWalk.i64_in _ (by omega)
  generalize intD (k : Int) = I at qi q2
  dsimp only at q2 q3 q4 q5 q6 q7
  clear ha hb hb0 hM hT oi ot hS
  have HBa : Cells (w.alloc (.cells #[.bool false, .string ⟨(dtxt an).toArray⟩, .int .i64 (sa : Int)] 23)) w.heap.size 23 [.bool false, .string ⟨(dtxt an).toArray⟩, .int .i64 (sa : Int)] := Cells.fresh w 23 [.bool false, .string ⟨(dtxt an).toArray⟩, .int .i64 (sa : Int)]
  have HBb : Cells ((w.alloc (.cells #[.bool false, .string ⟨(dtxt an).toArray⟩, .int .i64 (sa : Int)] 23)).alloc (.cells #[.bool false, .string ⟨(dtxt bn).toArray⟩, .int .i64 (bs : Int)] 23)) (w.heap.size + 1) 23 [.bool false, .string ⟨(dtxt bn).toArray⟩, .int .i64 (bs : Int)] := Cells.fresh1 _ _ 23 [.bool false, .string ⟨(dtxt bn).toArray⟩, .int .i64 (bs : Int)]
  have HK := hid (((Kp.refl [] w).alloc (.cells #[.bool false, .string ⟨(dtxt an).toArray⟩, .int .i64 (sa : Int)] 23)).alloc (.cells #[.bool false, .string ⟨(dtxt bn).toArray⟩, .int .i64 (bs : Int)] 23))
  have HCa := hid ((HBa).alloc (.cells #[.bool false, .string ⟨(dtxt bn).toArray⟩, .int .i64 (bs : Int)] 23))
  have HCb := hid (HBb)
  clear HBa HBb
  go_enter Tryd.func13, Tryd.ntmps13
  go_wp2_with fail
  refine (hsh _).mono ?_
  rintro e w1 ⟨rfl, k1⟩
  have Ca := HCa.out.keep k1 (by simp)
  have a0 : _ = some (Value.bool false) := Ca.cell 0
  have a1 : _ = some (Value.string ⟨(dtxt an).toArray⟩) := Ca.cell 1
  have a2 : _ = some (Value.int .i64 (sa : Int)) := Ca.cell 2
  have Cb := HCb.out.keep k1 (by simp)
  have b0 : _ = some (Value.bool false) := Cb.cell 0
  have b1 : _ = some (Value.string ⟨(dtxt bn).toArray⟩) := Cb.cell 1
  have b2 : _ = some (Value.int .i64 (bs : Int)) := Cb.cell 2
  clear Ca Cb
  go_wp2_with fail
  refine (m0 _).mono ?_
  rintro e w2 ⟨rfl, k2⟩
  replace a0 := k2.cell a0 (by simp)
  replace a1 := k2.cell a1 (by simp)
  replace a2 := k2.cell a2 (by simp)
  replace b0 := k2.cell b0 (by simp)
  replace b1 := k2.cell b1 (by simp)
  replace b2 := k2.cell b2 (by simp)
  go_wp2_with fail
  refine (q1 _).mono ?_
  rintro e w3 ⟨rfl, k3⟩
  obtain ⟨K3, m0, m1, m2⟩ := k3.loc (.bool false) (.string ⟨(dtxt mn).toArray⟩) (.int .i64 (ms : Int))
  replace a0 := K3.cell a0 (by simp)
  replace a1 := K3.cell a1 (by simp)
  replace a2 := K3.cell a2 (by simp)
  replace b0 := K3.cell b0 (by simp)
  replace b1 := K3.cell b1 (by simp)
  replace b2 := K3.cell b2 (by simp)
  go_wp2_with fail
  refine lin_start (fun w' => w'.cell? ⟨w.heap.size, 0, none⟩ = some (Value.bool false) ∧ w'.cell? ⟨w.heap.size, 1, none⟩ = some (Value.string ⟨(dtxt an).toArray⟩) ∧ w'.cell? ⟨w.heap.size, 2, none⟩ = some (Value.int .i64 (sa : Int)) ∧ w'.cell? ⟨w.heap.size + 1, 0, none⟩ = some (Value.bool false) ∧ w'.cell? ⟨w.heap.size + 1, 1, none⟩ = some (Value.string ⟨(dtxt bn).toArray⟩) ∧ w'.cell? ⟨w.heap.size + 1, 2, none⟩ = some (Value.int .i64 (bs : Int)) ∧ w'.cell? ⟨w3.heap.size, 0, none⟩ = some (Value.bool false) ∧ w'.cell? ⟨w3.heap.size, 1, none⟩ = some (Value.string ⟨(dtxt mn).toArray⟩) ∧ w'.cell? ⟨w3.heap.size, 2, none⟩ = some (Value.int .i64 (ms : Int))) ((Stays.cell _ _).and ((Stays.cell _ _).and ((Stays.cell _ _).and ((Stays.cell _ _).and ((Stays.cell _ _).and ((Stays.cell _ _).and ((Stays.cell _ _).and ((Stays.cell _ _).and ((Stays.cell _ _)))))))))) (by kernel_rfl) ⟨a0, a1, a2, b0, b1, b2, m0, m1, m2⟩ (fun hSS hS => ?_)
  refine lin_val (i := 0) (v := ?_) rfl (by kernel_rfl) (by kernel_rfl) (by kernel_rfl) (fun _ _ _ h => h) hSS hS rfl (fun w hSw => ?_) ?_
  rotate_left
  · obtain ⟨q0, q1, q2, q3, q4, q5, q6, q7, q8⟩ := hSw; go_simp; first | done | with_reducible rfl
  simp only [Act.put, List.setIfInBounds_toArray, List.set_cons_zero, List.set_cons_succ]
  refine lin_val (i := 1) (v := ?_) rfl (by kernel_rfl) (by kernel_rfl) (by kernel_rfl) (fun _ _ _ h => h) hSS hS rfl (fun w hSw => ?_) ?_
  rotate_left
  · obtain ⟨q0, q1, q2, q3, q4, q5, q6, q7, q8⟩ := hSw; go_simp; first | done | with_reducible rfl
  simp only [Act.put, List.setIfInBounds_toArray, List.set_cons_zero, List.set_cons_succ]
  refine lin_val (i := 2) (v := ?_) rfl (by kernel_rfl) (by kernel_rfl) (by kernel_rfl) (fun _ _ _ h => h) hSS hS rfl (fun w hSw => ?_) ?_
  rotate_left
  · obtain ⟨q0, q1, q2, q3, q4, q5, q6, q7, q8⟩ := hSw; go_simp; first | done | with_reducible rfl
  simp only [Act.put, List.setIfInBounds_toArray, List.set_cons_zero, List.set_cons_succ]
  refine lin_val (i := 3) (v := ?_) rfl (by kernel_rfl) (by kernel_rfl) (by kernel_rfl) (fun _ _ _ h => h) hSS hS rfl (fun w hSw => ?_) ?_
  rotate_left
  · obtain ⟨q0, q1, q2, q3, q4, q5, q6, q7, q8⟩ := hSw; go_simp; first | done | with_reducible rfl
  simp only [Act.put, List.setIfInBounds_toArray, List.set_cons_zero, List.set_cons_succ]
  refine lin_call (i := 4) rfl (by kernel_rfl) (by kernel_rfl) (by kernel_rfl) (fun _ _ _ h => h) hSS hS rfl (fun w _ => qi w) (fun w hSw => ?_) ?_
  · obtain ⟨q0, q1, q2, q3, q4, q5, q6, q7, q8⟩ := hSw; go_simp
  simp only [Act.put, List.setIfInBounds_toArray, List.set_cons_zero, List.set_cons_succ]
  refine lin_call (i := 5) rfl (by kernel_rfl) (by kernel_rfl) (by kernel_rfl) (fun _ _ _ h => h) hSS hS rfl (fun w _ => q2 w) (fun w hSw => ?_) ?_
  · obtain ⟨q0, q1, q2, q3, q4, q5, q6, q7, q8⟩ := hSw; go_simp
  simp only [Act.put, List.setIfInBounds_toArray, List.set_cons_zero, List.set_cons_succ]
  refine lin_val (i := 6) (v := ?_) rfl (by kernel_rfl) (by kernel_rfl) (by kernel_rfl) (fun _ _ _ h => h) hSS hS rfl (fun w hSw => ?_) ?_
  rotate_left
  · obtain ⟨q0, q1, q2, q3, q4, q5, q6, q7, q8⟩ := hSw; go_simp; first | done | with_reducible rfl
  simp only [Act.put, List.setIfInBounds_toArray, List.set_cons_zero, List.set_cons_succ]
  refine lin_val (i := 7) (v := ?_) rfl (by kernel_rfl) (by kernel_rfl) (by kernel_rfl) (fun _ _ _ h => h) hSS hS rfl (fun w hSw => ?_) ?_
  rotate_left
  · obtain ⟨q0, q1, q2, q3, q4, q5, q6, q7, q8⟩ := hSw; go_simp; first | done | with_reducible rfl
  simp only [Act.put, List.setIfInBounds_toArray, List.set_cons_zero, List.set_cons_succ]
  refine lin_val (i := 8) (v := ?_) rfl (by kernel_rfl) (by kernel_rfl) (by kernel_rfl) (fun _ _ _ h => h) hSS hS rfl (fun w hSw => ?_) ?_
  rotate_left
  · obtain ⟨q0, q1, q2, q3, q4, q5, q6, q7, q8⟩ := hSw; go_simp; first | done | with_reducible rfl
  simp only [Act.put, List.setIfInBounds_toArray, List.set_cons_zero, List.set_cons_succ]
  refine lin_step (i := 9) (by kernel_rfl) rfl (fun wat kat K hK => ?_)
  go_simp
  refine hK.out _ _ (hSS _ _ hS (kat.alloc _)) (fun hS1 => ?_)
  clear hK K hS1
  try simp only [Act.put, List.setIfInBounds_toArray, List.set_cons_zero, List.set_cons_succ]
  refine lin_step (i := 10) (by kernel_rfl) rfl (fun wbt kbt K hK => ?_)
  have Rt := (Room.fresh wat _ _ _).kept kbt
  obtain ⟨_, _, _, c0, c1, c2, f0, f1, f2⟩ := Rt.cells
  go_simp
  clear c0 c1 c2 f0 f1 f2
  obtain ⟨kdt, t0, t1, t2⟩ := Rt.done ((kat.alloc _).nil kbt) kat.size (.bool t.neg) (.string ⟨(dtxt t.n).toArray⟩) (.int .i64 (t.s : Int))
  refine hK.out _ _ (hSS _ _ hS kdt) (fun hS1 => ?_)
  clear hK K hS Rt kat kbt
  try simp only [Act.put, List.setIfInBounds_toArray, List.set_cons_zero, List.set_cons_succ]
  refine lin_val (i := 11) (v := ?_) rfl (by kernel_rfl) (by kernel_rfl) (by kernel_rfl) (fun _ _ _ h => h) hSS hS1 rfl (fun w hSw => ?_) ?_
  rotate_left
  · go_simp; first | done | with_reducible rfl
  try simp only [Act.put, List.setIfInBounds_toArray, List.set_cons_zero, List.set_cons_succ]
  refine lin_done (by kernel_rfl) (fun wt knt => ?_) _
  replace t0 := knt.cell t0 (by simp)
  replace t1 := knt.cell t1 (by simp)
  replace t2 := knt.cell t2 (by simp)
  have kct := kdt.nil knt
  clear hS1 hSS kdt knt
  replace a0 := kct.cell a0 (by simp)
  replace a1 := kct.cell a1 (by simp)
  replace a2 := kct.cell a2 (by simp)
  replace b0 := kct.cell b0 (by simp)
  replace b1 := kct.cell b1 (by simp)
  replace b2 := kct.cell b2 (by simp)
  replace m0 := kct.cell m0 (by simp)
  replace m1 := kct.cell m1 (by simp)
  replace m2 := kct.cell m2 (by simp)
  go_wp2_with fail
  refine (q3 _).mono ?_
  rintro e w4 ⟨rfl, k4⟩
  obtain ⟨K4, s0, s1, s2⟩ := k4.loc (.bool s.neg) (.string ⟨(dtxt s.n).toArray⟩) (.int .i64 (s.s : Int))
  replace a0 := K4.cell a0 (by simp)
  replace a1 := K4.cell a1 (by simp)
  replace a2 := K4.cell a2 (by simp)
  replace b0 := K4.cell b0 (by simp)
  replace b1 := K4.cell b1 (by simp)
  replace b2 := K4.cell b2 (by simp)
  replace m0 := K4.cell m0 (by simp)
  replace m1 := K4.cell m1 (by simp)
  replace m2 := K4.cell m2 (by simp)
  replace t0 := K4.cell t0 (by simp)
  replace t1 := K4.cell t1 (by simp)
  replace t2 := K4.cell t2 (by simp)
  go_wp2_with fail
  refine (q4 _).mono ?_
  rintro e w5 ⟨rfl, k5⟩
  obtain ⟨K5, x0, x1, x2⟩ := k5.loc (.bool false) (.string ⟨(dtxt mn).toArray⟩) (.int .i64 (ms : Int))
  replace a0 := K5.cell a0 (by simp)
  replace a1 := K5.cell a1 (by simp)
  replace a2 := K5.cell a2 (by simp)
  replace b0 := K5.cell b0 (by simp)
  replace b1 := K5.cell b1 (by simp)
  replace b2 := K5.cell b2 (by simp)
  replace m0 := K5.cell m0 (by simp)
  replace m1 := K5.cell m1 (by simp)
  replace m2 := K5.cell m2 (by simp)
  replace t0 := K5.cell t0 (by simp)
  replace t1 := K5.cell t1 (by simp)
  replace t2 := K5.cell t2 (by simp)
  replace s0 := K5.cell s0 (by simp)
  replace s1 := K5.cell s1 (by simp)
  replace s2 := K5.cell s2 (by simp)
  go_wp2_with fail
  refine (q5 _).mono ?_
  rintro e w6 ⟨rfl, k6⟩
  obtain ⟨K6, y0, y1, y2⟩ := k6.loc (.bool false) (.string ⟨(dtxt mn).toArray⟩) (.int .i64 (ms : Int))
  replace a0 := K6.cell a0 (by simp)
  replace a1 := K6.cell a1 (by simp)
  replace a2 := K6.cell a2 (by simp)
  replace b0 := K6.cell b0 (by simp)
  replace b1 := K6.cell b1 (by simp)
  replace b2 := K6.cell b2 (by simp)
  replace m0 := K6.cell m0 (by simp)
  replace m1 := K6.cell m1 (by simp)
  replace m2 := K6.cell m2 (by simp)
  replace t0 := K6.cell t0 (by simp)
  replace t1 := K6.cell t1 (by simp)
  replace t2 := K6.cell t2 (by simp)
  replace s0 := K6.cell s0 (by simp)
  replace s1 := K6.cell s1 (by simp)
  replace s2 := K6.cell s2 (by simp)
  replace x0 := K6.cell x0 (by simp)
  replace x1 := K6.cell x1 (by simp)
  replace x2 := K6.cell x2 (by simp)
  go_wp2_with fail
  refine (q6 _).mono ?_
  rintro e w7 ⟨rfl, k7⟩
  replace a0 := k7.cell a0 (by simp)
  replace a1 := k7.cell a1 (by simp)
  replace a2 := k7.cell a2 (by simp)
  replace b0 := k7.cell b0 (by simp)
  replace b1 := k7.cell b1 (by simp)
  replace b2 := k7.cell b2 (by simp)
  replace m0 := k7.cell m0 (by simp)
  replace m1 := k7.cell m1 (by simp)
  replace m2 := k7.cell m2 (by simp)
  replace t0 := k7.cell t0 (by simp)
  replace t1 := k7.cell t1 (by simp)
  replace t2 := k7.cell t2 (by simp)
  replace s0 := k7.cell s0 (by simp)
  replace s1 := k7.cell s1 (by simp)
  replace s2 := k7.cell s2 (by simp)
  replace x0 := k7.cell x0 (by simp)
  replace x1 := k7.cell x1 (by simp)
  replace x2 := k7.cell x2 (by simp)
  replace y0 := k7.cell y0 (by simp)
  replace y1 := k7.cell y1 (by simp)
  replace y2 := k7.cell y2 (by simp)
  go_wp2_with fail
  refine (q7 _).mono ?_
  rintro e w8 ⟨rfl, k8⟩
  replace a0 := k8.cell a0 (by simp)
  replace a1 := k8.cell a1 (by simp)
  replace a2 := k8.cell a2 (by simp)
  replace b0 := k8.cell b0 (by simp)
  replace b1 := k8.cell b1 (by simp)
  replace b2 := k8.cell b2 (by simp)
  replace m0 := k8.cell m0 (by simp)
  replace m1 := k8.cell m1 (by simp)
  replace m2 := k8.cell m2 (by simp)
  replace t0 := k8.cell t0 (by simp)
  replace t1 := k8.cell t1 (by simp)
  replace t2 := k8.cell t2 (by simp)
  replace s0 := k8.cell s0 (by simp)
  replace s1 := k8.cell s1 (by simp)
  replace s2 := k8.cell s2 (by simp)
  replace x0 := k8.cell x0 (by simp)
  replace x1 := k8.cell x1 (by simp)
  replace x2 := k8.cell x2 (by simp)
  replace y0 := k8.cell y0 (by simp)
  replace y1 := k8.cell y1 (by simp)
  replace y2 := k8.cell y2 (by simp)
  go_wp2_with fail
  go_ret
  exact ⟨rfl, (((((((((HK.out.nil k1).nil k2).nil K3).drew.nil kct).nil K4).nil K5).nil K6).nil k7).nil k8)⟩
theorem vsteps_any (w : World) (a b : RawD) (ha : a.ok) (hb : b.ok) (n : Nat) (hn : n < 256) : Calls Tryd.prog 13 #[.agg #[.bool a.neg, .string ⟨a.l.toArray⟩, .int .i64 a.s], .agg #[.bool b.neg, .string ⟨b.l.toArray⟩, .int .i64 b.s], .int .u8 (n : Int)] w (YesPost w) := by
  cases hm : (mayL a.neg a.l a.s && mayL b.neg b.l b.s) with
  | false => exact vsteps_no w n a b ha hb hm
  | true =>
    rw [Bool.and_eq_true] at hm
    obtain ⟨x, hx, rfl⟩ := RawD.is hm.1
    obtain ⟨y, hy, rfl⟩ := RawD.is hm.2
    obtain ⟨ag, an, sa⟩ := x
    obtain ⟨bg, bn, bs⟩ := y
    cases ag with
    | true => exact vsteps_na w n an sa bg bn bs hx hy
    | false =>
      cases bg with
      | true => exact vsteps_nb w n an sa bn bs hx hy
      | false =>
        by_cases h0 : bn = 0
        · obtain ⟨h1, -⟩ := hy.2.2.1 h0
          dsimp only at h1
          subst h0 h1
          exact vsteps_nz w n an sa hx hy
        · obtain ⟨m, hM⟩ := mod_some hx hy h0
          have hmn : m.neg = false := by
            obtain ⟨mok, mneg, -, -⟩ := mod_ok h0 hM
            by_cases hz : m.n = 0
            · exact (mok.2.2.1 hz).2
            · rw [mneg hz]
          obtain ⟨mg, mn, ms⟩ := m
          dsimp only at hmn
          subst hmn
          obtain ⟨k, hk, hand⟩ := and7b n hn
          rcases hT : mulD (⟨false, bn, bs⟩ : Dc) (intD (k : Int)) with _ | t
          · exact vsteps_t0 w n k an sa bn bs mn ms hk hand hn hx hy h0 hM hT
          · rcases hS : addD (⟨false, an, sa⟩ : Dc) t with _ | s
            · exact vsteps_s0 w n k an sa bn bs mn ms hk hand hn hx hy h0 hM t hT hS
            · exact vsteps_yes w n k an sa bn bs mn ms hk hand hn hx hy h0 hM t hT s hS
theorem vsteps_card (W : World) (_ : Tabs W) (b : Bool) (l : List UInt8) (z : Int) (hl : l.length ≤ 9223372036854775807) (h1 : -9223372036854775808 ≤ z) (h2 : z ≤ 9223372036854775807)
    (b' : Bool) (l' : List UInt8) (z' : Int) (hl' : l'.length ≤ 9223372036854775807) (h1' : -9223372036854775808 ≤ z') (h2' : z' ≤ 9223372036854775807) (n : Int) (hn : 0 ≤ n ∧ n ≤ 255) :
    Calls Tryd.prog 13 #[.agg #[.bool b, .string ⟨l.toArray⟩, .int .i64 z], .agg #[.bool b', .string ⟨l'.toArray⟩, .int .i64 z'], .int .u8 n] W (YesPost W) := by
  obtain ⟨m, rfl⟩ : ∃ m : Nat, n = (m : Int) := ⟨n.toNat, by omega⟩
  exact vsteps_any W ⟨b, l, z⟩ ⟨b', l', z'⟩ ⟨hl, h1, h2⟩ ⟨hl', h1', h2'⟩ m (by omega)
end Go.Proofs.YtampgimmodomoaaDoor
