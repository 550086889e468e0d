/- DecScale: by a tenth and by ten the point moves; a decimal without its sign. -/
import Derived.Test.YtampgimmodomoaaDoorDSym
import Derived.IntWalk
namespace Go.Proofs.YtampgimmodomoaaDoor
open Go Go.RowKit Go.Lib

theorem sub_zero {d : Dc} (hd : Ok d) : subD zeroD d = some (turn d) := by
  rw [sub_turn]
  refine addD_is (ok_turn hd) ?_
  have e0 : zeroD.z = 0 := rfl
  have e1 : zeroD.s = 0 := rfl
  rw [e0, e1]
  simp
theorem ok_plain {d : Dc} (hd : Ok d) : Ok ⟨false, d.n, d.s⟩ := ⟨hd.1, hd.2.1, fun h => ⟨(hd.2.2.1 h).1, rfl⟩, hd.2.2.2⟩
theorem plain_up (d : Dc) : 0 ≤ cmpD ⟨false, d.n, d.s⟩ zeroD := by
  unfold cmpD
  have e0 : zeroD.z = 0 := rfl
  rw [e0]
  have e2 : (⟨false, d.n, d.s⟩ : Dc).z = (d.n : Int) := by unfold Dc.z; simp
  rw [e2]
  have : 0 ≤ (d.n : Int) * 10 ^ zeroD.s := by have e1 : zeroD.s = 0 := rfl; rw [e1]; simp
  rcases sgn_cases ((d.n : Int) * 10 ^ zeroD.s - 0 * 10 ^ d.s) with ⟨h, e⟩ | ⟨h, e⟩ | ⟨h, e⟩ <;> simp only [Int.zero_mul, Int.sub_zero] at * <;> omega
theorem mul_turn2 (d : Dc) : mulD (turn d) (turn d) = mulD d d := by
  obtain ⟨h1, h2, _⟩ := z_turn d
  unfold mulD
  rw [h1, h2, Int.neg_mul_neg]
theorem and7 (n : Nat) (h : n < 256) : bits .and .i64 (n : Int) 7 = ((n % 8 : Nat) : Int) := by
  have h2 : ∀ n : Fin 256, bits .and .i64 (n.1 : Int) 7 = ((n.1 % 8 : Nat) : Int) := by decide +kernel
  exact h2 ⟨n, h⟩
set_option maxRecDepth 100000 in
set_option maxHeartbeats 6400000 in
theorem scale_no (w : World) (n : Nat) (r : RawD) (hr : r.ok) (hm : mayL r.neg r.l r.s = false) :
    Calls Tryd.prog 8 #[.agg #[.bool r.neg, .string ⟨r.l.toArray⟩, .int .i64 r.s], .int .u8 (n : Int)] w (YesPost w) := by
  have hsh := fun W => shown_any W
  have hmay := fun W => may_not hr hm W
  clear hr hm
  have HC := hid (Cells.fresh w 23 [.bool r.neg, .string ⟨r.l.toArray⟩, .int .i64 r.s])
  have HK := hid ((Kp.refl [] w).alloc (.cells #[.bool r.neg, .string ⟨r.l.toArray⟩, .int .i64 r.s] 23))
  go_enter Tryd.func8, Tryd.ntmps8
  go_wp2_with fail
  refine (hsh _).mono ?_
  rintro e w1 ⟨rfl, k1⟩
  have C := HC.out.keep k1 (by simp)
  have z0 : _ = some (Value.bool r.neg) := C.cell 0
  have z1 : _ = some (Value.string ⟨r.l.toArray⟩) := C.cell 1
  have z2 : _ = some (Value.int .i64 r.s) := C.cell 2
  go_wp2_with fail
  refine (hmay _).mono ?_
  rintro e w2 ⟨rfl, k2⟩
  go_wp2_with fail
  go_ret
  exact ⟨rfl, ((HK.out.nil k1).nil k2)⟩
set_option maxRecDepth 100000 in
set_option maxHeartbeats 12800000 in
theorem scale_yes (w : World) (n : Nat) (hn : n < 256) (d : Dc) (hd : Ok d) :
    Calls Tryd.prog 8 #[.agg #[.bool d.neg, .string ⟨(dtxt d.n).toArray⟩, .int .i64 (d.s : Int)], .int .u8 (n : Int)] w (YesPost w) := by
  have hsh := fun W => shown_any W
  have hmay := fun W => may_ok hd W
  have hten1 := fun X hX W => cmpD_any W X zeroD hX ok_zero
  have HC := hid (Cells.fresh w 23 [.bool d.neg, .string ⟨(dtxt d.n).toArray⟩, .int .i64 (d.s : Int)])
  have HK := hid ((Kp.refl [] w).alloc (.cells #[.bool d.neg, .string ⟨(dtxt d.n).toArray⟩, .int .i64 (d.s : Int)] 23))
  obtain ⟨K, hK⟩ : ∃ K, K = n % 8 := ⟨_, rfl⟩
  have hK8 : K < 8 := by omega
  have hand := and7 n hn
  rw [← hK] at hand
  clear hK
  have hdd := mul_sym hd hd
  have hss := sub_sure ok_zero hd (sub_zero hd)
  have htt := mul_sym (ok_turn hd) (ok_turn hd)
  rw [mul_turn2] at htt
  obtain ⟨O, hO⟩ : ∃ O, O = mulD d d := ⟨_, rfl⟩
  simp only [← hO] at hdd htt
  clear hO
  have hPc := fun W => cmpD_any W ⟨false, d.n, d.s⟩ zeroD (ok_plain hd) ok_zero
  have hup := plain_up d
  obtain ⟨g, hg⟩ : ∃ g, g = cmpD ⟨false, d.n, d.s⟩ zeroD := ⟨_, rfl⟩
  simp only [← hg] at hPc hup
  clear hg
  have hzt := z_turn d
  have Hd := hid hd
  have d0 : dtxt zeroD.n = [48] := by kernel_rfl
  have d1 : dtxt (1 : Nat) = [49] := by kernel_rfl
  have d10 : dtxt (10 : Nat) = [49, 48] := by kernel_rfl
  have n0 : zeroD.neg = false := rfl
  have s0 : ((zeroD.s : Nat) : Int) = 0 := rfl
  simp only [d0, n0, s0] at hten1 hss hPc
  have HD := hid (And.intro d0 (And.intro d1 (And.intro d10 (And.intro n0 s0))))
  clear d0 d1 d10 n0 s0 hzt
  have HQ := hid (And.intro hdd (And.intro hss (And.intro htt (And.intro hPc hup))))
  clear hdd hss htt hPc hup hd hten1
  go_enter Tryd.func8, Tryd.ntmps8
  go_wp2_with fail
  refine (hsh _).mono ?_
  rintro e w1 ⟨rfl, k1⟩
  have C := HC.out.keep k1 (by simp)
  have z0 : _ = some (Value.bool d.neg) := C.cell 0
  have z1 : _ = some (Value.string ⟨(dtxt d.n).toArray⟩) := C.cell 1
  have z2 : _ = some (Value.int .i64 (d.s : Int)) := C.cell 2
  go_wp2_with fail
  refine (hmay _).mono ?_
  rintro e w2 ⟨rfl, k2⟩
  replace z0 := k2.cell z0 (by simp)
  replace z1 := k2.cell z1 (by simp)
  replace z2 := k2.cell z2 (by simp)
  have hlt : w.heap.size < w2.heap.size := Nat.lt_of_lt_of_le (by simp) (k1.nil k2).size
  have KW := (HK.out.nil k1).nil k2
  clear C
  go_wp2_with fail
  have hT : Cells (((w2.alloc (.cells #[.bool false, .string ⟨#[49]⟩, .int .i64 1] 23)).alloc (.cells #[.bool false, .string ⟨#[49, 48]⟩, .int .i64 0] 23)).alloc (.cells #[.bool d.neg, .string ⟨(dtxt d.n).toArray⟩, .int .i64 (d.s : Int)] 23)) w2.heap.size 23 [.bool false, .string ⟨#[49]⟩, .int .i64 1] := ((Cells.fresh w2 23 [.bool false, .string ⟨#[49]⟩, .int .i64 1]).alloc _).alloc _
  have hE : Cells (((w2.alloc (.cells #[.bool false, .string ⟨#[49]⟩, .int .i64 1] 23)).alloc (.cells #[.bool false, .string ⟨#[49, 48]⟩, .int .i64 0] 23)).alloc (.cells #[.bool d.neg, .string ⟨(dtxt d.n).toArray⟩, .int .i64 (d.s : Int)] 23)) (w2.heap.size + 1) 23 [.bool false, .string ⟨#[49, 48]⟩, .int .i64 0] := by have := (Cells.fresh (w2.alloc (.cells #[.bool false, .string ⟨#[49]⟩, .int .i64 1] 23)) 23 [.bool false, .string ⟨#[49, 48]⟩, .int .i64 0]).alloc (.cells #[.bool d.neg, .string ⟨(dtxt d.n).toArray⟩, .int .i64 (d.s : Int)] 23); simpa using this
  have hX : Cells (((w2.alloc (.cells #[.bool false, .string ⟨#[49]⟩, .int .i64 1] 23)).alloc (.cells #[.bool false, .string ⟨#[49, 48]⟩, .int .i64 0] 23)).alloc (.cells #[.bool d.neg, .string ⟨(dtxt d.n).toArray⟩, .int .i64 (d.s : Int)] 23)) (w2.heap.size + 1 + 1) 23 [.bool d.neg, .string ⟨(dtxt d.n).toArray⟩, .int .i64 (d.s : Int)] := by have := Cells.fresh ((w2.alloc (.cells #[.bool false, .string ⟨#[49]⟩, .int .i64 1] 23)).alloc (.cells #[.bool false, .string ⟨#[49, 48]⟩, .int .i64 0] 23)) 23 [.bool d.neg, .string ⟨(dtxt d.n).toArray⟩, .int .i64 (d.s : Int)]; simpa using this
  have hZ : Cells (((w2.alloc (.cells #[.bool false, .string ⟨#[49]⟩, .int .i64 1] 23)).alloc (.cells #[.bool false, .string ⟨#[49, 48]⟩, .int .i64 0] 23)).alloc (.cells #[.bool d.neg, .string ⟨(dtxt d.n).toArray⟩, .int .i64 (d.s : Int)] 23)) w.heap.size 23 [.bool d.neg, .string ⟨(dtxt d.n).toArray⟩, .int .i64 (d.s : Int)] := (((HC.out.keep (k1.nil k2) (by simp)).alloc _).alloc _).alloc _
  have hW : Kp [] w (((w2.alloc (.cells #[.bool false, .string ⟨#[49]⟩, .int .i64 1] 23)).alloc (.cells #[.bool false, .string ⟨#[49, 48]⟩, .int .i64 0] 23)).alloc (.cells #[.bool d.neg, .string ⟨(dtxt d.n).toArray⟩, .int .i64 (d.s : Int)] 23)) := ((KW.alloc _).alloc _).alloc _
  have hs : (((w2.alloc (.cells #[.bool false, .string ⟨#[49]⟩, .int .i64 1] 23)).alloc (.cells #[.bool false, .string ⟨#[49, 48]⟩, .int .i64 0] 23)).alloc (.cells #[.bool d.neg, .string ⟨(dtxt d.n).toArray⟩, .int .i64 (d.s : Int)] 23)).heap.size = w2.heap.size + 3 := by simp
  obtain ⟨WL, hWL⟩ : ∃ WL, WL = (((w2.alloc (.cells #[.bool false, .string ⟨#[49]⟩, .int .i64 1] 23)).alloc (.cells #[.bool false, .string ⟨#[49, 48]⟩, .int .i64 0] 23)).alloc (.cells #[.bool d.neg, .string ⟨(dtxt d.n).toArray⟩, .int .i64 (d.s : Int)] 23)) := ⟨_, rfl⟩
  simp only [← hWL] at hT hE hX hZ hW hs ⊢
  have HT := hid hT
  have HE := hid hE
  have HX := hid hX
  have HZ := hid hZ
  have HW := hid hW
  have HS := hid hs
  clear hWL hT hE hX hZ hW hs z0 z1 z2 KW k1 k2
  go_loopw [9] (fun vi wr => Kp [w2.heap.size + 1 + 1] WL wr ∧ ∃ (k : Nat) (X : Dc), vi = .int .i64 (k : Int) ∧ k ≤ K ∧ Ok X ∧ Cells wr (w2.heap.size + 1 + 1) 23 [.bool X.neg, .string ⟨(dtxt X.n).toArray⟩, .int .i64 (X.s : Int)]) (fun vi _ => K - (intOf vi).toNat)
  case atStart => exact ⟨Kp.refl _ _, 0, d, rfl, by omega, Hd.out, HX.out⟩
  case round =>
    obtain ⟨hkp, k, X, rfl, hk, hX, hc⟩ := hrel
    have zT := HT.out.keep hkp (by simp; omega)
    have zE := HE.out.keep hkp (by simp)
    have zZ := HZ.out.keep hkp (by simp; omega)
    have Hc := hid hc
    have Hk := hid hkp
    have hKW := HW.out.fresh hkp (by omega)
    have HKW := hid hKW
    clear hKW
    by_cases hlt2 : k < K
    · rcases hy : mulD X ⟨false, 1, 1⟩ with _ | Y
      · have q := fun W => mul_none hX okA hy W
        simp only [HD.out.2.1] at q
        have Hy := hid hy
        have x0 : _ = some (Value.bool X.neg) := hc.cell 0
        have x1 : _ = some (Value.string ⟨(dtxt X.n).toArray⟩) := hc.cell 1
        have x2 : _ = some (Value.int .i64 (X.s : Int)) := hc.cell 2
        have t0 : _ = some (Value.bool false) := zT.cell 0
        have t1 : _ = some (Value.string ⟨#[49]⟩) := zT.cell 1
        have t2 : _ = some (Value.int .i64 1) := zT.cell 2
        clear hy hc hkp zT zE zZ
        go_wp2_with fail
        refine (q _).mono ?_
        rintro e w3 ⟨rfl, k3⟩
        obtain ⟨K3, y0, y1, y2⟩ := k3.loc (.bool false) (.string ⟨#[]⟩) (.int .i64 0)
        replace x0 := K3.cell x0 (by simp)
        replace x1 := K3.cell x1 (by simp)
        replace x2 := K3.cell x2 (by simp)
        replace t0 := K3.cell t0 (by simp)
        replace t1 := K3.cell t1 (by simp)
        replace t2 := K3.cell t2 (by simp)
        go_wp2_with fail
        go_ret
        exact ⟨rfl, (HKW.out.nil K3)⟩
      · have q := fun W => mul_sure hX okA hy W
        simp only [HD.out.2.1] at q
        obtain ⟨hb1, hb2⟩ := tenth_mul (ten := ⟨false, 10, 0⟩) hX rfl rfl rfl rfl hy
        have hY := (mulD_ok hy).1
        have q2 := fun W => mul_sure hY (show Ok ⟨false, 10, 0⟩ from ok_i64 (n := 10) (by decide)) hb1 W
        simp only [HD.out.2.2.1] at q2
        have c1 := fun W => cmpD_any W Y zeroD hY ok_zero
        have c2 := fun W => cmpD_any W X zeroD hX ok_zero
        simp only [HD.out.1, HD.out.2.2.2.1, HD.out.2.2.2.2] at c1 c2
        rw [hb2] at c1
        obtain ⟨g1, hg1⟩ : ∃ g, g = cmpD X zeroD := ⟨_, rfl⟩
        simp only [← hg1] at c1 c2
        have Hy := hid hy
        have HY := hid hY
        have x0 : _ = some (Value.bool X.neg) := hc.cell 0
        have x1 : _ = some (Value.string ⟨(dtxt X.n).toArray⟩) := hc.cell 1
        have x2 : _ = some (Value.int .i64 (X.s : Int)) := hc.cell 2
        have t0 : _ = some (Value.bool false) := zT.cell 0
        have t1 : _ = some (Value.string ⟨#[49]⟩) := zT.cell 1
        have t2 : _ = some (Value.int .i64 1) := zT.cell 2
        have e0 : _ = some (Value.bool false) := zE.cell 0
        have e1 : _ = some (Value.string ⟨#[49, 48]⟩) := zE.cell 1
        have e2 : _ = some (Value.int .i64 0) := zE.cell 2
        clear hy hc hkp zT zE zZ hb1 hb2 hY hg1 hX
        go_wp2_with fail
        refine (q _).mono ?_
        rintro e w3 ⟨rfl, k3⟩
        obtain ⟨K3, y0, y1, y2⟩ := k3.loc (.bool Y.neg) (.string ⟨(dtxt Y.n).toArray⟩) (.int .i64 (Y.s : Int))
        replace x0 := K3.cell x0 (by simp)
        replace x1 := K3.cell x1 (by simp)
        replace x2 := K3.cell x2 (by simp)
        replace e0 := K3.cell e0 (by simp)
        replace e1 := K3.cell e1 (by simp)
        replace e2 := K3.cell e2 (by simp)
        go_wp2_with fail
        refine (q2 _).mono ?_
        rintro e w4 ⟨rfl, k4⟩
        obtain ⟨K4, v0, v1, v2⟩ := k4.loc (.bool X.neg) (.string ⟨(dtxt X.n).toArray⟩) (.int .i64 (X.s : Int))
        replace x0 := K4.cell x0 (by simp)
        replace x1 := K4.cell x1 (by simp)
        replace x2 := K4.cell x2 (by simp)
        replace y0 := K4.cell y0 (by simp)
        replace y1 := K4.cell y1 (by simp)
        replace y2 := K4.cell y2 (by simp)
        go_wp2_with fail
        refine lin_start (fun w' => w'.cell? ⟨w4.heap.size, 0, none⟩ = some (Value.bool X.neg) ∧ w'.cell? ⟨w4.heap.size, 1, none⟩ = some (Value.string ⟨(dtxt X.n).toArray⟩) ∧ w'.cell? ⟨w4.heap.size, 2, none⟩ = some (Value.int .i64 (X.s : Int)) ∧ w'.cell? ⟨(w2.heap.size + 1 + 1), 0, none⟩ = some (Value.bool X.neg) ∧ w'.cell? ⟨(w2.heap.size + 1 + 1), 1, none⟩ = some (Value.string ⟨(dtxt X.n).toArray⟩) ∧ w'.cell? ⟨(w2.heap.size + 1 + 1), 2, none⟩ = some (Value.int .i64 (X.s : Int)) ∧ w'.cell? ⟨w3.heap.size, 0, none⟩ = some (Value.bool Y.neg) ∧ w'.cell? ⟨w3.heap.size, 1, none⟩ = some (Value.string ⟨(dtxt Y.n).toArray⟩) ∧ w'.cell? ⟨w3.heap.size, 2, none⟩ = some (Value.int .i64 (Y.s : Int))) ((Stays.cell _ _).and ((Stays.cell _ _).and ((Stays.cell _ _).and ((Stays.cell _ _).and ((Stays.cell _ _).and ((Stays.cell _ _).and ((Stays.cell _ _).and ((Stays.cell _ _).and ((Stays.cell _ _)))))))))) (by kernel_rfl) ⟨v0, v1, v2, x0, x1, x2, y0, y1, y2⟩ (fun hSS hS => ?_)
        refine lin_val (i := 0) (v := ?_) rfl (by kernel_rfl) (by kernel_rfl) (by kernel_rfl) (fun _ _ _ h => h) hSS hS rfl (fun w hSw => ?_) ?_
        rotate_left
        · obtain ⟨q0, q1, q2, q3, q4, q5, q6, q7, q8⟩ := hSw; go_simp; first | done | with_reducible rfl
        simp only [Act.put, List.setIfInBounds_toArray, List.set_cons_zero, List.set_cons_succ]
        refine lin_val (i := 1) (v := ?_) rfl (by kernel_rfl) (by kernel_rfl) (by kernel_rfl) (fun _ _ _ h => h) hSS hS rfl (fun w hSw => ?_) ?_
        rotate_left
        · obtain ⟨q0, q1, q2, q3, q4, q5, q6, q7, q8⟩ := hSw; go_simp; first | done | with_reducible rfl
        simp only [Act.put, List.setIfInBounds_toArray, List.set_cons_zero, List.set_cons_succ]
        refine lin_val (i := 2) (v := ?_) rfl (by kernel_rfl) (by kernel_rfl) (by kernel_rfl) (fun _ _ _ h => h) hSS hS rfl (fun w hSw => ?_) ?_
        rotate_left
        · obtain ⟨q0, q1, q2, q3, q4, q5, q6, q7, q8⟩ := hSw; go_simp; first | done | with_reducible rfl
        simp only [Act.put, List.setIfInBounds_toArray, List.set_cons_zero, List.set_cons_succ]
        refine lin_val (i := 3) (v := ?_) rfl (by kernel_rfl) (by kernel_rfl) (by kernel_rfl) (fun _ _ _ h => h) hSS hS rfl (fun w hSw => ?_) ?_
        rotate_left
        · obtain ⟨q0, q1, q2, q3, q4, q5, q6, q7, q8⟩ := hSw; go_simp; first | done | with_reducible rfl
        simp only [Act.put, List.setIfInBounds_toArray, List.set_cons_zero, List.set_cons_succ]
        refine lin_val (i := 4) (v := ?_) rfl (by kernel_rfl) (by kernel_rfl) (by kernel_rfl) (fun _ _ _ h => h) hSS hS rfl (fun w hSw => ?_) ?_
        rotate_left
        · obtain ⟨q0, q1, q2, q3, q4, q5, q6, q7, q8⟩ := hSw; go_simp; first | done | with_reducible rfl
        simp only [Act.put, List.setIfInBounds_toArray, List.set_cons_zero, List.set_cons_succ]
        refine lin_val (i := 5) (v := ?_) rfl (by kernel_rfl) (by kernel_rfl) (by kernel_rfl) (fun _ _ _ h => h) hSS hS rfl (fun w hSw => ?_) ?_
        rotate_left
        · obtain ⟨q0, q1, q2, q3, q4, q5, q6, q7, q8⟩ := hSw; go_simp; first | done | with_reducible rfl
        simp only [Act.put, List.setIfInBounds_toArray, List.set_cons_zero, List.set_cons_succ]
        refine lin_val (i := 6) (v := ?_) rfl (by kernel_rfl) (by kernel_rfl) (by kernel_rfl) (fun _ _ _ h => h) hSS hS rfl (fun w hSw => ?_) ?_
        rotate_left
        · obtain ⟨q0, q1, q2, q3, q4, q5, q6, q7, q8⟩ := hSw; go_simp; first | done | with_reducible rfl
        simp only [Act.put, List.setIfInBounds_toArray, List.set_cons_zero, List.set_cons_succ]
        refine lin_val (i := 7) (v := ?_) rfl (by kernel_rfl) (by kernel_rfl) (by kernel_rfl) (fun _ _ _ h => h) hSS hS rfl (fun w hSw => ?_) ?_
        rotate_left
        · obtain ⟨q0, q1, q2, q3, q4, q5, q6, q7, q8⟩ := hSw; go_simp; first | done | with_reducible rfl
        simp only [Act.put, List.setIfInBounds_toArray, List.set_cons_zero, List.set_cons_succ]
        refine lin_val (i := 8) (v := ?_) rfl (by kernel_rfl) (by kernel_rfl) (by kernel_rfl) (fun _ _ _ h => h) hSS hS rfl (fun w hSw => ?_) ?_
        rotate_left
        · obtain ⟨q0, q1, q2, q3, q4, q5, q6, q7, q8⟩ := hSw; go_simp; first | done | with_reducible rfl
        simp only [Act.put, List.setIfInBounds_toArray, List.set_cons_zero, List.set_cons_succ]
        refine lin_val (i := 9) (v := ?_) rfl (by kernel_rfl) (by kernel_rfl) (by kernel_rfl) (fun _ _ _ h => h) hSS hS rfl (fun w hSw => ?_) ?_
        rotate_left
        · obtain ⟨q0, q1, q2, q3, q4, q5, q6, q7, q8⟩ := hSw; go_simp; first | done | with_reducible rfl
        simp only [Act.put, List.setIfInBounds_toArray, List.set_cons_zero, List.set_cons_succ]
        refine lin_call (i := 10) rfl (by kernel_rfl) (by kernel_rfl) (by kernel_rfl) (fun _ _ _ h => h) hSS hS rfl (fun w _ => c1 w) (fun w hSw => ?_) ?_
        · obtain ⟨q0, q1, q2, q3, q4, q5, q6, q7, q8⟩ := hSw; go_simp
        simp only [Act.put, List.setIfInBounds_toArray, List.set_cons_zero, List.set_cons_succ]
        refine lin_val (i := 11) (v := ?_) rfl (by kernel_rfl) (by kernel_rfl) (by kernel_rfl) (fun _ _ _ h => h) hSS hS rfl (fun w hSw => ?_) ?_
        rotate_left
        · obtain ⟨q0, q1, q2, q3, q4, q5, q6, q7, q8⟩ := hSw; go_simp; first | done | with_reducible rfl
        simp only [Act.put, List.setIfInBounds_toArray, List.set_cons_zero, List.set_cons_succ]
        refine lin_val (i := 12) (v := ?_) rfl (by kernel_rfl) (by kernel_rfl) (by kernel_rfl) (fun _ _ _ h => h) hSS hS rfl (fun w hSw => ?_) ?_
        rotate_left
        · obtain ⟨q0, q1, q2, q3, q4, q5, q6, q7, q8⟩ := hSw; go_simp; first | done | with_reducible rfl
        simp only [Act.put, List.setIfInBounds_toArray, List.set_cons_zero, List.set_cons_succ]
        refine lin_call (i := 13) rfl (by kernel_rfl) (by kernel_rfl) (by kernel_rfl) (fun _ _ _ h => h) hSS hS rfl (fun w _ => c2 w) (fun w hSw => ?_) ?_
        · obtain ⟨q0, q1, q2, q3, q4, q5, q6, q7, q8⟩ := hSw; go_simp
        simp only [Act.put, List.setIfInBounds_toArray, List.set_cons_zero, List.set_cons_succ]
        refine lin_val (i := 14) (v := ?_) rfl (by kernel_rfl) (by kernel_rfl) (by kernel_rfl) (fun _ _ _ h => h) hSS hS rfl (fun w hSw => ?_) ?_
        rotate_left
        · obtain ⟨q0, q1, q2, q3, q4, q5, q6, q7, q8⟩ := hSw; go_simp; first | done | with_reducible rfl
        simp only [Act.put, List.setIfInBounds_toArray, List.set_cons_zero, List.set_cons_succ]
        refine lin_val (i := 15) (v := ?_) rfl (by kernel_rfl) (by kernel_rfl) (by kernel_rfl) (fun _ _ _ h => h) hSS hS rfl (fun w hSw => ?_) ?_
        rotate_left
        · obtain ⟨q0, q1, q2, q3, q4, q5, q6, q7, q8⟩ := hSw; go_simp; first | done | with_reducible rfl
        simp only [Act.put, List.setIfInBounds_toArray, List.set_cons_zero, List.set_cons_succ]
        refine lin_done (by kernel_rfl) (fun wq kq => ?_) _
        clear hS hSS
        replace v0 := kq.cell v0 (by simp)
        replace v1 := kq.cell v1 (by simp)
        replace v2 := kq.cell v2 (by simp)
        replace x0 := kq.cell x0 (by simp)
        replace x1 := kq.cell x1 (by simp)
        replace x2 := kq.cell x2 (by simp)
        replace y0 := kq.cell y0 (by simp)
        replace y1 := kq.cell y1 (by simp)
        replace y2 := kq.cell y2 (by simp)
        have KC := ((K3.nil K4).drew).nil kq
        have cX := Hc.out.keep KC (by simp)
        have f0 := cX.free 0
        have f1 := cX.free 1
        have f2 := cX.free 2
        have HcX := hid (((cX.put 0 (.bool Y.neg)).put 1 (.string ⟨(dtxt Y.n).toArray⟩)).put 2 (.int .i64 (Y.s : Int)))
        have HKC := hid (Hk.out.nil KC)
        clear cX KC kq K3 K4 k3 k4 q q2 c1 c2
        go_wp2_with fail
        go_roundw
        case rel => exact ⟨((HKC.out.setCell (p := ⟨w2.heap.size + 1 + 1, 0, none⟩) (fun _ => by simp) _).setCell (p := ⟨w2.heap.size + 1 + 1, 1, none⟩) (fun _ => by simp) _).setCell (p := ⟨w2.heap.size + 1 + 1, 2, none⟩) (fun _ => by simp) _, k + 1, Y, by go_num, by omega, HY.out, HcX.out⟩
        case measure => simp [intOf]; omega
    · obtain ⟨hdd, hss, htt, hPc, hup⟩ := HQ.out
      have hnot : ¬ k < K := hlt2
      have z0 : _ = some (Value.bool d.neg) := zZ.cell 0
      have z1 : _ = some (Value.string ⟨(dtxt d.n).toArray⟩) := zZ.cell 1
      have z2 : _ = some (Value.int .i64 (d.s : Int)) := zZ.cell 2
      have hlt3 : w.heap.size < wr.heap.size := zZ.lt
      have ht := turn_code Hd.out
      obtain ⟨_, t2, t3⟩ := z_turn d
      simp only [t2, t3] at hss htt
      obtain ⟨tn, htn⟩ : ∃ t, t = (turn d).neg := ⟨_, rfl⟩
      simp only [← htn] at hss htt ht
      have hcs : (tn = false) ∨ (d.neg = false ∧ tn = true) := by cases h : d.neg <;> cases h2 : tn <;> simp_all
      clear hc hkp zT zE zZ hX t2 t3 htn ht
      obtain ⟨dn, hdn⟩ : ∃ x, x = d.neg := ⟨_, rfl⟩
      obtain ⟨dl, hdl⟩ : ∃ x, x = dtxt d.n := ⟨_, rfl⟩
      obtain ⟨ds, hds⟩ : ∃ x, x = (d.s : Int) := ⟨_, rfl⟩
      simp only [← hdn, ← hdl, ← hds] at *
      have kp0 := (Kp.refl [] wr).alloc (.cells #[.bool false, .string ⟨dl.toArray⟩, .int .i64 ds] 23)
      have CP := Cells.fresh wr 23 [.bool false, .string ⟨dl.toArray⟩, .int .i64 ds]
      have y0 : _ = some (Value.bool false) := CP.cell 0
      have y1 : _ = some (Value.string ⟨dl.toArray⟩) := CP.cell 1
      have y2 : _ = some (Value.int .i64 ds) := CP.cell 2
      clear CP hlt2
      rcases hcs with rfl | ⟨rfl, rfl⟩
      · go_wp2_with fail
        refine (hss _).mono ?_
        rintro e w5 ⟨rfl, k5⟩
        obtain ⟨K5, m0, m1, m2⟩ := k5.loc (.bool false) (.string ⟨dl.toArray⟩) (.int .i64 ds)
        replace z0 := (kp0.nil K5).cell z0 (by simp)
        replace y0 := K5.cell y0 (by simp)
        replace z1 := (kp0.nil K5).cell z1 (by simp)
        replace y1 := K5.cell y1 (by simp)
        replace z2 := (kp0.nil K5).cell z2 (by simp)
        replace y2 := K5.cell y2 (by simp)
        go_wp2_with fail
        refine (hdd _).mono ?_
        rintro e w6 ⟨rfl, k6⟩
        obtain ⟨K6, a0, a1, a2⟩ := k6.loc (.bool (oN O)) (.string ⟨(oL O).toArray⟩) (.int .i64 (oS O))
        replace z0 := K6.cell z0 (by simp)
        replace z1 := K6.cell z1 (by simp)
        replace z2 := K6.cell z2 (by simp)
        replace y0 := K6.cell y0 (by simp)
        replace y1 := K6.cell y1 (by simp)
        replace y2 := K6.cell y2 (by simp)
        replace m0 := K6.cell m0 (by simp)
        replace m1 := K6.cell m1 (by simp)
        replace m2 := K6.cell m2 (by simp)
        go_wp2_with fail
        refine (htt _).mono ?_
        rintro e w7 ⟨rfl, k7⟩
        obtain ⟨K7, b0, b1, b2⟩ := k7.loc (.bool (oN O)) (.string ⟨(oL O).toArray⟩) (.int .i64 (oS O))
        replace z0 := K7.cell z0 (by simp)
        replace z1 := K7.cell z1 (by simp)
        replace z2 := K7.cell z2 (by simp)
        replace y0 := K7.cell y0 (by simp)
        replace y1 := K7.cell y1 (by simp)
        replace y2 := K7.cell y2 (by simp)
        replace m0 := K7.cell m0 (by simp)
        replace m1 := K7.cell m1 (by simp)
        replace m2 := K7.cell m2 (by simp)
        replace a0 := K7.cell a0 (by simp)
        replace a1 := K7.cell a1 (by simp)
        replace a2 := K7.cell a2 (by simp)
        go_wp2_with fail
        refine (hPc _).mono ?_
        rintro e w8 ⟨rfl, k8⟩
        replace z0 := k8.cell z0 (by simp)
        replace z1 := k8.cell z1 (by simp)
        replace z2 := k8.cell z2 (by simp)
        replace y0 := k8.cell y0 (by simp)
        replace y1 := k8.cell y1 (by simp)
        replace y2 := k8.cell y2 (by simp)
        replace m0 := k8.cell m0 (by simp)
        replace m1 := k8.cell m1 (by simp)
        replace m2 := k8.cell m2 (by simp)
        replace a0 := k8.cell a0 (by simp)
        replace a1 := k8.cell a1 (by simp)
        replace a2 := k8.cell a2 (by simp)
        replace b0 := k8.cell b0 (by simp)
        replace b1 := k8.cell b1 (by simp)
        replace b2 := k8.cell b2 (by simp)
        go_wp2_with fail
        go_ret
        exact ⟨rfl, (((((HKW.out.nil kp0).nil K5).nil K6).nil K7).nil k8)⟩
      · go_wp2_with fail
        refine (hss _).mono ?_
        rintro e w5 ⟨rfl, k5⟩
        obtain ⟨K5, m0, m1, m2⟩ := k5.loc (.bool true) (.string ⟨dl.toArray⟩) (.int .i64 ds)
        replace z0 := (kp0.nil K5).cell z0 (by simp)
        replace y0 := K5.cell y0 (by simp)
        replace z1 := (kp0.nil K5).cell z1 (by simp)
        replace y1 := K5.cell y1 (by simp)
        replace z2 := (kp0.nil K5).cell z2 (by simp)
        replace y2 := K5.cell y2 (by simp)
        go_wp2_with fail
        refine (hdd _).mono ?_
        rintro e w6 ⟨rfl, k6⟩
        obtain ⟨K6, a0, a1, a2⟩ := k6.loc (.bool (oN O)) (.string ⟨(oL O).toArray⟩) (.int .i64 (oS O))
        replace z0 := K6.cell z0 (by simp)
        replace z1 := K6.cell z1 (by simp)
        replace z2 := K6.cell z2 (by simp)
        replace y0 := K6.cell y0 (by simp)
        replace y1 := K6.cell y1 (by simp)
        replace y2 := K6.cell y2 (by simp)
        replace m0 := K6.cell m0 (by simp)
        replace m1 := K6.cell m1 (by simp)
        replace m2 := K6.cell m2 (by simp)
        go_wp2_with fail
        refine (htt _).mono ?_
        rintro e w7 ⟨rfl, k7⟩
        obtain ⟨K7, b0, b1, b2⟩ := k7.loc (.bool (oN O)) (.string ⟨(oL O).toArray⟩) (.int .i64 (oS O))
        replace z0 := K7.cell z0 (by simp)
        replace z1 := K7.cell z1 (by simp)
        replace z2 := K7.cell z2 (by simp)
        replace y0 := K7.cell y0 (by simp)
        replace y1 := K7.cell y1 (by simp)
        replace y2 := K7.cell y2 (by simp)
        replace m0 := K7.cell m0 (by simp)
        replace m1 := K7.cell m1 (by simp)
        replace m2 := K7.cell m2 (by simp)
        replace a0 := K7.cell a0 (by simp)
        replace a1 := K7.cell a1 (by simp)
        replace a2 := K7.cell a2 (by simp)
        go_wp2_with fail
        refine (hPc _).mono ?_
        rintro e w8 ⟨rfl, k8⟩
        replace z0 := k8.cell z0 (by simp)
        replace z1 := k8.cell z1 (by simp)
        replace z2 := k8.cell z2 (by simp)
        replace y0 := k8.cell y0 (by simp)
        replace y1 := k8.cell y1 (by simp)
        replace y2 := k8.cell y2 (by simp)
        replace m0 := k8.cell m0 (by simp)
        replace m1 := k8.cell m1 (by simp)
        replace m2 := k8.cell m2 (by simp)
        replace a0 := k8.cell a0 (by simp)
        replace a1 := k8.cell a1 (by simp)
        replace a2 := k8.cell a2 (by simp)
        replace b0 := k8.cell b0 (by simp)
        replace b1 := k8.cell b1 (by simp)
        replace b2 := k8.cell b2 (by simp)
        go_wp2_with fail
        go_ret
        exact ⟨rfl, (((((HKW.out.nil kp0).nil K5).nil K6).nil K7).nil k8)⟩
theorem scale_any (w : World) (r : RawD) (hr : r.ok) (n : Int) (hn : 0 ≤ n ∧ n ≤ 255) :
    Calls Tryd.prog 8 #[.agg #[.bool r.neg, .string ⟨r.l.toArray⟩, .int .i64 r.s], .int .u8 n] w (YesPost w) := by
  obtain ⟨k, rfl⟩ : ∃ k : Nat, n = (k : Int) := ⟨n.toNat, by omega⟩
  cases hm : mayL r.neg r.l r.s with
  | false => exact scale_no w k r hr hm
  | true =>
    obtain ⟨d, hd, rfl⟩ := RawD.is hm
    exact scale_yes w k (by omega) d hd
theorem scale_card (W : World) (_ : Tabs W) (b : Bool) (l : List UInt8) (z : Int) (hl : l.length ≤ 9223372036854775807) (h1 : -9223372036854775808 ≤ z) (h2 : z ≤ 9223372036854775807) (n : Int) (hn : 0 ≤ n ∧ n ≤ 255) :
    Calls Tryd.prog 8 #[.agg #[.bool b, .string ⟨l.toArray⟩, .int .i64 z], .int .u8 n] W (YesPost W) := scale_any W ⟨b, l, z⟩ ⟨hl, h1, h2⟩ n hn
end Go.Proofs.YtampgimmodomoaaDoor
