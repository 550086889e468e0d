/- DivideTurns: a quotient is turned as its numbers are, and Ceil is Floor seen from the other side. -/
import Derived.Test.YtampgimmodomoaaDoorDVBase
import Derived.Test.YtampgimmodomoaaDoorDVMore
namespace Go.Proofs.YtampgimmodomoaaDoor
open Go Go.RowKit Go.Lib

set_option maxRecDepth 100000 in
set_option maxHeartbeats 12800000 in
theorem vturns_no (w : World) (a b : RawD) (ha : a.ok) (hb : b.ok) (hm : (mayL a.neg a.l a.s && mayL b.neg b.l b.s) = false) :
    Calls Tryd.prog 15 #[.agg #[.bool a.neg, .string ⟨a.l.toArray⟩, .int .i64 a.s], .agg #[.bool b.neg, .string ⟨b.l.toArray⟩, .int .i64 b.s]] w (YesPost w) := by
  have hsh := fun W => vshown_any W
  have m0 := fun W => vmay_any W a b ha hb
  simp only [hm] at m0
  clear ha hb hm
  have HBa : Cells (w.alloc (.cells #[.bool a.neg, .string ⟨a.l.toArray⟩, .int .i64 a.s] 23)) w.heap.size 23 [.bool a.neg, .string ⟨a.l.toArray⟩, .int .i64 a.s] := Cells.fresh w 23 [.bool a.neg, .string ⟨a.l.toArray⟩, .int .i64 a.s]
  have HBb : Cells ((w.alloc (.cells #[.bool a.neg, .string ⟨a.l.toArray⟩, .int .i64 a.s] 23)).alloc (.cells #[.bool b.neg, .string ⟨b.l.toArray⟩, .int .i64 b.s] 23)) (w.heap.size + 1) 23 [.bool b.neg, .string ⟨b.l.toArray⟩, .int .i64 b.s] := Cells.fresh1 _ _ 23 [.bool b.neg, .string ⟨b.l.toArray⟩, .int .i64 b.s]
  have HK := hid (((Kp.refl [] w).alloc (.cells #[.bool a.neg, .string ⟨a.l.toArray⟩, .int .i64 a.s] 23)).alloc (.cells #[.bool b.neg, .string ⟨b.l.toArray⟩, .int .i64 b.s] 23))
  have HCa := hid ((HBa).alloc (.cells #[.bool b.neg, .string ⟨b.l.toArray⟩, .int .i64 b.s] 23))
  have HCb := hid (HBb)
  clear HBa HBb
  go_enter Tryd.func15, Tryd.ntmps15
  go_wp2_with fail
  refine (hsh _).mono ?_
  rintro e w1 ⟨rfl, k1⟩
  have Ca := HCa.out.keep k1 (by simp)
  have a0 : _ = some (Value.bool a.neg) := Ca.cell 0
  have a1 : _ = some (Value.string ⟨a.l.toArray⟩) := Ca.cell 1
  have a2 : _ = some (Value.int .i64 a.s) := Ca.cell 2
  have Cb := HCb.out.keep k1 (by simp)
  have b0 : _ = some (Value.bool b.neg) := Cb.cell 0
  have b1 : _ = some (Value.string ⟨b.l.toArray⟩) := Cb.cell 1
  have b2 : _ = some (Value.int .i64 b.s) := Cb.cell 2
  clear Ca Cb
  go_wp2_with fail
  refine (m0 _).mono ?_
  rintro e w2 ⟨rfl, k2⟩
  replace a0 := k2.cell a0 (by simp)
  replace a1 := k2.cell a1 (by simp)
  replace a2 := k2.cell a2 (by simp)
  replace b0 := k2.cell b0 (by simp)
  replace b1 := k2.cell b1 (by simp)
  replace b2 := k2.cell b2 (by simp)
  go_wp2_with fail
  go_ret
  exact ⟨rfl, ((HK.out.nil k1).nil k2)⟩
set_option maxRecDepth 100000 in
set_option maxHeartbeats 12800000 in
theorem vturns_bad (w : World) (a b : Dc) (ha : Ok a) (hb : Ok b) (xA yA : Bool) (xB yB : List UInt8) (xC yC E : Int) (hE : (E != 0) = true) (q1 : ∀ W, Calls Tryd.prog 37 #[.agg #[.bool a.neg, .string ⟨(dtxt a.n).toArray⟩, .int .i64 (a.s : Int)], .agg #[.bool b.neg, .string ⟨(dtxt b.n).toArray⟩, .int .i64 (b.s : Int)]] W fun e w' => e = .returned (.tuple #[.agg #[.bool xA, .string ⟨xB.toArray⟩, .int .i64 xC], .int .i64 E]) ∧ Kp [] W w') (q2 : ∀ W, Calls Tryd.prog 37 #[.agg #[.bool (turnD a).neg, .string ⟨(dtxt (turnD a).n).toArray⟩, .int .i64 ((turnD a).s : Int)], .agg #[.bool b.neg, .string ⟨(dtxt b.n).toArray⟩, .int .i64 (b.s : Int)]] W fun e w' => e = .returned (.tuple #[.agg #[.bool yA, .string ⟨yB.toArray⟩, .int .i64 yC], .int .i64 E]) ∧ Kp [] W w') (q3 : ∀ W, Calls Tryd.prog 37 #[.agg #[.bool (turnD a).neg, .string ⟨(dtxt (turnD a).n).toArray⟩, .int .i64 ((turnD a).s : Int)], .agg #[.bool (turnD b).neg, .string ⟨(dtxt (turnD b).n).toArray⟩, .int .i64 ((turnD b).s : Int)]] W fun e w' => e = .returned (.tuple #[.agg #[.bool xA, .string ⟨xB.toArray⟩, .int .i64 xC], .int .i64 E]) ∧ Kp [] W w')  :
    Calls Tryd.prog 15 #[.agg #[.bool a.neg, .string ⟨(dtxt a.n).toArray⟩, .int .i64 (a.s : Int)], .agg #[.bool b.neg, .string ⟨(dtxt b.n).toArray⟩, .int .i64 (b.s : Int)]] w (YesPost w) := by
  have hsh := fun W => vshown_any W
  have m0 := vmay_ok2 ha hb
  have tA := fun W => turn_any W a
  have tB := fun W => turn_any W b
  obtain ⟨f, hf⟩ := floor_some (turn_ok ha)
  have hc : ceilD a = some (turnD f) := by rw [ceil_turn ha, hf]; rfl
  have qC := ceil_sure ha hc
  have qF := floor_sure (turn_ok ha) hf
  have tF := fun W => turn_any W f
  generalize turnD a = ta at tA q2 q3 qF
  generalize turnD b = tb at tB q3
  generalize turnD f = c at qC tF
  clear hf hc ha hb
  have HBa : Cells (w.alloc (.cells #[.bool a.neg, .string ⟨(dtxt a.n).toArray⟩, .int .i64 (a.s : Int)] 23)) w.heap.size 23 [.bool a.neg, .string ⟨(dtxt a.n).toArray⟩, .int .i64 (a.s : Int)] := Cells.fresh w 23 [.bool a.neg, .string ⟨(dtxt a.n).toArray⟩, .int .i64 (a.s : Int)]
  have HBb : Cells ((w.alloc (.cells #[.bool a.neg, .string ⟨(dtxt a.n).toArray⟩, .int .i64 (a.s : Int)] 23)).alloc (.cells #[.bool b.neg, .string ⟨(dtxt b.n).toArray⟩, .int .i64 (b.s : Int)] 23)) (w.heap.size + 1) 23 [.bool b.neg, .string ⟨(dtxt b.n).toArray⟩, .int .i64 (b.s : Int)] := Cells.fresh1 _ _ 23 [.bool b.neg, .string ⟨(dtxt b.n).toArray⟩, .int .i64 (b.s : Int)]
  have HK := hid (((Kp.refl [] w).alloc (.cells #[.bool a.neg, .string ⟨(dtxt a.n).toArray⟩, .int .i64 (a.s : Int)] 23)).alloc (.cells #[.bool b.neg, .string ⟨(dtxt b.n).toArray⟩, .int .i64 (b.s : Int)] 23))
  have HCa := hid ((HBa).alloc (.cells #[.bool b.neg, .string ⟨(dtxt b.n).toArray⟩, .int .i64 (b.s : Int)] 23))
  have HCb := hid (HBb)
  clear HBa HBb
  go_enter Tryd.func15, Tryd.ntmps15
  go_wp2_with fail
  refine (hsh _).mono ?_
  rintro e w1 ⟨rfl, k1⟩
  have Ca := HCa.out.keep k1 (by simp)
  have a0 : _ = some (Value.bool a.neg) := Ca.cell 0
  have a1 : _ = some (Value.string ⟨(dtxt a.n).toArray⟩) := Ca.cell 1
  have a2 : _ = some (Value.int .i64 (a.s : Int)) := Ca.cell 2
  have Cb := HCb.out.keep k1 (by simp)
  have b0 : _ = some (Value.bool b.neg) := Cb.cell 0
  have b1 : _ = some (Value.string ⟨(dtxt b.n).toArray⟩) := Cb.cell 1
  have b2 : _ = some (Value.int .i64 (b.s : Int)) := Cb.cell 2
  clear Ca Cb
  go_wp2_with fail
  refine (m0 _).mono ?_
  rintro e w2 ⟨rfl, k2⟩
  replace a0 := k2.cell a0 (by simp)
  replace a1 := k2.cell a1 (by simp)
  replace a2 := k2.cell a2 (by simp)
  replace b0 := k2.cell b0 (by simp)
  replace b1 := k2.cell b1 (by simp)
  replace b2 := k2.cell b2 (by simp)
  go_wp2_with fail
  refine (q1 _).mono ?_
  rintro e w3 ⟨rfl, k3⟩
  obtain ⟨K3, x0, x1, x2⟩ := k3.loc (.bool xA) (.string ⟨xB.toArray⟩) (.int .i64 xC)
  replace a0 := K3.cell a0 (by simp)
  replace a1 := K3.cell a1 (by simp)
  replace a2 := K3.cell a2 (by simp)
  replace b0 := K3.cell b0 (by simp)
  replace b1 := K3.cell b1 (by simp)
  replace b2 := K3.cell b2 (by simp)
  go_wp2_with fail
  refine lin_start (fun w' => w'.cell? ⟨w.heap.size, 0, none⟩ = some (Value.bool a.neg) ∧ w'.cell? ⟨w.heap.size, 1, none⟩ = some (Value.string ⟨(dtxt a.n).toArray⟩) ∧ w'.cell? ⟨w.heap.size, 2, none⟩ = some (Value.int .i64 (a.s : Int)) ∧ w'.cell? ⟨w.heap.size + 1, 0, none⟩ = some (Value.bool b.neg) ∧ w'.cell? ⟨w.heap.size + 1, 1, none⟩ = some (Value.string ⟨(dtxt b.n).toArray⟩) ∧ w'.cell? ⟨w.heap.size + 1, 2, none⟩ = some (Value.int .i64 (b.s : Int)) ∧ w'.cell? ⟨w3.heap.size, 0, none⟩ = some (Value.bool xA) ∧ w'.cell? ⟨w3.heap.size, 1, none⟩ = some (Value.string ⟨xB.toArray⟩) ∧ w'.cell? ⟨w3.heap.size, 2, none⟩ = some (Value.int .i64 xC)) ((Stays.cell _ _).and ((Stays.cell _ _).and ((Stays.cell _ _).and ((Stays.cell _ _).and ((Stays.cell _ _).and ((Stays.cell _ _).and ((Stays.cell _ _).and ((Stays.cell _ _).and ((Stays.cell _ _)))))))))) (by kernel_rfl) ⟨a0, a1, a2, b0, b1, b2, x0, x1, x2⟩ (fun hSS hS => ?_)
  refine lin_val (i := 0) (v := ?_) rfl (by kernel_rfl) (by kernel_rfl) (by kernel_rfl) (fun _ _ _ h => h) hSS hS rfl (fun w hSw => ?_) ?_
  rotate_left
  · obtain ⟨q0, q1, q2, q3, q4, q5, q6, q7, q8⟩ := hSw; go_simp; first | done | with_reducible rfl
  simp only [Act.put, List.setIfInBounds_toArray, List.set_cons_zero, List.set_cons_succ]
  refine lin_call (i := 1) rfl (by kernel_rfl) (by kernel_rfl) (by kernel_rfl) (fun _ _ _ h => h) hSS hS rfl (fun w _ => tA w) (fun w hSw => ?_) ?_
  · obtain ⟨q0, q1, q2, q3, q4, q5, q6, q7, q8⟩ := hSw; go_simp
  simp only [Act.put, List.setIfInBounds_toArray, List.set_cons_zero, List.set_cons_succ]
  refine lin_val (i := 2) (v := ?_) rfl (by kernel_rfl) (by kernel_rfl) (by kernel_rfl) (fun _ _ _ h => h) hSS hS rfl (fun w hSw => ?_) ?_
  rotate_left
  · obtain ⟨q0, q1, q2, q3, q4, q5, q6, q7, q8⟩ := hSw; go_simp; first | done | with_reducible rfl
  simp only [Act.put, List.setIfInBounds_toArray, List.set_cons_zero, List.set_cons_succ]
  refine lin_call (i := 3) rfl (by kernel_rfl) (by kernel_rfl) (by kernel_rfl) (fun _ _ _ h => h) hSS hS rfl (fun w _ => q2 w) (fun w hSw => ?_) ?_
  · obtain ⟨q0, q1, q2, q3, q4, q5, q6, q7, q8⟩ := hSw; go_simp
  simp only [Act.put, List.setIfInBounds_toArray, List.set_cons_zero, List.set_cons_succ]
  refine lin_val (i := 4) (v := ?_) rfl (by kernel_rfl) (by kernel_rfl) (by kernel_rfl) (fun _ _ _ h => h) hSS hS rfl (fun w hSw => ?_) ?_
  rotate_left
  · obtain ⟨q0, q1, q2, q3, q4, q5, q6, q7, q8⟩ := hSw; go_simp; first | done | with_reducible rfl
  simp only [Act.put, List.setIfInBounds_toArray, List.set_cons_zero, List.set_cons_succ]
  refine lin_val (i := 5) (v := ?_) rfl (by kernel_rfl) (by kernel_rfl) (by kernel_rfl) (fun _ _ _ h => h) hSS hS rfl (fun w hSw => ?_) ?_
  rotate_left
  · obtain ⟨q0, q1, q2, q3, q4, q5, q6, q7, q8⟩ := hSw; go_simp; first | done | with_reducible rfl
  simp only [Act.put, List.setIfInBounds_toArray, List.set_cons_zero, List.set_cons_succ]
  refine lin_val (i := 6) (v := ?_) rfl (by kernel_rfl) (by kernel_rfl) (by kernel_rfl) (fun _ _ _ h => h) hSS hS rfl (fun w hSw => ?_) ?_
  rotate_left
  · obtain ⟨q0, q1, q2, q3, q4, q5, q6, q7, q8⟩ := hSw; go_simp; first | done | with_reducible rfl
  simp only [Act.put, List.setIfInBounds_toArray, List.set_cons_zero, List.set_cons_succ]
  refine lin_step (i := 7) (by kernel_rfl) rfl (fun way kay K hK => ?_)
  go_simp
  refine hK.out _ _ (hSS _ _ hS (kay.alloc _)) (fun hS1 => ?_)
  clear hK K hS1
  try simp only [Act.put, List.setIfInBounds_toArray, List.set_cons_zero, List.set_cons_succ]
  refine lin_step (i := 8) (by kernel_rfl) rfl (fun wby kby K hK => ?_)
  have Ry := (Room.fresh way _ _ _).kept kby
  obtain ⟨_, _, _, c0, c1, c2, f0, f1, f2⟩ := Ry.cells
  go_simp
  clear c0 c1 c2 f0 f1 f2
  obtain ⟨kdy, y0, y1, y2⟩ := Ry.done ((kay.alloc _).nil kby) kay.size (.bool yA) (.string ⟨yB.toArray⟩) (.int .i64 yC)
  refine hK.out _ _ (hSS _ _ hS kdy) (fun hS1 => ?_)
  clear hK K hS Ry kay kby
  try simp only [Act.put, List.setIfInBounds_toArray, List.set_cons_zero, List.set_cons_succ]
  refine lin_val (i := 9) (v := ?_) rfl (by kernel_rfl) (by kernel_rfl) (by kernel_rfl) (fun _ _ _ h => h) hSS hS1 rfl (fun w hSw => ?_) ?_
  rotate_left
  · go_simp; first | done | with_reducible rfl
  try simp only [Act.put, List.setIfInBounds_toArray, List.set_cons_zero, List.set_cons_succ]
  refine lin_done (by kernel_rfl) (fun wy kny => ?_) _
  replace y0 := kny.cell y0 (by simp)
  replace y1 := kny.cell y1 (by simp)
  replace y2 := kny.cell y2 (by simp)
  have kcy := kdy.nil kny
  clear hS1 hSS kdy kny
  replace a0 := kcy.cell a0 (by simp)
  replace a1 := kcy.cell a1 (by simp)
  replace a2 := kcy.cell a2 (by simp)
  replace b0 := kcy.cell b0 (by simp)
  replace b1 := kcy.cell b1 (by simp)
  replace b2 := kcy.cell b2 (by simp)
  replace x0 := kcy.cell x0 (by simp)
  replace x1 := kcy.cell x1 (by simp)
  replace x2 := kcy.cell x2 (by simp)
  go_wp2_with fail
  refine lin_start (fun w' => w'.cell? ⟨w.heap.size, 0, none⟩ = some (Value.bool a.neg) ∧ w'.cell? ⟨w.heap.size, 1, none⟩ = some (Value.string ⟨(dtxt a.n).toArray⟩) ∧ w'.cell? ⟨w.heap.size, 2, none⟩ = some (Value.int .i64 (a.s : Int)) ∧ w'.cell? ⟨w.heap.size + 1, 0, none⟩ = some (Value.bool b.neg) ∧ w'.cell? ⟨w.heap.size + 1, 1, none⟩ = some (Value.string ⟨(dtxt b.n).toArray⟩) ∧ w'.cell? ⟨w.heap.size + 1, 2, none⟩ = some (Value.int .i64 (b.s : Int)) ∧ w'.cell? ⟨w3.heap.size, 0, none⟩ = some (Value.bool xA) ∧ w'.cell? ⟨w3.heap.size, 1, none⟩ = some (Value.string ⟨xB.toArray⟩) ∧ w'.cell? ⟨w3.heap.size, 2, none⟩ = some (Value.int .i64 xC) ∧ w'.cell? ⟨way.heap.size, 0, none⟩ = some (Value.bool yA) ∧ w'.cell? ⟨way.heap.size, 1, none⟩ = some (Value.string ⟨yB.toArray⟩) ∧ w'.cell? ⟨way.heap.size, 2, none⟩ = some (Value.int .i64 yC)) ((Stays.cell _ _).and ((Stays.cell _ _).and ((Stays.cell _ _).and ((Stays.cell _ _).and ((Stays.cell _ _).and ((Stays.cell _ _).and ((Stays.cell _ _).and ((Stays.cell _ _).and ((Stays.cell _ _).and ((Stays.cell _ _).and ((Stays.cell _ _).and ((Stays.cell _ _))))))))))))) (by kernel_rfl) ⟨a0, a1, a2, b0, b1, b2, x0, x1, x2, y0, y1, y2⟩ (fun hSS hS => ?_)
  refine lin_val (i := 0) (v := ?_) rfl (by kernel_rfl) (by kernel_rfl) (by kernel_rfl) (fun _ _ _ h => h) hSS hS rfl (fun w hSw => ?_) ?_
  rotate_left
  · obtain ⟨q0, q1, q2, q3, q4, q5, q6, q7, q8, q9, q10, q11⟩ := hSw; go_simp; first | done | with_reducible rfl
  simp only [Act.put, List.setIfInBounds_toArray, List.set_cons_zero, List.set_cons_succ]
  refine lin_call (i := 1) rfl (by kernel_rfl) (by kernel_rfl) (by kernel_rfl) (fun _ _ _ h => h) hSS hS rfl (fun w _ => tA w) (fun w hSw => ?_) ?_
  · obtain ⟨q0, q1, q2, q3, q4, q5, q6, q7, q8, q9, q10, q11⟩ := hSw; go_simp
  simp only [Act.put, List.setIfInBounds_toArray, List.set_cons_zero, List.set_cons_succ]
  refine lin_val (i := 2) (v := ?_) rfl (by kernel_rfl) (by kernel_rfl) (by kernel_rfl) (fun _ _ _ h => h) hSS hS rfl (fun w hSw => ?_) ?_
  rotate_left
  · obtain ⟨q0, q1, q2, q3, q4, q5, q6, q7, q8, q9, q10, q11⟩ := hSw; go_simp; first | done | with_reducible rfl
  simp only [Act.put, List.setIfInBounds_toArray, List.set_cons_zero, List.set_cons_succ]
  refine lin_call (i := 3) rfl (by kernel_rfl) (by kernel_rfl) (by kernel_rfl) (fun _ _ _ h => h) hSS hS rfl (fun w _ => tB w) (fun w hSw => ?_) ?_
  · obtain ⟨q0, q1, q2, q3, q4, q5, q6, q7, q8, q9, q10, q11⟩ := hSw; go_simp
  simp only [Act.put, List.setIfInBounds_toArray, List.set_cons_zero, List.set_cons_succ]
  refine lin_call (i := 4) rfl (by kernel_rfl) (by kernel_rfl) (by kernel_rfl) (fun _ _ _ h => h) hSS hS rfl (fun w _ => q3 w) (fun w hSw => ?_) ?_
  · obtain ⟨q0, q1, q2, q3, q4, q5, q6, q7, q8, q9, q10, q11⟩ := hSw; go_simp
  simp only [Act.put, List.setIfInBounds_toArray, List.set_cons_zero, List.set_cons_succ]
  refine lin_val (i := 5) (v := ?_) rfl (by kernel_rfl) (by kernel_rfl) (by kernel_rfl) (fun _ _ _ h => h) hSS hS rfl (fun w hSw => ?_) ?_
  rotate_left
  · obtain ⟨q0, q1, q2, q3, q4, q5, q6, q7, q8, q9, q10, q11⟩ := hSw; go_simp; first | done | with_reducible rfl
  simp only [Act.put, List.setIfInBounds_toArray, List.set_cons_zero, List.set_cons_succ]
  refine lin_val (i := 6) (v := ?_) rfl (by kernel_rfl) (by kernel_rfl) (by kernel_rfl) (fun _ _ _ h => h) hSS hS rfl (fun w hSw => ?_) ?_
  rotate_left
  · obtain ⟨q0, q1, q2, q3, q4, q5, q6, q7, q8, q9, q10, q11⟩ := hSw; go_simp; first | done | with_reducible rfl
  simp only [Act.put, List.setIfInBounds_toArray, List.set_cons_zero, List.set_cons_succ]
  refine lin_val (i := 7) (v := ?_) rfl (by kernel_rfl) (by kernel_rfl) (by kernel_rfl) (fun _ _ _ h => h) hSS hS rfl (fun w hSw => ?_) ?_
  rotate_left
  · obtain ⟨q0, q1, q2, q3, q4, q5, q6, q7, q8, q9, q10, q11⟩ := hSw; go_simp; first | done | with_reducible rfl
  simp only [Act.put, List.setIfInBounds_toArray, List.set_cons_zero, List.set_cons_succ]
  refine lin_step (i := 8) (by kernel_rfl) rfl (fun waz kaz K hK => ?_)
  go_simp
  refine hK.out _ _ (hSS _ _ hS (kaz.alloc _)) (fun hS1 => ?_)
  clear hK K hS1
  try simp only [Act.put, List.setIfInBounds_toArray, List.set_cons_zero, List.set_cons_succ]
  refine lin_step (i := 9) (by kernel_rfl) rfl (fun wbz kbz K hK => ?_)
  have Rz := (Room.fresh waz _ _ _).kept kbz
  obtain ⟨_, _, _, c0, c1, c2, f0, f1, f2⟩ := Rz.cells
  go_simp
  clear c0 c1 c2 f0 f1 f2
  obtain ⟨kdz, z0, z1, z2⟩ := Rz.done ((kaz.alloc _).nil kbz) kaz.size (.bool xA) (.string ⟨xB.toArray⟩) (.int .i64 xC)
  refine hK.out _ _ (hSS _ _ hS kdz) (fun hS1 => ?_)
  clear hK K hS Rz kaz kbz
  try simp only [Act.put, List.setIfInBounds_toArray, List.set_cons_zero, List.set_cons_succ]
  refine lin_val (i := 10) (v := ?_) rfl (by kernel_rfl) (by kernel_rfl) (by kernel_rfl) (fun _ _ _ h => h) hSS hS1 rfl (fun w hSw => ?_) ?_
  rotate_left
  · go_simp; first | done | with_reducible rfl
  try simp only [Act.put, List.setIfInBounds_toArray, List.set_cons_zero, List.set_cons_succ]
  refine lin_done (by kernel_rfl) (fun wz knz => ?_) _
  replace z0 := knz.cell z0 (by simp)
  replace z1 := knz.cell z1 (by simp)
  replace z2 := knz.cell z2 (by simp)
  have kcz := kdz.nil knz
  clear hS1 hSS kdz knz
  replace a0 := kcz.cell a0 (by simp)
  replace a1 := kcz.cell a1 (by simp)
  replace a2 := kcz.cell a2 (by simp)
  replace b0 := kcz.cell b0 (by simp)
  replace b1 := kcz.cell b1 (by simp)
  replace b2 := kcz.cell b2 (by simp)
  replace x0 := kcz.cell x0 (by simp)
  replace x1 := kcz.cell x1 (by simp)
  replace x2 := kcz.cell x2 (by simp)
  replace y0 := kcz.cell y0 (by simp)
  replace y1 := kcz.cell y1 (by simp)
  replace y2 := kcz.cell y2 (by simp)
  go_wp2_with fail
  refine (qC _).mono ?_
  rintro e w4 ⟨rfl, k4⟩
  obtain ⟨K4, c0, c1, c2⟩ := k4.loc (.bool c.neg) (.string ⟨(dtxt c.n).toArray⟩) (.int .i64 (c.s : Int))
  replace a0 := K4.cell a0 (by simp)
  replace a1 := K4.cell a1 (by simp)
  replace a2 := K4.cell a2 (by simp)
  replace b0 := K4.cell b0 (by simp)
  replace b1 := K4.cell b1 (by simp)
  replace b2 := K4.cell b2 (by simp)
  replace x0 := K4.cell x0 (by simp)
  replace x1 := K4.cell x1 (by simp)
  replace x2 := K4.cell x2 (by simp)
  replace y0 := K4.cell y0 (by simp)
  replace y1 := K4.cell y1 (by simp)
  replace y2 := K4.cell y2 (by simp)
  replace z0 := K4.cell z0 (by simp)
  replace z1 := K4.cell z1 (by simp)
  replace z2 := K4.cell z2 (by simp)
  go_wp2_with fail
  refine (tA _).mono ?_
  rintro e w5 ⟨rfl, k5⟩
  replace a0 := k5.cell a0 (by simp)
  replace a1 := k5.cell a1 (by simp)
  replace a2 := k5.cell a2 (by simp)
  replace b0 := k5.cell b0 (by simp)
  replace b1 := k5.cell b1 (by simp)
  replace b2 := k5.cell b2 (by simp)
  replace x0 := k5.cell x0 (by simp)
  replace x1 := k5.cell x1 (by simp)
  replace x2 := k5.cell x2 (by simp)
  replace y0 := k5.cell y0 (by simp)
  replace y1 := k5.cell y1 (by simp)
  replace y2 := k5.cell y2 (by simp)
  replace z0 := k5.cell z0 (by simp)
  replace z1 := k5.cell z1 (by simp)
  replace z2 := k5.cell z2 (by simp)
  replace c0 := k5.cell c0 (by simp)
  replace c1 := k5.cell c1 (by simp)
  replace c2 := k5.cell c2 (by simp)
  go_wp2_with fail
  refine (qF _).mono ?_
  rintro e w6 ⟨rfl, k6⟩
  obtain ⟨K6, f0, f1, f2⟩ := k6.loc (.bool f.neg) (.string ⟨(dtxt f.n).toArray⟩) (.int .i64 (f.s : Int))
  replace a0 := K6.cell a0 (by simp)
  replace a1 := K6.cell a1 (by simp)
  replace a2 := K6.cell a2 (by simp)
  replace b0 := K6.cell b0 (by simp)
  replace b1 := K6.cell b1 (by simp)
  replace b2 := K6.cell b2 (by simp)
  replace x0 := K6.cell x0 (by simp)
  replace x1 := K6.cell x1 (by simp)
  replace x2 := K6.cell x2 (by simp)
  replace y0 := K6.cell y0 (by simp)
  replace y1 := K6.cell y1 (by simp)
  replace y2 := K6.cell y2 (by simp)
  replace z0 := K6.cell z0 (by simp)
  replace z1 := K6.cell z1 (by simp)
  replace z2 := K6.cell z2 (by simp)
  replace c0 := K6.cell c0 (by simp)
  replace c1 := K6.cell c1 (by simp)
  replace c2 := K6.cell c2 (by simp)
  go_wp2_with fail
  refine lin_start (fun w' => w'.cell? ⟨w3.heap.size, 0, none⟩ = some (Value.bool xA) ∧ w'.cell? ⟨w3.heap.size, 1, none⟩ = some (Value.string ⟨xB.toArray⟩) ∧ w'.cell? ⟨w3.heap.size, 2, none⟩ = some (Value.int .i64 xC) ∧ w'.cell? ⟨way.heap.size, 0, none⟩ = some (Value.bool yA) ∧ w'.cell? ⟨way.heap.size, 1, none⟩ = some (Value.string ⟨yB.toArray⟩) ∧ w'.cell? ⟨way.heap.size, 2, none⟩ = some (Value.int .i64 yC) ∧ w'.cell? ⟨waz.heap.size, 0, none⟩ = some (Value.bool xA) ∧ w'.cell? ⟨waz.heap.size, 1, none⟩ = some (Value.string ⟨xB.toArray⟩) ∧ w'.cell? ⟨waz.heap.size, 2, none⟩ = some (Value.int .i64 xC) ∧ w'.cell? ⟨w4.heap.size, 0, none⟩ = some (Value.bool c.neg) ∧ w'.cell? ⟨w4.heap.size, 1, none⟩ = some (Value.string ⟨(dtxt c.n).toArray⟩) ∧ w'.cell? ⟨w4.heap.size, 2, none⟩ = some (Value.int .i64 (c.s : Int)) ∧ w'.cell? ⟨w6.heap.size, 0, none⟩ = some (Value.bool f.neg) ∧ w'.cell? ⟨w6.heap.size, 1, none⟩ = some (Value.string ⟨(dtxt f.n).toArray⟩) ∧ w'.cell? ⟨w6.heap.size, 2, none⟩ = some (Value.int .i64 (f.s : Int))) ((Stays.cell _ _).and ((Stays.cell _ _).and ((Stays.cell _ _).and ((Stays.cell _ _).and ((Stays.cell _ _).and ((Stays.cell _ _).and ((Stays.cell _ _).and ((Stays.cell _ _).and ((Stays.cell _ _).and ((Stays.cell _ _).and ((Stays.cell _ _).and ((Stays.cell _ _).and ((Stays.cell _ _).and ((Stays.cell _ _).and ((Stays.cell _ _)))))))))))))))) (by kernel_rfl) ⟨x0, x1, x2, y0, y1, y2, z0, z1, z2, c0, c1, c2, f0, f1, f2⟩ (fun hSS hS => ?_)
  refine lin_val (i := 0) (v := ?_) rfl (by kernel_rfl) (by kernel_rfl) (by kernel_rfl) (fun _ _ _ h => h) hSS hS rfl (fun w hSw => ?_) ?_
  rotate_left
  · obtain ⟨q0, q1, q2, q3, q4, q5, q6, q7, q8, q9, q10, q11, q12, q13, q14⟩ := hSw; go_simp; first | done | with_reducible rfl
  simp only [Act.put, List.setIfInBounds_toArray, List.set_cons_zero, List.set_cons_succ]
  refine lin_val (i := 1) (v := ?_) rfl (by kernel_rfl) (by kernel_rfl) (by kernel_rfl) (fun _ _ _ h => h) hSS hS rfl (fun w hSw => ?_) ?_
  rotate_left
  · obtain ⟨q0, q1, q2, q3, q4, q5, q6, q7, q8, q9, q10, q11, q12, q13, q14⟩ := hSw; go_simp; first | done | with_reducible rfl
  simp only [Act.put, List.setIfInBounds_toArray, List.set_cons_zero, List.set_cons_succ]
  refine lin_val (i := 2) (v := ?_) rfl (by kernel_rfl) (by kernel_rfl) (by kernel_rfl) (fun _ _ _ h => h) hSS hS rfl (fun w hSw => ?_) ?_
  rotate_left
  · obtain ⟨q0, q1, q2, q3, q4, q5, q6, q7, q8, q9, q10, q11, q12, q13, q14⟩ := hSw; go_simp; first | done | with_reducible rfl
  simp only [Act.put, List.setIfInBounds_toArray, List.set_cons_zero, List.set_cons_succ]
  refine lin_not (i := 3) rfl (by kernel_rfl) (by kernel_rfl) (by kernel_rfl) (fun _ _ _ h => h) hSS hS rfl ?_
  simp only [Act.put, List.setIfInBounds_toArray, List.set_cons_zero, List.set_cons_succ]
  refine lin_not (i := 4) rfl (by kernel_rfl) (by kernel_rfl) (by kernel_rfl) (fun _ _ _ h => h) hSS hS rfl ?_
  simp only [Act.put, List.setIfInBounds_toArray, List.set_cons_zero, List.set_cons_succ]
  refine lin_not (i := 5) rfl (by kernel_rfl) (by kernel_rfl) (by kernel_rfl) (fun _ _ _ h => h) hSS hS rfl ?_
  simp only [Act.put, List.setIfInBounds_toArray, List.set_cons_zero, List.set_cons_succ]
  refine lin_not (i := 6) rfl (by kernel_rfl) (by kernel_rfl) (by kernel_rfl) (fun _ _ _ h => h) hSS hS rfl ?_
  simp only [Act.put, List.setIfInBounds_toArray, List.set_cons_zero, List.set_cons_succ]
  refine lin_not (i := 7) rfl (by kernel_rfl) (by kernel_rfl) (by kernel_rfl) (fun _ _ _ h => h) hSS hS rfl ?_
  simp only [Act.put, List.setIfInBounds_toArray, List.set_cons_zero, List.set_cons_succ]
  refine lin_not (i := 8) rfl (by kernel_rfl) (by kernel_rfl) (by kernel_rfl) (fun _ _ _ h => h) hSS hS rfl ?_
  simp only [Act.put, List.setIfInBounds_toArray, List.set_cons_zero, List.set_cons_succ]
  refine lin_not (i := 9) rfl (by kernel_rfl) (by kernel_rfl) (by kernel_rfl) (fun _ _ _ h => h) hSS hS rfl ?_
  simp only [Act.put, List.setIfInBounds_toArray, List.set_cons_zero, List.set_cons_succ]
  refine lin_not (i := 10) rfl (by kernel_rfl) (by kernel_rfl) (by kernel_rfl) (fun _ _ _ h => h) hSS hS rfl ?_
  simp only [Act.put, List.setIfInBounds_toArray, List.set_cons_zero, List.set_cons_succ]
  refine lin_not (i := 11) rfl (by kernel_rfl) (by kernel_rfl) (by kernel_rfl) (fun _ _ _ h => h) hSS hS rfl ?_
  simp only [Act.put, List.setIfInBounds_toArray, List.set_cons_zero, List.set_cons_succ]
  refine lin_val (i := 12) (v := ?_) rfl (by kernel_rfl) (by kernel_rfl) (by kernel_rfl) (fun _ _ _ h => h) hSS hS rfl (fun w hSw => ?_) ?_
  rotate_left
  · obtain ⟨q0, q1, q2, q3, q4, q5, q6, q7, q8, q9, q10, q11, q12, q13, q14⟩ := hSw; go_simp; first | done | with_reducible rfl
  simp only [Act.put, List.setIfInBounds_toArray, List.set_cons_zero, List.set_cons_succ]
  refine lin_val (i := 13) (v := ?_) rfl (by kernel_rfl) (by kernel_rfl) (by kernel_rfl) (fun _ _ _ h => h) hSS hS rfl (fun w hSw => ?_) ?_
  rotate_left
  · obtain ⟨q0, q1, q2, q3, q4, q5, q6, q7, q8, q9, q10, q11, q12, q13, q14⟩ := hSw; go_simp; first | done | with_reducible rfl
  simp only [Act.put, List.setIfInBounds_toArray, List.set_cons_zero, List.set_cons_succ]
  refine lin_done (by kernel_rfl) (fun w7 k7 => ?_) _
  clear hS hSS
  replace a0 := k7.cell a0 (by simp)
  replace a1 := k7.cell a1 (by simp)
  replace a2 := k7.cell a2 (by simp)
  replace b0 := k7.cell b0 (by simp)
  replace b1 := k7.cell b1 (by simp)
  replace b2 := k7.cell b2 (by simp)
  replace x0 := k7.cell x0 (by simp)
  replace x1 := k7.cell x1 (by simp)
  replace x2 := k7.cell x2 (by simp)
  replace y0 := k7.cell y0 (by simp)
  replace y1 := k7.cell y1 (by simp)
  replace y2 := k7.cell y2 (by simp)
  replace z0 := k7.cell z0 (by simp)
  replace z1 := k7.cell z1 (by simp)
  replace z2 := k7.cell z2 (by simp)
  replace c0 := k7.cell c0 (by simp)
  replace c1 := k7.cell c1 (by simp)
  replace c2 := k7.cell c2 (by simp)
  replace f0 := k7.cell f0 (by simp)
  replace f1 := k7.cell f1 (by simp)
  replace f2 := k7.cell f2 (by simp)
  go_wp2_with fail
  refine lin_start (fun w' => w'.cell? ⟨w4.heap.size, 0, none⟩ = some (Value.bool c.neg) ∧ w'.cell? ⟨w4.heap.size, 1, none⟩ = some (Value.string ⟨(dtxt c.n).toArray⟩) ∧ w'.cell? ⟨w4.heap.size, 2, none⟩ = some (Value.int .i64 (c.s : Int)) ∧ w'.cell? ⟨w6.heap.size, 0, none⟩ = some (Value.bool f.neg) ∧ w'.cell? ⟨w6.heap.size, 1, none⟩ = some (Value.string ⟨(dtxt f.n).toArray⟩) ∧ w'.cell? ⟨w6.heap.size, 2, none⟩ = some (Value.int .i64 (f.s : Int))) ((Stays.cell _ _).and ((Stays.cell _ _).and ((Stays.cell _ _).and ((Stays.cell _ _).and ((Stays.cell _ _).and ((Stays.cell _ _))))))) (by kernel_rfl) ⟨c0, c1, c2, f0, f1, f2⟩ (fun hSS hS => ?_)
  refine lin_val (i := 0) (v := ?_) rfl (by kernel_rfl) (by kernel_rfl) (by kernel_rfl) (fun _ _ _ h => h) hSS hS rfl (fun w hSw => ?_) ?_
  rotate_left
  · obtain ⟨q0, q1, q2, q3, q4, q5⟩ := hSw; go_simp; first | done | with_reducible rfl
  simp only [Act.put, List.setIfInBounds_toArray, List.set_cons_zero, List.set_cons_succ]
  refine lin_val (i := 1) (v := ?_) rfl (by kernel_rfl) (by kernel_rfl) (by kernel_rfl) (fun _ _ _ h => h) hSS hS rfl (fun w hSw => ?_) ?_
  rotate_left
  · obtain ⟨q0, q1, q2, q3, q4, q5⟩ := hSw; go_simp; first | done | with_reducible rfl
  simp only [Act.put, List.setIfInBounds_toArray, List.set_cons_zero, List.set_cons_succ]
  refine lin_val (i := 2) (v := ?_) rfl (by kernel_rfl) (by kernel_rfl) (by kernel_rfl) (fun _ _ _ h => h) hSS hS rfl (fun w hSw => ?_) ?_
  rotate_left
  · obtain ⟨q0, q1, q2, q3, q4, q5⟩ := hSw; go_simp; first | done | with_reducible rfl
  simp only [Act.put, List.setIfInBounds_toArray, List.set_cons_zero, List.set_cons_succ]
  refine lin_val (i := 3) (v := ?_) rfl (by kernel_rfl) (by kernel_rfl) (by kernel_rfl) (fun _ _ _ h => h) hSS hS rfl (fun w hSw => ?_) ?_
  rotate_left
  · obtain ⟨q0, q1, q2, q3, q4, q5⟩ := hSw; go_simp; first | done | with_reducible rfl
  simp only [Act.put, List.setIfInBounds_toArray, List.set_cons_zero, List.set_cons_succ]
  refine lin_val (i := 4) (v := ?_) rfl (by kernel_rfl) (by kernel_rfl) (by kernel_rfl) (fun _ _ _ h => h) hSS hS rfl (fun w hSw => ?_) ?_
  rotate_left
  · obtain ⟨q0, q1, q2, q3, q4, q5⟩ := hSw; go_simp; first | done | with_reducible rfl
  simp only [Act.put, List.setIfInBounds_toArray, List.set_cons_zero, List.set_cons_succ]
  refine lin_val (i := 5) (v := ?_) rfl (by kernel_rfl) (by kernel_rfl) (by kernel_rfl) (fun _ _ _ h => h) hSS hS rfl (fun w hSw => ?_) ?_
  rotate_left
  · obtain ⟨q0, q1, q2, q3, q4, q5⟩ := hSw; go_simp; first | done | with_reducible rfl
  simp only [Act.put, List.setIfInBounds_toArray, List.set_cons_zero, List.set_cons_succ]
  refine lin_val (i := 6) (v := ?_) rfl (by kernel_rfl) (by kernel_rfl) (by kernel_rfl) (fun _ _ _ h => h) hSS hS rfl (fun w hSw => ?_) ?_
  rotate_left
  · obtain ⟨q0, q1, q2, q3, q4, q5⟩ := hSw; go_simp; first | done | with_reducible rfl
  simp only [Act.put, List.setIfInBounds_toArray, List.set_cons_zero, List.set_cons_succ]
  refine lin_call (i := 7) rfl (by kernel_rfl) (by kernel_rfl) (by kernel_rfl) (fun _ _ _ h => h) hSS hS rfl (fun w _ => tF w) (fun w hSw => ?_) ?_
  · obtain ⟨q0, q1, q2, q3, q4, q5⟩ := hSw; go_simp
  simp only [Act.put, List.setIfInBounds_toArray, List.set_cons_zero, List.set_cons_succ]
  refine lin_val (i := 8) (v := ?_) rfl (by kernel_rfl) (by kernel_rfl) (by kernel_rfl) (fun _ _ _ h => h) hSS hS rfl (fun w hSw => ?_) ?_
  rotate_left
  · obtain ⟨q0, q1, q2, q3, q4, q5⟩ := hSw; go_simp; first | done | with_reducible rfl
  simp only [Act.put, List.setIfInBounds_toArray, List.set_cons_zero, List.set_cons_succ]
  refine lin_val (i := 9) (v := ?_) rfl (by kernel_rfl) (by kernel_rfl) (by kernel_rfl) (fun _ _ _ h => h) hSS hS rfl (fun w hSw => ?_) ?_
  rotate_left
  · obtain ⟨q0, q1, q2, q3, q4, q5⟩ := hSw; go_simp; first | done | with_reducible rfl
  simp only [Act.put, List.setIfInBounds_toArray, List.set_cons_zero, List.set_cons_succ]
  refine lin_val (i := 10) (v := ?_) rfl (by kernel_rfl) (by kernel_rfl) (by kernel_rfl) (fun _ _ _ h => h) hSS hS rfl (fun w hSw => ?_) ?_
  rotate_left
  · obtain ⟨q0, q1, q2, q3, q4, q5⟩ := hSw; go_simp; first | done | with_reducible rfl
  simp only [Act.put, List.setIfInBounds_toArray, List.set_cons_zero, List.set_cons_succ]
  refine lin_done (by kernel_rfl) (fun w8 k8 => ?_) _
  clear hS hSS
  replace a0 := k8.cell a0 (by simp)
  replace a1 := k8.cell a1 (by simp)
  replace a2 := k8.cell a2 (by simp)
  replace b0 := k8.cell b0 (by simp)
  replace b1 := k8.cell b1 (by simp)
  replace b2 := k8.cell b2 (by simp)
  replace x0 := k8.cell x0 (by simp)
  replace x1 := k8.cell x1 (by simp)
  replace x2 := k8.cell x2 (by simp)
  replace y0 := k8.cell y0 (by simp)
  replace y1 := k8.cell y1 (by simp)
  replace y2 := k8.cell y2 (by simp)
  replace z0 := k8.cell z0 (by simp)
  replace z1 := k8.cell z1 (by simp)
  replace z2 := k8.cell z2 (by simp)
  replace c0 := k8.cell c0 (by simp)
  replace c1 := k8.cell c1 (by simp)
  replace c2 := k8.cell c2 (by simp)
  replace f0 := k8.cell f0 (by simp)
  replace f1 := k8.cell f1 (by simp)
  replace f2 := k8.cell f2 (by simp)
  go_wp2_with fail
  go_ret
  exact ⟨rfl, ((((((((((HK.out.nil k1).nil k2).nil K3).drew.nil kcy).drew.nil kcz).nil K4).nil k5).nil K6).drew.nil k7).drew.nil k8)⟩
set_option maxRecDepth 100000 in
set_option maxHeartbeats 12800000 in
theorem vturns_good (w : World) (a b : Dc) (ha : Ok a) (hb : Ok b) (x y : Dc) (tX : ∀ W, Calls Tryd.prog 44 #[.agg #[.bool x.neg, .string ⟨(dtxt x.n).toArray⟩, .int .i64 (x.s : Int)]] W fun e w' => e = .returned (.agg #[.bool y.neg, .string ⟨(dtxt y.n).toArray⟩, .int .i64 (y.s : Int)]) ∧ Kp [] W w') (q1 : ∀ W, Calls Tryd.prog 37 #[.agg #[.bool a.neg, .string ⟨(dtxt a.n).toArray⟩, .int .i64 (a.s : Int)], .agg #[.bool b.neg, .string ⟨(dtxt b.n).toArray⟩, .int .i64 (b.s : Int)]] W fun e w' => e = .returned (.tuple #[.agg #[.bool x.neg, .string ⟨(dtxt x.n).toArray⟩, .int .i64 (x.s : Int)], .int .i64 0]) ∧ Kp [] W w') (q2 : ∀ W, Calls Tryd.prog 37 #[.agg #[.bool (turnD a).neg, .string ⟨(dtxt (turnD a).n).toArray⟩, .int .i64 ((turnD a).s : Int)], .agg #[.bool b.neg, .string ⟨(dtxt b.n).toArray⟩, .int .i64 (b.s : Int)]] W fun e w' => e = .returned (.tuple #[.agg #[.bool y.neg, .string ⟨(dtxt y.n).toArray⟩, .int .i64 (y.s : Int)], .int .i64 0]) ∧ Kp [] W w') (q3 : ∀ W, Calls Tryd.prog 37 #[.agg #[.bool (turnD a).neg, .string ⟨(dtxt (turnD a).n).toArray⟩, .int .i64 ((turnD a).s : Int)], .agg #[.bool (turnD b).neg, .string ⟨(dtxt (turnD b).n).toArray⟩, .int .i64 ((turnD b).s : Int)]] W fun e w' => e = .returned (.tuple #[.agg #[.bool x.neg, .string ⟨(dtxt x.n).toArray⟩, .int .i64 (x.s : Int)], .int .i64 0]) ∧ Kp [] W w')  :
    Calls Tryd.prog 15 #[.agg #[.bool a.neg, .string ⟨(dtxt a.n).toArray⟩, .int .i64 (a.s : Int)], .agg #[.bool b.neg, .string ⟨(dtxt b.n).toArray⟩, .int .i64 (b.s : Int)]] w (YesPost w) := by
  have hsh := fun W => vshown_any W
  have m0 := vmay_ok2 ha hb
  have tA := fun W => turn_any W a
  have tB := fun W => turn_any W b
  obtain ⟨f, hf⟩ := floor_some (turn_ok ha)
  have hc : ceilD a = some (turnD f) := by rw [ceil_turn ha, hf]; rfl
  have qC := ceil_sure ha hc
  have qF := floor_sure (turn_ok ha) hf
  have tF := fun W => turn_any W f
  generalize turnD a = ta at tA q2 q3 qF
  generalize turnD b = tb at tB q3
  generalize turnD f = c at qC tF
  clear hf hc ha hb
  have HBa : Cells (w.alloc (.cells #[.bool a.neg, .string ⟨(dtxt a.n).toArray⟩, .int .i64 (a.s : Int)] 23)) w.heap.size 23 [.bool a.neg, .string ⟨(dtxt a.n).toArray⟩, .int .i64 (a.s : Int)] := Cells.fresh w 23 [.bool a.neg, .string ⟨(dtxt a.n).toArray⟩, .int .i64 (a.s : Int)]
  have HBb : Cells ((w.alloc (.cells #[.bool a.neg, .string ⟨(dtxt a.n).toArray⟩, .int .i64 (a.s : Int)] 23)).alloc (.cells #[.bool b.neg, .string ⟨(dtxt b.n).toArray⟩, .int .i64 (b.s : Int)] 23)) (w.heap.size + 1) 23 [.bool b.neg, .string ⟨(dtxt b.n).toArray⟩, .int .i64 (b.s : Int)] := Cells.fresh1 _ _ 23 [.bool b.neg, .string ⟨(dtxt b.n).toArray⟩, .int .i64 (b.s : Int)]
  have HK := hid (((Kp.refl [] w).alloc (.cells #[.bool a.neg, .string ⟨(dtxt a.n).toArray⟩, .int .i64 (a.s : Int)] 23)).alloc (.cells #[.bool b.neg, .string ⟨(dtxt b.n).toArray⟩, .int .i64 (b.s : Int)] 23))
  have HCa := hid ((HBa).alloc (.cells #[.bool b.neg, .string ⟨(dtxt b.n).toArray⟩, .int .i64 (b.s : Int)] 23))
  have HCb := hid (HBb)
  clear HBa HBb
  go_enter Tryd.func15, Tryd.ntmps15
  go_wp2_with fail
  refine (hsh _).mono ?_
  rintro e w1 ⟨rfl, k1⟩
  have Ca := HCa.out.keep k1 (by simp)
  have a0 : _ = some (Value.bool a.neg) := Ca.cell 0
  have a1 : _ = some (Value.string ⟨(dtxt a.n).toArray⟩) := Ca.cell 1
  have a2 : _ = some (Value.int .i64 (a.s : Int)) := Ca.cell 2
  have Cb := HCb.out.keep k1 (by simp)
  have b0 : _ = some (Value.bool b.neg) := Cb.cell 0
  have b1 : _ = some (Value.string ⟨(dtxt b.n).toArray⟩) := Cb.cell 1
  have b2 : _ = some (Value.int .i64 (b.s : Int)) := Cb.cell 2
  clear Ca Cb
  go_wp2_with fail
  refine (m0 _).mono ?_
  rintro e w2 ⟨rfl, k2⟩
  replace a0 := k2.cell a0 (by simp)
  replace a1 := k2.cell a1 (by simp)
  replace a2 := k2.cell a2 (by simp)
  replace b0 := k2.cell b0 (by simp)
  replace b1 := k2.cell b1 (by simp)
  replace b2 := k2.cell b2 (by simp)
  go_wp2_with fail
  refine (q1 _).mono ?_
  rintro e w3 ⟨rfl, k3⟩
  obtain ⟨K3, x0, x1, x2⟩ := k3.loc (.bool x.neg) (.string ⟨(dtxt x.n).toArray⟩) (.int .i64 (x.s : Int))
  replace a0 := K3.cell a0 (by simp)
  replace a1 := K3.cell a1 (by simp)
  replace a2 := K3.cell a2 (by simp)
  replace b0 := K3.cell b0 (by simp)
  replace b1 := K3.cell b1 (by simp)
  replace b2 := K3.cell b2 (by simp)
  go_wp2_with fail
  refine lin_start (fun w' => w'.cell? ⟨w.heap.size, 0, none⟩ = some (Value.bool a.neg) ∧ w'.cell? ⟨w.heap.size, 1, none⟩ = some (Value.string ⟨(dtxt a.n).toArray⟩) ∧ w'.cell? ⟨w.heap.size, 2, none⟩ = some (Value.int .i64 (a.s : Int)) ∧ w'.cell? ⟨w.heap.size + 1, 0, none⟩ = some (Value.bool b.neg) ∧ w'.cell? ⟨w.heap.size + 1, 1, none⟩ = some (Value.string ⟨(dtxt b.n).toArray⟩) ∧ w'.cell? ⟨w.heap.size + 1, 2, none⟩ = some (Value.int .i64 (b.s : Int)) ∧ w'.cell? ⟨w3.heap.size, 0, none⟩ = some (Value.bool x.neg) ∧ w'.cell? ⟨w3.heap.size, 1, none⟩ = some (Value.string ⟨(dtxt x.n).toArray⟩) ∧ w'.cell? ⟨w3.heap.size, 2, none⟩ = some (Value.int .i64 (x.s : Int))) ((Stays.cell _ _).and ((Stays.cell _ _).and ((Stays.cell _ _).and ((Stays.cell _ _).and ((Stays.cell _ _).and ((Stays.cell _ _).and ((Stays.cell _ _).and ((Stays.cell _ _).and ((Stays.cell _ _)))))))))) (by kernel_rfl) ⟨a0, a1, a2, b0, b1, b2, x0, x1, x2⟩ (fun hSS hS => ?_)
  refine lin_val (i := 0) (v := ?_) rfl (by kernel_rfl) (by kernel_rfl) (by kernel_rfl) (fun _ _ _ h => h) hSS hS rfl (fun w hSw => ?_) ?_
  rotate_left
  · obtain ⟨q0, q1, q2, q3, q4, q5, q6, q7, q8⟩ := hSw; go_simp; first | done | with_reducible rfl
  simp only [Act.put, List.setIfInBounds_toArray, List.set_cons_zero, List.set_cons_succ]
  refine lin_call (i := 1) rfl (by kernel_rfl) (by kernel_rfl) (by kernel_rfl) (fun _ _ _ h => h) hSS hS rfl (fun w _ => tA w) (fun w hSw => ?_) ?_
  · obtain ⟨q0, q1, q2, q3, q4, q5, q6, q7, q8⟩ := hSw; go_simp
  simp only [Act.put, List.setIfInBounds_toArray, List.set_cons_zero, List.set_cons_succ]
  refine lin_val (i := 2) (v := ?_) rfl (by kernel_rfl) (by kernel_rfl) (by kernel_rfl) (fun _ _ _ h => h) hSS hS rfl (fun w hSw => ?_) ?_
  rotate_left
  · obtain ⟨q0, q1, q2, q3, q4, q5, q6, q7, q8⟩ := hSw; go_simp; first | done | with_reducible rfl
  simp only [Act.put, List.setIfInBounds_toArray, List.set_cons_zero, List.set_cons_succ]
  refine lin_call (i := 3) rfl (by kernel_rfl) (by kernel_rfl) (by kernel_rfl) (fun _ _ _ h => h) hSS hS rfl (fun w _ => q2 w) (fun w hSw => ?_) ?_
  · obtain ⟨q0, q1, q2, q3, q4, q5, q6, q7, q8⟩ := hSw; go_simp
  simp only [Act.put, List.setIfInBounds_toArray, List.set_cons_zero, List.set_cons_succ]
  refine lin_val (i := 4) (v := ?_) rfl (by kernel_rfl) (by kernel_rfl) (by kernel_rfl) (fun _ _ _ h => h) hSS hS rfl (fun w hSw => ?_) ?_
  rotate_left
  · obtain ⟨q0, q1, q2, q3, q4, q5, q6, q7, q8⟩ := hSw; go_simp; first | done | with_reducible rfl
  simp only [Act.put, List.setIfInBounds_toArray, List.set_cons_zero, List.set_cons_succ]
  refine lin_val (i := 5) (v := ?_) rfl (by kernel_rfl) (by kernel_rfl) (by kernel_rfl) (fun _ _ _ h => h) hSS hS rfl (fun w hSw => ?_) ?_
  rotate_left
  · obtain ⟨q0, q1, q2, q3, q4, q5, q6, q7, q8⟩ := hSw; go_simp; first | done | with_reducible rfl
  simp only [Act.put, List.setIfInBounds_toArray, List.set_cons_zero, List.set_cons_succ]
  refine lin_val (i := 6) (v := ?_) rfl (by kernel_rfl) (by kernel_rfl) (by kernel_rfl) (fun _ _ _ h => h) hSS hS rfl (fun w hSw => ?_) ?_
  rotate_left
  · obtain ⟨q0, q1, q2, q3, q4, q5, q6, q7, q8⟩ := hSw; go_simp; first | done | with_reducible rfl
  simp only [Act.put, List.setIfInBounds_toArray, List.set_cons_zero, List.set_cons_succ]
  refine lin_step (i := 7) (by kernel_rfl) rfl (fun way kay K hK => ?_)
  go_simp
  refine hK.out _ _ (hSS _ _ hS (kay.alloc _)) (fun hS1 => ?_)
  clear hK K hS1
  try simp only [Act.put, List.setIfInBounds_toArray, List.set_cons_zero, List.set_cons_succ]
  refine lin_step (i := 8) (by kernel_rfl) rfl (fun wby kby K hK => ?_)
  have Ry := (Room.fresh way _ _ _).kept kby
  obtain ⟨_, _, _, c0, c1, c2, f0, f1, f2⟩ := Ry.cells
  go_simp
  clear c0 c1 c2 f0 f1 f2
  obtain ⟨kdy, y0, y1, y2⟩ := Ry.done ((kay.alloc _).nil kby) kay.size (.bool y.neg) (.string ⟨(dtxt y.n).toArray⟩) (.int .i64 (y.s : Int))
  refine hK.out _ _ (hSS _ _ hS kdy) (fun hS1 => ?_)
  clear hK K hS Ry kay kby
  try simp only [Act.put, List.setIfInBounds_toArray, List.set_cons_zero, List.set_cons_succ]
  refine lin_val (i := 9) (v := ?_) rfl (by kernel_rfl) (by kernel_rfl) (by kernel_rfl) (fun _ _ _ h => h) hSS hS1 rfl (fun w hSw => ?_) ?_
  rotate_left
  · go_simp; first | done | with_reducible rfl
  try simp only [Act.put, List.setIfInBounds_toArray, List.set_cons_zero, List.set_cons_succ]
  refine lin_done (by kernel_rfl) (fun wy kny => ?_) _
  replace y0 := kny.cell y0 (by simp)
  replace y1 := kny.cell y1 (by simp)
  replace y2 := kny.cell y2 (by simp)
  have kcy := kdy.nil kny
  clear hS1 hSS kdy kny
  replace a0 := kcy.cell a0 (by simp)
  replace a1 := kcy.cell a1 (by simp)
  replace a2 := kcy.cell a2 (by simp)
  replace b0 := kcy.cell b0 (by simp)
  replace b1 := kcy.cell b1 (by simp)
  replace b2 := kcy.cell b2 (by simp)
  replace x0 := kcy.cell x0 (by simp)
  replace x1 := kcy.cell x1 (by simp)
  replace x2 := kcy.cell x2 (by simp)
  go_wp2_with fail
  refine lin_start (fun w' => w'.cell? ⟨w.heap.size, 0, none⟩ = some (Value.bool a.neg) ∧ w'.cell? ⟨w.heap.size, 1, none⟩ = some (Value.string ⟨(dtxt a.n).toArray⟩) ∧ w'.cell? ⟨w.heap.size, 2, none⟩ = some (Value.int .i64 (a.s : Int)) ∧ w'.cell? ⟨w.heap.size + 1, 0, none⟩ = some (Value.bool b.neg) ∧ w'.cell? ⟨w.heap.size + 1, 1, none⟩ = some (Value.string ⟨(dtxt b.n).toArray⟩) ∧ w'.cell? ⟨w.heap.size + 1, 2, none⟩ = some (Value.int .i64 (b.s : Int)) ∧ w'.cell? ⟨w3.heap.size, 0, none⟩ = some (Value.bool x.neg) ∧ w'.cell? ⟨w3.heap.size, 1, none⟩ = some (Value.string ⟨(dtxt x.n).toArray⟩) ∧ w'.cell? ⟨w3.heap.size, 2, none⟩ = some (Value.int .i64 (x.s : Int)) ∧ w'.cell? ⟨way.heap.size, 0, none⟩ = some (Value.bool y.neg) ∧ w'.cell? ⟨way.heap.size, 1, none⟩ = some (Value.string ⟨(dtxt y.n).toArray⟩) ∧ w'.cell? ⟨way.heap.size, 2, none⟩ = some (Value.int .i64 (y.s : Int))) ((Stays.cell _ _).and ((Stays.cell _ _).and ((Stays.cell _ _).and ((Stays.cell _ _).and ((Stays.cell _ _).and ((Stays.cell _ _).and ((Stays.cell _ _).and ((Stays.cell _ _).and ((Stays.cell _ _).and ((Stays.cell _ _).and ((Stays.cell _ _).and ((Stays.cell _ _))))))))))))) (by kernel_rfl) ⟨a0, a1, a2, b0, b1, b2, x0, x1, x2, y0, y1, y2⟩ (fun hSS hS => ?_)
  refine lin_val (i := 0) (v := ?_) rfl (by kernel_rfl) (by kernel_rfl) (by kernel_rfl) (fun _ _ _ h => h) hSS hS rfl (fun w hSw => ?_) ?_
  rotate_left
  · obtain ⟨q0, q1, q2, q3, q4, q5, q6, q7, q8, q9, q10, q11⟩ := hSw; go_simp; first | done | with_reducible rfl
  simp only [Act.put, List.setIfInBounds_toArray, List.set_cons_zero, List.set_cons_succ]
  refine lin_call (i := 1) rfl (by kernel_rfl) (by kernel_rfl) (by kernel_rfl) (fun _ _ _ h => h) hSS hS rfl (fun w _ => tA w) (fun w hSw => ?_) ?_
  · obtain ⟨q0, q1, q2, q3, q4, q5, q6, q7, q8, q9, q10, q11⟩ := hSw; go_simp
  simp only [Act.put, List.setIfInBounds_toArray, List.set_cons_zero, List.set_cons_succ]
  refine lin_val (i := 2) (v := ?_) rfl (by kernel_rfl) (by kernel_rfl) (by kernel_rfl) (fun _ _ _ h => h) hSS hS rfl (fun w hSw => ?_) ?_
  rotate_left
  · obtain ⟨q0, q1, q2, q3, q4, q5, q6, q7, q8, q9, q10, q11⟩ := hSw; go_simp; first | done | with_reducible rfl
  simp only [Act.put, List.setIfInBounds_toArray, List.set_cons_zero, List.set_cons_succ]
  refine lin_call (i := 3) rfl (by kernel_rfl) (by kernel_rfl) (by kernel_rfl) (fun _ _ _ h => h) hSS hS rfl (fun w _ => tB w) (fun w hSw => ?_) ?_
  · obtain ⟨q0, q1, q2, q3, q4, q5, q6, q7, q8, q9, q10, q11⟩ := hSw; go_simp
  simp only [Act.put, List.setIfInBounds_toArray, List.set_cons_zero, List.set_cons_succ]
  refine lin_call (i := 4) rfl (by kernel_rfl) (by kernel_rfl) (by kernel_rfl) (fun _ _ _ h => h) hSS hS rfl (fun w _ => q3 w) (fun w hSw => ?_) ?_
  · obtain ⟨q0, q1, q2, q3, q4, q5, q6, q7, q8, q9, q10, q11⟩ := hSw; go_simp
  simp only [Act.put, List.setIfInBounds_toArray, List.set_cons_zero, List.set_cons_succ]
  refine lin_val (i := 5) (v := ?_) rfl (by kernel_rfl) (by kernel_rfl) (by kernel_rfl) (fun _ _ _ h => h) hSS hS rfl (fun w hSw => ?_) ?_
  rotate_left
  · obtain ⟨q0, q1, q2, q3, q4, q5, q6, q7, q8, q9, q10, q11⟩ := hSw; go_simp; first | done | with_reducible rfl
  simp only [Act.put, List.setIfInBounds_toArray, List.set_cons_zero, List.set_cons_succ]
  refine lin_val (i := 6) (v := ?_) rfl (by kernel_rfl) (by kernel_rfl) (by kernel_rfl) (fun _ _ _ h => h) hSS hS rfl (fun w hSw => ?_) ?_
  rotate_left
  · obtain ⟨q0, q1, q2, q3, q4, q5, q6, q7, q8, q9, q10, q11⟩ := hSw; go_simp; first | done | with_reducible rfl
  simp only [Act.put, List.setIfInBounds_toArray, List.set_cons_zero, List.set_cons_succ]
  refine lin_val (i := 7) (v := ?_) rfl (by kernel_rfl) (by kernel_rfl) (by kernel_rfl) (fun _ _ _ h => h) hSS hS rfl (fun w hSw => ?_) ?_
  rotate_left
  · obtain ⟨q0, q1, q2, q3, q4, q5, q6, q7, q8, q9, q10, q11⟩ := hSw; go_simp; first | done | with_reducible rfl
  simp only [Act.put, List.setIfInBounds_toArray, List.set_cons_zero, List.set_cons_succ]
  refine lin_step (i := 8) (by kernel_rfl) rfl (fun waz kaz K hK => ?_)
  go_simp
  refine hK.out _ _ (hSS _ _ hS (kaz.alloc _)) (fun hS1 => ?_)
  clear hK K hS1
  try simp only [Act.put, List.setIfInBounds_toArray, List.set_cons_zero, List.set_cons_succ]
  refine lin_step (i := 9) (by kernel_rfl) rfl (fun wbz kbz K hK => ?_)
  have Rz := (Room.fresh waz _ _ _).kept kbz
  obtain ⟨_, _, _, c0, c1, c2, f0, f1, f2⟩ := Rz.cells
  go_simp
  clear c0 c1 c2 f0 f1 f2
  obtain ⟨kdz, z0, z1, z2⟩ := Rz.done ((kaz.alloc _).nil kbz) kaz.size (.bool x.neg) (.string ⟨(dtxt x.n).toArray⟩) (.int .i64 (x.s : Int))
  refine hK.out _ _ (hSS _ _ hS kdz) (fun hS1 => ?_)
  clear hK K hS Rz kaz kbz
  try simp only [Act.put, List.setIfInBounds_toArray, List.set_cons_zero, List.set_cons_succ]
  refine lin_val (i := 10) (v := ?_) rfl (by kernel_rfl) (by kernel_rfl) (by kernel_rfl) (fun _ _ _ h => h) hSS hS1 rfl (fun w hSw => ?_) ?_
  rotate_left
  · go_simp; first | done | with_reducible rfl
  try simp only [Act.put, List.setIfInBounds_toArray, List.set_cons_zero, List.set_cons_succ]
  refine lin_done (by kernel_rfl) (fun wz knz => ?_) _
  replace z0 := knz.cell z0 (by simp)
  replace z1 := knz.cell z1 (by simp)
  replace z2 := knz.cell z2 (by simp)
  have kcz := kdz.nil knz
  clear hS1 hSS kdz knz
  replace a0 := kcz.cell a0 (by simp)
  replace a1 := kcz.cell a1 (by simp)
  replace a2 := kcz.cell a2 (by simp)
  replace b0 := kcz.cell b0 (by simp)
  replace b1 := kcz.cell b1 (by simp)
  replace b2 := kcz.cell b2 (by simp)
  replace x0 := kcz.cell x0 (by simp)
  replace x1 := kcz.cell x1 (by simp)
  replace x2 := kcz.cell x2 (by simp)
  replace y0 := kcz.cell y0 (by simp)
  replace y1 := kcz.cell y1 (by simp)
  replace y2 := kcz.cell y2 (by simp)
  go_wp2_with fail
  refine (qC _).mono ?_
  rintro e w4 ⟨rfl, k4⟩
  obtain ⟨K4, c0, c1, c2⟩ := k4.loc (.bool c.neg) (.string ⟨(dtxt c.n).toArray⟩) (.int .i64 (c.s : Int))
  replace a0 := K4.cell a0 (by simp)
  replace a1 := K4.cell a1 (by simp)
  replace a2 := K4.cell a2 (by simp)
  replace b0 := K4.cell b0 (by simp)
  replace b1 := K4.cell b1 (by simp)
  replace b2 := K4.cell b2 (by simp)
  replace x0 := K4.cell x0 (by simp)
  replace x1 := K4.cell x1 (by simp)
  replace x2 := K4.cell x2 (by simp)
  replace y0 := K4.cell y0 (by simp)
  replace y1 := K4.cell y1 (by simp)
  replace y2 := K4.cell y2 (by simp)
  replace z0 := K4.cell z0 (by simp)
  replace z1 := K4.cell z1 (by simp)
  replace z2 := K4.cell z2 (by simp)
  go_wp2_with fail
  refine (tA _).mono ?_
  rintro e w5 ⟨rfl, k5⟩
  replace a0 := k5.cell a0 (by simp)
  replace a1 := k5.cell a1 (by simp)
  replace a2 := k5.cell a2 (by simp)
  replace b0 := k5.cell b0 (by simp)
  replace b1 := k5.cell b1 (by simp)
  replace b2 := k5.cell b2 (by simp)
  replace x0 := k5.cell x0 (by simp)
  replace x1 := k5.cell x1 (by simp)
  replace x2 := k5.cell x2 (by simp)
  replace y0 := k5.cell y0 (by simp)
  replace y1 := k5.cell y1 (by simp)
  replace y2 := k5.cell y2 (by simp)
  replace z0 := k5.cell z0 (by simp)
  replace z1 := k5.cell z1 (by simp)
  replace z2 := k5.cell z2 (by simp)
  replace c0 := k5.cell c0 (by simp)
  replace c1 := k5.cell c1 (by simp)
  replace c2 := k5.cell c2 (by simp)
  go_wp2_with fail
  refine (qF _).mono ?_
  rintro e w6 ⟨rfl, k6⟩
  obtain ⟨K6, f0, f1, f2⟩ := k6.loc (.bool f.neg) (.string ⟨(dtxt f.n).toArray⟩) (.int .i64 (f.s : Int))
  replace a0 := K6.cell a0 (by simp)
  replace a1 := K6.cell a1 (by simp)
  replace a2 := K6.cell a2 (by simp)
  replace b0 := K6.cell b0 (by simp)
  replace b1 := K6.cell b1 (by simp)
  replace b2 := K6.cell b2 (by simp)
  replace x0 := K6.cell x0 (by simp)
  replace x1 := K6.cell x1 (by simp)
  replace x2 := K6.cell x2 (by simp)
  replace y0 := K6.cell y0 (by simp)
  replace y1 := K6.cell y1 (by simp)
  replace y2 := K6.cell y2 (by simp)
  replace z0 := K6.cell z0 (by simp)
  replace z1 := K6.cell z1 (by simp)
  replace z2 := K6.cell z2 (by simp)
  replace c0 := K6.cell c0 (by simp)
  replace c1 := K6.cell c1 (by simp)
  replace c2 := K6.cell c2 (by simp)
  go_wp2_with fail
  refine lin_start (fun w' => w'.cell? ⟨w3.heap.size, 0, none⟩ = some (Value.bool x.neg) ∧ w'.cell? ⟨w3.heap.size, 1, none⟩ = some (Value.string ⟨(dtxt x.n).toArray⟩) ∧ w'.cell? ⟨w3.heap.size, 2, none⟩ = some (Value.int .i64 (x.s : Int)) ∧ w'.cell? ⟨way.heap.size, 0, none⟩ = some (Value.bool y.neg) ∧ w'.cell? ⟨way.heap.size, 1, none⟩ = some (Value.string ⟨(dtxt y.n).toArray⟩) ∧ w'.cell? ⟨way.heap.size, 2, none⟩ = some (Value.int .i64 (y.s : Int)) ∧ w'.cell? ⟨waz.heap.size, 0, none⟩ = some (Value.bool x.neg) ∧ w'.cell? ⟨waz.heap.size, 1, none⟩ = some (Value.string ⟨(dtxt x.n).toArray⟩) ∧ w'.cell? ⟨waz.heap.size, 2, none⟩ = some (Value.int .i64 (x.s : Int)) ∧ w'.cell? ⟨w4.heap.size, 0, none⟩ = some (Value.bool c.neg) ∧ w'.cell? ⟨w4.heap.size, 1, none⟩ = some (Value.string ⟨(dtxt c.n).toArray⟩) ∧ w'.cell? ⟨w4.heap.size, 2, none⟩ = some (Value.int .i64 (c.s : Int)) ∧ w'.cell? ⟨w6.heap.size, 0, none⟩ = some (Value.bool f.neg) ∧ w'.cell? ⟨w6.heap.size, 1, none⟩ = some (Value.string ⟨(dtxt f.n).toArray⟩) ∧ w'.cell? ⟨w6.heap.size, 2, none⟩ = some (Value.int .i64 (f.s : Int))) ((Stays.cell _ _).and ((Stays.cell _ _).and ((Stays.cell _ _).and ((Stays.cell _ _).and ((Stays.cell _ _).and ((Stays.cell _ _).and ((Stays.cell _ _).and ((Stays.cell _ _).and ((Stays.cell _ _).and ((Stays.cell _ _).and ((Stays.cell _ _).and ((Stays.cell _ _).and ((Stays.cell _ _).and ((Stays.cell _ _).and ((Stays.cell _ _)))))))))))))))) (by kernel_rfl) ⟨x0, x1, x2, y0, y1, y2, z0, z1, z2, c0, c1, c2, f0, f1, f2⟩ (fun hSS hS => ?_)
  refine lin_val (i := 0) (v := ?_) rfl (by kernel_rfl) (by kernel_rfl) (by kernel_rfl) (fun _ _ _ h => h) hSS hS rfl (fun w hSw => ?_) ?_
  rotate_left
  · obtain ⟨q0, q1, q2, q3, q4, q5, q6, q7, q8, q9, q10, q11, q12, q13, q14⟩ := hSw; go_simp; first | done | with_reducible rfl
  simp only [Act.put, List.setIfInBounds_toArray, List.set_cons_zero, List.set_cons_succ]
  refine lin_val (i := 1) (v := ?_) rfl (by kernel_rfl) (by kernel_rfl) (by kernel_rfl) (fun _ _ _ h => h) hSS hS rfl (fun w hSw => ?_) ?_
  rotate_left
  · obtain ⟨q0, q1, q2, q3, q4, q5, q6, q7, q8, q9, q10, q11, q12, q13, q14⟩ := hSw; go_simp; first | done | with_reducible rfl
  simp only [Act.put, List.setIfInBounds_toArray, List.set_cons_zero, List.set_cons_succ]
  refine lin_val (i := 2) (v := ?_) rfl (by kernel_rfl) (by kernel_rfl) (by kernel_rfl) (fun _ _ _ h => h) hSS hS rfl (fun w hSw => ?_) ?_
  rotate_left
  · obtain ⟨q0, q1, q2, q3, q4, q5, q6, q7, q8, q9, q10, q11, q12, q13, q14⟩ := hSw; go_simp; first | done | with_reducible rfl
  simp only [Act.put, List.setIfInBounds_toArray, List.set_cons_zero, List.set_cons_succ]
  refine lin_val (i := 3) (v := ?_) rfl (by kernel_rfl) (by kernel_rfl) (by kernel_rfl) (fun _ _ _ h => h) hSS hS rfl (fun w hSw => ?_) ?_
  rotate_left
  · obtain ⟨q0, q1, q2, q3, q4, q5, q6, q7, q8, q9, q10, q11, q12, q13, q14⟩ := hSw; go_simp; first | done | with_reducible rfl
  simp only [Act.put, List.setIfInBounds_toArray, List.set_cons_zero, List.set_cons_succ]
  refine lin_val (i := 4) (v := ?_) rfl (by kernel_rfl) (by kernel_rfl) (by kernel_rfl) (fun _ _ _ h => h) hSS hS rfl (fun w hSw => ?_) ?_
  rotate_left
  · obtain ⟨q0, q1, q2, q3, q4, q5, q6, q7, q8, q9, q10, q11, q12, q13, q14⟩ := hSw; go_simp; first | done | with_reducible rfl
  simp only [Act.put, List.setIfInBounds_toArray, List.set_cons_zero, List.set_cons_succ]
  refine lin_call (i := 5) rfl (by kernel_rfl) (by kernel_rfl) (by kernel_rfl) (fun _ _ _ h => h) hSS hS rfl (fun w _ => tX w) (fun w hSw => ?_) ?_
  · obtain ⟨q0, q1, q2, q3, q4, q5, q6, q7, q8, q9, q10, q11, q12, q13, q14⟩ := hSw; go_simp
  simp only [Act.put, List.setIfInBounds_toArray, List.set_cons_zero, List.set_cons_succ]
  refine lin_val (i := 6) (v := ?_) rfl (by kernel_rfl) (by kernel_rfl) (by kernel_rfl) (fun _ _ _ h => h) hSS hS rfl (fun w hSw => ?_) ?_
  rotate_left
  · obtain ⟨q0, q1, q2, q3, q4, q5, q6, q7, q8, q9, q10, q11, q12, q13, q14⟩ := hSw; go_simp; first | done | with_reducible rfl
  simp only [Act.put, List.setIfInBounds_toArray, List.set_cons_zero, List.set_cons_succ]
  refine lin_val (i := 7) (v := ?_) rfl (by kernel_rfl) (by kernel_rfl) (by kernel_rfl) (fun _ _ _ h => h) hSS hS rfl (fun w hSw => ?_) ?_
  rotate_left
  · obtain ⟨q0, q1, q2, q3, q4, q5, q6, q7, q8, q9, q10, q11, q12, q13, q14⟩ := hSw; go_simp; first | done | with_reducible rfl
  simp only [Act.put, List.setIfInBounds_toArray, List.set_cons_zero, List.set_cons_succ]
  refine lin_val (i := 8) (v := ?_) rfl (by kernel_rfl) (by kernel_rfl) (by kernel_rfl) (fun _ _ _ h => h) hSS hS rfl (fun w hSw => ?_) ?_
  rotate_left
  · obtain ⟨q0, q1, q2, q3, q4, q5, q6, q7, q8, q9, q10, q11, q12, q13, q14⟩ := hSw; go_simp; first | done | with_reducible rfl
  simp only [Act.put, List.setIfInBounds_toArray, List.set_cons_zero, List.set_cons_succ]
  refine lin_val (i := 9) (v := ?_) rfl (by kernel_rfl) (by kernel_rfl) (by kernel_rfl) (fun _ _ _ h => h) hSS hS rfl (fun w hSw => ?_) ?_
  rotate_left
  · obtain ⟨q0, q1, q2, q3, q4, q5, q6, q7, q8, q9, q10, q11, q12, q13, q14⟩ := hSw; go_simp; first | done | with_reducible rfl
  simp only [Act.put, List.setIfInBounds_toArray, List.set_cons_zero, List.set_cons_succ]
  refine lin_val (i := 10) (v := ?_) rfl (by kernel_rfl) (by kernel_rfl) (by kernel_rfl) (fun _ _ _ h => h) hSS hS rfl (fun w hSw => ?_) ?_
  rotate_left
  · obtain ⟨q0, q1, q2, q3, q4, q5, q6, q7, q8, q9, q10, q11, q12, q13, q14⟩ := hSw; go_simp; first | done | with_reducible rfl
  simp only [Act.put, List.setIfInBounds_toArray, List.set_cons_zero, List.set_cons_succ]
  refine lin_val (i := 11) (v := ?_) rfl (by kernel_rfl) (by kernel_rfl) (by kernel_rfl) (fun _ _ _ h => h) hSS hS rfl (fun w hSw => ?_) ?_
  rotate_left
  · obtain ⟨q0, q1, q2, q3, q4, q5, q6, q7, q8, q9, q10, q11, q12, q13, q14⟩ := hSw; go_simp; first | done | with_reducible rfl
  simp only [Act.put, List.setIfInBounds_toArray, List.set_cons_zero, List.set_cons_succ]
  refine lin_val (i := 12) (v := ?_) rfl (by kernel_rfl) (by kernel_rfl) (by kernel_rfl) (fun _ _ _ h => h) hSS hS rfl (fun w hSw => ?_) ?_
  rotate_left
  · obtain ⟨q0, q1, q2, q3, q4, q5, q6, q7, q8, q9, q10, q11, q12, q13, q14⟩ := hSw; go_simp; first | done | with_reducible rfl
  simp only [Act.put, List.setIfInBounds_toArray, List.set_cons_zero, List.set_cons_succ]
  refine lin_val (i := 13) (v := ?_) rfl (by kernel_rfl) (by kernel_rfl) (by kernel_rfl) (fun _ _ _ h => h) hSS hS rfl (fun w hSw => ?_) ?_
  rotate_left
  · obtain ⟨q0, q1, q2, q3, q4, q5, q6, q7, q8, q9, q10, q11, q12, q13, q14⟩ := hSw; go_simp; first | done | with_reducible rfl
  simp only [Act.put, List.setIfInBounds_toArray, List.set_cons_zero, List.set_cons_succ]
  refine lin_done (by kernel_rfl) (fun w7 k7 => ?_) _
  clear hS hSS
  replace a0 := k7.cell a0 (by simp)
  replace a1 := k7.cell a1 (by simp)
  replace a2 := k7.cell a2 (by simp)
  replace b0 := k7.cell b0 (by simp)
  replace b1 := k7.cell b1 (by simp)
  replace b2 := k7.cell b2 (by simp)
  replace x0 := k7.cell x0 (by simp)
  replace x1 := k7.cell x1 (by simp)
  replace x2 := k7.cell x2 (by simp)
  replace y0 := k7.cell y0 (by simp)
  replace y1 := k7.cell y1 (by simp)
  replace y2 := k7.cell y2 (by simp)
  replace z0 := k7.cell z0 (by simp)
  replace z1 := k7.cell z1 (by simp)
  replace z2 := k7.cell z2 (by simp)
  replace c0 := k7.cell c0 (by simp)
  replace c1 := k7.cell c1 (by simp)
  replace c2 := k7.cell c2 (by simp)
  replace f0 := k7.cell f0 (by simp)
  replace f1 := k7.cell f1 (by simp)
  replace f2 := k7.cell f2 (by simp)
  go_wp2_with fail
  refine lin_start (fun w' => w'.cell? ⟨w4.heap.size, 0, none⟩ = some (Value.bool c.neg) ∧ w'.cell? ⟨w4.heap.size, 1, none⟩ = some (Value.string ⟨(dtxt c.n).toArray⟩) ∧ w'.cell? ⟨w4.heap.size, 2, none⟩ = some (Value.int .i64 (c.s : Int)) ∧ w'.cell? ⟨w6.heap.size, 0, none⟩ = some (Value.bool f.neg) ∧ w'.cell? ⟨w6.heap.size, 1, none⟩ = some (Value.string ⟨(dtxt f.n).toArray⟩) ∧ w'.cell? ⟨w6.heap.size, 2, none⟩ = some (Value.int .i64 (f.s : Int))) ((Stays.cell _ _).and ((Stays.cell _ _).and ((Stays.cell _ _).and ((Stays.cell _ _).and ((Stays.cell _ _).and ((Stays.cell _ _))))))) (by kernel_rfl) ⟨c0, c1, c2, f0, f1, f2⟩ (fun hSS hS => ?_)
  refine lin_val (i := 0) (v := ?_) rfl (by kernel_rfl) (by kernel_rfl) (by kernel_rfl) (fun _ _ _ h => h) hSS hS rfl (fun w hSw => ?_) ?_
  rotate_left
  · obtain ⟨q0, q1, q2, q3, q4, q5⟩ := hSw; go_simp; first | done | with_reducible rfl
  simp only [Act.put, List.setIfInBounds_toArray, List.set_cons_zero, List.set_cons_succ]
  refine lin_val (i := 1) (v := ?_) rfl (by kernel_rfl) (by kernel_rfl) (by kernel_rfl) (fun _ _ _ h => h) hSS hS rfl (fun w hSw => ?_) ?_
  rotate_left
  · obtain ⟨q0, q1, q2, q3, q4, q5⟩ := hSw; go_simp; first | done | with_reducible rfl
  simp only [Act.put, List.setIfInBounds_toArray, List.set_cons_zero, List.set_cons_succ]
  refine lin_val (i := 2) (v := ?_) rfl (by kernel_rfl) (by kernel_rfl) (by kernel_rfl) (fun _ _ _ h => h) hSS hS rfl (fun w hSw => ?_) ?_
  rotate_left
  · obtain ⟨q0, q1, q2, q3, q4, q5⟩ := hSw; go_simp; first | done | with_reducible rfl
  simp only [Act.put, List.setIfInBounds_toArray, List.set_cons_zero, List.set_cons_succ]
  refine lin_val (i := 3) (v := ?_) rfl (by kernel_rfl) (by kernel_rfl) (by kernel_rfl) (fun _ _ _ h => h) hSS hS rfl (fun w hSw => ?_) ?_
  rotate_left
  · obtain ⟨q0, q1, q2, q3, q4, q5⟩ := hSw; go_simp; first | done | with_reducible rfl
  simp only [Act.put, List.setIfInBounds_toArray, List.set_cons_zero, List.set_cons_succ]
  refine lin_val (i := 4) (v := ?_) rfl (by kernel_rfl) (by kernel_rfl) (by kernel_rfl) (fun _ _ _ h => h) hSS hS rfl (fun w hSw => ?_) ?_
  rotate_left
  · obtain ⟨q0, q1, q2, q3, q4, q5⟩ := hSw; go_simp; first | done | with_reducible rfl
  simp only [Act.put, List.setIfInBounds_toArray, List.set_cons_zero, List.set_cons_succ]
  refine lin_val (i := 5) (v := ?_) rfl (by kernel_rfl) (by kernel_rfl) (by kernel_rfl) (fun _ _ _ h => h) hSS hS rfl (fun w hSw => ?_) ?_
  rotate_left
  · obtain ⟨q0, q1, q2, q3, q4, q5⟩ := hSw; go_simp; first | done | with_reducible rfl
  simp only [Act.put, List.setIfInBounds_toArray, List.set_cons_zero, List.set_cons_succ]
  refine lin_val (i := 6) (v := ?_) rfl (by kernel_rfl) (by kernel_rfl) (by kernel_rfl) (fun _ _ _ h => h) hSS hS rfl (fun w hSw => ?_) ?_
  rotate_left
  · obtain ⟨q0, q1, q2, q3, q4, q5⟩ := hSw; go_simp; first | done | with_reducible rfl
  simp only [Act.put, List.setIfInBounds_toArray, List.set_cons_zero, List.set_cons_succ]
  refine lin_call (i := 7) rfl (by kernel_rfl) (by kernel_rfl) (by kernel_rfl) (fun _ _ _ h => h) hSS hS rfl (fun w _ => tF w) (fun w hSw => ?_) ?_
  · obtain ⟨q0, q1, q2, q3, q4, q5⟩ := hSw; go_simp
  simp only [Act.put, List.setIfInBounds_toArray, List.set_cons_zero, List.set_cons_succ]
  refine lin_val (i := 8) (v := ?_) rfl (by kernel_rfl) (by kernel_rfl) (by kernel_rfl) (fun _ _ _ h => h) hSS hS rfl (fun w hSw => ?_) ?_
  rotate_left
  · obtain ⟨q0, q1, q2, q3, q4, q5⟩ := hSw; go_simp; first | done | with_reducible rfl
  simp only [Act.put, List.setIfInBounds_toArray, List.set_cons_zero, List.set_cons_succ]
  refine lin_val (i := 9) (v := ?_) rfl (by kernel_rfl) (by kernel_rfl) (by kernel_rfl) (fun _ _ _ h => h) hSS hS rfl (fun w hSw => ?_) ?_
  rotate_left
  · obtain ⟨q0, q1, q2, q3, q4, q5⟩ := hSw; go_simp; first | done | with_reducible rfl
  simp only [Act.put, List.setIfInBounds_toArray, List.set_cons_zero, List.set_cons_succ]
  refine lin_val (i := 10) (v := ?_) rfl (by kernel_rfl) (by kernel_rfl) (by kernel_rfl) (fun _ _ _ h => h) hSS hS rfl (fun w hSw => ?_) ?_
  rotate_left
  · obtain ⟨q0, q1, q2, q3, q4, q5⟩ := hSw; go_simp; first | done | with_reducible rfl
  simp only [Act.put, List.setIfInBounds_toArray, List.set_cons_zero, List.set_cons_succ]
  refine lin_done (by kernel_rfl) (fun w8 k8 => ?_) _
  clear hS hSS
  replace a0 := k8.cell a0 (by simp)
  replace a1 := k8.cell a1 (by simp)
  replace a2 := k8.cell a2 (by simp)
  replace b0 := k8.cell b0 (by simp)
  replace b1 := k8.cell b1 (by simp)
  replace b2 := k8.cell b2 (by simp)
  replace x0 := k8.cell x0 (by simp)
  replace x1 := k8.cell x1 (by simp)
  replace x2 := k8.cell x2 (by simp)
  replace y0 := k8.cell y0 (by simp)
  replace y1 := k8.cell y1 (by simp)
  replace y2 := k8.cell y2 (by simp)
  replace z0 := k8.cell z0 (by simp)
  replace z1 := k8.cell z1 (by simp)
  replace z2 := k8.cell z2 (by simp)
  replace c0 := k8.cell c0 (by simp)
  replace c1 := k8.cell c1 (by simp)
  replace c2 := k8.cell c2 (by simp)
  replace f0 := k8.cell f0 (by simp)
  replace f1 := k8.cell f1 (by simp)
  replace f2 := k8.cell f2 (by simp)
  go_wp2_with fail
  go_ret
  exact ⟨rfl, ((((((((((HK.out.nil k1).nil k2).nil K3).drew.nil kcy).drew.nil kcz).nil K4).nil k5).nil K6).drew.nil k7).drew.nil k8)⟩
theorem vturns_any (w : World) (a b : RawD) (ha : a.ok) (hb : b.ok) : Calls Tryd.prog 15 #[.agg #[.bool a.neg, .string ⟨a.l.toArray⟩, .int .i64 a.s], .agg #[.bool b.neg, .string ⟨b.l.toArray⟩, .int .i64 b.s]] w (YesPost w) := by
  cases hm : (mayL a.neg a.l a.s && mayL b.neg b.l b.s) with
  | false => exact vturns_no w a b ha hb hm
  | true =>
    rw [Bool.and_eq_true] at hm
    obtain ⟨x, hx, rfl⟩ := RawD.is hm.1
    obtain ⟨y, hy, rfl⟩ := RawD.is hm.2
    by_cases h0 : y.n = 0
    · exact vturns_bad w x y hx hy false false [] [] 0 0 5 rfl (fun W => div_zero_any W x y h0) (fun W => div_zero_any W _ y h0) (fun W => div_zero_any W _ _ (by rw [(turn_n y).1]; exact h0))
    · have t0 : (turnD y).n ≠ 0 := by rw [(turn_n y).1]; exact h0
      have d2 := div_turn x y
      have d3 := div_turn2 (a := x) h0
      cases hd : divD x y with
      | none =>
        rw [hd] at d2 d3
        exact vturns_bad w x y hx hy false false [] [] 0 0 3 rfl (div_none hx hy h0 hd) (div_none (turn_ok hx) hy h0 d2) (div_none (turn_ok hx) (turn_ok hy) t0 d3)
      | some q =>
        rw [hd] at d2 d3
        exact vturns_good w x y hx hy q (turnD q) (fun W => turn_any W q) (div_sure hx hy h0 hd) (div_sure (turn_ok hx) hy h0 d2) (div_sure (turn_ok hx) (turn_ok hy) t0 d3)
theorem vturns_card (W : World) (_ : Tabs W) (b : Bool) (l : List UInt8) (z : Int) (hl : l.length ≤ 9223372036854775807) (h1 : -9223372036854775808 ≤ z) (h2 : z ≤ 9223372036854775807)
    (b' : Bool) (l' : List UInt8) (z' : Int) (hl' : l'.length ≤ 9223372036854775807) (h1' : -9223372036854775808 ≤ z') (h2' : z' ≤ 9223372036854775807) :
    Calls Tryd.prog 15 #[.agg #[.bool b, .string ⟨l.toArray⟩, .int .i64 z], .agg #[.bool b', .string ⟨l'.toArray⟩, .int .i64 z']] W (YesPost W) := vturns_any W ⟨b, l, z⟩ ⟨b', l', z'⟩ ⟨hl, h1, h2⟩ ⟨hl', h1', h2'⟩
end Go.Proofs.YtampgimmodomoaaDoor
