/- DecParses: any text is parsed as the document says; which decimals may be, and how they are printed. -/
import Derived.Test.YtampgimmodomoaaDoorDRParse
import Derived.Test.YtampgimmodomoaaDoorDRPrint
import Derived.Test.YtampgimmodomoaaDoorDRMay
import Derived.Test.YtampgimmodomoaaDoorDRInt
import Derived.Test.YtampgimmodomoaaDoorDSym
namespace Go.Proofs.YtampgimmodomoaaDoor
open Go Go.RowKit Go.Lib

theorem par_letters (o : Option (Option Dc)) : ∃ (a : Bool) (B : List UInt8) (c E : Int), parV o = .tuple #[.agg #[.bool a, .string ⟨B.toArray⟩, .int .i64 c], .int .i64 E] := by
  rcases o with _ | r
  · exact ⟨false, [], 0, 4, rfl⟩
  · exact ⟨oN r, oL r, oS r, oE r, resV_is r⟩
theorem few_ok2 (l : List UInt8) : (fewL l).length ≤ 9223372036854775807 := by have := fewL_len l; omega
set_option maxRecDepth 100000 in
set_option maxHeartbeats 12800000 in
theorem pars_no (w : World) (neg : Bool) (L F S : List UInt8) (sc n : Int) (pA : Bool) (pB : List UInt8) (pC pE : Int) (iA : Bool) (iB : List UInt8) (iC : Int) (s : List UInt8) (hf1 : ∀ W, Calls Tryd.prog 18 #[.string ⟨L.toArray⟩] W fun e w' => e = .returned (.string ⟨F.toArray⟩) ∧ w' = W) (hf2 : ∀ W, Calls Tryd.prog 18 #[.string ⟨s.toArray⟩] W fun e w' => e = .returned (.string ⟨S.toArray⟩) ∧ w' = W) (q1 : ∀ W, Calls Tryd.prog 20 #[.string ⟨S.toArray⟩] W fun e w' => e = .returned (.tuple #[.agg #[.bool pA, .string ⟨pB.toArray⟩, .int .i64 pC], .int .i64 pE]) ∧ Kp [] W w') (q2 : ∀ W, Calls Tryd.prog 31 #[.string ⟨S.toArray⟩] W fun e w' => e = .returned (.tuple #[.agg #[.bool pA, .string ⟨pB.toArray⟩, .int .i64 pC], .int .i64 pE]) ∧ Kp [] W w') (m0 : ∀ W, Calls Tryd.prog 23 #[.agg #[.bool neg, .string ⟨F.toArray⟩, .int .i64 sc]] W fun e w' => e = .returned (.bool false) ∧ Kp [] W w') (m1 : ∀ W, Calls Tryd.prog 19 #[.agg #[.bool neg, .string ⟨F.toArray⟩, .int .i64 sc]] W fun e w' => e = .returned (.bool false) ∧ Kp [] W w') (i1 : ∀ W, Calls Tryd.prog 33 #[.int .i64 n] W fun e w' => e = .returned (.agg #[.bool iA, .string ⟨iB.toArray⟩, .int .i64 iC]) ∧ Kp [] W w') (i2 : ∀ W, Calls Tryd.prog 34 #[.int .i64 n] W fun e w' => e = .returned (.agg #[.bool iA, .string ⟨iB.toArray⟩, .int .i64 iC]) ∧ Kp [] W w')  :
    Calls Tryd.prog 6 #[.string ⟨s.toArray⟩, .agg #[.bool neg, .string ⟨L.toArray⟩, .int .i64 sc], .int .i64 n] w (YesPost w) := by
  have hsh := fun W => shown_any W
  have HB := hid (Cells.fresh w 23 [.bool neg, .string ⟨L.toArray⟩, .int .i64 sc])
  have HK := hid ((Kp.refl [] w).alloc (.cells #[.bool neg, .string ⟨L.toArray⟩, .int .i64 sc] 23))
  go_enter Tryd.func6, Tryd.ntmps6
  go_wp2_with fail
  refine (hsh _).mono ?_
  rintro e w1 ⟨rfl, k1⟩
  have C1 := HB.out.keep k1 (by simp)
  go_wp2_with fail
  refine (hf2 _).mono ?_
  rintro e w2 ⟨rfl, hw2⟩
  have hw2 := hw2.symm
  subst hw2
  go_wp2_with fail
  refine (q1 _).mono ?_
  rintro e w3 ⟨rfl, k3⟩
  obtain ⟨K3, a0, a1, a2⟩ := k3.loc (.bool pA) (.string ⟨pB.toArray⟩) (.int .i64 pC)
  go_wp2_with fail
  refine (hf2 _).mono ?_
  rintro e w4 ⟨rfl, hw4⟩
  have hw4 := hw4.symm
  subst hw4
  go_wp2_with fail
  refine (q2 _).mono ?_
  rintro e w5 ⟨rfl, k5⟩
  obtain ⟨K5, b0, b1, b2⟩ := k5.loc (.bool pA) (.string ⟨pB.toArray⟩) (.int .i64 pC)
  replace a0 := K5.cell a0 (by simp)
  replace a1 := K5.cell a1 (by simp)
  replace a2 := K5.cell a2 (by simp)
  obtain ⟨W5, hW5⟩ : ∃ W5, W5 = w5.alloc (.cells #[.bool pA, .string ⟨pB.toArray⟩, .int .i64 pC] 23) := ⟨_, rfl⟩
  rw [← hW5] at K5 a0 a1 a2 b0 b1 b2
  have HW5 := hid hW5
  clear hW5
  have C2 := (C1.keep K3 (by simp)).keep K5 (by simp)
  have z0 : _ = some (Value.bool neg) := C2.cell 0
  have z1 : _ = some (Value.string ⟨L.toArray⟩) := C2.cell 1
  have z2 : _ = some (Value.int .i64 sc) := C2.cell 2
  have f1 := C2.free 1
  go_upto_region 4 with fail
  rw [← HW5.out]
  go_wp2_with fail
  refine (hf1 _).mono ?_
  rintro e w6 ⟨rfl, hw6⟩
  have hw6 := hw6.symm
  subst hw6
  have C3 := C2.put 1 (.string ⟨F.toArray⟩)
  have KS := (((HK.out.nil k1).nil K3).nil K5).setCell (p := ⟨w.heap.size, 1, none⟩) (fun h => by simp at h) (.string ⟨F.toArray⟩)
  have d0 : _ = some (Value.bool neg) := C3.cell 0
  have d1 : _ = some (Value.string ⟨F.toArray⟩) := C3.cell 1
  have d2 : _ = some (Value.int .i64 sc) := C3.cell 2
  have hga : w.heap.size < w3.heap.size := Nat.lt_of_lt_of_le C1.lt k3.size
  have hgb : w.heap.size < w5.heap.size := Nat.lt_of_lt_of_le (C1.keep K3 (by simp)).lt k5.size
  have ax0 : _ = some (Value.bool pA) := (World.cell?_of_block (Below.heap_setCell _ ⟨w.heap.size, 1, none⟩ (.string ⟨F.toArray⟩) w3.heap.size (by show ¬ w3.heap.size = w.heap.size; omega))).trans a0
  have ax1 : _ = some (Value.string ⟨pB.toArray⟩) := (World.cell?_of_block (Below.heap_setCell _ ⟨w.heap.size, 1, none⟩ (.string ⟨F.toArray⟩) w3.heap.size (by show ¬ w3.heap.size = w.heap.size; omega))).trans a1
  have ax2 : _ = some (Value.int .i64 pC) := (World.cell?_of_block (Below.heap_setCell _ ⟨w.heap.size, 1, none⟩ (.string ⟨F.toArray⟩) w3.heap.size (by show ¬ w3.heap.size = w.heap.size; omega))).trans a2
  have bx0 : _ = some (Value.bool pA) := (World.cell?_of_block (Below.heap_setCell _ ⟨w.heap.size, 1, none⟩ (.string ⟨F.toArray⟩) w5.heap.size (by show ¬ w5.heap.size = w.heap.size; omega))).trans b0
  have bx1 : _ = some (Value.string ⟨pB.toArray⟩) := (World.cell?_of_block (Below.heap_setCell _ ⟨w.heap.size, 1, none⟩ (.string ⟨F.toArray⟩) w5.heap.size (by show ¬ w5.heap.size = w.heap.size; omega))).trans b1
  have bx2 : _ = some (Value.int .i64 pC) := (World.cell?_of_block (Below.heap_setCell _ ⟨w.heap.size, 1, none⟩ (.string ⟨F.toArray⟩) w5.heap.size (by show ¬ w5.heap.size = w.heap.size; omega))).trans b2
  go_wp2_with fail
  refine (m0 _).mono ?_
  rintro e w7 ⟨rfl, k7⟩
  replace ax0 := k7.cell ax0 (by simp)
  replace ax1 := k7.cell ax1 (by simp)
  replace ax2 := k7.cell ax2 (by simp)
  replace bx0 := k7.cell bx0 (by simp)
  replace bx1 := k7.cell bx1 (by simp)
  replace bx2 := k7.cell bx2 (by simp)
  replace d0 := k7.cell d0 (by simp)
  replace d1 := k7.cell d1 (by simp)
  replace d2 := k7.cell d2 (by simp)
  clear z0 z1 z2 f1 a0 a1 a2 b0 b1 b2 hf1 hf2 q1 q2 hsh C1 C2 C3 hga hgb
  go_wp2_with fail
  refine lin_start (fun w' => w'.cell? ⟨w.heap.size, 0, none⟩ = some (Value.bool neg) ∧ w'.cell? ⟨w.heap.size, 1, none⟩ = some (Value.string ⟨F.toArray⟩) ∧ w'.cell? ⟨w.heap.size, 2, none⟩ = some (Value.int .i64 sc)) ((Stays.cell _ _).and ((Stays.cell _ _).and ((Stays.cell _ _)))) (by kernel_rfl) ⟨d0, d1, d2⟩ (fun hSS hS => ?_)
  refine lin_val (i := 0) (v := ?_) rfl (by kernel_rfl) (by kernel_rfl) (by kernel_rfl) (fun _ _ _ h => h) hSS hS rfl (fun w hSw => ?_) ?_
  rotate_left
  · obtain ⟨q0, q1, q2⟩ := hSw; go_simp; first | done | with_reducible rfl
  simp only [Act.put, List.setIfInBounds_toArray, List.set_cons_zero, List.set_cons_succ]
  refine lin_val (i := 1) (v := ?_) rfl (by kernel_rfl) (by kernel_rfl) (by kernel_rfl) (fun _ _ _ h => h) hSS hS rfl (fun w hSw => ?_) ?_
  rotate_left
  · obtain ⟨q0, q1, q2⟩ := hSw; go_simp; first | done | with_reducible rfl
  simp only [Act.put, List.setIfInBounds_toArray, List.set_cons_zero, List.set_cons_succ]
  refine lin_not (i := 2) rfl (by kernel_rfl) (by kernel_rfl) (by kernel_rfl) (fun _ _ _ h => h) hSS hS rfl ?_
  simp only [Act.put, List.setIfInBounds_toArray, List.set_cons_zero, List.set_cons_succ]
  refine lin_not (i := 3) rfl (by kernel_rfl) (by kernel_rfl) (by kernel_rfl) (fun _ _ _ h => h) hSS hS rfl ?_
  simp only [Act.put, List.setIfInBounds_toArray, List.set_cons_zero, List.set_cons_succ]
  refine lin_not (i := 4) rfl (by kernel_rfl) (by kernel_rfl) (by kernel_rfl) (fun _ _ _ h => h) hSS hS rfl ?_
  simp only [Act.put, List.setIfInBounds_toArray, List.set_cons_zero, List.set_cons_succ]
  refine lin_not (i := 5) rfl (by kernel_rfl) (by kernel_rfl) (by kernel_rfl) (fun _ _ _ h => h) hSS hS rfl ?_
  simp only [Act.put, List.setIfInBounds_toArray, List.set_cons_zero, List.set_cons_succ]
  refine lin_not (i := 6) rfl (by kernel_rfl) (by kernel_rfl) (by kernel_rfl) (fun _ _ _ h => h) hSS hS rfl ?_
  simp only [Act.put, List.setIfInBounds_toArray, List.set_cons_zero, List.set_cons_succ]
  refine lin_val (i := 7) (v := ?_) rfl (by kernel_rfl) (by kernel_rfl) (by kernel_rfl) (fun _ _ _ h => h) hSS hS rfl (fun w hSw => ?_) ?_
  rotate_left
  · obtain ⟨q0, q1, q2⟩ := hSw; go_simp; first | done | with_reducible rfl
  simp only [Act.put, List.setIfInBounds_toArray, List.set_cons_zero, List.set_cons_succ]
  refine lin_done (by kernel_rfl) (fun w8 k8 => ?_) _
  clear hS hSS
  replace ax0 := k8.cell ax0 (by simp)
  replace ax1 := k8.cell ax1 (by simp)
  replace ax2 := k8.cell ax2 (by simp)
  replace bx0 := k8.cell bx0 (by simp)
  replace bx1 := k8.cell bx1 (by simp)
  replace bx2 := k8.cell bx2 (by simp)
  replace d0 := k8.cell d0 (by simp)
  replace d1 := k8.cell d1 (by simp)
  replace d2 := k8.cell d2 (by simp)
  go_wp2_with fail
  refine (m1 _).mono ?_
  rintro e w9 ⟨rfl, k9⟩
  replace ax0 := k9.cell ax0 (by simp)
  replace ax1 := k9.cell ax1 (by simp)
  replace ax2 := k9.cell ax2 (by simp)
  replace bx0 := k9.cell bx0 (by simp)
  replace bx1 := k9.cell bx1 (by simp)
  replace bx2 := k9.cell bx2 (by simp)
  replace d0 := k9.cell d0 (by simp)
  replace d1 := k9.cell d1 (by simp)
  replace d2 := k9.cell d2 (by simp)
  go_wp2_with fail
  refine (i1 _).mono ?_
  rintro e w10 ⟨rfl, k10⟩
  replace ax0 := k10.cell ax0 (by simp)
  replace ax1 := k10.cell ax1 (by simp)
  replace ax2 := k10.cell ax2 (by simp)
  replace bx0 := k10.cell bx0 (by simp)
  replace bx1 := k10.cell bx1 (by simp)
  replace bx2 := k10.cell bx2 (by simp)
  replace d0 := k10.cell d0 (by simp)
  replace d1 := k10.cell d1 (by simp)
  replace d2 := k10.cell d2 (by simp)
  go_wp2_with fail
  refine (i2 _).mono ?_
  rintro e w11 ⟨rfl, k11⟩
  replace ax0 := k11.cell ax0 (by simp)
  replace ax1 := k11.cell ax1 (by simp)
  replace ax2 := k11.cell ax2 (by simp)
  replace bx0 := k11.cell bx0 (by simp)
  replace bx1 := k11.cell bx1 (by simp)
  replace bx2 := k11.cell bx2 (by simp)
  replace d0 := k11.cell d0 (by simp)
  replace d1 := k11.cell d1 (by simp)
  replace d2 := k11.cell d2 (by simp)
  go_wp2_with fail
  go_ret
  exact ⟨rfl, (((((KS.nil k7).drew.nil k8).nil k9).nil k10).nil k11)⟩
set_option maxRecDepth 100000 in
set_option maxHeartbeats 12800000 in
theorem pars_yes (w : World) (neg : Bool) (L F S : List UInt8) (sc n : Int) (pA : Bool) (pB : List UInt8) (pC pE : Int) (iA : Bool) (iB : List UInt8) (iC : Int) (s : List UInt8) (hf1 : ∀ W, Calls Tryd.prog 18 #[.string ⟨L.toArray⟩] W fun e w' => e = .returned (.string ⟨F.toArray⟩) ∧ w' = W) (hf2 : ∀ W, Calls Tryd.prog 18 #[.string ⟨s.toArray⟩] W fun e w' => e = .returned (.string ⟨S.toArray⟩) ∧ w' = W) (q1 : ∀ W, Calls Tryd.prog 20 #[.string ⟨S.toArray⟩] W fun e w' => e = .returned (.tuple #[.agg #[.bool pA, .string ⟨pB.toArray⟩, .int .i64 pC], .int .i64 pE]) ∧ Kp [] W w') (q2 : ∀ W, Calls Tryd.prog 31 #[.string ⟨S.toArray⟩] W fun e w' => e = .returned (.tuple #[.agg #[.bool pA, .string ⟨pB.toArray⟩, .int .i64 pC], .int .i64 pE]) ∧ Kp [] W w') (m0 : ∀ W, Calls Tryd.prog 23 #[.agg #[.bool neg, .string ⟨F.toArray⟩, .int .i64 sc]] W fun e w' => e = .returned (.bool true) ∧ Kp [] W w') (m1 : ∀ W, Calls Tryd.prog 19 #[.agg #[.bool neg, .string ⟨F.toArray⟩, .int .i64 sc]] W fun e w' => e = .returned (.bool true) ∧ Kp [] W w') (i1 : ∀ W, Calls Tryd.prog 33 #[.int .i64 n] W fun e w' => e = .returned (.agg #[.bool iA, .string ⟨iB.toArray⟩, .int .i64 iC]) ∧ Kp [] W w') (i2 : ∀ W, Calls Tryd.prog 34 #[.int .i64 n] W fun e w' => e = .returned (.agg #[.bool iA, .string ⟨iB.toArray⟩, .int .i64 iC]) ∧ Kp [] W w') (T : List UInt8) (j1 : ∀ W, Calls Tryd.prog 21 #[.agg #[.bool neg, .string ⟨F.toArray⟩, .int .i64 sc]] W fun e w' => e = .returned (.string ⟨T.toArray⟩) ∧ Kp [] W w') (j2 : ∀ W, Calls Tryd.prog 32 #[.agg #[.bool neg, .string ⟨F.toArray⟩, .int .i64 sc]] W fun e w' => e = .returned (.string ⟨T.toArray⟩) ∧ Kp [] W w')  :
    Calls Tryd.prog 6 #[.string ⟨s.toArray⟩, .agg #[.bool neg, .string ⟨L.toArray⟩, .int .i64 sc], .int .i64 n] w (YesPost w) := by
  have hsh := fun W => shown_any W
  have HB := hid (Cells.fresh w 23 [.bool neg, .string ⟨L.toArray⟩, .int .i64 sc])
  have HK := hid ((Kp.refl [] w).alloc (.cells #[.bool neg, .string ⟨L.toArray⟩, .int .i64 sc] 23))
  go_enter Tryd.func6, Tryd.ntmps6
  go_wp2_with fail
  refine (hsh _).mono ?_
  rintro e w1 ⟨rfl, k1⟩
  have C1 := HB.out.keep k1 (by simp)
  go_wp2_with fail
  refine (hf2 _).mono ?_
  rintro e w2 ⟨rfl, hw2⟩
  have hw2 := hw2.symm
  subst hw2
  go_wp2_with fail
  refine (q1 _).mono ?_
  rintro e w3 ⟨rfl, k3⟩
  obtain ⟨K3, a0, a1, a2⟩ := k3.loc (.bool pA) (.string ⟨pB.toArray⟩) (.int .i64 pC)
  go_wp2_with fail
  refine (hf2 _).mono ?_
  rintro e w4 ⟨rfl, hw4⟩
  have hw4 := hw4.symm
  subst hw4
  go_wp2_with fail
  refine (q2 _).mono ?_
  rintro e w5 ⟨rfl, k5⟩
  obtain ⟨K5, b0, b1, b2⟩ := k5.loc (.bool pA) (.string ⟨pB.toArray⟩) (.int .i64 pC)
  replace a0 := K5.cell a0 (by simp)
  replace a1 := K5.cell a1 (by simp)
  replace a2 := K5.cell a2 (by simp)
  obtain ⟨W5, hW5⟩ : ∃ W5, W5 = w5.alloc (.cells #[.bool pA, .string ⟨pB.toArray⟩, .int .i64 pC] 23) := ⟨_, rfl⟩
  rw [← hW5] at K5 a0 a1 a2 b0 b1 b2
  have HW5 := hid hW5
  clear hW5
  have C2 := (C1.keep K3 (by simp)).keep K5 (by simp)
  have z0 : _ = some (Value.bool neg) := C2.cell 0
  have z1 : _ = some (Value.string ⟨L.toArray⟩) := C2.cell 1
  have z2 : _ = some (Value.int .i64 sc) := C2.cell 2
  have f1 := C2.free 1
  go_upto_region 4 with fail
  rw [← HW5.out]
  go_wp2_with fail
  refine (hf1 _).mono ?_
  rintro e w6 ⟨rfl, hw6⟩
  have hw6 := hw6.symm
  subst hw6
  have C3 := C2.put 1 (.string ⟨F.toArray⟩)
  have KS := (((HK.out.nil k1).nil K3).nil K5).setCell (p := ⟨w.heap.size, 1, none⟩) (fun h => by simp at h) (.string ⟨F.toArray⟩)
  have d0 : _ = some (Value.bool neg) := C3.cell 0
  have d1 : _ = some (Value.string ⟨F.toArray⟩) := C3.cell 1
  have d2 : _ = some (Value.int .i64 sc) := C3.cell 2
  have hga : w.heap.size < w3.heap.size := Nat.lt_of_lt_of_le C1.lt k3.size
  have hgb : w.heap.size < w5.heap.size := Nat.lt_of_lt_of_le (C1.keep K3 (by simp)).lt k5.size
  have ax0 : _ = some (Value.bool pA) := (World.cell?_of_block (Below.heap_setCell _ ⟨w.heap.size, 1, none⟩ (.string ⟨F.toArray⟩) w3.heap.size (by show ¬ w3.heap.size = w.heap.size; omega))).trans a0
  have ax1 : _ = some (Value.string ⟨pB.toArray⟩) := (World.cell?_of_block (Below.heap_setCell _ ⟨w.heap.size, 1, none⟩ (.string ⟨F.toArray⟩) w3.heap.size (by show ¬ w3.heap.size = w.heap.size; omega))).trans a1
  have ax2 : _ = some (Value.int .i64 pC) := (World.cell?_of_block (Below.heap_setCell _ ⟨w.heap.size, 1, none⟩ (.string ⟨F.toArray⟩) w3.heap.size (by show ¬ w3.heap.size = w.heap.size; omega))).trans a2
  have bx0 : _ = some (Value.bool pA) := (World.cell?_of_block (Below.heap_setCell _ ⟨w.heap.size, 1, none⟩ (.string ⟨F.toArray⟩) w5.heap.size (by show ¬ w5.heap.size = w.heap.size; omega))).trans b0
  have bx1 : _ = some (Value.string ⟨pB.toArray⟩) := (World.cell?_of_block (Below.heap_setCell _ ⟨w.heap.size, 1, none⟩ (.string ⟨F.toArray⟩) w5.heap.size (by show ¬ w5.heap.size = w.heap.size; omega))).trans b1
  have bx2 : _ = some (Value.int .i64 pC) := (World.cell?_of_block (Below.heap_setCell _ ⟨w.heap.size, 1, none⟩ (.string ⟨F.toArray⟩) w5.heap.size (by show ¬ w5.heap.size = w.heap.size; omega))).trans b2
  go_wp2_with fail
  refine (m0 _).mono ?_
  rintro e w7 ⟨rfl, k7⟩
  replace ax0 := k7.cell ax0 (by simp)
  replace ax1 := k7.cell ax1 (by simp)
  replace ax2 := k7.cell ax2 (by simp)
  replace bx0 := k7.cell bx0 (by simp)
  replace bx1 := k7.cell bx1 (by simp)
  replace bx2 := k7.cell bx2 (by simp)
  replace d0 := k7.cell d0 (by simp)
  replace d1 := k7.cell d1 (by simp)
  replace d2 := k7.cell d2 (by simp)
  clear z0 z1 z2 f1 a0 a1 a2 b0 b1 b2 hf1 hf2 q1 q2 hsh C1 C2 C3 hga hgb
  go_wp2_with fail
  refine lin_start (fun w' => w'.cell? ⟨w.heap.size, 0, none⟩ = some (Value.bool neg) ∧ w'.cell? ⟨w.heap.size, 1, none⟩ = some (Value.string ⟨F.toArray⟩) ∧ w'.cell? ⟨w.heap.size, 2, none⟩ = some (Value.int .i64 sc)) ((Stays.cell _ _).and ((Stays.cell _ _).and ((Stays.cell _ _)))) (by kernel_rfl) ⟨d0, d1, d2⟩ (fun hSS hS => ?_)
  refine lin_val (i := 0) (v := ?_) rfl (by kernel_rfl) (by kernel_rfl) (by kernel_rfl) (fun _ _ _ h => h) hSS hS rfl (fun w hSw => ?_) ?_
  rotate_left
  · obtain ⟨q0, q1, q2⟩ := hSw; go_simp; first | done | with_reducible rfl
  simp only [Act.put, List.setIfInBounds_toArray, List.set_cons_zero, List.set_cons_succ]
  refine lin_val (i := 1) (v := ?_) rfl (by kernel_rfl) (by kernel_rfl) (by kernel_rfl) (fun _ _ _ h => h) hSS hS rfl (fun w hSw => ?_) ?_
  rotate_left
  · obtain ⟨q0, q1, q2⟩ := hSw; go_simp; first | done | with_reducible rfl
  simp only [Act.put, List.setIfInBounds_toArray, List.set_cons_zero, List.set_cons_succ]
  refine lin_val (i := 2) (v := ?_) rfl (by kernel_rfl) (by kernel_rfl) (by kernel_rfl) (fun _ _ _ h => h) hSS hS rfl (fun w hSw => ?_) ?_
  rotate_left
  · obtain ⟨q0, q1, q2⟩ := hSw; go_simp; first | done | with_reducible rfl
  simp only [Act.put, List.setIfInBounds_toArray, List.set_cons_zero, List.set_cons_succ]
  refine lin_call (i := 3) rfl (by kernel_rfl) (by kernel_rfl) (by kernel_rfl) (fun _ _ _ h => h) hSS hS rfl (fun w _ => j1 w) (fun w hSw => ?_) ?_
  · obtain ⟨q0, q1, q2⟩ := hSw; go_simp
  simp only [Act.put, List.setIfInBounds_toArray, List.set_cons_zero, List.set_cons_succ]
  refine lin_val (i := 4) (v := ?_) rfl (by kernel_rfl) (by kernel_rfl) (by kernel_rfl) (fun _ _ _ h => h) hSS hS rfl (fun w hSw => ?_) ?_
  rotate_left
  · obtain ⟨q0, q1, q2⟩ := hSw; go_simp; first | done | with_reducible rfl
  simp only [Act.put, List.setIfInBounds_toArray, List.set_cons_zero, List.set_cons_succ]
  refine lin_call (i := 5) rfl (by kernel_rfl) (by kernel_rfl) (by kernel_rfl) (fun _ _ _ h => h) hSS hS rfl (fun w _ => j2 w) (fun w hSw => ?_) ?_
  · obtain ⟨q0, q1, q2⟩ := hSw; go_simp
  simp only [Act.put, List.setIfInBounds_toArray, List.set_cons_zero, List.set_cons_succ]
  refine lin_val (i := 6) (v := ?_) rfl (by kernel_rfl) (by kernel_rfl) (by kernel_rfl) (fun _ _ _ h => h) hSS hS rfl (fun w hSw => ?_) ?_
  rotate_left
  · obtain ⟨q0, q1, q2⟩ := hSw; go_simp; first | done | with_reducible rfl
  simp only [Act.put, List.setIfInBounds_toArray, List.set_cons_zero, List.set_cons_succ]
  refine lin_val (i := 7) (v := ?_) rfl (by kernel_rfl) (by kernel_rfl) (by kernel_rfl) (fun _ _ _ h => h) hSS hS rfl (fun w hSw => ?_) ?_
  rotate_left
  · obtain ⟨q0, q1, q2⟩ := hSw; go_simp; first | done | with_reducible rfl
  simp only [Act.put, List.setIfInBounds_toArray, List.set_cons_zero, List.set_cons_succ]
  refine lin_done (by kernel_rfl) (fun w8 k8 => ?_) _
  clear hS hSS
  replace ax0 := k8.cell ax0 (by simp)
  replace ax1 := k8.cell ax1 (by simp)
  replace ax2 := k8.cell ax2 (by simp)
  replace bx0 := k8.cell bx0 (by simp)
  replace bx1 := k8.cell bx1 (by simp)
  replace bx2 := k8.cell bx2 (by simp)
  replace d0 := k8.cell d0 (by simp)
  replace d1 := k8.cell d1 (by simp)
  replace d2 := k8.cell d2 (by simp)
  go_wp2_with fail
  refine (m1 _).mono ?_
  rintro e w9 ⟨rfl, k9⟩
  replace ax0 := k9.cell ax0 (by simp)
  replace ax1 := k9.cell ax1 (by simp)
  replace ax2 := k9.cell ax2 (by simp)
  replace bx0 := k9.cell bx0 (by simp)
  replace bx1 := k9.cell bx1 (by simp)
  replace bx2 := k9.cell bx2 (by simp)
  replace d0 := k9.cell d0 (by simp)
  replace d1 := k9.cell d1 (by simp)
  replace d2 := k9.cell d2 (by simp)
  go_wp2_with fail
  refine (i1 _).mono ?_
  rintro e w10 ⟨rfl, k10⟩
  replace ax0 := k10.cell ax0 (by simp)
  replace ax1 := k10.cell ax1 (by simp)
  replace ax2 := k10.cell ax2 (by simp)
  replace bx0 := k10.cell bx0 (by simp)
  replace bx1 := k10.cell bx1 (by simp)
  replace bx2 := k10.cell bx2 (by simp)
  replace d0 := k10.cell d0 (by simp)
  replace d1 := k10.cell d1 (by simp)
  replace d2 := k10.cell d2 (by simp)
  go_wp2_with fail
  refine (i2 _).mono ?_
  rintro e w11 ⟨rfl, k11⟩
  replace ax0 := k11.cell ax0 (by simp)
  replace ax1 := k11.cell ax1 (by simp)
  replace ax2 := k11.cell ax2 (by simp)
  replace bx0 := k11.cell bx0 (by simp)
  replace bx1 := k11.cell bx1 (by simp)
  replace bx2 := k11.cell bx2 (by simp)
  replace d0 := k11.cell d0 (by simp)
  replace d1 := k11.cell d1 (by simp)
  replace d2 := k11.cell d2 (by simp)
  go_wp2_with fail
  go_ret
  exact ⟨rfl, (((((KS.nil k7).drew.nil k8).nil k9).nil k10).nil k11)⟩
theorem pars_any (w : World) (s : List UInt8) (hs : s.length ≤ 9223372036854775807) (d : RawD) (hd : d.ok) (n : Int) (hn : -9223372036854775808 ≤ n ∧ n ≤ 9223372036854775807) :
    Calls Tryd.prog 6 #[.string ⟨s.toArray⟩, .agg #[.bool d.neg, .string ⟨d.l.toArray⟩, .int .i64 d.s], .int .i64 n] w (YesPost w) := by
  obtain ⟨neg, L, sc⟩ := d
  have hf1 := fun W => few_any W L hd.1
  have hf2 := fun W => few_any W s hs
  have hl := fewL_len s
  obtain ⟨a, B, c, E, hp⟩ := par_letters (parseL (fewL s))
  have q1 := fun W => parse_any W (fewL s) (by omega)
  have q2 := fun W => rparse_any W (fewL s) (by omega)
  have q1' : ∀ W, Calls Tryd.prog 20 #[.string ⟨(fewL s).toArray⟩] W fun e w' => e = .returned (.tuple #[.agg #[.bool a, .string ⟨B.toArray⟩, .int .i64 c], .int .i64 E]) ∧ Kp [] W w' := fun W => (q1 W).mono fun e w' h => ⟨by rw [h.1, hp], h.2⟩
  have q2' : ∀ W, Calls Tryd.prog 31 #[.string ⟨(fewL s).toArray⟩] W fun e w' => e = .returned (.tuple #[.agg #[.bool a, .string ⟨B.toArray⟩, .int .i64 c], .int .i64 E]) ∧ Kp [] W w' := fun W => (q2 W).mono fun e w' h => ⟨by rw [h.1, ← hp]; rfl, h.2⟩
  have i1 := fun W => int_form W n hn
  have i2 := fun W => rint_any W n hn
  have m1 := fun W => may_any W neg (fewL L) sc (few_ok2 L) hd.2
  have m0 := fun W => rmay_any W neg (fewL L) sc (few_ok2 L) hd.2
  cases hm : mayL neg (fewL L) sc with
  | false =>
    rw [hm] at m0 m1
    exact pars_no w neg L (fewL L) (fewL s) sc n a B c E _ _ _ s hf1 hf2 q1' q2' m0 m1 i1 i2
  | true =>
    rw [hm] at m0 m1
    obtain ⟨x, hx, e⟩ := RawD.is (r := ⟨neg, fewL L, sc⟩) hm
    injection e with e1 e2 e3
    have hl2 := length_dtxt_le (k := 60) hx.1 (by decide)
    have j1 := fun W => print_ok hx W
    have j2 := fun W => rprint_any W x (by omega) (by have := hx.2.1; omega)
    rw [← e1, ← e2, ← e3] at j1 j2
    exact pars_yes w neg L (fewL L) (fewL s) sc n a B c E _ _ _ s hf1 hf2 q1' q2' m0 m1 i1 i2 _ j1 j2
theorem parses_card (W : World) (_ : Tabs W) (s : ByteArray) (ws : s.size ≤ maxLen) (b : Bool) (l : List UInt8) (z : Int) (hl : l.length ≤ 9223372036854775807) (h1 : -9223372036854775808 ≤ z) (h2 : z ≤ 9223372036854775807) (n : Int) (hn : -9223372036854775808 ≤ n ∧ n ≤ 9223372036854775807) :
    Calls Tryd.prog 6 #[.string s, .agg #[.bool b, .string ⟨l.toArray⟩, .int .i64 z], .int .i64 n] W (YesPost W) := by
  have h := pars_any W s.data.toList (by unfold maxLen at ws; exact ws) ⟨b, l, z⟩ ⟨hl, h1, h2⟩ n hn
  rw [bytes_back] at h
  exact h
end Go.Proofs.YtampgimmodomoaaDoor
