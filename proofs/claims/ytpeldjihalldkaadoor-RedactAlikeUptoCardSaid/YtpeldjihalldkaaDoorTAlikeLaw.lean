/- RedactAlike: which values look the same is as the document says, and these have the same view. -/
import Derived.Test.YtpeldjihalldkaaDoorTMore
import Derived.Test.YtpeldjihalldkaaDoorTRAlike
namespace Go.Proofs.YtpeldjihalldkaaDoor
open Go Go.RowKit Go.Lib

set_option maxRecDepth 100000 in
set_option maxHeartbeats 25600000 in
theorem alikelaw_any (w : World) (A : Option Addr) (c : Nat) (l : List Itm) (hl : ItemsAt w A c l) (A' : Option Addr) (c' : Nat) (l' : List Itm) (hl' : ItemsAt w A' c' l') (cl : Nat) (hcl : cl < 18446744073709551616) :
    Calls Tryd.prog 5 #[.slice A l.length c, .slice A' l'.length c', .int .u64 (cl : Int)] w fun e w' => e = .returned (.bool true) ∧ Kp [] w w' := by
  have q1 := shown9_any w
  have q2 := fun W (k : Kp [] w W) => built_any W A c l (hl.kept k)
  have q3 := fun W (k : Kp [] w W) => built_any W A' c' l' (hl'.kept k)
  obtain ⟨N, hN⟩ : ∃ N, N = l.length := ⟨_, rfl⟩
  obtain ⟨M, hM⟩ : ∃ M, M = l'.length := ⟨_, rfl⟩
  rw [← hN] at q2 ⊢
  rw [← hM] at q3 ⊢
  have HCL := hid hcl
  clear hl hl' hN hM hcl
  go_enter Tryd.func5, Tryd.ntmps5
  go_wp2_with fail
  (with_reducible refine q1.mono ?_)
  rintro e w1 ⟨rfl, k1⟩
  have qb := q2 _ k1
  have HK1 := hid k1
  clear k1 q1 q2
  go_wp2_with fail
  (with_reducible refine qb.mono ?_)
  rintro e w2 ⟨va, ca, rfl, hrsa, hfa, hza, k2⟩
  have hrepa := hrsa.rep
  have HA := hid (And.intro hrepa (And.intro hfa hza))
  have hk2 := HK1.out.nil k2
  cases hrepa with
  | mk k m num t keys kids code A1 ck B1 cb ks hA1 hB1 hr1 =>
    unfold vC at HA ⊢
    obtain ⟨nk, hnk⟩ : ∃ x, x = keys.length := ⟨_, rfl⟩
    obtain ⟨nb, hnb⟩ : ∃ x, x = kids.length := ⟨_, rfl⟩
    simp only [← hnk, ← hnb] at HA ⊢
    obtain ⟨va, hva⟩ : ∃ v : Vl, v = .mk k m num t keys kids code := ⟨_, rfl⟩
    rw [← hva] at HA
    obtain ⟨w3, hw3⟩ : ∃ w3, w3 = w2.alloc (.cells #[.int .i64 (k : Int), .int .u64 (m : Int), .bool (vN num), .string ⟨(vD num).toArray⟩, .int .i64 (vS num), .string ⟨t.toArray⟩, .slice A1 nk ck, .slice B1 nb cb, .int .i64 (code : Int)] 31) := ⟨_, rfl⟩
    have hk23 : Kp [] w2 w3 := by rw [hw3]; exact (Kp.refl _ _).alloc _
    have hca : Cells w3 w2.heap.size 31 [.int .i64 (k : Int), .int .u64 (m : Int), .bool (vN num), .string ⟨(vD num).toArray⟩, .int .i64 (vS num), .string ⟨t.toArray⟩, .slice A1 nk ck, .slice B1 nb cb, .int .i64 (code : Int)] := by rw [hw3]; exact Cells.fresh w2 31 _
    have qb2 := q3 _ (hk2.nil hk23)
    have HW3 := hid hw3
    have H3 := hid (And.intro hk2 (And.intro hk23 hca))
    clear hrsa hfa hza k2 hA1 hB1 hr1 hnk hnb hva hw3 hk2 hk23 hca qb q3
    go_wp2_with fail
    rw [← HW3.out]
    (with_reducible refine qb2.mono ?_)
    rintro e w4 ⟨vb, cb0, rfl, hrsb, hfb, hzb, k4⟩
    have hrepb := hrsb.rep
    have HB := hid (And.intro hrepb (And.intro hfb hzb))
    have hk34 := k4
    cases hrepb with
    | mk k' m' num' t' keys' kids' code' A2 ck' B2 cb' ks' hA2 hB2 hr2 =>
      unfold vC at HB ⊢
      obtain ⟨nk', hnk'⟩ : ∃ x, x = keys'.length := ⟨_, rfl⟩
      obtain ⟨nb', hnb'⟩ : ∃ x, x = kids'.length := ⟨_, rfl⟩
      simp only [← hnk', ← hnb'] at HB ⊢
      obtain ⟨vb, hvb⟩ : ∃ v : Vl, v = .mk k' m' num' t' keys' kids' code' := ⟨_, rfl⟩
      rw [← hvb] at HB
      obtain ⟨w5, hw5⟩ : ∃ w5, w5 = w4.alloc (.cells #[.int .i64 (k' : Int), .int .u64 (m' : Int), .bool (vN num'), .string ⟨(vD num').toArray⟩, .int .i64 (vS num'), .string ⟨t'.toArray⟩, .slice A2 nk' ck', .slice B2 nb' cb', .int .i64 (code' : Int)] 31) := ⟨_, rfl⟩
      have hk45 : Kp [] w4 w5 := by rw [hw5]; exact (Kp.refl _ _).alloc _
      have hcb : Cells w5 w4.heap.size 31 [.int .i64 (k' : Int), .int .u64 (m' : Int), .bool (vN num'), .string ⟨(vD num').toArray⟩, .int .i64 (vS num'), .string ⟨t'.toArray⟩, .slice A2 nk' ck', .slice B2 nb' cb', .int .i64 (code' : Int)] := by rw [hw5]; exact Cells.fresh w4 31 _
      have hk35 := hk34.nil hk45
      have hca4 := H3.out.2.2.keep hk34 (by simp)
      have v0 := hca4.cell 0
      have vv0 := fun o => ((Kp.refl [] w4).alloc o).cell v0 (by simp)
      have v1 := hca4.cell 1
      have vv1 := fun o => ((Kp.refl [] w4).alloc o).cell v1 (by simp)
      have v2 := hca4.cell 2
      have vv2 := fun o => ((Kp.refl [] w4).alloc o).cell v2 (by simp)
      have v3 := hca4.cell 3
      have vv3 := fun o => ((Kp.refl [] w4).alloc o).cell v3 (by simp)
      have v4 := hca4.cell 4
      have vv4 := fun o => ((Kp.refl [] w4).alloc o).cell v4 (by simp)
      have v5 := hca4.cell 5
      have vv5 := fun o => ((Kp.refl [] w4).alloc o).cell v5 (by simp)
      have v6 := hca4.cell 6
      have vv6 := fun o => ((Kp.refl [] w4).alloc o).cell v6 (by simp)
      have v7 := hca4.cell 7
      have vv7 := fun o => ((Kp.refl [] w4).alloc o).cell v7 (by simp)
      have v8 := hca4.cell 8
      have vv8 := fun o => ((Kp.refl [] w4).alloc o).cell v8 (by simp)
      have hca := H3.out.2.2.keep hk35 (by simp)
      have ra := (HA.out.1.kept (H3.out.2.1.nil hk35))
      have rb := HB.out.1.kept hk45
      have hkw := (H3.out.1.nil H3.out.2.1).nil hk35
      have qa := fun W (h : Kp [] w5 W) => alike_any (ra.kept h) (rb.kept h) HA.out.2.1 HB.out.2.1 cl HCL.out
      have qr := fun W (h : Kp [] w5 W) => ralike_any (ra.kept h) (rb.kept h) HA.out.2.1 HB.out.2.1 cl HCL.out
      have qa2 := fun W (h : Kp [] w5 W) => alike_any (rb.kept h) (ra.kept h) HB.out.2.1 HA.out.2.1 cl HCL.out
      have qa3 := fun W (h : Kp [] w5 W) => alike_any (ra.kept h) (ra.kept h) HA.out.2.1 HA.out.2.1 cl HCL.out
      have qv := fun W (h : Kp [] w5 W) => view_any ra HA.out.2.1 (by have := HA.out.2.2; omega) W h cl HCL.out
      have qv2 := fun W (h : Kp [] w5 W) => view_any rb HB.out.2.1 (by have := HB.out.2.2; omega) W h cl HCL.out
      rw [alike_refl] at qa3
      rw [alike_comm cl vb va] at qa2
      have hsh : alikeL cl va vb = true → showL cl [35] vb = showL cl [35] va := fun h => (alike_show cl [35] va vb h).symm
      obtain ⟨p, hp⟩ : ∃ p, p = alikeL cl va vb := ⟨_, rfl⟩
      obtain ⟨L1, hL1⟩ : ∃ L, L = showL cl [35] va := ⟨_, rfl⟩
      obtain ⟨L2, hL2⟩ : ∃ L, L = showL cl [35] vb := ⟨_, rfl⟩
      simp only [← hp] at qa qr qa2
      rw [← hp, ← hL1, ← hL2] at hsh
      simp only [← hL1] at qv
      simp only [← hL2] at qv2
      obtain ⟨gA, hgA⟩ : ∃ gA, gA = w2.heap.size := ⟨_, rfl⟩
      obtain ⟨gB, hgB⟩ : ∃ gB, gB = w4.heap.size := ⟨_, rfl⟩
      rw [← hgA] at hca
      rw [← hgB] at hcb
      have HG := hid (And.intro hgA hgB)
      have HW5 := hid hw5
      have HKW := hid hkw
      clear hrsb hfb hzb k4 hA2 hB2 hr2 hnk' hnb' hvb hw5 hk34 hk45 hk35 ra rb hkw hp hL1 hL2 qb2 hgA hgB
      have x0 := hca.cell 0
      have x1 := hca.cell 1
      have x2 := hca.cell 2
      have x3 := hca.cell 3
      have x4 := hca.cell 4
      have x5 := hca.cell 5
      have x6 := hca.cell 6
      have x7 := hca.cell 7
      have x8 := hca.cell 8
      have y0 := hcb.cell 0
      have y1 := hcb.cell 1
      have y2 := hcb.cell 2
      have y3 := hcb.cell 3
      have y4 := hcb.cell 4
      have y5 := hcb.cell 5
      have y6 := hcb.cell 6
      have y7 := hcb.cell 7
      have y8 := hcb.cell 8
      clear hca4 v0 v1 v2 v3 v4 v5 v6 v7 v8
      go_wp2_with fail
      clear vv0 vv1 vv2 vv3 vv4 vv5 vv6 vv7 vv8
      rw [← HW5.out]
      simp only [← HG.out.1, ← HG.out.2]
      (with_reducible refine (qa _ (Kp.refl _ _)).mono ?_)
      rintro e w55 ⟨rfl, k55⟩
      have hca := hca.keep k55 (by simp)
      have hcb := hcb.keep k55 (by simp)
      clear x0 y0 x1 y1 x2 y2 x3 y3 x4 y4 x5 y5 x6 y6 x7 y7 x8 y8
      have x0 := hca.cell 0
      have x1 := hca.cell 1
      have x2 := hca.cell 2
      have x3 := hca.cell 3
      have x4 := hca.cell 4
      have x5 := hca.cell 5
      have x6 := hca.cell 6
      have x7 := hca.cell 7
      have x8 := hca.cell 8
      have y0 := hcb.cell 0
      have y1 := hcb.cell 1
      have y2 := hcb.cell 2
      have y3 := hcb.cell 3
      have y4 := hcb.cell 4
      have y5 := hcb.cell 5
      have y6 := hcb.cell 6
      have y7 := hcb.cell 7
      have y8 := hcb.cell 8
      have H55 := hid k55
      have qr := fun W (h : Kp [] w55 W) => qr W (H55.out.nil h)
      have qv := fun W (h : Kp [] w55 W) => qv W (H55.out.nil h)
      have qv2 := fun W (h : Kp [] w55 W) => qv2 W (H55.out.nil h)
      have qa2 := fun W (h : Kp [] w55 W) => qa2 W (H55.out.nil h)
      have qa3 := fun W (h : Kp [] w55 W) => qa3 W (H55.out.nil h)
      have HSH := hid hsh
      clear k55 qa hca hcb hsh
      cases p with
      | false =>
        go_wp2_with fail
        refine lin_start (fun w' => w'.cell? ⟨gA, 0, none⟩ = some (Value.int .i64 (k : Int)) ∧ w'.cell? ⟨gA, 1, none⟩ = some (Value.int .u64 (m : Int)) ∧ w'.cell? ⟨gA, 2, none⟩ = some (Value.bool (vN num)) ∧ w'.cell? ⟨gA, 3, none⟩ = some (Value.string ⟨(vD num).toArray⟩) ∧ w'.cell? ⟨gA, 4, none⟩ = some (Value.int .i64 (vS num)) ∧ w'.cell? ⟨gA, 5, none⟩ = some (Value.string ⟨t.toArray⟩) ∧ w'.cell? ⟨gA, 6, none⟩ = some (Value.slice A1 nk ck) ∧ w'.cell? ⟨gA, 7, none⟩ = some (Value.slice B1 nb cb) ∧ w'.cell? ⟨gA, 8, none⟩ = some (Value.int .i64 (code : Int)) ∧ w'.cell? ⟨gB, 0, none⟩ = some (Value.int .i64 (k' : Int)) ∧ w'.cell? ⟨gB, 1, none⟩ = some (Value.int .u64 (m' : Int)) ∧ w'.cell? ⟨gB, 2, none⟩ = some (Value.bool (vN num')) ∧ w'.cell? ⟨gB, 3, none⟩ = some (Value.string ⟨(vD num').toArray⟩) ∧ w'.cell? ⟨gB, 4, none⟩ = some (Value.int .i64 (vS num')) ∧ w'.cell? ⟨gB, 5, none⟩ = some (Value.string ⟨t'.toArray⟩) ∧ w'.cell? ⟨gB, 6, none⟩ = some (Value.slice A2 nk' ck') ∧ w'.cell? ⟨gB, 7, none⟩ = some (Value.slice B2 nb' cb') ∧ w'.cell? ⟨gB, 8, none⟩ = some (Value.int .i64 (code' : Int)) ∧ Kp [] w55 w') ((Stays.cell _ _).and ((Stays.cell _ _).and ((Stays.cell _ _).and ((Stays.cell _ _).and ((Stays.cell _ _).and ((Stays.cell _ _).and ((Stays.cell _ _).and ((Stays.cell _ _).and ((Stays.cell _ _).and ((Stays.cell _ _).and ((Stays.cell _ _).and ((Stays.cell _ _).and ((Stays.cell _ _).and ((Stays.cell _ _).and ((Stays.cell _ _).and ((Stays.cell _ _).and ((Stays.cell _ _).and ((Stays.cell _ _).and ((Stays.kp _ _)))))))))))))))))))) (by kernel_rfl) ⟨x0, x1, x2, x3, x4, x5, x6, x7, x8, y0, y1, y2, y3, y4, y5, y6, y7, y8, (Kp.refl _ _).drew⟩ (fun hSS hS => ?_)
        refine lin_val (i := 0) (v := ?_) rfl (by kernel_rfl) (by kernel_rfl) (by kernel_rfl) (fun _ _ _ h => h) hSS hS rfl (fun w hSw => ?_) ?_
        rotate_left
        · obtain ⟨q0, q1, q2, q3, q4, q5, q6, q7, q8, q9, q10, q11, q12, q13, q14, q15, q16, q17, q18⟩ := hSw; go_simp; first | done | with_reducible rfl
        simp only [Act.put, List.setIfInBounds_toArray, List.set_cons_zero, List.set_cons_succ]
        refine lin_val (i := 1) (v := ?_) rfl (by kernel_rfl) (by kernel_rfl) (by kernel_rfl) (fun _ _ _ h => h) hSS hS rfl (fun w hSw => ?_) ?_
        rotate_left
        · obtain ⟨q0, q1, q2, q3, q4, q5, q6, q7, q8, q9, q10, q11, q12, q13, q14, q15, q16, q17, q18⟩ := hSw; go_simp; first | done | with_reducible rfl
        simp only [Act.put, List.setIfInBounds_toArray, List.set_cons_zero, List.set_cons_succ]
        refine lin_val (i := 2) (v := ?_) rfl (by kernel_rfl) (by kernel_rfl) (by kernel_rfl) (fun _ _ _ h => h) hSS hS rfl (fun w hSw => ?_) ?_
        rotate_left
        · obtain ⟨q0, q1, q2, q3, q4, q5, q6, q7, q8, q9, q10, q11, q12, q13, q14, q15, q16, q17, q18⟩ := hSw; go_simp; first | done | with_reducible rfl
        simp only [Act.put, List.setIfInBounds_toArray, List.set_cons_zero, List.set_cons_succ]
        refine lin_val (i := 3) (v := ?_) rfl (by kernel_rfl) (by kernel_rfl) (by kernel_rfl) (fun _ _ _ h => h) hSS hS rfl (fun w hSw => ?_) ?_
        rotate_left
        · obtain ⟨q0, q1, q2, q3, q4, q5, q6, q7, q8, q9, q10, q11, q12, q13, q14, q15, q16, q17, q18⟩ := hSw; go_simp; first | done | with_reducible rfl
        simp only [Act.put, List.setIfInBounds_toArray, List.set_cons_zero, List.set_cons_succ]
        refine lin_val (i := 4) (v := ?_) rfl (by kernel_rfl) (by kernel_rfl) (by kernel_rfl) (fun _ _ _ h => h) hSS hS rfl (fun w hSw => ?_) ?_
        rotate_left
        · obtain ⟨q0, q1, q2, q3, q4, q5, q6, q7, q8, q9, q10, q11, q12, q13, q14, q15, q16, q17, q18⟩ := hSw; go_simp; first | done | with_reducible rfl
        simp only [Act.put, List.setIfInBounds_toArray, List.set_cons_zero, List.set_cons_succ]
        refine lin_val (i := 5) (v := ?_) rfl (by kernel_rfl) (by kernel_rfl) (by kernel_rfl) (fun _ _ _ h => h) hSS hS rfl (fun w hSw => ?_) ?_
        rotate_left
        · obtain ⟨q0, q1, q2, q3, q4, q5, q6, q7, q8, q9, q10, q11, q12, q13, q14, q15, q16, q17, q18⟩ := hSw; go_simp; first | done | with_reducible rfl
        simp only [Act.put, List.setIfInBounds_toArray, List.set_cons_zero, List.set_cons_succ]
        refine lin_call (i := 6) rfl (by kernel_rfl) (by kernel_rfl) (by kernel_rfl) (fun _ _ _ h => h) hSS hS rfl (fun w hSw => by obtain ⟨q0, q1, q2, q3, q4, q5, q6, q7, q8, q9, q10, q11, q12, q13, q14, q15, q16, q17, q18⟩ := hSw; exact qr w q18) (fun w hSw => ?_) ?_
        · obtain ⟨q0, q1, q2, q3, q4, q5, q6, q7, q8, q9, q10, q11, q12, q13, q14, q15, q16, q17, q18⟩ := hSw; go_simp
        simp only [Act.put, List.setIfInBounds_toArray, List.set_cons_zero, List.set_cons_succ]
        refine lin_val (i := 7) (v := ?_) rfl (by kernel_rfl) (by kernel_rfl) (by kernel_rfl) (fun _ _ _ h => h) hSS hS rfl (fun w hSw => ?_) ?_
        rotate_left
        · obtain ⟨q0, q1, q2, q3, q4, q5, q6, q7, q8, q9, q10, q11, q12, q13, q14, q15, q16, q17, q18⟩ := hSw; go_simp; first | done | with_reducible rfl
        simp only [Act.put, List.setIfInBounds_toArray, List.set_cons_zero, List.set_cons_succ]
        refine lin_val (i := 8) (v := ?_) rfl (by kernel_rfl) (by kernel_rfl) (by kernel_rfl) (fun _ _ _ h => h) hSS hS rfl (fun w hSw => ?_) ?_
        rotate_left
        · obtain ⟨q0, q1, q2, q3, q4, q5, q6, q7, q8, q9, q10, q11, q12, q13, q14, q15, q16, q17, q18⟩ := hSw; go_simp; first | done | with_reducible rfl
        simp only [Act.put, List.setIfInBounds_toArray, List.set_cons_zero, List.set_cons_succ]
        refine lin_val (i := 9) (v := ?_) rfl (by kernel_rfl) (by kernel_rfl) (by kernel_rfl) (fun _ _ _ h => h) hSS hS rfl (fun w hSw => ?_) ?_
        rotate_left
        · obtain ⟨q0, q1, q2, q3, q4, q5, q6, q7, q8, q9, q10, q11, q12, q13, q14, q15, q16, q17, q18⟩ := hSw; go_simp; first | done | with_reducible rfl
        simp only [Act.put, List.setIfInBounds_toArray, List.set_cons_zero, List.set_cons_succ]
        refine lin_val (i := 10) (v := ?_) rfl (by kernel_rfl) (by kernel_rfl) (by kernel_rfl) (fun _ _ _ h => h) hSS hS rfl (fun w hSw => ?_) ?_
        rotate_left
        · obtain ⟨q0, q1, q2, q3, q4, q5, q6, q7, q8, q9, q10, q11, q12, q13, q14, q15, q16, q17, q18⟩ := hSw; go_simp; first | done | with_reducible rfl
        simp only [Act.put, List.setIfInBounds_toArray, List.set_cons_zero, List.set_cons_succ]
        refine lin_val (i := 11) (v := ?_) rfl (by kernel_rfl) (by kernel_rfl) (by kernel_rfl) (fun _ _ _ h => h) hSS hS rfl (fun w hSw => ?_) ?_
        rotate_left
        · obtain ⟨q0, q1, q2, q3, q4, q5, q6, q7, q8, q9, q10, q11, q12, q13, q14, q15, q16, q17, q18⟩ := hSw; go_simp; first | done | with_reducible rfl
        simp only [Act.put, List.setIfInBounds_toArray, List.set_cons_zero, List.set_cons_succ]
        refine lin_val (i := 12) (v := ?_) rfl (by kernel_rfl) (by kernel_rfl) (by kernel_rfl) (fun _ _ _ h => h) hSS hS rfl (fun w hSw => ?_) ?_
        rotate_left
        · obtain ⟨q0, q1, q2, q3, q4, q5, q6, q7, q8, q9, q10, q11, q12, q13, q14, q15, q16, q17, q18⟩ := hSw; go_simp; first | done | with_reducible rfl
        simp only [Act.put, List.setIfInBounds_toArray, List.set_cons_zero, List.set_cons_succ]
        refine lin_not (i := 13) rfl (by kernel_rfl) (by kernel_rfl) (by kernel_rfl) (fun _ _ _ h => h) hSS hS rfl ?_
        simp only [Act.put, List.setIfInBounds_toArray, List.set_cons_zero, List.set_cons_succ]
        refine lin_not (i := 14) rfl (by kernel_rfl) (by kernel_rfl) (by kernel_rfl) (fun _ _ _ h => h) hSS hS rfl ?_
        simp only [Act.put, List.setIfInBounds_toArray, List.set_cons_zero, List.set_cons_succ]
        refine lin_not (i := 15) rfl (by kernel_rfl) (by kernel_rfl) (by kernel_rfl) (fun _ _ _ h => h) hSS hS rfl ?_
        simp only [Act.put, List.setIfInBounds_toArray, List.set_cons_zero, List.set_cons_succ]
        refine lin_not (i := 16) rfl (by kernel_rfl) (by kernel_rfl) (by kernel_rfl) (fun _ _ _ h => h) hSS hS rfl ?_
        simp only [Act.put, List.setIfInBounds_toArray, List.set_cons_zero, List.set_cons_succ]
        refine lin_not (i := 17) rfl (by kernel_rfl) (by kernel_rfl) (by kernel_rfl) (fun _ _ _ h => h) hSS hS rfl ?_
        simp only [Act.put, List.setIfInBounds_toArray, List.set_cons_zero, List.set_cons_succ]
        refine lin_not (i := 18) rfl (by kernel_rfl) (by kernel_rfl) (by kernel_rfl) (fun _ _ _ h => h) hSS hS rfl ?_
        simp only [Act.put, List.setIfInBounds_toArray, List.set_cons_zero, List.set_cons_succ]
        refine lin_not (i := 19) rfl (by kernel_rfl) (by kernel_rfl) (by kernel_rfl) (fun _ _ _ h => h) hSS hS rfl ?_
        simp only [Act.put, List.setIfInBounds_toArray, List.set_cons_zero, List.set_cons_succ]
        refine lin_val (i := 20) (v := ?_) rfl (by kernel_rfl) (by kernel_rfl) (by kernel_rfl) (fun _ _ _ h => h) hSS hS rfl (fun w hSw => ?_) ?_
        rotate_left
        · obtain ⟨q0, q1, q2, q3, q4, q5, q6, q7, q8, q9, q10, q11, q12, q13, q14, q15, q16, q17, q18⟩ := hSw; go_simp; first | done | with_reducible rfl
        simp only [Act.put, List.setIfInBounds_toArray, List.set_cons_zero, List.set_cons_succ]
        refine lin_val (i := 21) (v := ?_) rfl (by kernel_rfl) (by kernel_rfl) (by kernel_rfl) (fun _ _ _ h => h) hSS hS rfl (fun w hSw => ?_) ?_
        rotate_left
        · obtain ⟨q0, q1, q2, q3, q4, q5, q6, q7, q8, q9, q10, q11, q12, q13, q14, q15, q16, q17, q18⟩ := hSw; go_simp; first | done | with_reducible rfl
        simp only [Act.put, List.setIfInBounds_toArray, List.set_cons_zero, List.set_cons_succ]
        refine lin_val (i := 22) (v := ?_) rfl (by kernel_rfl) (by kernel_rfl) (by kernel_rfl) (fun _ _ _ h => h) hSS hS rfl (fun w hSw => ?_) ?_
        rotate_left
        · obtain ⟨q0, q1, q2, q3, q4, q5, q6, q7, q8, q9, q10, q11, q12, q13, q14, q15, q16, q17, q18⟩ := hSw; go_simp; first | done | with_reducible rfl
        simp only [Act.put, List.setIfInBounds_toArray, List.set_cons_zero, List.set_cons_succ]
        refine lin_val (i := 23) (v := ?_) rfl (by kernel_rfl) (by kernel_rfl) (by kernel_rfl) (fun _ _ _ h => h) hSS hS rfl (fun w hSw => ?_) ?_
        rotate_left
        · obtain ⟨q0, q1, q2, q3, q4, q5, q6, q7, q8, q9, q10, q11, q12, q13, q14, q15, q16, q17, q18⟩ := hSw; go_simp; first | done | with_reducible rfl
        simp only [Act.put, List.setIfInBounds_toArray, List.set_cons_zero, List.set_cons_succ]
        refine lin_val (i := 24) (v := ?_) rfl (by kernel_rfl) (by kernel_rfl) (by kernel_rfl) (fun _ _ _ h => h) hSS hS rfl (fun w hSw => ?_) ?_
        rotate_left
        · obtain ⟨q0, q1, q2, q3, q4, q5, q6, q7, q8, q9, q10, q11, q12, q13, q14, q15, q16, q17, q18⟩ := hSw; go_simp; first | done | with_reducible rfl
        simp only [Act.put, List.setIfInBounds_toArray, List.set_cons_zero, List.set_cons_succ]
        refine lin_val (i := 25) (v := ?_) rfl (by kernel_rfl) (by kernel_rfl) (by kernel_rfl) (fun _ _ _ h => h) hSS hS rfl (fun w hSw => ?_) ?_
        rotate_left
        · obtain ⟨q0, q1, q2, q3, q4, q5, q6, q7, q8, q9, q10, q11, q12, q13, q14, q15, q16, q17, q18⟩ := hSw; go_simp; first | done | with_reducible rfl
        simp only [Act.put, List.setIfInBounds_toArray, List.set_cons_zero, List.set_cons_succ]
        refine lin_val (i := 26) (v := ?_) rfl (by kernel_rfl) (by kernel_rfl) (by kernel_rfl) (fun _ _ _ h => h) hSS hS rfl (fun w hSw => ?_) ?_
        rotate_left
        · obtain ⟨q0, q1, q2, q3, q4, q5, q6, q7, q8, q9, q10, q11, q12, q13, q14, q15, q16, q17, q18⟩ := hSw; go_simp; first | done | with_reducible rfl
        simp only [Act.put, List.setIfInBounds_toArray, List.set_cons_zero, List.set_cons_succ]
        refine lin_call (i := 27) rfl (by kernel_rfl) (by kernel_rfl) (by kernel_rfl) (fun _ _ _ h => h) hSS hS rfl (fun w hSw => by obtain ⟨q0, q1, q2, q3, q4, q5, q6, q7, q8, q9, q10, q11, q12, q13, q14, q15, q16, q17, q18⟩ := hSw; exact qa2 w q18) (fun w hSw => ?_) ?_
        · obtain ⟨q0, q1, q2, q3, q4, q5, q6, q7, q8, q9, q10, q11, q12, q13, q14, q15, q16, q17, q18⟩ := hSw; go_simp
        simp only [Act.put, List.setIfInBounds_toArray, List.set_cons_zero, List.set_cons_succ]
        refine lin_val (i := 28) (v := ?_) rfl (by kernel_rfl) (by kernel_rfl) (by kernel_rfl) (fun _ _ _ h => h) hSS hS rfl (fun w hSw => ?_) ?_
        rotate_left
        · obtain ⟨q0, q1, q2, q3, q4, q5, q6, q7, q8, q9, q10, q11, q12, q13, q14, q15, q16, q17, q18⟩ := hSw; go_simp; first | done | with_reducible rfl
        simp only [Act.put, List.setIfInBounds_toArray, List.set_cons_zero, List.set_cons_succ]
        refine lin_val (i := 29) (v := ?_) rfl (by kernel_rfl) (by kernel_rfl) (by kernel_rfl) (fun _ _ _ h => h) hSS hS rfl (fun w hSw => ?_) ?_
        rotate_left
        · obtain ⟨q0, q1, q2, q3, q4, q5, q6, q7, q8, q9, q10, q11, q12, q13, q14, q15, q16, q17, q18⟩ := hSw; go_simp; first | done | with_reducible rfl
        simp only [Act.put, List.setIfInBounds_toArray, List.set_cons_zero, List.set_cons_succ]
        refine lin_val (i := 30) (v := ?_) rfl (by kernel_rfl) (by kernel_rfl) (by kernel_rfl) (fun _ _ _ h => h) hSS hS rfl (fun w hSw => ?_) ?_
        rotate_left
        · obtain ⟨q0, q1, q2, q3, q4, q5, q6, q7, q8, q9, q10, q11, q12, q13, q14, q15, q16, q17, q18⟩ := hSw; go_simp; first | done | with_reducible rfl
        simp only [Act.put, List.setIfInBounds_toArray, List.set_cons_zero, List.set_cons_succ]
        refine lin_val (i := 31) (v := ?_) rfl (by kernel_rfl) (by kernel_rfl) (by kernel_rfl) (fun _ _ _ h => h) hSS hS rfl (fun w hSw => ?_) ?_
        rotate_left
        · obtain ⟨q0, q1, q2, q3, q4, q5, q6, q7, q8, q9, q10, q11, q12, q13, q14, q15, q16, q17, q18⟩ := hSw; go_simp; first | done | with_reducible rfl
        simp only [Act.put, List.setIfInBounds_toArray, List.set_cons_zero, List.set_cons_succ]
        refine lin_val (i := 32) (v := ?_) rfl (by kernel_rfl) (by kernel_rfl) (by kernel_rfl) (fun _ _ _ h => h) hSS hS rfl (fun w hSw => ?_) ?_
        rotate_left
        · obtain ⟨q0, q1, q2, q3, q4, q5, q6, q7, q8, q9, q10, q11, q12, q13, q14, q15, q16, q17, q18⟩ := hSw; go_simp; first | done | with_reducible rfl
        simp only [Act.put, List.setIfInBounds_toArray, List.set_cons_zero, List.set_cons_succ]
        refine lin_val (i := 33) (v := ?_) rfl (by kernel_rfl) (by kernel_rfl) (by kernel_rfl) (fun _ _ _ h => h) hSS hS rfl (fun w hSw => ?_) ?_
        rotate_left
        · obtain ⟨q0, q1, q2, q3, q4, q5, q6, q7, q8, q9, q10, q11, q12, q13, q14, q15, q16, q17, q18⟩ := hSw; go_simp; first | done | with_reducible rfl
        simp only [Act.put, List.setIfInBounds_toArray, List.set_cons_zero, List.set_cons_succ]
        refine lin_call (i := 34) rfl (by kernel_rfl) (by kernel_rfl) (by kernel_rfl) (fun _ _ _ h => h) hSS hS rfl (fun w hSw => by obtain ⟨q0, q1, q2, q3, q4, q5, q6, q7, q8, q9, q10, q11, q12, q13, q14, q15, q16, q17, q18⟩ := hSw; exact qa3 w q18) (fun w hSw => ?_) ?_
        · obtain ⟨q0, q1, q2, q3, q4, q5, q6, q7, q8, q9, q10, q11, q12, q13, q14, q15, q16, q17, q18⟩ := hSw; go_simp
        simp only [Act.put, List.setIfInBounds_toArray, List.set_cons_zero, List.set_cons_succ]
        refine lin_val (i := 35) (v := ?_) rfl (by kernel_rfl) (by kernel_rfl) (by kernel_rfl) (fun _ _ _ h => h) hSS hS rfl (fun w hSw => ?_) ?_
        rotate_left
        · obtain ⟨q0, q1, q2, q3, q4, q5, q6, q7, q8, q9, q10, q11, q12, q13, q14, q15, q16, q17, q18⟩ := hSw; go_simp; first | done | with_reducible rfl
        simp only [Act.put, List.setIfInBounds_toArray, List.set_cons_zero, List.set_cons_succ]
        refine lin_val (i := 36) (v := ?_) rfl (by kernel_rfl) (by kernel_rfl) (by kernel_rfl) (fun _ _ _ h => h) hSS hS rfl (fun w hSw => ?_) ?_
        rotate_left
        · obtain ⟨q0, q1, q2, q3, q4, q5, q6, q7, q8, q9, q10, q11, q12, q13, q14, q15, q16, q17, q18⟩ := hSw; go_simp; first | done | with_reducible rfl
        simp only [Act.put, List.setIfInBounds_toArray, List.set_cons_zero, List.set_cons_succ]
        refine lin_done (by kernel_rfl) (fun w6 kw6 => ?_) _
        clear hS hSS
        have HKE := hid (((HKW.out.nil H55.out).nil (Kp.refl _ _).drew).nil kw6)
        clear kw6
        go_wp2_with fail
        go_ret
        exact ⟨rfl, HKE.out⟩
      | true =>
        have hl : L2 = L1 := HSH.out rfl
        subst hl
        go_wp2_with fail
        refine lin_start (fun w' => w'.cell? ⟨gA, 0, none⟩ = some (Value.int .i64 (k : Int)) ∧ w'.cell? ⟨gA, 1, none⟩ = some (Value.int .u64 (m : Int)) ∧ w'.cell? ⟨gA, 2, none⟩ = some (Value.bool (vN num)) ∧ w'.cell? ⟨gA, 3, none⟩ = some (Value.string ⟨(vD num).toArray⟩) ∧ w'.cell? ⟨gA, 4, none⟩ = some (Value.int .i64 (vS num)) ∧ w'.cell? ⟨gA, 5, none⟩ = some (Value.string ⟨t.toArray⟩) ∧ w'.cell? ⟨gA, 6, none⟩ = some (Value.slice A1 nk ck) ∧ w'.cell? ⟨gA, 7, none⟩ = some (Value.slice B1 nb cb) ∧ w'.cell? ⟨gA, 8, none⟩ = some (Value.int .i64 (code : Int)) ∧ w'.cell? ⟨gB, 0, none⟩ = some (Value.int .i64 (k' : Int)) ∧ w'.cell? ⟨gB, 1, none⟩ = some (Value.int .u64 (m' : Int)) ∧ w'.cell? ⟨gB, 2, none⟩ = some (Value.bool (vN num')) ∧ w'.cell? ⟨gB, 3, none⟩ = some (Value.string ⟨(vD num').toArray⟩) ∧ w'.cell? ⟨gB, 4, none⟩ = some (Value.int .i64 (vS num')) ∧ w'.cell? ⟨gB, 5, none⟩ = some (Value.string ⟨t'.toArray⟩) ∧ w'.cell? ⟨gB, 6, none⟩ = some (Value.slice A2 nk' ck') ∧ w'.cell? ⟨gB, 7, none⟩ = some (Value.slice B2 nb' cb') ∧ w'.cell? ⟨gB, 8, none⟩ = some (Value.int .i64 (code' : Int)) ∧ Kp [] w55 w') ((Stays.cell _ _).and ((Stays.cell _ _).and ((Stays.cell _ _).and ((Stays.cell _ _).and ((Stays.cell _ _).and ((Stays.cell _ _).and ((Stays.cell _ _).and ((Stays.cell _ _).and ((Stays.cell _ _).and ((Stays.cell _ _).and ((Stays.cell _ _).and ((Stays.cell _ _).and ((Stays.cell _ _).and ((Stays.cell _ _).and ((Stays.cell _ _).and ((Stays.cell _ _).and ((Stays.cell _ _).and ((Stays.cell _ _).and ((Stays.kp _ _)))))))))))))))))))) (by kernel_rfl) ⟨x0, x1, x2, x3, x4, x5, x6, x7, x8, y0, y1, y2, y3, y4, y5, y6, y7, y8, (Kp.refl _ _).drew⟩ (fun hSS hS => ?_)
        refine lin_val (i := 0) (v := ?_) rfl (by kernel_rfl) (by kernel_rfl) (by kernel_rfl) (fun _ _ _ h => h) hSS hS rfl (fun w hSw => ?_) ?_
        rotate_left
        · obtain ⟨q0, q1, q2, q3, q4, q5, q6, q7, q8, q9, q10, q11, q12, q13, q14, q15, q16, q17, q18⟩ := hSw; go_simp; first | done | with_reducible rfl
        simp only [Act.put, List.setIfInBounds_toArray, List.set_cons_zero, List.set_cons_succ]
        refine lin_val (i := 1) (v := ?_) rfl (by kernel_rfl) (by kernel_rfl) (by kernel_rfl) (fun _ _ _ h => h) hSS hS rfl (fun w hSw => ?_) ?_
        rotate_left
        · obtain ⟨q0, q1, q2, q3, q4, q5, q6, q7, q8, q9, q10, q11, q12, q13, q14, q15, q16, q17, q18⟩ := hSw; go_simp; first | done | with_reducible rfl
        simp only [Act.put, List.setIfInBounds_toArray, List.set_cons_zero, List.set_cons_succ]
        refine lin_val (i := 2) (v := ?_) rfl (by kernel_rfl) (by kernel_rfl) (by kernel_rfl) (fun _ _ _ h => h) hSS hS rfl (fun w hSw => ?_) ?_
        rotate_left
        · obtain ⟨q0, q1, q2, q3, q4, q5, q6, q7, q8, q9, q10, q11, q12, q13, q14, q15, q16, q17, q18⟩ := hSw; go_simp; first | done | with_reducible rfl
        simp only [Act.put, List.setIfInBounds_toArray, List.set_cons_zero, List.set_cons_succ]
        refine lin_val (i := 3) (v := ?_) rfl (by kernel_rfl) (by kernel_rfl) (by kernel_rfl) (fun _ _ _ h => h) hSS hS rfl (fun w hSw => ?_) ?_
        rotate_left
        · obtain ⟨q0, q1, q2, q3, q4, q5, q6, q7, q8, q9, q10, q11, q12, q13, q14, q15, q16, q17, q18⟩ := hSw; go_simp; first | done | with_reducible rfl
        simp only [Act.put, List.setIfInBounds_toArray, List.set_cons_zero, List.set_cons_succ]
        refine lin_val (i := 4) (v := ?_) rfl (by kernel_rfl) (by kernel_rfl) (by kernel_rfl) (fun _ _ _ h => h) hSS hS rfl (fun w hSw => ?_) ?_
        rotate_left
        · obtain ⟨q0, q1, q2, q3, q4, q5, q6, q7, q8, q9, q10, q11, q12, q13, q14, q15, q16, q17, q18⟩ := hSw; go_simp; first | done | with_reducible rfl
        simp only [Act.put, List.setIfInBounds_toArray, List.set_cons_zero, List.set_cons_succ]
        refine lin_val (i := 5) (v := ?_) rfl (by kernel_rfl) (by kernel_rfl) (by kernel_rfl) (fun _ _ _ h => h) hSS hS rfl (fun w hSw => ?_) ?_
        rotate_left
        · obtain ⟨q0, q1, q2, q3, q4, q5, q6, q7, q8, q9, q10, q11, q12, q13, q14, q15, q16, q17, q18⟩ := hSw; go_simp; first | done | with_reducible rfl
        simp only [Act.put, List.setIfInBounds_toArray, List.set_cons_zero, List.set_cons_succ]
        refine lin_call (i := 6) rfl (by kernel_rfl) (by kernel_rfl) (by kernel_rfl) (fun _ _ _ h => h) hSS hS rfl (fun w hSw => by obtain ⟨q0, q1, q2, q3, q4, q5, q6, q7, q8, q9, q10, q11, q12, q13, q14, q15, q16, q17, q18⟩ := hSw; exact qr w q18) (fun w hSw => ?_) ?_
        · obtain ⟨q0, q1, q2, q3, q4, q5, q6, q7, q8, q9, q10, q11, q12, q13, q14, q15, q16, q17, q18⟩ := hSw; go_simp
        simp only [Act.put, List.setIfInBounds_toArray, List.set_cons_zero, List.set_cons_succ]
        refine lin_val (i := 7) (v := ?_) rfl (by kernel_rfl) (by kernel_rfl) (by kernel_rfl) (fun _ _ _ h => h) hSS hS rfl (fun w hSw => ?_) ?_
        rotate_left
        · obtain ⟨q0, q1, q2, q3, q4, q5, q6, q7, q8, q9, q10, q11, q12, q13, q14, q15, q16, q17, q18⟩ := hSw; go_simp; first | done | with_reducible rfl
        simp only [Act.put, List.setIfInBounds_toArray, List.set_cons_zero, List.set_cons_succ]
        refine lin_val (i := 8) (v := ?_) rfl (by kernel_rfl) (by kernel_rfl) (by kernel_rfl) (fun _ _ _ h => h) hSS hS rfl (fun w hSw => ?_) ?_
        rotate_left
        · obtain ⟨q0, q1, q2, q3, q4, q5, q6, q7, q8, q9, q10, q11, q12, q13, q14, q15, q16, q17, q18⟩ := hSw; go_simp; first | done | with_reducible rfl
        simp only [Act.put, List.setIfInBounds_toArray, List.set_cons_zero, List.set_cons_succ]
        refine lin_val (i := 9) (v := ?_) rfl (by kernel_rfl) (by kernel_rfl) (by kernel_rfl) (fun _ _ _ h => h) hSS hS rfl (fun w hSw => ?_) ?_
        rotate_left
        · obtain ⟨q0, q1, q2, q3, q4, q5, q6, q7, q8, q9, q10, q11, q12, q13, q14, q15, q16, q17, q18⟩ := hSw; go_simp; first | done | with_reducible rfl
        simp only [Act.put, List.setIfInBounds_toArray, List.set_cons_zero, List.set_cons_succ]
        refine lin_val (i := 10) (v := ?_) rfl (by kernel_rfl) (by kernel_rfl) (by kernel_rfl) (fun _ _ _ h => h) hSS hS rfl (fun w hSw => ?_) ?_
        rotate_left
        · obtain ⟨q0, q1, q2, q3, q4, q5, q6, q7, q8, q9, q10, q11, q12, q13, q14, q15, q16, q17, q18⟩ := hSw; go_simp; first | done | with_reducible rfl
        simp only [Act.put, List.setIfInBounds_toArray, List.set_cons_zero, List.set_cons_succ]
        refine lin_val (i := 11) (v := ?_) rfl (by kernel_rfl) (by kernel_rfl) (by kernel_rfl) (fun _ _ _ h => h) hSS hS rfl (fun w hSw => ?_) ?_
        rotate_left
        · obtain ⟨q0, q1, q2, q3, q4, q5, q6, q7, q8, q9, q10, q11, q12, q13, q14, q15, q16, q17, q18⟩ := hSw; go_simp; first | done | with_reducible rfl
        simp only [Act.put, List.setIfInBounds_toArray, List.set_cons_zero, List.set_cons_succ]
        refine lin_val (i := 12) (v := ?_) rfl (by kernel_rfl) (by kernel_rfl) (by kernel_rfl) (fun _ _ _ h => h) hSS hS rfl (fun w hSw => ?_) ?_
        rotate_left
        · obtain ⟨q0, q1, q2, q3, q4, q5, q6, q7, q8, q9, q10, q11, q12, q13, q14, q15, q16, q17, q18⟩ := hSw; go_simp; first | done | with_reducible rfl
        simp only [Act.put, List.setIfInBounds_toArray, List.set_cons_zero, List.set_cons_succ]
        refine lin_val (i := 13) (v := ?_) rfl (by kernel_rfl) (by kernel_rfl) (by kernel_rfl) (fun _ _ _ h => h) hSS hS rfl (fun w hSw => ?_) ?_
        rotate_left
        · obtain ⟨q0, q1, q2, q3, q4, q5, q6, q7, q8, q9, q10, q11, q12, q13, q14, q15, q16, q17, q18⟩ := hSw; go_simp; first | done | with_reducible rfl
        simp only [Act.put, List.setIfInBounds_toArray, List.set_cons_zero, List.set_cons_succ]
        refine lin_val (i := 14) (v := ?_) rfl (by kernel_rfl) (by kernel_rfl) (by kernel_rfl) (fun _ _ _ h => h) hSS hS rfl (fun w hSw => ?_) ?_
        rotate_left
        · obtain ⟨q0, q1, q2, q3, q4, q5, q6, q7, q8, q9, q10, q11, q12, q13, q14, q15, q16, q17, q18⟩ := hSw; go_simp; first | done | with_reducible rfl
        simp only [Act.put, List.setIfInBounds_toArray, List.set_cons_zero, List.set_cons_succ]
        refine lin_call (i := 15) rfl (by kernel_rfl) (by kernel_rfl) (by kernel_rfl) (fun _ _ _ h => h) hSS hS rfl (fun w hSw => by obtain ⟨q0, q1, q2, q3, q4, q5, q6, q7, q8, q9, q10, q11, q12, q13, q14, q15, q16, q17, q18⟩ := hSw; exact qv w q18) (fun w hSw => ?_) ?_
        · obtain ⟨q0, q1, q2, q3, q4, q5, q6, q7, q8, q9, q10, q11, q12, q13, q14, q15, q16, q17, q18⟩ := hSw; go_simp
        simp only [Act.put, List.setIfInBounds_toArray, List.set_cons_zero, List.set_cons_succ]
        refine lin_val (i := 16) (v := ?_) rfl (by kernel_rfl) (by kernel_rfl) (by kernel_rfl) (fun _ _ _ h => h) hSS hS rfl (fun w hSw => ?_) ?_
        rotate_left
        · obtain ⟨q0, q1, q2, q3, q4, q5, q6, q7, q8, q9, q10, q11, q12, q13, q14, q15, q16, q17, q18⟩ := hSw; go_simp; first | done | with_reducible rfl
        simp only [Act.put, List.setIfInBounds_toArray, List.set_cons_zero, List.set_cons_succ]
        refine lin_val (i := 17) (v := ?_) rfl (by kernel_rfl) (by kernel_rfl) (by kernel_rfl) (fun _ _ _ h => h) hSS hS rfl (fun w hSw => ?_) ?_
        rotate_left
        · obtain ⟨q0, q1, q2, q3, q4, q5, q6, q7, q8, q9, q10, q11, q12, q13, q14, q15, q16, q17, q18⟩ := hSw; go_simp; first | done | with_reducible rfl
        simp only [Act.put, List.setIfInBounds_toArray, List.set_cons_zero, List.set_cons_succ]
        refine lin_call (i := 18) rfl (by kernel_rfl) (by kernel_rfl) (by kernel_rfl) (fun _ _ _ h => h) hSS hS rfl (fun w hSw => by obtain ⟨q0, q1, q2, q3, q4, q5, q6, q7, q8, q9, q10, q11, q12, q13, q14, q15, q16, q17, q18⟩ := hSw; exact qv2 w q18) (fun w hSw => ?_) ?_
        · obtain ⟨q0, q1, q2, q3, q4, q5, q6, q7, q8, q9, q10, q11, q12, q13, q14, q15, q16, q17, q18⟩ := hSw; go_simp
        simp only [Act.put, List.setIfInBounds_toArray, List.set_cons_zero, List.set_cons_succ]
        refine lin_val (i := 19) (v := ?_) rfl (by kernel_rfl) (by kernel_rfl) (by kernel_rfl) (fun _ _ _ h => h) hSS hS rfl (fun w hSw => ?_) ?_
        rotate_left
        · obtain ⟨q0, q1, q2, q3, q4, q5, q6, q7, q8, q9, q10, q11, q12, q13, q14, q15, q16, q17, q18⟩ := hSw; go_simp; first | done | with_reducible rfl
        simp only [Act.put, List.setIfInBounds_toArray, List.set_cons_zero, List.set_cons_succ]
        refine lin_val (i := 20) (v := ?_) rfl (by kernel_rfl) (by kernel_rfl) (by kernel_rfl) (fun _ _ _ h => h) hSS hS rfl (fun w hSw => ?_) ?_
        rotate_left
        · obtain ⟨q0, q1, q2, q3, q4, q5, q6, q7, q8, q9, q10, q11, q12, q13, q14, q15, q16, q17, q18⟩ := hSw; go_simp; first | done | with_reducible rfl
        simp only [Act.put, List.setIfInBounds_toArray, List.set_cons_zero, List.set_cons_succ]
        refine lin_val (i := 21) (v := ?_) rfl (by kernel_rfl) (by kernel_rfl) (by kernel_rfl) (fun _ _ _ h => h) hSS hS rfl (fun w hSw => ?_) ?_
        rotate_left
        · obtain ⟨q0, q1, q2, q3, q4, q5, q6, q7, q8, q9, q10, q11, q12, q13, q14, q15, q16, q17, q18⟩ := hSw; go_simp; first | done | with_reducible rfl
        simp only [Act.put, List.setIfInBounds_toArray, List.set_cons_zero, List.set_cons_succ]
        refine lin_val (i := 22) (v := ?_) rfl (by kernel_rfl) (by kernel_rfl) (by kernel_rfl) (fun _ _ _ h => h) hSS hS rfl (fun w hSw => ?_) ?_
        rotate_left
        · obtain ⟨q0, q1, q2, q3, q4, q5, q6, q7, q8, q9, q10, q11, q12, q13, q14, q15, q16, q17, q18⟩ := hSw; go_simp; first | done | with_reducible rfl
        simp only [Act.put, List.setIfInBounds_toArray, List.set_cons_zero, List.set_cons_succ]
        refine lin_val (i := 23) (v := ?_) rfl (by kernel_rfl) (by kernel_rfl) (by kernel_rfl) (fun _ _ _ h => h) hSS hS rfl (fun w hSw => ?_) ?_
        rotate_left
        · obtain ⟨q0, q1, q2, q3, q4, q5, q6, q7, q8, q9, q10, q11, q12, q13, q14, q15, q16, q17, q18⟩ := hSw; go_simp; first | done | with_reducible rfl
        simp only [Act.put, List.setIfInBounds_toArray, List.set_cons_zero, List.set_cons_succ]
        refine lin_val (i := 24) (v := ?_) rfl (by kernel_rfl) (by kernel_rfl) (by kernel_rfl) (fun _ _ _ h => h) hSS hS rfl (fun w hSw => ?_) ?_
        rotate_left
        · obtain ⟨q0, q1, q2, q3, q4, q5, q6, q7, q8, q9, q10, q11, q12, q13, q14, q15, q16, q17, q18⟩ := hSw; go_simp; first | done | with_reducible rfl
        simp only [Act.put, List.setIfInBounds_toArray, List.set_cons_zero, List.set_cons_succ]
        refine lin_val (i := 25) (v := ?_) rfl (by kernel_rfl) (by kernel_rfl) (by kernel_rfl) (fun _ _ _ h => h) hSS hS rfl (fun w hSw => ?_) ?_
        rotate_left
        · obtain ⟨q0, q1, q2, q3, q4, q5, q6, q7, q8, q9, q10, q11, q12, q13, q14, q15, q16, q17, q18⟩ := hSw; go_simp; first | done | with_reducible rfl
        simp only [Act.put, List.setIfInBounds_toArray, List.set_cons_zero, List.set_cons_succ]
        refine lin_val (i := 26) (v := ?_) rfl (by kernel_rfl) (by kernel_rfl) (by kernel_rfl) (fun _ _ _ h => h) hSS hS rfl (fun w hSw => ?_) ?_
        rotate_left
        · obtain ⟨q0, q1, q2, q3, q4, q5, q6, q7, q8, q9, q10, q11, q12, q13, q14, q15, q16, q17, q18⟩ := hSw; go_simp; first | done | with_reducible rfl
        simp only [Act.put, List.setIfInBounds_toArray, List.set_cons_zero, List.set_cons_succ]
        refine lin_call (i := 27) rfl (by kernel_rfl) (by kernel_rfl) (by kernel_rfl) (fun _ _ _ h => h) hSS hS rfl (fun w hSw => by obtain ⟨q0, q1, q2, q3, q4, q5, q6, q7, q8, q9, q10, q11, q12, q13, q14, q15, q16, q17, q18⟩ := hSw; exact qa2 w q18) (fun w hSw => ?_) ?_
        · obtain ⟨q0, q1, q2, q3, q4, q5, q6, q7, q8, q9, q10, q11, q12, q13, q14, q15, q16, q17, q18⟩ := hSw; go_simp
        simp only [Act.put, List.setIfInBounds_toArray, List.set_cons_zero, List.set_cons_succ]
        refine lin_val (i := 28) (v := ?_) rfl (by kernel_rfl) (by kernel_rfl) (by kernel_rfl) (fun _ _ _ h => h) hSS hS rfl (fun w hSw => ?_) ?_
        rotate_left
        · obtain ⟨q0, q1, q2, q3, q4, q5, q6, q7, q8, q9, q10, q11, q12, q13, q14, q15, q16, q17, q18⟩ := hSw; go_simp; first | done | with_reducible rfl
        simp only [Act.put, List.setIfInBounds_toArray, List.set_cons_zero, List.set_cons_succ]
        refine lin_val (i := 29) (v := ?_) rfl (by kernel_rfl) (by kernel_rfl) (by kernel_rfl) (fun _ _ _ h => h) hSS hS rfl (fun w hSw => ?_) ?_
        rotate_left
        · obtain ⟨q0, q1, q2, q3, q4, q5, q6, q7, q8, q9, q10, q11, q12, q13, q14, q15, q16, q17, q18⟩ := hSw; go_simp; first | done | with_reducible rfl
        simp only [Act.put, List.setIfInBounds_toArray, List.set_cons_zero, List.set_cons_succ]
        refine lin_val (i := 30) (v := ?_) rfl (by kernel_rfl) (by kernel_rfl) (by kernel_rfl) (fun _ _ _ h => h) hSS hS rfl (fun w hSw => ?_) ?_
        rotate_left
        · obtain ⟨q0, q1, q2, q3, q4, q5, q6, q7, q8, q9, q10, q11, q12, q13, q14, q15, q16, q17, q18⟩ := hSw; go_simp; first | done | with_reducible rfl
        simp only [Act.put, List.setIfInBounds_toArray, List.set_cons_zero, List.set_cons_succ]
        refine lin_val (i := 31) (v := ?_) rfl (by kernel_rfl) (by kernel_rfl) (by kernel_rfl) (fun _ _ _ h => h) hSS hS rfl (fun w hSw => ?_) ?_
        rotate_left
        · obtain ⟨q0, q1, q2, q3, q4, q5, q6, q7, q8, q9, q10, q11, q12, q13, q14, q15, q16, q17, q18⟩ := hSw; go_simp; first | done | with_reducible rfl
        simp only [Act.put, List.setIfInBounds_toArray, List.set_cons_zero, List.set_cons_succ]
        refine lin_val (i := 32) (v := ?_) rfl (by kernel_rfl) (by kernel_rfl) (by kernel_rfl) (fun _ _ _ h => h) hSS hS rfl (fun w hSw => ?_) ?_
        rotate_left
        · obtain ⟨q0, q1, q2, q3, q4, q5, q6, q7, q8, q9, q10, q11, q12, q13, q14, q15, q16, q17, q18⟩ := hSw; go_simp; first | done | with_reducible rfl
        simp only [Act.put, List.setIfInBounds_toArray, List.set_cons_zero, List.set_cons_succ]
        refine lin_val (i := 33) (v := ?_) rfl (by kernel_rfl) (by kernel_rfl) (by kernel_rfl) (fun _ _ _ h => h) hSS hS rfl (fun w hSw => ?_) ?_
        rotate_left
        · obtain ⟨q0, q1, q2, q3, q4, q5, q6, q7, q8, q9, q10, q11, q12, q13, q14, q15, q16, q17, q18⟩ := hSw; go_simp; first | done | with_reducible rfl
        simp only [Act.put, List.setIfInBounds_toArray, List.set_cons_zero, List.set_cons_succ]
        refine lin_call (i := 34) rfl (by kernel_rfl) (by kernel_rfl) (by kernel_rfl) (fun _ _ _ h => h) hSS hS rfl (fun w hSw => by obtain ⟨q0, q1, q2, q3, q4, q5, q6, q7, q8, q9, q10, q11, q12, q13, q14, q15, q16, q17, q18⟩ := hSw; exact qa3 w q18) (fun w hSw => ?_) ?_
        · obtain ⟨q0, q1, q2, q3, q4, q5, q6, q7, q8, q9, q10, q11, q12, q13, q14, q15, q16, q17, q18⟩ := hSw; go_simp
        simp only [Act.put, List.setIfInBounds_toArray, List.set_cons_zero, List.set_cons_succ]
        refine lin_val (i := 35) (v := ?_) rfl (by kernel_rfl) (by kernel_rfl) (by kernel_rfl) (fun _ _ _ h => h) hSS hS rfl (fun w hSw => ?_) ?_
        rotate_left
        · obtain ⟨q0, q1, q2, q3, q4, q5, q6, q7, q8, q9, q10, q11, q12, q13, q14, q15, q16, q17, q18⟩ := hSw; go_simp; first | done | with_reducible rfl
        simp only [Act.put, List.setIfInBounds_toArray, List.set_cons_zero, List.set_cons_succ]
        refine lin_val (i := 36) (v := ?_) rfl (by kernel_rfl) (by kernel_rfl) (by kernel_rfl) (fun _ _ _ h => h) hSS hS rfl (fun w hSw => ?_) ?_
        rotate_left
        · obtain ⟨q0, q1, q2, q3, q4, q5, q6, q7, q8, q9, q10, q11, q12, q13, q14, q15, q16, q17, q18⟩ := hSw; go_simp; first | done | with_reducible rfl
        simp only [Act.put, List.setIfInBounds_toArray, List.set_cons_zero, List.set_cons_succ]
        refine lin_done (by kernel_rfl) (fun w6 kw6 => ?_) _
        clear hS hSS
        have HKE := hid (((HKW.out.nil H55.out).nil (Kp.refl _ _).drew).nil kw6)
        clear kw6
        go_wp2_with fail
        go_ret
        exact ⟨rfl, HKE.out⟩
theorem alikelaw (W : World) (_ : Tabs W) (A : Option Addr) (n c : Nat) (l : List Itm) (x : ItemsAt W A c l) (y : l.length = n) (A' : Option Addr) (n' c' : Nat) (l' : List Itm) (x' : ItemsAt W A' c' l') (y' : l'.length = n') (a : Int) (ha : 0 ≤ a ∧ a ≤ 18446744073709551615) :
    Calls Tryd.prog 5 #[.slice A n c, .slice A' n' c', .int .u64 a] W fun e w' => e = .returned (.bool true) ∧ Kp [] W w' := by
  subst y y'
  obtain ⟨a, rfl, ha'⟩ := u64_nat ha
  exact alikelaw_any W A c l x A' c' l' x' a ha'
end Go.Proofs.YtpeldjihalldkaaDoor
