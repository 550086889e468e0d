/- RedactShows: what a reader may see of a value, and where something is hidden, is as the document says. -/
import Derived.Test.YtpeldjihalldkaaDoorTMore
import Derived.Test.YtpeldjihalldkaaDoorTRShow
import Derived.Test.YtpeldjihalldkaaDoorTRHoles
import Derived.Test.YtpeldjihalldkaaDoorTPlaceSame
import Derived.Test.YtpeldjihalldkaaDoorTBuilt
namespace Go.Proofs.YtpeldjihalldkaaDoor
open Go Go.RowKit Go.Lib

def fifty (x : Txt) : Txt := if 50 < x.length then x.take 50 else x
theorem fifty_len (x : Txt) : (fifty x).length ≤ 100 := by
  unfold fifty
  split
  · rw [List.length_take]; omega
  · omega
set_option maxRecDepth 100000 in
set_option maxHeartbeats 25600000 in
theorem showslaw_any (w : World) (A : Option Addr) (c : Nat) (l : List Itm) (hl : ItemsAt w A c l) (cl : Nat) (hcl : cl < 18446744073709551616) (x : Txt) (hx : x.length ≤ 9223372036854775807) :
    Calls Tryd.prog 3 #[.slice A l.length c, .int .u64 (cl : Int), .string ⟨x.toArray⟩] w fun e w' => e = .returned (.bool true) ∧ Kp [] w w' := by
  have q1 := shown9_any w
  have q2 := fun W (k : Kp [] w W) => built_any W A c l (hl.kept k)
  obtain ⟨N0, hN⟩ : ∃ N, N = l.length := ⟨_, rfl⟩
  rw [← hN] at q2 ⊢
  have HCL := hid hcl
  have hsz : (⟨x.toArray⟩ : ByteArray).size = x.length := size_mk _
  have he := extract_mk x 0 50
  rw [List.drop_zero] at he
  clear hl hN hcl
  go_enter Tryd.func3, Tryd.ntmps3
  go_wp2_with fail
  (with_reducible refine q1.mono ?_)
  rintro e w1 ⟨rfl, k1⟩
  have qb := q2 _ k1
  have HK1 := hid k1
  clear k1 q1 q2
  go_wp2_with fail
  (with_reducible refine qb.mono ?_)
  rintro e w2 ⟨va, ca, rfl, hrsa, hfa, hza, k2⟩
  have hrep := hrsa.rep
  have HA := hid (And.intro hrsa.rep (And.intro hfa hza))
  have hk2 := HK1.out.nil k2
  cases hrep with
  | mk k m num t keys kids code A1 ck B1 cb ks hA1 hB1 hr1 =>
    have hm := fine_mask hfa
    unfold vC at HA ⊢
    obtain ⟨nk, hnk⟩ : ∃ x, x = keys.length := ⟨_, rfl⟩
    obtain ⟨nb, hnb⟩ : ∃ x, x = kids.length := ⟨_, rfl⟩
    simp only [← hnk, ← hnb] at HA ⊢
    obtain ⟨va, hva⟩ : ∃ v : Vl, v = .mk k m num t keys kids code := ⟨_, rfl⟩
    rw [← hva] at HA
    obtain ⟨w3, hw3⟩ : ∃ w3, w3 = w2.alloc (.cells #[.int .i64 (k : Int), .int .u64 (m : Int), .bool (vN num), .string ⟨(vD num).toArray⟩, .int .i64 (vS num), .string ⟨t.toArray⟩, .slice A1 nk ck, .slice B1 nb cb, .int .i64 (code : Int)] 31) := ⟨_, rfl⟩
    have hk23 : Kp [] w2 w3 := by rw [hw3]; exact (Kp.refl _ _).alloc _
    obtain ⟨gV, hgV⟩ : ∃ gV, gV = w2.heap.size := ⟨_, rfl⟩
    have hca : Cells w3 gV 31 [.int .i64 (k : Int), .int .u64 (m : Int), .bool (vN num), .string ⟨(vD num).toArray⟩, .int .i64 (vS num), .string ⟨t.toArray⟩, .slice A1 nk ck, .slice B1 nb cb, .int .i64 (code : Int)] := by rw [hw3, hgV]; exact Cells.fresh w2 31 _
    have hzz := HA.out.2.2
    have hz1 : sizeV va ≤ 1000000 := by omega
    have qho := fun W (h : Kp [] w3 W) => holes_any HA.out.1 HA.out.2.1 hz1 W (hk23.nil h) cl HCL.out
    have qrho := fun W (h : Kp [] w3 W) => rholes_any HA.out.1 HA.out.2.1 hz1 W (hk23.nil h) cl HCL.out
    have qh := fun W => hidden_cells W (k : Int) m (vN num) (vD num) (vS num) t A1 nk ck B1 nb cb (code : Int) cl hm HCL.out
    have qrh := fun W => rhidden_cells W (k : Int) m (vN num) (vD num) (vS num) t A1 nk ck B1 nb cb (code : Int) cl hm HCL.out
    obtain ⟨hd, hhd⟩ : ∃ h, h = hidB m cl := ⟨_, rfl⟩
    simp only [← hhd] at qh qrh
    obtain ⟨L, hL⟩ : ∃ L, L = holesL cl [] va := ⟨_, rfl⟩
    simp only [← hL] at qho qrho
    obtain ⟨y, hy⟩ : ∃ y, y = fifty x := ⟨_, rfl⟩
    have hyl : y.length ≤ 100 := by rw [hy]; exact fifty_len x
    have qsh0 := fun W (h : Kp [] w3 W) => show_any HA.out.1 HA.out.2.1 hz1 W (hk23.nil h) cl y HCL.out hyl
    have qrs0 := fun W (h : Kp [] w3 W) => rshow_any HA.out.1 HA.out.2.1 hz1 W (hk23.nil h) cl y HCL.out hyl
    have qvw0 := fun W (h : Kp [] w3 W) => view_any HA.out.1 HA.out.2.1 hz1 W (hk23.nil h) cl HCL.out
    have qrv0 := fun W (h : Kp [] w3 W) => rshow_any HA.out.1 HA.out.2.1 hz1 W (hk23.nil h) cl [35] HCL.out (by decide)
    obtain ⟨S1, hS1⟩ : ∃ S, S = showL cl y va := ⟨_, rfl⟩
    obtain ⟨S2, hS2⟩ : ∃ S, S = showL cl [35] va := ⟨_, rfl⟩
    simp only [← hS1] at qsh0 qrs0
    simp only [← hS2] at qvw0 qrv0
    have HW3 := hid hw3
    have HGV := hid hgV
    have H3 := hid (And.intro hk2 (And.intro hk23 hca))
    have HY := hid hy
    have HQ := hid (And.intro qsh0 (And.intro qrs0 (And.intro qvw0 qrv0)))
    have a0 := hca.cell 0; have a1 := hca.cell 1; have a2 := hca.cell 2; have a3 := hca.cell 3; have a4 := hca.cell 4; have a5 := hca.cell 5; have a6 := hca.cell 6; have a7 := hca.cell 7; have a8 := hca.cell 8
    clear hrsa hfa hza k2 hA1 hB1 hr1 hnk hnb hva hw3 hk2 hk23 hca qb hzz hz1 hL hhd hm hgV hyl hy qsh0 qrs0 qvw0 qrv0 hS1 hS2
    go_upto_if 15 with fail
    rw [← HW3.out]
    try simp only [← HGV.out]
    go_cut [2] (fun v wx => v = .string ⟨y.toArray⟩ ∧ wx = w3)
    case first =>
      by_cases h : 50 < x.length
      · have hr : y = x.take 50 := by rw [HY.out]; unfold fifty; rw [if_pos h]
        rw [← hr] at he
        clear hr
        go_wp2_with fail
        go_meet
        exact ⟨rfl, rfl⟩
      · have hr : y = x := by rw [HY.out]; unfold fifty; rw [if_neg h]
        subst hr
        clear he
        go_wp2_with fail
        go_meet
        exact ⟨rfl, rfl⟩
    case' rest => obtain ⟨rfl, hwc⟩ := hcut
    case' rest => subst wc
    clear he hsz hx
    go_upto_region 5 with fail
    refine lin_start (fun W' => Kp [] w3 W') (Stays.kp _ _) (by kernel_rfl) (Kp.refl _ _).drew (fun hSS hS => ?_)
    refine lin_val (i := 0) (v := ?_) rfl (by kernel_rfl) (by kernel_rfl) (by kernel_rfl) (fun _ _ _ h => h) hSS hS rfl (fun W' hSw => ?_) ?_
    rotate_left
    · have a0 := hSw.cell a0 (by simp); have a1 := hSw.cell a1 (by simp); have a2 := hSw.cell a2 (by simp); have a3 := hSw.cell a3 (by simp); have a4 := hSw.cell a4 (by simp); have a5 := hSw.cell a5 (by simp); have a6 := hSw.cell a6 (by simp); have a7 := hSw.cell a7 (by simp); have a8 := hSw.cell a8 (by simp); go_simp; first | done | with_reducible rfl
    try simp only [Act.put, List.setIfInBounds_toArray, List.set_cons_zero, List.set_cons_succ]
    refine lin_val (i := 1) (v := ?_) rfl (by kernel_rfl) (by kernel_rfl) (by kernel_rfl) (fun _ _ _ h => h) hSS hS rfl (fun W' hSw => ?_) ?_
    rotate_left
    · go_simp; first | done | with_reducible rfl
    try simp only [Act.put, List.setIfInBounds_toArray, List.set_cons_zero, List.set_cons_succ]
    refine lin_val (i := 3) (v := ?_) rfl (by kernel_rfl) (by kernel_rfl) (by kernel_rfl) (fun _ _ _ h => h) hSS hS rfl (fun W' hSw => ?_) ?_
    rotate_left
    · have a0 := hSw.cell a0 (by simp); have a1 := hSw.cell a1 (by simp); have a2 := hSw.cell a2 (by simp); have a3 := hSw.cell a3 (by simp); have a4 := hSw.cell a4 (by simp); have a5 := hSw.cell a5 (by simp); have a6 := hSw.cell a6 (by simp); have a7 := hSw.cell a7 (by simp); have a8 := hSw.cell a8 (by simp); go_simp; first | done | with_reducible rfl
    try simp only [Act.put, List.setIfInBounds_toArray, List.set_cons_zero, List.set_cons_succ]
    refine lin_val (i := 4) (v := ?_) rfl (by kernel_rfl) (by kernel_rfl) (by kernel_rfl) (fun _ _ _ h => h) hSS hS rfl (fun W' hSw => ?_) ?_
    rotate_left
    · go_simp; first | done | with_reducible rfl
    try simp only [Act.put, List.setIfInBounds_toArray, List.set_cons_zero, List.set_cons_succ]
    refine lin_list (i := 2) (by kernel_rfl) rfl (fun wa ka Q2 hQ => ?_)
    have hka : Kp [] w3 wa := (Kp.refl _ _).drew.nil ka
    have qa := qho wa hka
    have HKA := hid hka
    clear hka ka qho
    go_wp2_with fail
    (with_reducible refine qa.mono ?_)
    rintro e wb ⟨vp1, rfl, hp1, kb⟩
    have HB := hid (And.intro hp1 (HKA.out.nil kb))
    clear hp1 kb qa
    go_wp2_with fail
    refine hQ.out _ _ HB.out.2 (fun hSb => ?_)
    clear hQ hS
    try simp only [Act.put, List.setIfInBounds_toArray, List.set_cons_zero, List.set_cons_succ]
    refine lin_list (i := 5) (by kernel_rfl) rfl (fun wc kc Q2 hQ => ?_)
    have qa := qrho wc (HB.out.2.nil kc)
    have HKC := hid kc
    clear kc qrho
    go_wp2_with fail
    (with_reducible refine qa.mono ?_)
    rintro e wd ⟨vp2, rfl, hp2, kd⟩
    have HD := hid (And.intro hp2 (And.intro (HB.out.1.kept (HKC.out.nil kd)) (HB.out.2.nil (HKC.out.nil kd))))
    clear hp2 kd qa
    go_wp2_with fail
    refine hQ.out _ _ HD.out.2.2 (fun hSd => ?_)
    clear hQ hSb
    try simp only [Act.put, List.setIfInBounds_toArray, List.set_cons_zero, List.set_cons_succ]
    refine lin_list (i := 6) (by kernel_rfl) rfl (fun we ke Q2 hQ => ?_)
    have qa := places_same (HD.out.2.1.kept ke) (HD.out.1.kept ke)
    rw [decide_eq_true (show L = L from rfl)] at qa
    have HKE := hid (HD.out.2.2.nil ke)
    clear ke
    go_wp2_with fail
    (with_reducible refine qa.mono ?_)
    rintro e wf ⟨rfl, kf⟩
    have HF := hid (HKE.out.nil kf)
    clear kf qa
    go_wp2_with fail
    refine hQ.out _ _ HF.out (fun hSf => ?_)
    clear hQ hSd
    try simp only [Act.put, List.setIfInBounds_toArray, List.set_cons_zero, List.set_cons_succ]
    refine lin_val (i := 7) (v := ?_) rfl (by kernel_rfl) (by kernel_rfl) (by kernel_rfl) (fun _ _ _ h => h) hSS hSf rfl (fun W' hSw => ?_) ?_
    rotate_left
    · go_simp; first | done | with_reducible rfl
    try simp only [Act.put, List.setIfInBounds_toArray, List.set_cons_zero, List.set_cons_succ]
    refine lin_done (by kernel_rfl) (fun w8 k8 => ?_) _
    have hk8 : Kp [] w3 w8 := HF.out.nil k8
    clear k8 hSf hSS a0 a1 a2 a3 a4 a5 a6 a7 a8
    obtain ⟨qsh0, qrs0, qvw0, qrv0⟩ := HQ.out
    have qsh := fun W (h : Kp [] w8 W) => qsh0 W (hk8.nil h)
    have qrs := fun W (h : Kp [] w8 W) => qrs0 W (hk8.nil h)
    have qvw := fun W (h : Kp [] w8 W) => qvw0 W (hk8.nil h)
    have qrv := fun W (h : Kp [] w8 W) => qrv0 W (hk8.nil h)
    have hca := H3.out.2.2.keep hk8 (by simp)
    have a0 := hca.cell 0; have a1 := hca.cell 1; have a2 := hca.cell 2; have a3 := hca.cell 3; have a4 := hca.cell 4; have a5 := hca.cell 5; have a6 := hca.cell 6; have a7 := hca.cell 7; have a8 := hca.cell 8
    have H8 := hid ((H3.out.1.nil H3.out.2.1).nil hk8)
    clear qsh0 qrs0 qvw0 qrv0 hk8 hca
    go_upto_region 6 with fail
    refine lin_start (fun w' => w'.cell? ⟨gV, 0, none⟩ = some (Value.int .i64 (k : Int)) ∧ w'.cell? ⟨gV, 1, none⟩ = some (Value.int .u64 (m : Int)) ∧ w'.cell? ⟨gV, 2, none⟩ = some (Value.bool (vN num)) ∧ w'.cell? ⟨gV, 3, none⟩ = some (Value.string ⟨(vD num).toArray⟩) ∧ w'.cell? ⟨gV, 4, none⟩ = some (Value.int .i64 (vS num)) ∧ w'.cell? ⟨gV, 5, none⟩ = some (Value.string ⟨t.toArray⟩) ∧ w'.cell? ⟨gV, 6, none⟩ = some (Value.slice A1 nk ck) ∧ w'.cell? ⟨gV, 7, none⟩ = some (Value.slice B1 nb cb) ∧ w'.cell? ⟨gV, 8, none⟩ = some (Value.int .i64 (code : Int)) ∧ Kp [] w8 w') ((Stays.cell _ _).and ((Stays.cell _ _).and ((Stays.cell _ _).and ((Stays.cell _ _).and ((Stays.cell _ _).and ((Stays.cell _ _).and ((Stays.cell _ _).and ((Stays.cell _ _).and ((Stays.cell _ _).and ((Stays.kp _ _))))))))))) (by kernel_rfl) ⟨a0, a1, a2, a3, a4, a5, a6, a7, a8, (Kp.refl _ _).drew⟩ (fun hSS hS => ?_)
    refine lin_val (i := 0) (v := ?_) rfl (by kernel_rfl) (by kernel_rfl) (by kernel_rfl) (fun _ _ _ h => h) hSS hS rfl (fun w hSw => ?_) ?_
    rotate_left
    · obtain ⟨q0, q1, q2, q3, q4, q5, q6, q7, q8, q9⟩ := hSw; go_simp; first | done | with_reducible rfl
    simp only [Act.put, List.setIfInBounds_toArray, List.set_cons_zero, List.set_cons_succ]
    refine lin_val (i := 1) (v := ?_) rfl (by kernel_rfl) (by kernel_rfl) (by kernel_rfl) (fun _ _ _ h => h) hSS hS rfl (fun w hSw => ?_) ?_
    rotate_left
    · obtain ⟨q0, q1, q2, q3, q4, q5, q6, q7, q8, q9⟩ := hSw; go_simp; first | done | with_reducible rfl
    simp only [Act.put, List.setIfInBounds_toArray, List.set_cons_zero, List.set_cons_succ]
    refine lin_val (i := 2) (v := ?_) rfl (by kernel_rfl) (by kernel_rfl) (by kernel_rfl) (fun _ _ _ h => h) hSS hS rfl (fun w hSw => ?_) ?_
    rotate_left
    · obtain ⟨q0, q1, q2, q3, q4, q5, q6, q7, q8, q9⟩ := hSw; go_simp; first | done | with_reducible rfl
    simp only [Act.put, List.setIfInBounds_toArray, List.set_cons_zero, List.set_cons_succ]
    refine lin_val (i := 3) (v := ?_) rfl (by kernel_rfl) (by kernel_rfl) (by kernel_rfl) (fun _ _ _ h => h) hSS hS rfl (fun w hSw => ?_) ?_
    rotate_left
    · obtain ⟨q0, q1, q2, q3, q4, q5, q6, q7, q8, q9⟩ := hSw; go_simp; first | done | with_reducible rfl
    simp only [Act.put, List.setIfInBounds_toArray, List.set_cons_zero, List.set_cons_succ]
    refine lin_call (i := 4) rfl (by kernel_rfl) (by kernel_rfl) (by kernel_rfl) (fun _ _ _ h => h) hSS hS rfl (fun w _ => qh w) (fun w hSw => ?_) ?_
    · obtain ⟨q0, q1, q2, q3, q4, q5, q6, q7, q8, q9⟩ := hSw; go_simp
    simp only [Act.put, List.setIfInBounds_toArray, List.set_cons_zero, List.set_cons_succ]
    refine lin_val (i := 5) (v := ?_) rfl (by kernel_rfl) (by kernel_rfl) (by kernel_rfl) (fun _ _ _ h => h) hSS hS rfl (fun w hSw => ?_) ?_
    rotate_left
    · obtain ⟨q0, q1, q2, q3, q4, q5, q6, q7, q8, q9⟩ := hSw; go_simp; first | done | with_reducible rfl
    simp only [Act.put, List.setIfInBounds_toArray, List.set_cons_zero, List.set_cons_succ]
    refine lin_val (i := 6) (v := ?_) rfl (by kernel_rfl) (by kernel_rfl) (by kernel_rfl) (fun _ _ _ h => h) hSS hS rfl (fun w hSw => ?_) ?_
    rotate_left
    · obtain ⟨q0, q1, q2, q3, q4, q5, q6, q7, q8, q9⟩ := hSw; go_simp; first | done | with_reducible rfl
    simp only [Act.put, List.setIfInBounds_toArray, List.set_cons_zero, List.set_cons_succ]
    refine lin_call (i := 7) rfl (by kernel_rfl) (by kernel_rfl) (by kernel_rfl) (fun _ _ _ h => h) hSS hS rfl (fun w _ => qrh w) (fun w hSw => ?_) ?_
    · obtain ⟨q0, q1, q2, q3, q4, q5, q6, q7, q8, q9⟩ := hSw; go_simp
    simp only [Act.put, List.setIfInBounds_toArray, List.set_cons_zero, List.set_cons_succ]
    refine lin_val (i := 8) (v := ?_) rfl (by kernel_rfl) (by kernel_rfl) (by kernel_rfl) (fun _ _ _ h => h) hSS hS rfl (fun w hSw => ?_) ?_
    rotate_left
    · obtain ⟨q0, q1, q2, q3, q4, q5, q6, q7, q8, q9⟩ := hSw; go_simp; first | done | with_reducible rfl
    simp only [Act.put, List.setIfInBounds_toArray, List.set_cons_zero, List.set_cons_succ]
    refine lin_val (i := 9) (v := ?_) rfl (by kernel_rfl) (by kernel_rfl) (by kernel_rfl) (fun _ _ _ h => h) hSS hS rfl (fun w hSw => ?_) ?_
    rotate_left
    · obtain ⟨q0, q1, q2, q3, q4, q5, q6, q7, q8, q9⟩ := hSw; go_simp; first | done | with_reducible rfl
    simp only [Act.put, List.setIfInBounds_toArray, List.set_cons_zero, List.set_cons_succ]
    refine lin_val (i := 10) (v := ?_) rfl (by kernel_rfl) (by kernel_rfl) (by kernel_rfl) (fun _ _ _ h => h) hSS hS rfl (fun w hSw => ?_) ?_
    rotate_left
    · obtain ⟨q0, q1, q2, q3, q4, q5, q6, q7, q8, q9⟩ := hSw; go_simp; first | done | with_reducible rfl
    simp only [Act.put, List.setIfInBounds_toArray, List.set_cons_zero, List.set_cons_succ]
    refine lin_val (i := 11) (v := ?_) rfl (by kernel_rfl) (by kernel_rfl) (by kernel_rfl) (fun _ _ _ h => h) hSS hS rfl (fun w hSw => ?_) ?_
    rotate_left
    · obtain ⟨q0, q1, q2, q3, q4, q5, q6, q7, q8, q9⟩ := hSw; go_simp; first | done | with_reducible rfl
    simp only [Act.put, List.setIfInBounds_toArray, List.set_cons_zero, List.set_cons_succ]
    refine lin_val (i := 12) (v := ?_) rfl (by kernel_rfl) (by kernel_rfl) (by kernel_rfl) (fun _ _ _ h => h) hSS hS rfl (fun w hSw => ?_) ?_
    rotate_left
    · obtain ⟨q0, q1, q2, q3, q4, q5, q6, q7, q8, q9⟩ := hSw; go_simp; first | done | with_reducible rfl
    simp only [Act.put, List.setIfInBounds_toArray, List.set_cons_zero, List.set_cons_succ]
    refine lin_val (i := 13) (v := ?_) rfl (by kernel_rfl) (by kernel_rfl) (by kernel_rfl) (fun _ _ _ h => h) hSS hS rfl (fun w hSw => ?_) ?_
    rotate_left
    · obtain ⟨q0, q1, q2, q3, q4, q5, q6, q7, q8, q9⟩ := hSw; go_simp; first | done | with_reducible rfl
    simp only [Act.put, List.setIfInBounds_toArray, List.set_cons_zero, List.set_cons_succ]
    refine lin_call (i := 14) rfl (by kernel_rfl) (by kernel_rfl) (by kernel_rfl) (fun _ _ _ h => h) hSS hS rfl (fun w hSw => by obtain ⟨q0, q1, q2, q3, q4, q5, q6, q7, q8, q9⟩ := hSw; exact qsh w q9) (fun w hSw => ?_) ?_
    · obtain ⟨q0, q1, q2, q3, q4, q5, q6, q7, q8, q9⟩ := hSw; go_simp
    simp only [Act.put, List.setIfInBounds_toArray, List.set_cons_zero, List.set_cons_succ]
    refine lin_val (i := 15) (v := ?_) rfl (by kernel_rfl) (by kernel_rfl) (by kernel_rfl) (fun _ _ _ h => h) hSS hS rfl (fun w hSw => ?_) ?_
    rotate_left
    · obtain ⟨q0, q1, q2, q3, q4, q5, q6, q7, q8, q9⟩ := hSw; go_simp; first | done | with_reducible rfl
    simp only [Act.put, List.setIfInBounds_toArray, List.set_cons_zero, List.set_cons_succ]
    refine lin_val (i := 16) (v := ?_) rfl (by kernel_rfl) (by kernel_rfl) (by kernel_rfl) (fun _ _ _ h => h) hSS hS rfl (fun w hSw => ?_) ?_
    rotate_left
    · obtain ⟨q0, q1, q2, q3, q4, q5, q6, q7, q8, q9⟩ := hSw; go_simp; first | done | with_reducible rfl
    simp only [Act.put, List.setIfInBounds_toArray, List.set_cons_zero, List.set_cons_succ]
    refine lin_val (i := 17) (v := ?_) rfl (by kernel_rfl) (by kernel_rfl) (by kernel_rfl) (fun _ _ _ h => h) hSS hS rfl (fun w hSw => ?_) ?_
    rotate_left
    · obtain ⟨q0, q1, q2, q3, q4, q5, q6, q7, q8, q9⟩ := hSw; go_simp; first | done | with_reducible rfl
    simp only [Act.put, List.setIfInBounds_toArray, List.set_cons_zero, List.set_cons_succ]
    refine lin_call (i := 18) rfl (by kernel_rfl) (by kernel_rfl) (by kernel_rfl) (fun _ _ _ h => h) hSS hS rfl (fun w hSw => by obtain ⟨q0, q1, q2, q3, q4, q5, q6, q7, q8, q9⟩ := hSw; exact qrs w q9) (fun w hSw => ?_) ?_
    · obtain ⟨q0, q1, q2, q3, q4, q5, q6, q7, q8, q9⟩ := hSw; go_simp
    simp only [Act.put, List.setIfInBounds_toArray, List.set_cons_zero, List.set_cons_succ]
    refine lin_val (i := 19) (v := ?_) rfl (by kernel_rfl) (by kernel_rfl) (by kernel_rfl) (fun _ _ _ h => h) hSS hS rfl (fun w hSw => ?_) ?_
    rotate_left
    · obtain ⟨q0, q1, q2, q3, q4, q5, q6, q7, q8, q9⟩ := hSw; go_simp; first | done | with_reducible rfl
    simp only [Act.put, List.setIfInBounds_toArray, List.set_cons_zero, List.set_cons_succ]
    refine lin_val (i := 20) (v := ?_) rfl (by kernel_rfl) (by kernel_rfl) (by kernel_rfl) (fun _ _ _ h => h) hSS hS rfl (fun w hSw => ?_) ?_
    rotate_left
    · obtain ⟨q0, q1, q2, q3, q4, q5, q6, q7, q8, q9⟩ := hSw; go_simp; first | done | with_reducible rfl
    simp only [Act.put, List.setIfInBounds_toArray, List.set_cons_zero, List.set_cons_succ]
    refine lin_val (i := 21) (v := ?_) rfl (by kernel_rfl) (by kernel_rfl) (by kernel_rfl) (fun _ _ _ h => h) hSS hS rfl (fun w hSw => ?_) ?_
    rotate_left
    · obtain ⟨q0, q1, q2, q3, q4, q5, q6, q7, q8, q9⟩ := hSw; go_simp; first | done | with_reducible rfl
    simp only [Act.put, List.setIfInBounds_toArray, List.set_cons_zero, List.set_cons_succ]
    refine lin_val (i := 22) (v := ?_) rfl (by kernel_rfl) (by kernel_rfl) (by kernel_rfl) (fun _ _ _ h => h) hSS hS rfl (fun w hSw => ?_) ?_
    rotate_left
    · obtain ⟨q0, q1, q2, q3, q4, q5, q6, q7, q8, q9⟩ := hSw; go_simp; first | done | with_reducible rfl
    simp only [Act.put, List.setIfInBounds_toArray, List.set_cons_zero, List.set_cons_succ]
    refine lin_val (i := 23) (v := ?_) rfl (by kernel_rfl) (by kernel_rfl) (by kernel_rfl) (fun _ _ _ h => h) hSS hS rfl (fun w hSw => ?_) ?_
    rotate_left
    · obtain ⟨q0, q1, q2, q3, q4, q5, q6, q7, q8, q9⟩ := hSw; go_simp; first | done | with_reducible rfl
    simp only [Act.put, List.setIfInBounds_toArray, List.set_cons_zero, List.set_cons_succ]
    refine lin_call (i := 24) rfl (by kernel_rfl) (by kernel_rfl) (by kernel_rfl) (fun _ _ _ h => h) hSS hS rfl (fun w hSw => by obtain ⟨q0, q1, q2, q3, q4, q5, q6, q7, q8, q9⟩ := hSw; exact qvw w q9) (fun w hSw => ?_) ?_
    · obtain ⟨q0, q1, q2, q3, q4, q5, q6, q7, q8, q9⟩ := hSw; go_simp
    simp only [Act.put, List.setIfInBounds_toArray, List.set_cons_zero, List.set_cons_succ]
    refine lin_val (i := 25) (v := ?_) rfl (by kernel_rfl) (by kernel_rfl) (by kernel_rfl) (fun _ _ _ h => h) hSS hS rfl (fun w hSw => ?_) ?_
    rotate_left
    · obtain ⟨q0, q1, q2, q3, q4, q5, q6, q7, q8, q9⟩ := hSw; go_simp; first | done | with_reducible rfl
    simp only [Act.put, List.setIfInBounds_toArray, List.set_cons_zero, List.set_cons_succ]
    refine lin_val (i := 26) (v := ?_) rfl (by kernel_rfl) (by kernel_rfl) (by kernel_rfl) (fun _ _ _ h => h) hSS hS rfl (fun w hSw => ?_) ?_
    rotate_left
    · obtain ⟨q0, q1, q2, q3, q4, q5, q6, q7, q8, q9⟩ := hSw; go_simp; first | done | with_reducible rfl
    simp only [Act.put, List.setIfInBounds_toArray, List.set_cons_zero, List.set_cons_succ]
    refine lin_call (i := 27) rfl (by kernel_rfl) (by kernel_rfl) (by kernel_rfl) (fun _ _ _ h => h) hSS hS rfl (fun w hSw => by obtain ⟨q0, q1, q2, q3, q4, q5, q6, q7, q8, q9⟩ := hSw; exact qrv w q9) (fun w hSw => ?_) ?_
    · obtain ⟨q0, q1, q2, q3, q4, q5, q6, q7, q8, q9⟩ := hSw; go_simp
    simp only [Act.put, List.setIfInBounds_toArray, List.set_cons_zero, List.set_cons_succ]
    refine lin_val (i := 28) (v := ?_) rfl (by kernel_rfl) (by kernel_rfl) (by kernel_rfl) (fun _ _ _ h => h) hSS hS rfl (fun w hSw => ?_) ?_
    rotate_left
    · obtain ⟨q0, q1, q2, q3, q4, q5, q6, q7, q8, q9⟩ := hSw; go_simp; first | done | with_reducible rfl
    simp only [Act.put, List.setIfInBounds_toArray, List.set_cons_zero, List.set_cons_succ]
    refine lin_val (i := 29) (v := ?_) rfl (by kernel_rfl) (by kernel_rfl) (by kernel_rfl) (fun _ _ _ h => h) hSS hS rfl (fun w hSw => ?_) ?_
    rotate_left
    · obtain ⟨q0, q1, q2, q3, q4, q5, q6, q7, q8, q9⟩ := hSw; go_simp; first | done | with_reducible rfl
    simp only [Act.put, List.setIfInBounds_toArray, List.set_cons_zero, List.set_cons_succ]
    refine lin_val (i := 30) (v := ?_) rfl (by kernel_rfl) (by kernel_rfl) (by kernel_rfl) (fun _ _ _ h => h) hSS hS rfl (fun w hSw => ?_) ?_
    rotate_left
    · obtain ⟨q0, q1, q2, q3, q4, q5, q6, q7, q8, q9⟩ := hSw; go_simp; first | done | with_reducible rfl
    simp only [Act.put, List.setIfInBounds_toArray, List.set_cons_zero, List.set_cons_succ]
    refine lin_val (i := 31) (v := ?_) rfl (by kernel_rfl) (by kernel_rfl) (by kernel_rfl) (fun _ _ _ h => h) hSS hS rfl (fun w hSw => ?_) ?_
    rotate_left
    · obtain ⟨q0, q1, q2, q3, q4, q5, q6, q7, q8, q9⟩ := hSw; go_simp; first | done | with_reducible rfl
    simp only [Act.put, List.setIfInBounds_toArray, List.set_cons_zero, List.set_cons_succ]
    refine lin_val (i := 32) (v := ?_) rfl (by kernel_rfl) (by kernel_rfl) (by kernel_rfl) (fun _ _ _ h => h) hSS hS rfl (fun w hSw => ?_) ?_
    rotate_left
    · obtain ⟨q0, q1, q2, q3, q4, q5, q6, q7, q8, q9⟩ := hSw; go_simp; first | done | with_reducible rfl
    simp only [Act.put, List.setIfInBounds_toArray, List.set_cons_zero, List.set_cons_succ]
    refine lin_val (i := 33) (v := ?_) rfl (by kernel_rfl) (by kernel_rfl) (by kernel_rfl) (fun _ _ _ h => h) hSS hS rfl (fun w hSw => ?_) ?_
    rotate_left
    · obtain ⟨q0, q1, q2, q3, q4, q5, q6, q7, q8, q9⟩ := hSw; go_simp; first | done | with_reducible rfl
    simp only [Act.put, List.setIfInBounds_toArray, List.set_cons_zero, List.set_cons_succ]
    refine lin_done (by kernel_rfl) (fun wE kwE => ?_) _
    clear hS hSS
    have HE := hid ((H8.out.nil (Kp.refl _ _).drew).nil kwE)
    clear kwE
    go_wp2_with fail
    go_ret
    exact ⟨rfl, HE.out⟩
theorem showslaw (W : World) (_ : Tabs W) (A : Option Addr) (n c : Nat) (l : List Itm) (x : ItemsAt W A c l) (y : l.length = n) (a : Int) (ha : 0 ≤ a ∧ a ≤ 18446744073709551615) (s : ByteArray) (hs : s.size ≤ maxLen) (_ : s.size ≤ 1048576) :
    Calls Tryd.prog 3 #[.slice A n c, .int .u64 a, .string s] W fun e w' => e = .returned (.bool true) ∧ Kp [] W w' := by
  subst y
  obtain ⟨a, rfl, ha'⟩ := u64_nat ha
  have e : s = ⟨s.data.toList.toArray⟩ := by cases s; simp
  have hl : s.data.toList.length ≤ 9223372036854775807 := by rw [Array.length_toList]; simpa [maxLen] using hs
  rw [e]
  exact showslaw_any W A c l x a ha' s.data.toList hl
end Go.Proofs.YtpeldjihalldkaaDoor
