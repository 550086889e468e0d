/- RedactNone: of a value without masks nothing is hidden; of one that is marked at its top, and not cleared, all is. -/
import Derived.Test.YtpeldjihalldkaaDoorTMore
import Derived.Test.YtpeldjihalldkaaDoorTBareW
import Derived.Test.YtpeldjihalldkaaDoorTRPrint
import Derived.Test.YtpeldjihalldkaaDoorTHoles
import Derived.Test.YtpeldjihalldkaaDoorTNoneLaw
import Derived.Test.YtpeldjihalldkaaDoorTRAlike
namespace Go.Proofs.YtpeldjihalldkaaDoor
open Go Go.RowKit Go.Lib

set_option maxRecDepth 100000 in
set_option maxHeartbeats 25600000 in
theorem nonelaw_any (w : World) (A : Option Addr) (c : Nat) (l : List Itm) (hl : ItemsAt w A c l) (cl : Nat) (hcl : cl < 18446744073709551616) (mask : Nat) (hmask : mask < 18446744073709551616) :
    Calls Tryd.prog 10 #[.slice A l.length c, .int .u64 (cl : Int), .int .u64 (mask : Int)] w fun e w' => e = .returned (.bool true) ∧ Kp [] w w' := by
  have q1 := shown9_any w
  have q2 := fun W (k : Kp [] w W) => built_any W A c l (hl.kept k)
  obtain ⟨N, hN⟩ : ∃ N, N = l.length := ⟨_, rfl⟩
  rw [← hN] at q2 ⊢
  have HCL := hid (And.intro hcl hmask)
  clear hl hN hcl hmask
  go_enter Tryd.func10, Tryd.ntmps10
  go_wp2_with fail
  (with_reducible refine q1.mono ?_)
  rintro e w1 ⟨rfl, k1⟩
  have qb := q2 _ k1
  have HK1 := hid k1
  clear k1 q1 q2
  go_wp2_with fail
  (with_reducible refine qb.mono ?_)
  rintro e w2 ⟨va, ca, rfl, hrsa, hfa, hza, k2⟩
  have hrsa2 : RepS w2 (fun x => x < w2.heap.size) va ca := hrsa.mono (fun x h => h.2)
  have HA := hid (And.intro hrsa2 (And.intro hfa hza))
  have hk2 := HK1.out.nil k2
  have hrepa := hrsa.rep
  cases hrepa with
  | mk k m num t keys kids code A1 ck B1 cb ks hA1 hB1 hr1 =>
    unfold vC at HA ⊢
    obtain ⟨nk, hnk⟩ : ∃ x, x = keys.length := ⟨_, rfl⟩
    obtain ⟨nb, hnb⟩ : ∃ x, x = kids.length := ⟨_, rfl⟩
    simp only [← hnk, ← hnb] at HA ⊢
    obtain ⟨va, hva⟩ : ∃ v : Vl, v = .mk k m num t keys kids code := ⟨_, rfl⟩
    rw [← hva] at HA
    obtain ⟨w3, hw3⟩ : ∃ w3, w3 = w2.alloc (.cells #[.int .i64 (k : Int), .int .u64 (m : Int), .bool (vN num), .string ⟨(vD num).toArray⟩, .int .i64 (vS num), .string ⟨t.toArray⟩, .slice A1 nk ck, .slice B1 nb cb, .int .i64 (code : Int)] 31) := ⟨_, rfl⟩
    have hk23 : Kp [] w2 w3 := by rw [hw3]; exact (Kp.refl _ _).alloc _
    have hca : Cells w3 w2.heap.size 31 [.int .i64 (k : Int), .int .u64 (m : Int), .bool (vN num), .string ⟨(vD num).toArray⟩, .int .i64 (vS num), .string ⟨t.toArray⟩, .slice A1 nk ck, .slice B1 nb cb, .int .i64 (code : Int)] := by rw [hw3]; exact Cells.fresh w2 31 _
    have hbr := bare_rep4 (fun _ h => h) HA.out.1 HA.out.2.1 w3 hk23
    have HW3 := hid hw3
    have H3 := hid (And.intro hk2 (And.intro hk23 hca))
    clear hrsa hrsa2 hfa hza k2 hA1 hB1 hr1 hnk hnb hva hw3 hk2 hk23 hca qb
    go_wp2_with fail
    rw [← HW3.out]
    (with_reducible refine hbr.mono ?_)
    rintro e w4 ⟨cx, rfl, hrx, k4⟩
    have hrepx := hrx.rep
    have hbf := bare_fine va HA.out.2.1
    have hbz := bare_size va
    obtain ⟨k', num', t', keys', kids', code', e1, e2⟩ := with_bare va mask
    have hfx : FineV (.mk k' 0 num' t' keys' kids' code') := e1 ▸ hbf
    rw [e1] at hrepx
    cases hrepx with
    | mk _ _ _ _ _ _ _ A2 ck' B2 cb' ks' hA2 hB2 hr2 =>
      have hrX : Rep w4 (bareV va) (vC (k' : Int) 0 (vN num') (vD num') (vS num') t' A2 keys'.length ck' B2 kids'.length cb' (code' : Int)) := by rw [e1]; exact .mk k' 0 num' t' keys' kids' code' A2 ck' B2 cb' ks' hA2 hB2 hr2
      have hrY : Rep w4 (withV (bareV va) mask) (vC (k' : Int) mask (vN num') (vD num') (vS num') t' A2 keys'.length ck' B2 kids'.length cb' (code' : Int)) := by rw [e2]; exact .mk k' mask num' t' keys' kids' code' A2 ck' B2 cb' ks' hA2 hB2 hr2
      have hfY : FineV (withV (bareV va) mask) := by
        rw [e2]
        cases hfx with
        | mk _ _ _ _ _ _ _ hk hm hn hn0 ht ht0 hkl hk0 hks hkd hc hcode hc0 hc8 hmany hf => exact .mk k' mask num' t' keys' kids' code' hk HCL.out.2 hn hn0 ht ht0 hkl hk0 hks hkd hc hcode hc0 hc8 hmany hf
      have hzY : sizeV (withV (bareV va) mask) = sizeV va := by
        rw [← hbz, e2, e1]
        unfold sizeV
        rfl
      have hk' : k' < 9 := by cases hfx; omega
      unfold vC at hrX hrY ⊢
      obtain ⟨nk', hnk'⟩ : ∃ x, x = keys'.length := ⟨_, rfl⟩
      obtain ⟨nb', hnb'⟩ : ∃ x, x = kids'.length := ⟨_, rfl⟩
      simp only [← hnk', ← hnb', Int.natCast_zero] at hrX hrY ⊢
      obtain ⟨w5, hw5⟩ : ∃ w5, w5 = w4.alloc (.cells #[.int .i64 (k' : Int), .int .u64 0, .bool (vN num'), .string ⟨(vD num').toArray⟩, .int .i64 (vS num'), .string ⟨t'.toArray⟩, .slice A2 nk' ck', .slice B2 nb' cb', .int .i64 (code' : Int)] 31) := ⟨_, rfl⟩
      have hk45 : Kp [] w4 w5 := by rw [hw5]; exact (Kp.refl _ _).alloc _
      have hcX : Cells w5 w4.heap.size 31 [.int .i64 (k' : Int), .int .u64 0, .bool (vN num'), .string ⟨(vD num').toArray⟩, .int .i64 (vS num'), .string ⟨t'.toArray⟩, .slice A2 nk' ck', .slice B2 nb' cb', .int .i64 (code' : Int)] := by rw [hw5]; exact Cells.fresh w4 31 _
      have hca := H3.out.2.2.keep (k4.nil hk45) (by simp)
      have HW5 := hid hw5
      have HX := hid (And.intro hrX (And.intro hrY (And.intro (e1 ▸ hbf : FineV (bareV va)) (And.intro hfY (And.intro hbz hzY)))))
      have H5 := hid (And.intro hca (And.intro hcX (And.intro hk45 (And.intro (H3.out.2.1.nil (k4.nil hk45)) (H3.out.1.nil (H3.out.2.1.nil (k4.nil hk45)))))))
      have qw := fun W => with4_any W (k' : Int) 0 mask (vN num') ⟨(vD num').toArray⟩ (vS num') ⟨t'.toArray⟩ A2 nk' ck' B2 nb' cb' (code' : Int) (by decide) HCL.out.2
      simp only [Int.natCast_zero, Nat.zero_or] at qw
      clear hrX hrY hbf hfx hfY hzY hbz hw5 hk45 hcX hca hrx k4 hbr e1 e2 hA2 hB2 hr2 hnk' hnb'
      go_wp2_with fail
      rw [← HW5.out]
      (with_reducible refine (qw _).mono ?_)
      rintro e w6 ⟨rfl, k6⟩
      obtain ⟨w7, hw7⟩ : ∃ w7, w7 = w6.alloc (.cells #[.int .i64 (k' : Int), .int .u64 (mask : Int), .bool (vN num'), .string ⟨(vD num').toArray⟩, .int .i64 (vS num'), .string ⟨t'.toArray⟩, .slice A2 nk' ck', .slice B2 nb' cb', .int .i64 (code' : Int)] 31) := ⟨_, rfl⟩
      have hk67 : Kp [] w6 w7 := by rw [hw7]; exact (Kp.refl _ _).alloc _
      have hk57 := k6.nil hk67
      have hcY : Cells w7 w6.heap.size 31 [.int .i64 (k' : Int), .int .u64 (mask : Int), .bool (vN num'), .string ⟨(vD num').toArray⟩, .int .i64 (vS num'), .string ⟨t'.toArray⟩, .slice A2 nk' ck', .slice B2 nb' cb', .int .i64 (code' : Int)] := by rw [hw7]; exact Cells.fresh w6 31 _
      have hca := H5.out.1.keep hk57 (by simp)
      have hcX := H5.out.2.1.keep hk57 (by simp)
      have hk47 := H5.out.2.2.1.nil hk57
      have hz1 := HA.out.2.2
      have hbz := HX.out.2.2.2.2
      have qsh := fun W (h : Kp [] w7 W) => show_any HX.out.2.1 HX.out.2.2.2.1 (by omega) W (hk47.nil h) cl [63] HCL.out.1 (by decide)
      have qho := fun W (h : Kp [] w7 W) => holes_any HX.out.2.1 HX.out.2.2.2.1 (by omega) W (hk47.nil h) cl HCL.out.1
      have hx2 := u64_andNot_nat mask cl (by simpa using HCL.out.2) (by simpa using HCL.out.1)
      have hand := andnot_zero mask cl HCL.out.2 HCL.out.1
      obtain ⟨hd, hhd⟩ : ∃ h, h = hidB mask cl := ⟨_, rfl⟩
      rw [← hhd] at hand
      obtain ⟨x, hx⟩ : ∃ x, x = mask &&& (18446744073709551615 - cl) := ⟨_, rfl⟩
      rw [← hx] at hand hx2
      have hz0 : ((x : Int) == 0) = !hd := by
        rw [← hand, Bool.eq_iff_iff, beq_iff_eq, decide_eq_true_eq]
        omega
      obtain ⟨S1, hS1⟩ : ∃ S, S = showL cl [63] (withV (bareV va) mask) := ⟨_, rfl⟩
      obtain ⟨L1, hL1⟩ : ∃ L, L = holesL cl [] (withV (bareV va) mask) := ⟨_, rfl⟩
      simp only [← hS1] at qsh
      simp only [← hL1] at qho
      have HW7 := hid hw7
      have H7 := hid (And.intro hca (And.intro hcX (And.intro hcY (And.intro hk47 (And.intro (H5.out.2.2.2.1.nil hk57) (H5.out.2.2.2.2.nil hk57))))))
      have HS := hid (And.intro hhd (And.intro hS1 hL1))
      clear hw7 hk67 hk57 hcY hca hcX hk47 hz1 hbz hand hhd hx hS1 hL1 k6 qw
      cases hd with
      | false =>
        simp only [Bool.not_false] at hz0
        go_wp2_with fail
        rw [← HW7.out]
        (with_reducible refine (qsh _ (Kp.refl _ _)).mono ?_)
        rintro e w8 ⟨rfl, k8⟩
        have hcY := H7.out.2.2.1.keep k8 (by simp)
        have y0 := hcY.cell 0; have y1 := hcY.cell 1; have y2 := hcY.cell 2; have y3 := hcY.cell 3; have y4 := hcY.cell 4; have y5 := hcY.cell 5; have y6 := hcY.cell 6; have y7 := hcY.cell 7; have y8 := hcY.cell 8
        have H8 := hid (And.intro k8 hcY)
        have qh := qho _ k8
        clear k8 hcY qsh qho
        go_wp2_with fail
        (with_reducible refine qh.mono ?_)
        rintro e w9 ⟨vp, rfl, hp, k9⟩
        have hL : L1 = [] := by rw [HS.out.2.2]; exact none_holes HS.out.1.symm [] va
        subst hL
        obtain ⟨vs, ho, -⟩ := hp
        obtain ⟨Ap, cp, rfl, -, -, -, -⟩ := ho.shape
        have eP : showL 18446744073709551615 [] va = S1 := by rw [HS.out.2.1, none_show HS.out.1.symm]; exact (bare_show (fun m h => hid_all h) cl [63] [] va HA.out.2.1).symm
        have eV : showL cl [35] (bareV va) = S1 := by rw [← eP]; exact bare_show (fun m h => hid_all h) cl [35] [] va HA.out.2.1
        have hk79 := H8.out.1.nil k9
        have hz1 := HA.out.2.2
        have hbz := HX.out.2.2.2.2.1
        have qpr := fun W (h : Kp [] w9 W) => printr_any HA.out.1.rep HA.out.2.1 (by omega) W ((H7.out.2.2.2.2.1.nil hk79).nil h)
        have qvw := fun W (h : Kp [] w9 W) => view_any HX.out.1 HX.out.2.2.1 (by omega) W ((H7.out.2.2.2.1.nil hk79).nil h) cl HCL.out.1
        simp only [eP] at qpr
        simp only [eV] at qvw
        have hca := H7.out.1.keep hk79 (by simp)
        have hcX := H7.out.2.1.keep hk79 (by simp)
        have a0 := hca.cell 0; have a1 := hca.cell 1; have a2 := hca.cell 2; have a3 := hca.cell 3; have a4 := hca.cell 4; have a5 := hca.cell 5; have a6 := hca.cell 6; have a7 := hca.cell 7; have a8 := hca.cell 8
        have H9 := hid (And.intro hk79 (And.intro (H7.out.2.2.2.2.2.nil hk79) hcX))
        clear hk79 hz1 hbz hca hcX k9 qh ho eP eV y0 y1 y2 y3 y4 y5 y6 y7 y8
        go_wp2_with fail
        (with_reducible refine (qpr _ (Kp.refl _ _)).mono ?_)
        rintro e w10 ⟨rfl, k10⟩
        have hcX := H9.out.2.2.keep k10 (by simp)
        have x0 := hcX.cell 0; have x1 := hcX.cell 1; have x2 := hcX.cell 2; have x3 := hcX.cell 3; have x4 := hcX.cell 4; have x5 := hcX.cell 5; have x6 := hcX.cell 6; have x7 := hcX.cell 7; have x8 := hcX.cell 8
        have qv := qvw _ k10
        have H10 := hid (H9.out.2.1.nil k10)
        clear k10 qpr qvw hcX a0 a1 a2 a3 a4 a5 a6 a7 a8
        go_wp2_with fail
        (with_reducible refine qv.mono ?_)
        rintro e w11 ⟨rfl, k11⟩
        have HE := hid (H10.out.nil k11)
        clear k11 qv x0 x1 x2 x3 x4 x5 x6 x7 x8
        go_wp2_with fail
        go_ret
        exact ⟨rfl, HE.out⟩
      | true =>
        simp only [Bool.not_true] at hz0
        go_wp2_with fail
        rw [← HW7.out]
        (with_reducible refine (qsh _ (Kp.refl _ _)).mono ?_)
        rintro e w8 ⟨rfl, k8⟩
        have hcY := H7.out.2.2.1.keep k8 (by simp)
        have y0 := hcY.cell 0; have y1 := hcY.cell 1; have y2 := hcY.cell 2; have y3 := hcY.cell 3; have y4 := hcY.cell 4; have y5 := hcY.cell 5; have y6 := hcY.cell 6; have y7 := hcY.cell 7; have y8 := hcY.cell 8
        have H8 := hid (And.intro k8 hcY)
        have qh := qho _ k8
        clear k8 hcY qsh qho
        go_wp2_with fail
        (with_reducible refine qh.mono ?_)
        rintro e w9 ⟨vp, rfl, hp, k9⟩
        have hL : L1 = [[]] := by rw [HS.out.2.2]; exact all_holes HS.out.1.symm [] va
        have hS : S1 = [63] := by rw [HS.out.2.1]; exact none_hid HS.out.1.symm [63] va
        subst hL hS
        obtain ⟨vs, ho, hst⟩ := hp
        obtain ⟨Ap, cp, rfl, hsp, -, hvl, hAp⟩ := ho.shape
        obtain ⟨s0, rfl⟩ : ∃ s0, vs = [s0] := List.length_eq_one_iff.1 hvl
        obtain ⟨Aq, cq, rfl, -, -, -, -⟩ := (hst 0 s0 [] rfl rfl).ex
        obtain ⟨ad, rfl, hpc⟩ := hsp 0 _ rfl
        obtain ⟨e4, -⟩ := hAp ad rfl
        obtain ⟨gP, of, pr⟩ := ad
        injection e4 with _ e5 e6
        subst e5 e6
        have hpc : w9.cell? ⟨gP, 0, none⟩ = some (.slice Aq 0 cq) := by simpa [Addr.add] using hpc
        have hk79 := H8.out.1.nil k9
        have hk49 := H7.out.2.2.2.1.nil hk79
        have hnull : FineV (.mk 1 mask none [] [] [] 0) := .mk 1 mask none [] [] [] 0 ⟨by decide, by decide⟩ HCL.out.2 (fun h => absurd h (by decide)) (fun _ => rfl) ⟨Nat.zero_le _, by decide⟩ (fun _ => rfl) (fun _ => rfl) (fun _ => rfl) (fun x h => by cases h) List.nodup_nil (fun _ _ => rfl) (by decide) (fun _ => rfl) (fun h => absurd h (by decide)) (Nat.zero_le _) (fun i v h => by cases h)
        have hnr : Rep w9 (.mk 1 mask none [] [] [] 0) _ := bare_rep (A := none) (ck := 0) (keys := []) ⟨Nat.le_refl _, by decide, fun i x h => by cases h⟩ 1 mask none [] 0
        have qn1 := fun W (h : Kp [] w9 W) => alike_any (HX.out.2.1.kept (hk49.nil h)) (hnr.kept h) HX.out.2.2.2.1 hnull cl HCL.out.1
        have qn2 := fun W (h : Kp [] w9 W) => alike_any (HX.out.2.1.kept (hk49.nil h)) (HX.out.1.kept (hk49.nil h)) HX.out.2.2.2.1 HX.out.2.2.1 cl HCL.out.1
        have qwn := fun W => with4_any W 1 0 mask false ⟨#[]⟩ 0 ⟨#[]⟩ none 0 0 none 0 0 0 (by decide) HCL.out.2
        rw [none_alike HS.out.1.symm] at qn1
        rw [none_other HS.out.1.symm] at qn2
        simp only [Int.natCast_zero, Nat.zero_or] at qwn
        unfold vC at qn1
        simp only [show vN none = false from rfl, show vD none = [] from rfl, show vS none = 0 from rfl, List.length_nil, Int.natCast_zero, Int.natCast_one] at qn1
        obtain ⟨gX, hgX⟩ : ∃ gX, gX = w4.heap.size := ⟨_, rfl⟩
        obtain ⟨gY, hgY⟩ : ∃ gY, gY = w6.heap.size := ⟨_, rfl⟩
        have hcX := H7.out.2.1.keep hk79 (by simp)
        have hcY := H8.out.2.keep k9 (by simp)
        rw [← hgX] at hcX
        rw [← hgY] at hcY
        have HG := hid (And.intro hgX hgY)
        have H9 := hid (H7.out.2.2.2.2.2.nil hk79)
        clear y0 y1 y2 y3 y4 y5 y6 y7 y8
        have x0 := hcX.cell 0; have x1 := hcX.cell 1; have x2 := hcX.cell 2; have x3 := hcX.cell 3; have x4 := hcX.cell 4; have x5 := hcX.cell 5; have x6 := hcX.cell 6; have x7 := hcX.cell 7; have x8 := hcX.cell 8
        have y0 := hcY.cell 0; have y1 := hcY.cell 1; have y2 := hcY.cell 2; have y3 := hcY.cell 3; have y4 := hcY.cell 4; have y5 := hcY.cell 5; have y6 := hcY.cell 6; have y7 := hcY.cell 7; have y8 := hcY.cell 8
        clear hk79 hk49 hnull hnr hcX hcY k9 qh ho hst hsp hvl hAp hgX hgY
        go_wp2_with fail
        simp only [← HG.out.1, ← HG.out.2]
        refine lin_start (fun w' => w'.cell? ⟨gX, 0, none⟩ = some (Value.int .i64 (k' : Int)) ∧ w'.cell? ⟨gX, 1, none⟩ = some (Value.int .u64 0) ∧ w'.cell? ⟨gX, 2, none⟩ = some (Value.bool (vN num')) ∧ w'.cell? ⟨gX, 3, none⟩ = some (Value.string ⟨(vD num').toArray⟩) ∧ w'.cell? ⟨gX, 4, none⟩ = some (Value.int .i64 (vS num')) ∧ w'.cell? ⟨gX, 5, none⟩ = some (Value.string ⟨t'.toArray⟩) ∧ w'.cell? ⟨gX, 6, none⟩ = some (Value.slice A2 nk' ck') ∧ w'.cell? ⟨gX, 7, none⟩ = some (Value.slice B2 nb' cb') ∧ w'.cell? ⟨gX, 8, none⟩ = some (Value.int .i64 (code' : Int)) ∧ w'.cell? ⟨gY, 0, none⟩ = some (Value.int .i64 (k' : Int)) ∧ w'.cell? ⟨gY, 1, none⟩ = some (Value.int .u64 (mask : Int)) ∧ w'.cell? ⟨gY, 2, none⟩ = some (Value.bool (vN num')) ∧ w'.cell? ⟨gY, 3, none⟩ = some (Value.string ⟨(vD num').toArray⟩) ∧ w'.cell? ⟨gY, 4, none⟩ = some (Value.int .i64 (vS num')) ∧ w'.cell? ⟨gY, 5, none⟩ = some (Value.string ⟨t'.toArray⟩) ∧ w'.cell? ⟨gY, 6, none⟩ = some (Value.slice A2 nk' ck') ∧ w'.cell? ⟨gY, 7, none⟩ = some (Value.slice B2 nb' cb') ∧ w'.cell? ⟨gY, 8, none⟩ = some (Value.int .i64 (code' : Int)) ∧ w'.cell? ⟨gP, 0, none⟩ = some (Value.slice Aq 0 cq) ∧ Kp [] w9 w') ((Stays.cell _ _).and ((Stays.cell _ _).and ((Stays.cell _ _).and ((Stays.cell _ _).and ((Stays.cell _ _).and ((Stays.cell _ _).and ((Stays.cell _ _).and ((Stays.cell _ _).and ((Stays.cell _ _).and ((Stays.cell _ _).and ((Stays.cell _ _).and ((Stays.cell _ _).and ((Stays.cell _ _).and ((Stays.cell _ _).and ((Stays.cell _ _).and ((Stays.cell _ _).and ((Stays.cell _ _).and ((Stays.cell _ _).and ((Stays.cell _ _).and ((Stays.kp _ _))))))))))))))))))))) (by kernel_rfl) ⟨x0, x1, x2, x3, x4, x5, x6, x7, x8, y0, y1, y2, y3, y4, y5, y6, y7, y8, hpc, (Kp.refl _ _).drew⟩ (fun hSS hS => ?_)
        refine lin_val (i := 0) (v := ?_) rfl (by kernel_rfl) (by kernel_rfl) (by kernel_rfl) (fun _ _ _ h => h) hSS hS rfl (fun w hSw => ?_) ?_
        rotate_left
        · obtain ⟨q0, q1, q2, q3, q4, q5, q6, q7, q8, q9, q10, q11, q12, q13, q14, q15, q16, q17, q18, q19⟩ := hSw; go_simp; first | done | with_reducible rfl
        simp only [Act.put, List.setIfInBounds_toArray, List.set_cons_zero, List.set_cons_succ]
        refine lin_val (i := 1) (v := ?_) rfl (by kernel_rfl) (by kernel_rfl) (by kernel_rfl) (fun _ _ _ h => h) hSS hS rfl (fun w hSw => ?_) ?_
        rotate_left
        · obtain ⟨q0, q1, q2, q3, q4, q5, q6, q7, q8, q9, q10, q11, q12, q13, q14, q15, q16, q17, q18, q19⟩ := hSw; go_simp; first | done | with_reducible rfl
        simp only [Act.put, List.setIfInBounds_toArray, List.set_cons_zero, List.set_cons_succ]
        refine lin_val (i := 2) (v := ?_) rfl (by kernel_rfl) (by kernel_rfl) (by kernel_rfl) (fun _ _ _ h => h) hSS hS rfl (fun w hSw => ?_) ?_
        rotate_left
        · obtain ⟨q0, q1, q2, q3, q4, q5, q6, q7, q8, q9, q10, q11, q12, q13, q14, q15, q16, q17, q18, q19⟩ := hSw; go_simp; first | done | with_reducible rfl
        simp only [Act.put, List.setIfInBounds_toArray, List.set_cons_zero, List.set_cons_succ]
        refine lin_val (i := 3) (v := ?_) rfl (by kernel_rfl) (by kernel_rfl) (by kernel_rfl) (fun _ _ _ h => h) hSS hS rfl (fun w hSw => ?_) ?_
        rotate_left
        · obtain ⟨q0, q1, q2, q3, q4, q5, q6, q7, q8, q9, q10, q11, q12, q13, q14, q15, q16, q17, q18, q19⟩ := hSw; go_simp; first | done | with_reducible rfl
        simp only [Act.put, List.setIfInBounds_toArray, List.set_cons_zero, List.set_cons_succ]
        refine lin_val (i := 4) (v := ?_) rfl (by kernel_rfl) (by kernel_rfl) (by kernel_rfl) (fun _ _ _ h => h) hSS hS rfl (fun w hSw => ?_) ?_
        rotate_left
        · obtain ⟨q0, q1, q2, q3, q4, q5, q6, q7, q8, q9, q10, q11, q12, q13, q14, q15, q16, q17, q18, q19⟩ := hSw; go_simp; first | done | with_reducible rfl
        simp only [Act.put, List.setIfInBounds_toArray, List.set_cons_zero, List.set_cons_succ]
        refine lin_val (i := 5) (v := ?_) rfl (by kernel_rfl) (by kernel_rfl) (by kernel_rfl) (fun _ _ _ h => h) hSS hS rfl (fun w hSw => ?_) ?_
        rotate_left
        · obtain ⟨q0, q1, q2, q3, q4, q5, q6, q7, q8, q9, q10, q11, q12, q13, q14, q15, q16, q17, q18, q19⟩ := hSw; go_simp; first | done | with_reducible rfl
        simp only [Act.put, List.setIfInBounds_toArray, List.set_cons_zero, List.set_cons_succ]
        refine lin_val (i := 6) (v := ?_) rfl (by kernel_rfl) (by kernel_rfl) (by kernel_rfl) (fun _ _ _ h => h) hSS hS rfl (fun w hSw => ?_) ?_
        rotate_left
        · obtain ⟨q0, q1, q2, q3, q4, q5, q6, q7, q8, q9, q10, q11, q12, q13, q14, q15, q16, q17, q18, q19⟩ := hSw; go_simp; first | done | with_reducible rfl
        simp only [Act.put, List.setIfInBounds_toArray, List.set_cons_zero, List.set_cons_succ]
        refine lin_val (i := 7) (v := ?_) rfl (by kernel_rfl) (by kernel_rfl) (by kernel_rfl) (fun _ _ _ h => h) hSS hS rfl (fun w hSw => ?_) ?_
        rotate_left
        · obtain ⟨q0, q1, q2, q3, q4, q5, q6, q7, q8, q9, q10, q11, q12, q13, q14, q15, q16, q17, q18, q19⟩ := hSw; go_simp; first | done | with_reducible rfl
        simp only [Act.put, List.setIfInBounds_toArray, List.set_cons_zero, List.set_cons_succ]
        refine lin_val (i := 8) (v := ?_) rfl (by kernel_rfl) (by kernel_rfl) (by kernel_rfl) (fun _ _ _ h => h) hSS hS rfl (fun w hSw => ?_) ?_
        rotate_left
        · obtain ⟨q0, q1, q2, q3, q4, q5, q6, q7, q8, q9, q10, q11, q12, q13, q14, q15, q16, q17, q18, q19⟩ := hSw; go_simp; first | done | with_reducible rfl
        simp only [Act.put, List.setIfInBounds_toArray, List.set_cons_zero, List.set_cons_succ]
        refine lin_val (i := 9) (v := ?_) rfl (by kernel_rfl) (by kernel_rfl) (by kernel_rfl) (fun _ _ _ h => h) hSS hS rfl (fun w hSw => ?_) ?_
        rotate_left
        · obtain ⟨q0, q1, q2, q3, q4, q5, q6, q7, q8, q9, q10, q11, q12, q13, q14, q15, q16, q17, q18, q19⟩ := hSw; go_simp; first | done | with_reducible rfl
        simp only [Act.put, List.setIfInBounds_toArray, List.set_cons_zero, List.set_cons_succ]
        refine lin_val (i := 10) (v := ?_) rfl (by kernel_rfl) (by kernel_rfl) (by kernel_rfl) (fun _ _ _ h => h) hSS hS rfl (fun w hSw => ?_) ?_
        rotate_left
        · obtain ⟨q0, q1, q2, q3, q4, q5, q6, q7, q8, q9, q10, q11, q12, q13, q14, q15, q16, q17, q18, q19⟩ := hSw; go_simp; first | done | with_reducible rfl
        simp only [Act.put, List.setIfInBounds_toArray, List.set_cons_zero, List.set_cons_succ]
        refine lin_val (i := 11) (v := ?_) rfl (by kernel_rfl) (by kernel_rfl) (by kernel_rfl) (fun _ _ _ h => h) hSS hS rfl (fun w hSw => ?_) ?_
        rotate_left
        · obtain ⟨q0, q1, q2, q3, q4, q5, q6, q7, q8, q9, q10, q11, q12, q13, q14, q15, q16, q17, q18, q19⟩ := hSw; go_simp; first | done | with_reducible rfl
        simp only [Act.put, List.setIfInBounds_toArray, List.set_cons_zero, List.set_cons_succ]
        refine lin_val (i := 12) (v := ?_) rfl (by kernel_rfl) (by kernel_rfl) (by kernel_rfl) (fun _ _ _ h => h) hSS hS rfl (fun w hSw => ?_) ?_
        rotate_left
        · obtain ⟨q0, q1, q2, q3, q4, q5, q6, q7, q8, q9, q10, q11, q12, q13, q14, q15, q16, q17, q18, q19⟩ := hSw; go_simp; first | done | with_reducible rfl
        simp only [Act.put, List.setIfInBounds_toArray, List.set_cons_zero, List.set_cons_succ]
        refine lin_val (i := 13) (v := ?_) rfl (by kernel_rfl) (by kernel_rfl) (by kernel_rfl) (fun _ _ _ h => h) hSS hS rfl (fun w hSw => ?_) ?_
        rotate_left
        · obtain ⟨q0, q1, q2, q3, q4, q5, q6, q7, q8, q9, q10, q11, q12, q13, q14, q15, q16, q17, q18, q19⟩ := hSw; go_simp; first | done | with_reducible rfl
        simp only [Act.put, List.setIfInBounds_toArray, List.set_cons_zero, List.set_cons_succ]
        refine lin_val (i := 14) (v := ?_) rfl (by kernel_rfl) (by kernel_rfl) (by kernel_rfl) (fun _ _ _ h => h) hSS hS rfl (fun w hSw => ?_) ?_
        rotate_left
        · obtain ⟨q0, q1, q2, q3, q4, q5, q6, q7, q8, q9, q10, q11, q12, q13, q14, q15, q16, q17, q18, q19⟩ := hSw; go_simp; first | done | with_reducible rfl
        simp only [Act.put, List.setIfInBounds_toArray, List.set_cons_zero, List.set_cons_succ]
        refine lin_val (i := 15) (v := ?_) rfl (by kernel_rfl) (by kernel_rfl) (by kernel_rfl) (fun _ _ _ h => h) hSS hS rfl (fun w hSw => ?_) ?_
        rotate_left
        · obtain ⟨q0, q1, q2, q3, q4, q5, q6, q7, q8, q9, q10, q11, q12, q13, q14, q15, q16, q17, q18, q19⟩ := hSw; go_simp; first | done | with_reducible rfl
        simp only [Act.put, List.setIfInBounds_toArray, List.set_cons_zero, List.set_cons_succ]
        refine lin_val (i := 16) (v := ?_) rfl (by kernel_rfl) (by kernel_rfl) (by kernel_rfl) (fun _ _ _ h => h) hSS hS rfl (fun w hSw => ?_) ?_
        rotate_left
        · obtain ⟨q0, q1, q2, q3, q4, q5, q6, q7, q8, q9, q10, q11, q12, q13, q14, q15, q16, q17, q18, q19⟩ := hSw; go_simp; first | done | with_reducible rfl
        simp only [Act.put, List.setIfInBounds_toArray, List.set_cons_zero, List.set_cons_succ]
        refine lin_val (i := 17) (v := ?_) rfl (by kernel_rfl) (by kernel_rfl) (by kernel_rfl) (fun _ _ _ h => h) hSS hS rfl (fun w hSw => ?_) ?_
        rotate_left
        · obtain ⟨q0, q1, q2, q3, q4, q5, q6, q7, q8, q9, q10, q11, q12, q13, q14, q15, q16, q17, q18, q19⟩ := hSw; go_simp; first | done | with_reducible rfl
        simp only [Act.put, List.setIfInBounds_toArray, List.set_cons_zero, List.set_cons_succ]
        refine lin_val (i := 18) (v := ?_) rfl (by kernel_rfl) (by kernel_rfl) (by kernel_rfl) (fun _ _ _ h => h) hSS hS rfl (fun w hSw => ?_) ?_
        rotate_left
        · obtain ⟨q0, q1, q2, q3, q4, q5, q6, q7, q8, q9, q10, q11, q12, q13, q14, q15, q16, q17, q18, q19⟩ := hSw; go_simp; first | done | with_reducible rfl
        simp only [Act.put, List.setIfInBounds_toArray, List.set_cons_zero, List.set_cons_succ]
        refine lin_val (i := 19) (v := ?_) rfl (by kernel_rfl) (by kernel_rfl) (by kernel_rfl) (fun _ _ _ h => h) hSS hS rfl (fun w hSw => ?_) ?_
        rotate_left
        · obtain ⟨q0, q1, q2, q3, q4, q5, q6, q7, q8, q9, q10, q11, q12, q13, q14, q15, q16, q17, q18, q19⟩ := hSw; go_simp; first | done | with_reducible rfl
        simp only [Act.put, List.setIfInBounds_toArray, List.set_cons_zero, List.set_cons_succ]
        refine lin_val (i := 20) (v := ?_) rfl (by kernel_rfl) (by kernel_rfl) (by kernel_rfl) (fun _ _ _ h => h) hSS hS rfl (fun w hSw => ?_) ?_
        rotate_left
        · obtain ⟨q0, q1, q2, q3, q4, q5, q6, q7, q8, q9, q10, q11, q12, q13, q14, q15, q16, q17, q18, q19⟩ := hSw; go_simp; first | done | with_reducible rfl
        simp only [Act.put, List.setIfInBounds_toArray, List.set_cons_zero, List.set_cons_succ]
        refine lin_call (i := 21) rfl (by kernel_rfl) (by kernel_rfl) (by kernel_rfl) (fun _ _ _ h => h) hSS hS rfl (fun w _ => qwn w) (fun w hSw => ?_) ?_
        · obtain ⟨q0, q1, q2, q3, q4, q5, q6, q7, q8, q9, q10, q11, q12, q13, q14, q15, q16, q17, q18, q19⟩ := hSw; go_simp
        simp only [Act.put, List.setIfInBounds_toArray, List.set_cons_zero, List.set_cons_succ]
        refine lin_val (i := 22) (v := ?_) rfl (by kernel_rfl) (by kernel_rfl) (by kernel_rfl) (fun _ _ _ h => h) hSS hS rfl (fun w hSw => ?_) ?_
        rotate_left
        · obtain ⟨q0, q1, q2, q3, q4, q5, q6, q7, q8, q9, q10, q11, q12, q13, q14, q15, q16, q17, q18, q19⟩ := hSw; go_simp; first | done | with_reducible rfl
        simp only [Act.put, List.setIfInBounds_toArray, List.set_cons_zero, List.set_cons_succ]
        refine lin_call (i := 23) rfl (by kernel_rfl) (by kernel_rfl) (by kernel_rfl) (fun _ _ _ h => h) hSS hS rfl (fun w hSw => by obtain ⟨q0, q1, q2, q3, q4, q5, q6, q7, q8, q9, q10, q11, q12, q13, q14, q15, q16, q17, q18, q19⟩ := hSw; exact qn1 w q19) (fun w hSw => ?_) ?_
        · obtain ⟨q0, q1, q2, q3, q4, q5, q6, q7, q8, q9, q10, q11, q12, q13, q14, q15, q16, q17, q18, q19⟩ := hSw; go_simp
        simp only [Act.put, List.setIfInBounds_toArray, List.set_cons_zero, List.set_cons_succ]
        refine lin_val (i := 24) (v := ?_) rfl (by kernel_rfl) (by kernel_rfl) (by kernel_rfl) (fun _ _ _ h => h) hSS hS rfl (fun w hSw => ?_) ?_
        rotate_left
        · obtain ⟨q0, q1, q2, q3, q4, q5, q6, q7, q8, q9, q10, q11, q12, q13, q14, q15, q16, q17, q18, q19⟩ := hSw; go_simp; first | done | with_reducible rfl
        simp only [Act.put, List.setIfInBounds_toArray, List.set_cons_zero, List.set_cons_succ]
        refine lin_val (i := 25) (v := ?_) rfl (by kernel_rfl) (by kernel_rfl) (by kernel_rfl) (fun _ _ _ h => h) hSS hS rfl (fun w hSw => ?_) ?_
        rotate_left
        · obtain ⟨q0, q1, q2, q3, q4, q5, q6, q7, q8, q9, q10, q11, q12, q13, q14, q15, q16, q17, q18, q19⟩ := hSw; go_simp; first | done | with_reducible rfl
        simp only [Act.put, List.setIfInBounds_toArray, List.set_cons_zero, List.set_cons_succ]
        refine lin_val (i := 26) (v := ?_) rfl (by kernel_rfl) (by kernel_rfl) (by kernel_rfl) (fun _ _ _ h => h) hSS hS rfl (fun w hSw => ?_) ?_
        rotate_left
        · obtain ⟨q0, q1, q2, q3, q4, q5, q6, q7, q8, q9, q10, q11, q12, q13, q14, q15, q16, q17, q18, q19⟩ := hSw; go_simp; first | done | with_reducible rfl
        simp only [Act.put, List.setIfInBounds_toArray, List.set_cons_zero, List.set_cons_succ]
        refine lin_val (i := 27) (v := ?_) rfl (by kernel_rfl) (by kernel_rfl) (by kernel_rfl) (fun _ _ _ h => h) hSS hS rfl (fun w hSw => ?_) ?_
        rotate_left
        · obtain ⟨q0, q1, q2, q3, q4, q5, q6, q7, q8, q9, q10, q11, q12, q13, q14, q15, q16, q17, q18, q19⟩ := hSw; go_simp; first | done | with_reducible rfl
        simp only [Act.put, List.setIfInBounds_toArray, List.set_cons_zero, List.set_cons_succ]
        refine lin_val (i := 28) (v := ?_) rfl (by kernel_rfl) (by kernel_rfl) (by kernel_rfl) (fun _ _ _ h => h) hSS hS rfl (fun w hSw => ?_) ?_
        rotate_left
        · obtain ⟨q0, q1, q2, q3, q4, q5, q6, q7, q8, q9, q10, q11, q12, q13, q14, q15, q16, q17, q18, q19⟩ := hSw; go_simp; first | done | with_reducible rfl
        simp only [Act.put, List.setIfInBounds_toArray, List.set_cons_zero, List.set_cons_succ]
        refine lin_call (i := 29) rfl (by kernel_rfl) (by kernel_rfl) (by kernel_rfl) (fun _ _ _ h => h) hSS hS rfl (fun w hSw => by obtain ⟨q0, q1, q2, q3, q4, q5, q6, q7, q8, q9, q10, q11, q12, q13, q14, q15, q16, q17, q18, q19⟩ := hSw; exact qn2 w q19) (fun w hSw => ?_) ?_
        · obtain ⟨q0, q1, q2, q3, q4, q5, q6, q7, q8, q9, q10, q11, q12, q13, q14, q15, q16, q17, q18, q19⟩ := hSw; go_simp
        simp only [Act.put, List.setIfInBounds_toArray, List.set_cons_zero, List.set_cons_succ]
        refine lin_val (i := 30) (v := ?_) rfl (by kernel_rfl) (by kernel_rfl) (by kernel_rfl) (fun _ _ _ h => h) hSS hS rfl (fun w hSw => ?_) ?_
        rotate_left
        · obtain ⟨q0, q1, q2, q3, q4, q5, q6, q7, q8, q9, q10, q11, q12, q13, q14, q15, q16, q17, q18, q19⟩ := hSw; go_simp; first | done | with_reducible rfl
        simp only [Act.put, List.setIfInBounds_toArray, List.set_cons_zero, List.set_cons_succ]
        refine lin_val (i := 31) (v := ?_) rfl (by kernel_rfl) (by kernel_rfl) (by kernel_rfl) (fun _ _ _ h => h) hSS hS rfl (fun w hSw => ?_) ?_
        rotate_left
        · obtain ⟨q0, q1, q2, q3, q4, q5, q6, q7, q8, q9, q10, q11, q12, q13, q14, q15, q16, q17, q18, q19⟩ := hSw; go_simp; first | done | with_reducible rfl
        simp only [Act.put, List.setIfInBounds_toArray, List.set_cons_zero, List.set_cons_succ]
        refine lin_val (i := 32) (v := ?_) rfl (by kernel_rfl) (by kernel_rfl) (by kernel_rfl) (fun _ _ _ h => h) hSS hS rfl (fun w hSw => ?_) ?_
        rotate_left
        · obtain ⟨q0, q1, q2, q3, q4, q5, q6, q7, q8, q9, q10, q11, q12, q13, q14, q15, q16, q17, q18, q19⟩ := hSw; go_simp; first | done | with_reducible rfl
        simp only [Act.put, List.setIfInBounds_toArray, List.set_cons_zero, List.set_cons_succ]
        refine lin_done (by kernel_rfl) (fun wE kwE => ?_) _
        clear hS hSS
        have HE := hid ((H9.out.nil (Kp.refl _ _).drew).nil kwE)
        clear kwE
        go_wp2_with fail
        go_ret
        exact ⟨rfl, HE.out⟩
theorem nonelaw (W : World) (_ : Tabs W) (A : Option Addr) (n c : Nat) (l : List Itm) (x : ItemsAt W A c l) (y : l.length = n) (a : Int) (ha : 0 ≤ a ∧ a ≤ 18446744073709551615) (b : Int) (hb : 0 ≤ b ∧ b ≤ 18446744073709551615) :
    Calls Tryd.prog 10 #[.slice A n c, .int .u64 a, .int .u64 b] W fun e w' => e = .returned (.bool true) ∧ Kp [] W w' := by
  subst y
  obtain ⟨a, rfl, ha'⟩ := u64_nat ha
  obtain ⟨b, rfl, hb'⟩ := u64_nat hb
  exact nonelaw_any W A c l x a ha' b hb'
end Go.Proofs.YtpeldjihalldkaaDoor
