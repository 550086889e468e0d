/- RedactHoles: at each of the places something hidden lies, and nothing hidden above it; and there are none just if all is shown. -/
import Derived.Test.YtpeldjihalldkaaDoorTMore
import Derived.Test.YtpeldjihalldkaaDoorTRPrint
import Derived.Test.YtpeldjihalldkaaDoorTHoles
import Derived.Test.YtpeldjihalldkaaDoorTBuilt
namespace Go.Proofs.YtpeldjihalldkaaDoor
open Go Go.RowKit Go.Lib

theorem add_zero_at (g i : Nat) : (⟨g, 0, none⟩ : Addr).add i = ⟨g, i, none⟩ := by
  rcases Nat.eq_zero_or_pos i with h | h
  · subst h; rfl
  · simp [Addr.add, Nat.ne_of_gt h]
/-- A row's texts, each once: the last place of one is its place. -/
theorem key_once {keys : List Txt} (h : keys.Nodup) {i j : Nat} {x : Txt} (hi : keys[i]? = some x) (hj : keys[j]? = some x) : i = j := by
  have h1 := (List.getElem?_eq_some_iff.1 hi)
  have h2 := (List.getElem?_eq_some_iff.1 hj)
  obtain ⟨h1, e1⟩ := h1
  obtain ⟨h2, e2⟩ := h2
  exact (List.getElem_inj h).1 (e1.trans e2.symm)
set_option maxRecDepth 100000 in
set_option maxHeartbeats 25600000 in
theorem placeslaw_any (w : World) (A : Option Addr) (c : Nat) (l : List Itm) (hl : ItemsAt w A c l) (cl : Nat) (hcl : cl < 18446744073709551616) :
    Calls Tryd.prog 4 #[.slice A l.length c, .int .u64 (cl : Int)] w fun e w' => e = .returned (.bool true) ∧ Kp [] w w' := by
  have q1 := shown9_any w
  have q2 := fun W (k : Kp [] w W) => built_any W A c l (hl.kept k)
  obtain ⟨N0, hN⟩ : ∃ N, N = l.length := ⟨_, rfl⟩
  rw [← hN] at q2 ⊢
  have HCL := hid hcl
  clear hl hN hcl
  go_enter Tryd.func4, Tryd.ntmps4
  go_wp2_with fail
  (with_reducible refine q1.mono ?_)
  rintro e w1 ⟨rfl, k1⟩
  have qb := q2 _ k1
  have HK1 := hid k1
  clear k1 q1 q2
  go_wp2_with fail
  (with_reducible refine qb.mono ?_)
  rintro e w2 ⟨va, ca, rfl, hrsa, hfa, hza, k2⟩
  have hrep := hrsa.rep
  have HA := hid (And.intro hrsa.rep (And.intro hfa hza))
  have hk2 := HK1.out.nil k2
  cases hrep with
  | mk k m num t keys kids code A1 ck B1 cb ks hA1 hB1 hr1 =>
    unfold vC at HA ⊢
    obtain ⟨nk, hnk⟩ : ∃ x, x = keys.length := ⟨_, rfl⟩
    obtain ⟨nb, hnb⟩ : ∃ x, x = kids.length := ⟨_, rfl⟩
    simp only [← hnk, ← hnb] at HA ⊢
    obtain ⟨va, hva⟩ : ∃ v : Vl, v = .mk k m num t keys kids code := ⟨_, rfl⟩
    rw [← hva] at HA
    obtain ⟨w3, hw3⟩ : ∃ w3, w3 = w2.alloc (.cells #[.int .i64 (k : Int), .int .u64 (m : Int), .bool (vN num), .string ⟨(vD num).toArray⟩, .int .i64 (vS num), .string ⟨t.toArray⟩, .slice A1 nk ck, .slice B1 nb cb, .int .i64 (code : Int)] 31) := ⟨_, rfl⟩
    have hk23 : Kp [] w2 w3 := by rw [hw3]; exact (Kp.refl _ _).alloc _
    have hca : Cells w3 w2.heap.size 31 [.int .i64 (k : Int), .int .u64 (m : Int), .bool (vN num), .string ⟨(vD num).toArray⟩, .int .i64 (vS num), .string ⟨t.toArray⟩, .slice A1 nk ck, .slice B1 nb cb, .int .i64 (code : Int)] := by rw [hw3]; exact Cells.fresh w2 31 _
    have hzz := HA.out.2.2
    have q := holes_any HA.out.1 HA.out.2.1 (by omega) w3 hk23 cl HCL.out
    obtain ⟨L, hL⟩ : ∃ L, L = holesL cl [] va := ⟨_, rfl⟩
    rw [← hL] at q
    have a0 := hca.cell 0; have a1 := hca.cell 1; have a2 := hca.cell 2; have a3 := hca.cell 3; have a4 := hca.cell 4; have a5 := hca.cell 5; have a6 := hca.cell 6; have a7 := hca.cell 7; have a8 := hca.cell 8
    have HW3 := hid hw3
    have H3 := hid (And.intro hk2 (And.intro hk23 hca))
    have HL0 := hid hL
    clear hrsa hfa hza k2 hA1 hB1 hr1 hnk hnb hva hw3 hk2 hk23 hca qb hzz hL
    go_wp2_with fail
    rw [← HW3.out]
    (with_reducible refine q.mono ?_)
    rintro e w4 ⟨vp, rfl, ⟨vs, ho, hst⟩, k4⟩
    obtain ⟨Ap, cp, rfl, hsp, hcp, hvl, hAp⟩ := ho.shape
    have htop : cp ≤ 9223372036854775807 := by
      obtain ⟨_, _, e0, -, -, htop, -⟩ := OwnN.shape (s := 1) ho
      injection e0 with _ _ e0
      omega
    obtain ⟨N, hN⟩ : ∃ N, N = L.length := ⟨_, rfl⟩
    simp only [← hN] at hcp hvl ⊢
    obtain ⟨gV, hgV⟩ : ∃ gV, gV = w2.heap.size := ⟨_, rfl⟩
    have hcV := H3.out.2.2.keep k4 (by simp)
    rw [← hgV] at hcV
    have hk24 := H3.out.2.1.nil k4
    have hkw4 := H3.out.1.nil hk24
    have HG := hid hgV
    have H4 := hid (And.intro hcV (And.intro hk24 (And.intro hkw4 (And.intro hsp (And.intro hst (And.intro hvl (And.intro hAp hN)))))))
    clear a0 a1 a2 a3 a4 a5 a6 a7 a8 q k4 ho hsp hst hvl hAp hN hgV hcV hk24 hkw4
    go_wp2_with fail
    try simp only [← HG.out]
    go_loopw [8] (fun vi wr => ∃ i : Nat, i ≤ N ∧ vi = .int .i64 (i : Int) ∧ Kp [] w4 wr) (fun vi _ => N - (RowKit.intOf vi).toNat)
    case atStart => exact ⟨0, Nat.zero_le _, rfl, Kp.refl _ _⟩
    case round =>
      obtain ⟨i, hi, rfl, hk⟩ := hrel
      obtain ⟨hcV, hk24, hkw4, hsp, hst, hvl, hAp, hN⟩ := H4.out
      have hcV := hcV.keep hk (by simp)
      by_cases hlt : i < N
      · obtain ⟨p, hp⟩ : ∃ p, L[i]? = some p := ⟨_, List.getElem?_eq_getElem (by omega)⟩
        obtain ⟨sv, hsv⟩ : ∃ sv, vs[i]? = some sv := ⟨_, List.getElem?_eq_getElem (by omega)⟩
        have hpl : p ∈ holesL cl [] va := by rw [← HL0.out]; exact List.mem_of_getElem? hp
        obtain ⟨s0, hps, hlead⟩ := holes_lead cl va [] p hpl
        rw [List.nil_append] at hps
        subst hps
        obtain ⟨Aq, cq, rfl, hq1, hq2, hqs, hqA⟩ := (hst i sv p hsv hp).ex
        obtain ⟨adp, eAp, hcs⟩ := hsp i _ hsv
        obtain ⟨e4, -⟩ := hAp adp eAp
        obtain ⟨gP, of, pr⟩ := adp
        injection e4 with _ e5 e6
        subst e5 e6 eAp
        rw [add_zero_at] at hcs
        obtain ⟨M, hM⟩ : ∃ M, M = p.length := ⟨_, rfl⟩
        rw [← hM] at hcs hq1
        have hcs := hk.cell hcs (by simp)
        obtain ⟨wo, hwo⟩ : ∃ wo : World, wo = wr := ⟨_, rfl⟩
        rw [← hwo] at hk hcV hcs ⊢
        clear hwo
        have a0 := hcV.cell 0; have a1 := hcV.cell 1; have a2 := hcV.cell 2; have a3 := hcV.cell 3; have a4 := hcV.cell 4; have a5 := hcV.cell 5; have a6 := hcV.cell 6; have a7 := hcV.cell 7; have a8 := hcV.cell 8
        have jn : (i : Int) < (N : Int) := by omega
        have z1 : decide ((i : Int) < (N : Int)) = true := decide_eq_true jn
        have z1n : decide (i < N) = true := decide_eq_true hlt
        obtain ⟨gN, hgN⟩ : ∃ gN, gN = wo.heap.size := ⟨_, rfl⟩
        obtain ⟨w5, hw5⟩ : ∃ w5, w5 = wo.alloc (.cells #[.int .i64 (k : Int), .int .u64 (m : Int), .bool (vN num), .string ⟨(vD num).toArray⟩, .int .i64 (vS num), .string ⟨t.toArray⟩, .slice A1 nk ck, .slice B1 nb cb, .int .i64 (code : Int)] 31) := ⟨_, rfl⟩
        have hcN : Cells w5 gN 31 [.int .i64 (k : Int), .int .u64 (m : Int), .bool (vN num), .string ⟨(vD num).toArray⟩, .int .i64 (vS num), .string ⟨t.toArray⟩, .slice A1 nk ck, .slice B1 nb cb, .int .i64 (code : Int)] := by rw [hw5, hgN]; exact Cells.fresh wo 31 _
        have hk5 : Kp [] wo w5 := by rw [hw5]; exact (Kp.refl _ _).alloc _
        have HW5 := hid hw5
        have HGN := hid hgN
        have HR := hid (And.intro hcV (And.intro hk (And.intro hcs (And.intro hqs (And.intro hqA (And.intro hlead (And.intro hM (And.intro hk24 hkw4))))))))
        have HN5 := hid (And.intro hcN hk5)
        clear hcV hk hk24 hkw4 hsp hst hvl hAp hN hp hsv hpl hqs hqA hlead hM hw5 hgN hcN hk5
        go_wp2_with fail
        try rw [← HW5.out]
        try simp only [← HGN.out]
        clear a0 a1 a2 a3 a4 a5 a6 a7 a8
        go_loopw [10] (fun vk wx => ∃ (q : Nat) (u : Vl) (cu : List Value), q ≤ M ∧ vk = .int .i64 (q : Int) ∧ Kp [] wo wx ∧ Cells wx gN 31 cu ∧ Rep w2 u cu ∧ FineV u ∧ Leads cl u (p.drop q)) (fun vk _ => M - (RowKit.intOf vk).toNat)
        case atStart => exact ⟨0, va, _, Nat.zero_le _, rfl, HN5.out.2, HN5.out.1, HA.out.1, HA.out.2.1, HR.out.2.2.2.2.2.1⟩
        case round =>
          obtain ⟨q, u, cu, hqm, rfl, hkx, hcN, hru, hfu, hld⟩ := hrel
          obtain ⟨hcV, hk, hcs, hqs, hqA, -, hM, hk24, hkw4⟩ := HR.out
          have hk2x := hk24.nil (hk.nil hkx)
          have hcs := hkx.cell hcs (by simp)
          have hfu0 := hfu
          cases hfu with
          | mk k' m' num' t' keys' kids' code' hk' hm' hn' hn0' ht' ht0' hkl' hk0' hks' hkd' hc' hcode' hc0' hc8' hmany' hff' =>
          have hru0 := hru
          cases hru with
          | mk _ _ _ _ _ _ _ A2 ck' B2 cb' ks' hA2 hB2 hr2 =>
          by_cases hlt2 : q < M
          · obtain ⟨st, hstp⟩ : ∃ st, p[q]? = some st := ⟨_, List.getElem?_eq_getElem (by omega)⟩
            have hdrop : p.drop q = st :: p.drop (q + 1) := by
              rw [List.drop_eq_getElem_cons (by omega)]
              congr 1
              exact (List.getElem?_eq_some_iff.1 hstp).2
            rw [hdrop] at hld
            obtain ⟨j, v, hv, hhd, hsj, hld2⟩ : ∃ j v, kids'[j]? = some v ∧ hidB m' cl = false ∧ st = stp k' keys' j ∧ Leads cl v (p.drop (q + 1)) := by
              generalize hd2 : p.drop (q + 1) = pd at hld
              cases hld with
              | down _ _ _ _ _ _ _ h j v hv s hs => exact ⟨j, v, hv, h, rfl, hs⟩
            obtain ⟨s1, sx, sn⟩ := st
            have hsc := stCs_at p q _ hstp
            obtain ⟨adq, eAq, t0⟩ := hqs _ _ (hsc 0 _ rfl)
            obtain ⟨e4, -⟩ := hqA adq eAq
            obtain ⟨gQ, of, pr⟩ := adq
            injection e4 with _ e5 e6
            subst e5 e6 eAq
            obtain ⟨_, e1, t1⟩ := hqs _ _ (hsc 1 _ rfl)
            injection e1 with e1
            subst e1
            obtain ⟨_, e1, t2⟩ := hqs _ _ (hsc 2 _ rfl)
            injection e1 with e1
            subst e1
            rw [add_zero_at] at t0 t1 t2
            have t0 := (hk.nil hkx).cell t0 (by simp)
            have t1 := (hk.nil hkx).cell t1 (by simp)
            have t2 := (hk.nil hkx).cell t2 (by simp)
            have jk : j < kids'.length := at_len hv
            obtain ⟨gB, rfl, pB⟩ := (hB2.kept hk2x).at_ j jk
            have hkeys := (hA2.kept hk2x)
            obtain ⟨ak, am, an, ad, az, ax, aA, ank, ack, aB, anb, acb, aco, eV⟩ := (hr2 j v hv).isV
            have hrv := hr2 j v hv
            rw [eV] at pB hrv
            have p0 := pB 0 _ rfl; have p1 := pB 1 _ rfl; have p2 := pB 2 _ rfl; have p3 := pB 3 _ rfl; have p4 := pB 4 _ rfl; have p5 := pB 5 _ rfl; have p6 := pB 6 _ rfl; have p7 := pB 7 _ rfl; have p8 := pB 8 _ rfl
            simp only [Nat.add_zero] at p0 t0
            have e9 : j * 9 = 9 * j := Nat.mul_comm _ _
            have e3 : q * 3 = 3 * q := Nat.mul_comm _ _
            rw [e3] at t0 t1 t2
            unfold vC at hcN
            have lB := hB2.le
            have tB := hB2.top
            have lA := hA2.le
            have tA := hA2.top
            obtain ⟨nk', hnk'⟩ : ∃ x, x = keys'.length := ⟨_, rfl⟩
            obtain ⟨nb', hnb'⟩ : ∃ x, x = kids'.length := ⟨_, rfl⟩
            rw [← hnb'] at jk lB
            rw [← hnk'] at lA
            simp only [← hnk', ← hnb'] at hcN
            have x0 := hcN.cell 0; have x1 := hcN.cell 1; have x2 := hcN.cell 2; have x3 := hcN.cell 3; have x4 := hcN.cell 4; have x5 := hcN.cell 5; have x6 := hcN.cell 6; have x7 := hcN.cell 7; have x8 := hcN.cell 8
            have hfv := fine_kid hfu0 v (at_mem hv)
            obtain ⟨b7, hb7⟩ : ∃ b, b = decide (k' = 7) := ⟨_, rfl⟩
            have z7 : ((k' : Int) == 7) = b7 := by rw [hb7, Bool.eq_iff_iff, beq_iff_eq, decide_eq_true_eq]; omega
            have z2 : decide ((q : Int) < (M : Int)) = true := decide_eq_true (by omega)
            have z2n : decide (q < M) = true := decide_eq_true hlt2
            have jq : (q : Int) < (M : Int) := by omega
            have qh := fun W => hidden_cells W (k' : Int) m' (vN num') (vD num') (vS num') t' A2 nk' ck' (some ⟨gB, 0, none⟩) nb' cb' (code' : Int) cl hm' HCL.out
            rw [hhd] at qh
            obtain ⟨wi, hwi⟩ : ∃ wi : World, wi = wr := ⟨_, rfl⟩
            rw [← hwi] at hkx hcN x0 x1 x2 x3 x4 x5 x6 x7 x8 t0 t1 t2 p0 p1 p2 p3 p4 p5 p6 p7 p8 hcs hk2x hkeys ⊢
            clear hwi
            obtain ⟨gT, hgT⟩ : ∃ gT, gT = wi.heap.size := ⟨_, rfl⟩
            obtain ⟨w6, hw6⟩ : ∃ w6, w6 = wi.alloc (.cells #[.int .i64 (s1 : Int), .string ⟨sx.toArray⟩, .int .i64 (sn : Int)] 42) := ⟨_, rfl⟩
            have hk6 : Kp [] wi w6 := by rw [hw6]; exact (Kp.refl _ _).alloc _
            have hcT : Cells w6 gT 42 [.int .i64 (s1 : Int), .string ⟨sx.toArray⟩, .int .i64 (sn : Int)] := by rw [hw6, hgT]; exact Cells.fresh wi 42 _
            have hNT : gN ≠ gT := by have := (Array.getElem?_eq_some_iff.1 hcN).1; omega
            have xx0 := fun o => ((Kp.refl [] wi).alloc o).cell x0 (by simp); have xx1 := fun o => ((Kp.refl [] wi).alloc o).cell x1 (by simp); have xx2 := fun o => ((Kp.refl [] wi).alloc o).cell x2 (by simp); have xx3 := fun o => ((Kp.refl [] wi).alloc o).cell x3 (by simp); have xx4 := fun o => ((Kp.refl [] wi).alloc o).cell x4 (by simp); have xx5 := fun o => ((Kp.refl [] wi).alloc o).cell x5 (by simp); have xx6 := fun o => ((Kp.refl [] wi).alloc o).cell x6 (by simp); have xx7 := fun o => ((Kp.refl [] wi).alloc o).cell x7 (by simp); have xx8 := fun o => ((Kp.refl [] wi).alloc o).cell x8 (by simp)
            have HW6 := hid hw6
            have HGT := hid hgT
            have HX := hid (And.intro hkx (And.intro hcN (And.intro hk6 (And.intro hcT (And.intro hcs (And.intro hkeys hk2x))))))
            have HV := hid (And.intro hrv (And.intro hfv (And.intro hld2 (And.intro hsj (And.intro hb7 (And.intro hkd' (And.intro hkl' (And.intro hk0' (And.intro hnk' (And.intro hnb' hv))))))))))
            have HP := hid (And.intro p0 (And.intro p1 (And.intro p2 (And.intro p3 (And.intro p4 (And.intro p5 (And.intro p6 (And.intro p7 p8))))))))
            clear p0 p1 p2 p3 p4 p5 p6 p7 p8
            clear hcV hk hqs hqA hM hk24 hkw4 hld hdrop hstp hsc hru0 hfu0 hk' hm' hn' hn0' ht' ht0' hkl' hk0' hks' hkd' hc' hcode' hc0' hc8' hmany' hff' hA2 hB2 hr2 hhd hsj hld2 hv hrv hfv hb7 hnk' hnb' hw6 hgT hk6 hcT hkx hcN hk2x hkeys pB eV hqm hlt2
            go_wp2_with fail
            try rw [← HW6.out]
            try simp only [← HGT.out]
            (with_reducible refine (qh _).mono ?_)
            rintro e w8 ⟨rfl, k8⟩
            obtain ⟨hkx, hcN, hk6, hcT, hcs, hkeys, hk2x⟩ := HX.out
            have hk68 := hk6.nil k8
            have hcN := hcN.keep hk68 (by simp)
            have hcT := hcT.keep k8 (by simp)
            have hkeys := hkeys.kept hk68
            clear xx0 xx1 xx2 xx3 xx4 xx5 xx6 xx7 xx8 x0 x1 x2 x3 x4 x5 x6 x7 x8
            have x0 := hcN.cell 0; have x1 := hcN.cell 1; have x2 := hcN.cell 2; have x3 := hcN.cell 3; have x4 := hcN.cell 4; have x5 := hcN.cell 5; have x6 := hcN.cell 6; have x7 := hcN.cell 7; have x8 := hcN.cell 8
            have t0 := hcT.cell 0; have t1 := hcT.cell 1; have t2 := hcT.cell 2
            obtain ⟨p0, p1, p2, p3, p4, p5, p6, p7, p8⟩ := HP.out
            clear t1
            have HX8 := hid (And.intro hcN (And.intro hcT (And.intro hkeys (And.intro hk68 (And.intro hcs k8)))))
            clear hcN hcT hkeys hk68 hcs k8 hkx hk6 hk2x qh p0 p1 p2 p3 p4 p5 p6 p7 p8
            go_upto_if 51 with fail
            go_cut [13] (fun v wx => v = .int .i64 (j : Int) ∧ Kp [] w8 wx)
            case first =>
              cases b7 with
              | false =>
                obtain ⟨hrv, hfv, hld2, hsj, hb7, hkd', hkl', hk0', hnk', hnb', hv⟩ := HV.out
                have h7 : ¬ k' = 7 := fun h => by rw [decide_eq_true h] at hb7; cases hb7
                unfold stp at hsj
                rw [if_neg h7] at hsj
                have hsn : sn = j := by injection hsj with _ h2; injection h2
                subst hsn
                clear hrv hfv hld2 hsj hb7 hkd' hkl' hk0' hnk' hnb' hv h7
                go_wp2_with fail
                go_meet
                exact ⟨rfl, Kp.refl _ _⟩
              | true =>
                obtain ⟨hrv, hfv, hld2, hsj, hb7, hkd', hkl', hk0', hnk', hnb', hv⟩ := HV.out
                have h7 : k' = 7 := of_decide_eq_true hb7.symm
                unfold stp at hsj
                rw [if_pos h7] at hsj
                have hkk := hkl' h7
                have hsx : keys'[j]? = some sx := by
                  injection hsj with _ h2
                  injection h2 with h2 _
                  rw [h2, List.getElem?_eq_getElem (by omega)]
                  rfl
                have t1 := HX8.out.2.1.cell 1
                simp only [List.getElem?_cons_zero, List.getElem?_cons_succ] at t1
                have HK := hid (And.intro hsx (And.intro hkd' hnk'))
                clear hrv hfv hld2 hsj hb7 hkd' hkl' hk0' hnk' hnb' hv h7 hkk hsx
                go_wp2_with fail
                go_loopw [13, 14] (fun va vj wx => ∃ r : Nat, r ≤ nk' ∧ vj = .int .i64 (r : Int) ∧ va = .int .i64 (if j < r then (j : Int) else -1) ∧ Kp [] w8 wx) (fun _ vj _ => nk' - (RowKit.intOf vj).toNat)
                case atStart => exact ⟨0, Nat.zero_le _, rfl, by rw [if_neg (Nat.not_lt_zero _)], Kp.refl _ _⟩
                case round =>
                  obtain ⟨r, hr, rfl, rfl, hkr⟩ := hrel
                  obtain ⟨hcN, hcT, hkeys, hk68, hcs, k8⟩ := HX8.out
                  obtain ⟨hsx, hkd', hnk'⟩ := HK.out
                  have x6 := (hcN.keep hkr (by simp)).cell 6
                  have t1 := (hcT.keep hkr (by simp)).cell 1
                  simp only [List.getElem?_cons_zero, List.getElem?_cons_succ] at x6 t1
                  by_cases hlt3 : r < nk'
                  · obtain ⟨y, hy⟩ : ∃ y, keys'[r]? = some y := ⟨_, List.getElem?_eq_getElem (by omega)⟩
                    obtain ⟨gK, eK, cK⟩ := (hkeys.kept hkr).at_ r y hy
                    subst eK
                    have z3 : decide ((r : Int) < (nk' : Int)) = true := decide_eq_true (by omega)
                    have z3n : decide (r < nk') = true := decide_eq_true hlt3
                    have jr : (r : Int) < (nk' : Int) := by omega
                    obtain ⟨x, hx⟩ : ∃ x : Int, x = if j < r then (j : Int) else -1 := ⟨_, rfl⟩
                    rw [← hx]
                    have HQ := hid (And.intro hx (And.intro hkr (And.intro hy (And.intro hr hlt3))))
                    have hor : r = j ∨ r ≠ j := by omega
                    have hxy : (r = j ∧ y = sx) ∨ (r ≠ j ∧ y ≠ sx) := by
                      rcases hor with rfl | hne
                      · rw [hsx] at hy
                        injection hy with hy
                        exact .inl ⟨rfl, hy.symm⟩
                      · refine .inr ⟨hne, ?_⟩
                        rintro rfl
                        exact hne (key_once hkd' hy hsx)
                    clear hcN hcT hkeys hk68 hcs k8 hsx hkd' hnk' hy hkr hx hor hr hlt3
                    by_cases hyx : y = sx
                    · subst hyx
                      clear hxy
                      go_wp2_with fail
                      go_quiet (fail)
                      generalize nq = n1 at *
                      go_wp2_with fail
                      go_roundw
                      case rel =>
                        obtain ⟨hx, hkr, hy, hr, hlt3⟩ := HQ.out
                        obtain ⟨hsx, hkd', -⟩ := HK.out
                        have hrj := key_once hkd' hy hsx
                        subst hrj
                        exact ⟨r + 1, by omega, by go_num, by rw [if_pos (by omega)], hkr.nil ((Kp.refl _ _).drewN n1)⟩
                      case measure => have := HQ.out.2.2.2.2; simp [RowKit.intOf]; omega
                    · have z4 : (y == sx) = false := by rw [beq_eq_false_iff_ne]; exact hyx
                      have hrj : r ≠ j := by
                        rcases hxy with h | h
                        · exact absurd h.2 hyx
                        · exact h.1
                      have HJ := hid hrj
                      clear hxy hyx hrj
                      go_wp2_with fail
                      go_quiet (fail)
                      generalize nq = n1 at *
                      go_wp2_with fail
                      go_roundw
                      case rel =>
                        obtain ⟨hx, hkr, hy, hr, hlt3⟩ := HQ.out
                        have hrj := HJ.out
                        refine ⟨r + 1, by omega, by go_num, ?_, hkr.nil ((Kp.refl _ _).drewN n1)⟩
                        rw [hx]
                        by_cases h1 : j < r
                        · rw [if_pos h1, if_pos (by omega)]
                        · rw [if_neg h1, if_neg (by omega)]
                      case measure => have := HQ.out.2.2.2.2; simp [RowKit.intOf]; omega
                  · have z3 : decide ((r : Int) < (nk' : Int)) = false := decide_eq_false (by omega)
                    have z3n : decide (r < nk') = false := decide_eq_false hlt3
                    have hjr : j < r := by
                      have := (List.getElem?_eq_some_iff.1 hsx).1
                      omega
                    rw [if_pos hjr]
                    have HQ := hid hkr
                    clear hcN hcT hkeys hk68 hcs k8 hsx hkd' hnk' hkr hjr hr hlt3
                    go_wp2_with fail
                    go_meet
                    exact ⟨rfl, HQ.out⟩
            case' rest => obtain ⟨rfl, hkc⟩ := hcut
            obtain ⟨hkx, hcN0, hk6, hcT, hcs, hkeys, hk2x⟩ := HX.out
            obtain ⟨hcN, -, -, hk68, -, k8⟩ := HX8.out
            have hcN := hcN.keep hkc (by simp)
            obtain ⟨p0, p1, p2, p3, p4, p5, p6, p7, p8⟩ := HP.out
            have hkic := hk68.nil hkc
            replace p0 := hkic.cell p0 (by simp); replace p1 := hkic.cell p1 (by simp); replace p2 := hkic.cell p2 (by simp); replace p3 := hkic.cell p3 (by simp); replace p4 := hkic.cell p4 (by simp); replace p5 := hkic.cell p5 (by simp); replace p6 := hkic.cell p6 (by simp); replace p7 := hkic.cell p7 (by simp); replace p8 := hkic.cell p8 (by simp)
            clear x0 x1 x2 x3 x4 x5 x6 x7 x8 t0 t1 t2
            have x0 := hcN.cell 0; have x1 := hcN.cell 1; have x2 := hcN.cell 2; have x3 := hcN.cell 3; have x4 := hcN.cell 4; have x5 := hcN.cell 5; have x6 := hcN.cell 6; have x7 := hcN.cell 7; have x8 := hcN.cell 8
            have f0 := hcN.free 0; have f1 := hcN.free 1; have f2 := hcN.free 2; have f3 := hcN.free 3; have f4 := hcN.free 4; have f5 := hcN.free 5; have f6 := hcN.free 6; have f7 := hcN.free 7; have f8 := hcN.free 8
            have z5 : decide ((j : Int) < 0) = false := decide_eq_false (by omega)
            have z5n : decide ((nb' : Int) ≤ (j : Int)) = false := decide_eq_false (by omega)
            have z6 : decide (nb' ≤ j) = false := decide_eq_false (by omega)
            have jn2 : (j : Int) < (nb' : Int) := by omega
            have hgN0 := HGN.out
            have hkE : Kp [] wo (nine wc gN (.int .i64 ak) (.int .u64 am) (.bool an) (.string ad) (.int .i64 az) (.string ax) (.slice aA ank ack) (.slice aB anb acb) (.int .i64 aco)) :=
              kp_nine ((hkx.nil hk68).nil hkc) gN (.inl (by omega)) _ _ _ _ _ _ _ _ _
            have hcE : Cells (nine wc gN (.int .i64 ak) (.int .u64 am) (.bool an) (.string ad) (.int .i64 az) (.string ax) (.slice aA ank ack) (.slice aB anb acb) (.int .i64 aco)) gN 31 [.int .i64 ak, .int .u64 am, .bool an, .string ad, .int .i64 az, .string ax, .slice aA ank ack, .slice aB anb acb, .int .i64 aco] := (((((((((hcN.put 0 (Value.int .i64 ak)).put 1 (Value.int .u64 am)).put 2 (Value.bool an)).put 3 (Value.string ad)).put 4 (Value.int .i64 az)).put 5 (Value.string ax)).put 6 (Value.slice aA ank ack)).put 7 (Value.slice aB anb acb)).put 8 (Value.int .i64 aco))
            have HE := hid (And.intro hkE hcE)
            clear hkx hcN0 hk6 hcT hcs hkeys hk2x hcN hk68 k8 hkic hkE hcE hgN0 hkc
            go_wp2_with fail
            go_roundw
            case rel =>
              obtain ⟨hrv, hfv, hld2, -⟩ := HV.out
              exact ⟨q + 1, v, _, by simp at z2n; omega, by go_num, HE.out.1, HE.out.2, hrv, hfv, hld2⟩
            case measure => simp at z2n; simp [RowKit.intOf]; omega
          · have hqM : q = M := by omega
            rw [List.drop_of_length_le (by omega)] at hld
            have hhd : hidB m' cl = true := by
              cases hld with
              | here _ _ _ _ _ _ _ h => exact h
            unfold vC at hcN
            obtain ⟨nk', hnk'⟩ : ∃ x, x = keys'.length := ⟨_, rfl⟩
            obtain ⟨nb', hnb'⟩ : ∃ x, x = kids'.length := ⟨_, rfl⟩
            simp only [← hnk', ← hnb'] at hcN
            have x0 := hcN.cell 0; have x1 := hcN.cell 1; have x2 := hcN.cell 2; have x3 := hcN.cell 3; have x4 := hcN.cell 4; have x5 := hcN.cell 5; have x6 := hcN.cell 6; have x7 := hcN.cell 7; have x8 := hcN.cell 8
            have z2 : decide ((q : Int) < (M : Int)) = false := decide_eq_false (by omega)
            have z2n : decide (q < M) = false := decide_eq_false hlt2
            have qh := fun W => hidden_cells W (k' : Int) m' (vN num') (vD num') (vS num') t' A2 nk' ck' B2 nb' cb' (code' : Int) cl hm' HCL.out
            rw [hhd] at qh
            have HX := hid (hk.nil hkx)
            clear hcV hk hqs hqA hM hk24 hkw4 hld hru0 hfu0 hk' hm' hn' hn0' ht' ht0' hkl' hk0' hks' hkd' hc' hcode' hc0' hc8' hmany' hff' hA2 hB2 hr2 hhd hnk' hnb' hkx hcN hk2x hqm hlt2 hqM
            go_wp2_with fail
            (with_reducible refine (qh _).mono ?_)
            rintro e w8 ⟨rfl, k8⟩
            have HX8 := hid (HX.out.nil k8)
            clear k8 qh x0 x1 x2 x3 x4 x5 x6 x7 x8
            go_wp2_with fail
            go_roundw
            case rel => exact ⟨i + 1, by omega, by go_num, HX8.out⟩
            case measure => simp [RowKit.intOf]; omega
      · have z1 : decide ((i : Int) < (N : Int)) = false := decide_eq_false (by omega)
        have z1n : decide (i < N) = false := decide_eq_false hlt
        have hzz := HA.out.2.2
        have hk2r := hk24.nil hk
        have qsh := fun W (h : Kp [] wr W) => show_any HA.out.1 HA.out.2.1 (by omega) W (hk2r.nil h) cl [] HCL.out (by decide)
        have qpr := fun W (h : Kp [] wr W) => printr_any HA.out.1 HA.out.2.1 (by omega) W (hk2r.nil h)
        have hno := holes_none (all := 18446744073709551615) (fun m h => hid_all h) cl HA.out.2.1 []
        rw [← HL0.out] at hno
        obtain ⟨S1, hS1⟩ : ∃ S, S = showL cl [] va := ⟨_, rfl⟩
        obtain ⟨S2, hS2⟩ : ∃ S, S = showL 18446744073709551615 [] va := ⟨_, rfl⟩
        rw [← hS1, ← hS2] at hno
        simp only [← hS1] at qsh
        simp only [← hS2] at qpr
        obtain ⟨bN, hbN⟩ : ∃ b, b = decide (N = 0) := ⟨_, rfl⟩
        have z3 : ((N : Int) == 0) = bN := by rw [hbN, Bool.eq_iff_iff, beq_iff_eq, decide_eq_true_eq]; omega
        have z4 : (S1 == S2) = bN := by
          rw [hbN, Bool.eq_iff_iff, beq_iff_eq, decide_eq_true_eq, ← hno, hN]
          exact List.length_eq_zero_iff.symm
        have a0 := hcV.cell 0; have a1 := hcV.cell 1; have a2 := hcV.cell 2; have a3 := hcV.cell 3; have a4 := hcV.cell 4; have a5 := hcV.cell 5; have a6 := hcV.cell 6; have a7 := hcV.cell 7; have a8 := hcV.cell 8
        have HE := hid (hkw4.nil hk)
        have hlen : i = N := by omega
        clear hcV hk hk24 hkw4 hsp hst hvl hAp hN hi hlt hzz hk2r hno hS1 hS2 hbN hlen
        cases bN with
        | true =>
          go_wp2_with fail
          refine lin_start (fun w' => w'.cell? ⟨gV, 0, none⟩ = some (Value.int .i64 (k : Int)) ∧ w'.cell? ⟨gV, 1, none⟩ = some (Value.int .u64 (m : Int)) ∧ w'.cell? ⟨gV, 2, none⟩ = some (Value.bool (vN num)) ∧ w'.cell? ⟨gV, 3, none⟩ = some (Value.string ⟨(vD num).toArray⟩) ∧ w'.cell? ⟨gV, 4, none⟩ = some (Value.int .i64 (vS num)) ∧ w'.cell? ⟨gV, 5, none⟩ = some (Value.string ⟨t.toArray⟩) ∧ w'.cell? ⟨gV, 6, none⟩ = some (Value.slice A1 nk ck) ∧ w'.cell? ⟨gV, 7, none⟩ = some (Value.slice B1 nb cb) ∧ w'.cell? ⟨gV, 8, none⟩ = some (Value.int .i64 (code : Int)) ∧ Kp [] wr w') ((Stays.cell _ _).and ((Stays.cell _ _).and ((Stays.cell _ _).and ((Stays.cell _ _).and ((Stays.cell _ _).and ((Stays.cell _ _).and ((Stays.cell _ _).and ((Stays.cell _ _).and ((Stays.cell _ _).and ((Stays.kp _ _))))))))))) (by kernel_rfl) ⟨a0, a1, a2, a3, a4, a5, a6, a7, a8, (Kp.refl _ _).drew⟩ (fun hSS hS => ?_)
          refine lin_val (i := 0) (v := ?_) rfl (by kernel_rfl) (by kernel_rfl) (by kernel_rfl) (fun _ _ _ h => h) hSS hS rfl (fun w hSw => ?_) ?_
          rotate_left
          · obtain ⟨q0, q1, q2, q3, q4, q5, q6, q7, q8, q9⟩ := hSw; go_simp; first | done | with_reducible rfl
          simp only [Act.put, List.setIfInBounds_toArray, List.set_cons_zero, List.set_cons_succ]
          refine lin_val (i := 1) (v := ?_) rfl (by kernel_rfl) (by kernel_rfl) (by kernel_rfl) (fun _ _ _ h => h) hSS hS rfl (fun w hSw => ?_) ?_
          rotate_left
          · obtain ⟨q0, q1, q2, q3, q4, q5, q6, q7, q8, q9⟩ := hSw; go_simp; first | done | with_reducible rfl
          simp only [Act.put, List.setIfInBounds_toArray, List.set_cons_zero, List.set_cons_succ]
          refine lin_val (i := 2) (v := ?_) rfl (by kernel_rfl) (by kernel_rfl) (by kernel_rfl) (fun _ _ _ h => h) hSS hS rfl (fun w hSw => ?_) ?_
          rotate_left
          · obtain ⟨q0, q1, q2, q3, q4, q5, q6, q7, q8, q9⟩ := hSw; go_simp; first | done | with_reducible rfl
          simp only [Act.put, List.setIfInBounds_toArray, List.set_cons_zero, List.set_cons_succ]
          refine lin_val (i := 3) (v := ?_) rfl (by kernel_rfl) (by kernel_rfl) (by kernel_rfl) (fun _ _ _ h => h) hSS hS rfl (fun w hSw => ?_) ?_
          rotate_left
          · obtain ⟨q0, q1, q2, q3, q4, q5, q6, q7, q8, q9⟩ := hSw; go_simp; first | done | with_reducible rfl
          simp only [Act.put, List.setIfInBounds_toArray, List.set_cons_zero, List.set_cons_succ]
          refine lin_val (i := 4) (v := ?_) rfl (by kernel_rfl) (by kernel_rfl) (by kernel_rfl) (fun _ _ _ h => h) hSS hS rfl (fun w hSw => ?_) ?_
          rotate_left
          · obtain ⟨q0, q1, q2, q3, q4, q5, q6, q7, q8, q9⟩ := hSw; go_simp; first | done | with_reducible rfl
          simp only [Act.put, List.setIfInBounds_toArray, List.set_cons_zero, List.set_cons_succ]
          refine lin_val (i := 5) (v := ?_) rfl (by kernel_rfl) (by kernel_rfl) (by kernel_rfl) (fun _ _ _ h => h) hSS hS rfl (fun w hSw => ?_) ?_
          rotate_left
          · obtain ⟨q0, q1, q2, q3, q4, q5, q6, q7, q8, q9⟩ := hSw; go_simp; first | done | with_reducible rfl
          simp only [Act.put, List.setIfInBounds_toArray, List.set_cons_zero, List.set_cons_succ]
          refine lin_val (i := 6) (v := ?_) rfl (by kernel_rfl) (by kernel_rfl) (by kernel_rfl) (fun _ _ _ h => h) hSS hS rfl (fun w hSw => ?_) ?_
          rotate_left
          · obtain ⟨q0, q1, q2, q3, q4, q5, q6, q7, q8, q9⟩ := hSw; go_simp; first | done | with_reducible rfl
          simp only [Act.put, List.setIfInBounds_toArray, List.set_cons_zero, List.set_cons_succ]
          refine lin_call (i := 7) rfl (by kernel_rfl) (by kernel_rfl) (by kernel_rfl) (fun _ _ _ h => h) hSS hS rfl (fun w hSw => by obtain ⟨q0, q1, q2, q3, q4, q5, q6, q7, q8, q9⟩ := hSw; exact qsh w q9) (fun w hSw => ?_) ?_
          · obtain ⟨q0, q1, q2, q3, q4, q5, q6, q7, q8, q9⟩ := hSw; go_simp
          simp only [Act.put, List.setIfInBounds_toArray, List.set_cons_zero, List.set_cons_succ]
          refine lin_val (i := 8) (v := ?_) rfl (by kernel_rfl) (by kernel_rfl) (by kernel_rfl) (fun _ _ _ h => h) hSS hS rfl (fun w hSw => ?_) ?_
          rotate_left
          · obtain ⟨q0, q1, q2, q3, q4, q5, q6, q7, q8, q9⟩ := hSw; go_simp; first | done | with_reducible rfl
          simp only [Act.put, List.setIfInBounds_toArray, List.set_cons_zero, List.set_cons_succ]
          refine lin_call (i := 9) rfl (by kernel_rfl) (by kernel_rfl) (by kernel_rfl) (fun _ _ _ h => h) hSS hS rfl (fun w hSw => by obtain ⟨q0, q1, q2, q3, q4, q5, q6, q7, q8, q9⟩ := hSw; exact qpr w q9) (fun w hSw => ?_) ?_
          · obtain ⟨q0, q1, q2, q3, q4, q5, q6, q7, q8, q9⟩ := hSw; go_simp
          simp only [Act.put, List.setIfInBounds_toArray, List.set_cons_zero, List.set_cons_succ]
          refine lin_val (i := 10) (v := ?_) rfl (by kernel_rfl) (by kernel_rfl) (by kernel_rfl) (fun _ _ _ h => h) hSS hS rfl (fun w hSw => ?_) ?_
          rotate_left
          · obtain ⟨q0, q1, q2, q3, q4, q5, q6, q7, q8, q9⟩ := hSw; go_simp; first | done | with_reducible rfl
          simp only [Act.put, List.setIfInBounds_toArray, List.set_cons_zero, List.set_cons_succ]
          refine lin_val (i := 11) (v := ?_) rfl (by kernel_rfl) (by kernel_rfl) (by kernel_rfl) (fun _ _ _ h => h) hSS hS rfl (fun w hSw => ?_) ?_
          rotate_left
          · obtain ⟨q0, q1, q2, q3, q4, q5, q6, q7, q8, q9⟩ := hSw; go_simp; first | done | with_reducible rfl
          simp only [Act.put, List.setIfInBounds_toArray, List.set_cons_zero, List.set_cons_succ]
          refine lin_val (i := 12) (v := ?_) rfl (by kernel_rfl) (by kernel_rfl) (by kernel_rfl) (fun _ _ _ h => h) hSS hS rfl (fun w hSw => ?_) ?_
          rotate_left
          · obtain ⟨q0, q1, q2, q3, q4, q5, q6, q7, q8, q9⟩ := hSw; go_simp; first | done | with_reducible rfl
          simp only [Act.put, List.setIfInBounds_toArray, List.set_cons_zero, List.set_cons_succ]
          refine lin_val (i := 13) (v := ?_) rfl (by kernel_rfl) (by kernel_rfl) (by kernel_rfl) (fun _ _ _ h => h) hSS hS rfl (fun w hSw => ?_) ?_
          rotate_left
          · obtain ⟨q0, q1, q2, q3, q4, q5, q6, q7, q8, q9⟩ := hSw; go_simp; first | done | with_reducible rfl
          simp only [Act.put, List.setIfInBounds_toArray, List.set_cons_zero, List.set_cons_succ]
          refine lin_done (by kernel_rfl) (fun wE kwE => ?_) _
          clear hS hSS
          have HF := hid ((HE.out.nil (Kp.refl _ _).drew).nil kwE)
          clear kwE
          go_wp2_with fail
          go_ret
          exact ⟨rfl, HF.out⟩
        | false =>
          go_wp2_with fail
          refine lin_start (fun w' => w'.cell? ⟨gV, 0, none⟩ = some (Value.int .i64 (k : Int)) ∧ w'.cell? ⟨gV, 1, none⟩ = some (Value.int .u64 (m : Int)) ∧ w'.cell? ⟨gV, 2, none⟩ = some (Value.bool (vN num)) ∧ w'.cell? ⟨gV, 3, none⟩ = some (Value.string ⟨(vD num).toArray⟩) ∧ w'.cell? ⟨gV, 4, none⟩ = some (Value.int .i64 (vS num)) ∧ w'.cell? ⟨gV, 5, none⟩ = some (Value.string ⟨t.toArray⟩) ∧ w'.cell? ⟨gV, 6, none⟩ = some (Value.slice A1 nk ck) ∧ w'.cell? ⟨gV, 7, none⟩ = some (Value.slice B1 nb cb) ∧ w'.cell? ⟨gV, 8, none⟩ = some (Value.int .i64 (code : Int)) ∧ Kp [] wr w') ((Stays.cell _ _).and ((Stays.cell _ _).and ((Stays.cell _ _).and ((Stays.cell _ _).and ((Stays.cell _ _).and ((Stays.cell _ _).and ((Stays.cell _ _).and ((Stays.cell _ _).and ((Stays.cell _ _).and ((Stays.kp _ _))))))))))) (by kernel_rfl) ⟨a0, a1, a2, a3, a4, a5, a6, a7, a8, (Kp.refl _ _).drew⟩ (fun hSS hS => ?_)
          refine lin_val (i := 0) (v := ?_) rfl (by kernel_rfl) (by kernel_rfl) (by kernel_rfl) (fun _ _ _ h => h) hSS hS rfl (fun w hSw => ?_) ?_
          rotate_left
          · obtain ⟨q0, q1, q2, q3, q4, q5, q6, q7, q8, q9⟩ := hSw; go_simp; first | done | with_reducible rfl
          simp only [Act.put, List.setIfInBounds_toArray, List.set_cons_zero, List.set_cons_succ]
          refine lin_val (i := 1) (v := ?_) rfl (by kernel_rfl) (by kernel_rfl) (by kernel_rfl) (fun _ _ _ h => h) hSS hS rfl (fun w hSw => ?_) ?_
          rotate_left
          · obtain ⟨q0, q1, q2, q3, q4, q5, q6, q7, q8, q9⟩ := hSw; go_simp; first | done | with_reducible rfl
          simp only [Act.put, List.setIfInBounds_toArray, List.set_cons_zero, List.set_cons_succ]
          refine lin_val (i := 2) (v := ?_) rfl (by kernel_rfl) (by kernel_rfl) (by kernel_rfl) (fun _ _ _ h => h) hSS hS rfl (fun w hSw => ?_) ?_
          rotate_left
          · obtain ⟨q0, q1, q2, q3, q4, q5, q6, q7, q8, q9⟩ := hSw; go_simp; first | done | with_reducible rfl
          simp only [Act.put, List.setIfInBounds_toArray, List.set_cons_zero, List.set_cons_succ]
          refine lin_val (i := 3) (v := ?_) rfl (by kernel_rfl) (by kernel_rfl) (by kernel_rfl) (fun _ _ _ h => h) hSS hS rfl (fun w hSw => ?_) ?_
          rotate_left
          · obtain ⟨q0, q1, q2, q3, q4, q5, q6, q7, q8, q9⟩ := hSw; go_simp; first | done | with_reducible rfl
          simp only [Act.put, List.setIfInBounds_toArray, List.set_cons_zero, List.set_cons_succ]
          refine lin_val (i := 4) (v := ?_) rfl (by kernel_rfl) (by kernel_rfl) (by kernel_rfl) (fun _ _ _ h => h) hSS hS rfl (fun w hSw => ?_) ?_
          rotate_left
          · obtain ⟨q0, q1, q2, q3, q4, q5, q6, q7, q8, q9⟩ := hSw; go_simp; first | done | with_reducible rfl
          simp only [Act.put, List.setIfInBounds_toArray, List.set_cons_zero, List.set_cons_succ]
          refine lin_val (i := 5) (v := ?_) rfl (by kernel_rfl) (by kernel_rfl) (by kernel_rfl) (fun _ _ _ h => h) hSS hS rfl (fun w hSw => ?_) ?_
          rotate_left
          · obtain ⟨q0, q1, q2, q3, q4, q5, q6, q7, q8, q9⟩ := hSw; go_simp; first | done | with_reducible rfl
          simp only [Act.put, List.setIfInBounds_toArray, List.set_cons_zero, List.set_cons_succ]
          refine lin_val (i := 6) (v := ?_) rfl (by kernel_rfl) (by kernel_rfl) (by kernel_rfl) (fun _ _ _ h => h) hSS hS rfl (fun w hSw => ?_) ?_
          rotate_left
          · obtain ⟨q0, q1, q2, q3, q4, q5, q6, q7, q8, q9⟩ := hSw; go_simp; first | done | with_reducible rfl
          simp only [Act.put, List.setIfInBounds_toArray, List.set_cons_zero, List.set_cons_succ]
          refine lin_call (i := 7) rfl (by kernel_rfl) (by kernel_rfl) (by kernel_rfl) (fun _ _ _ h => h) hSS hS rfl (fun w hSw => by obtain ⟨q0, q1, q2, q3, q4, q5, q6, q7, q8, q9⟩ := hSw; exact qsh w q9) (fun w hSw => ?_) ?_
          · obtain ⟨q0, q1, q2, q3, q4, q5, q6, q7, q8, q9⟩ := hSw; go_simp
          simp only [Act.put, List.setIfInBounds_toArray, List.set_cons_zero, List.set_cons_succ]
          refine lin_val (i := 8) (v := ?_) rfl (by kernel_rfl) (by kernel_rfl) (by kernel_rfl) (fun _ _ _ h => h) hSS hS rfl (fun w hSw => ?_) ?_
          rotate_left
          · obtain ⟨q0, q1, q2, q3, q4, q5, q6, q7, q8, q9⟩ := hSw; go_simp; first | done | with_reducible rfl
          simp only [Act.put, List.setIfInBounds_toArray, List.set_cons_zero, List.set_cons_succ]
          refine lin_call (i := 9) rfl (by kernel_rfl) (by kernel_rfl) (by kernel_rfl) (fun _ _ _ h => h) hSS hS rfl (fun w hSw => by obtain ⟨q0, q1, q2, q3, q4, q5, q6, q7, q8, q9⟩ := hSw; exact qpr w q9) (fun w hSw => ?_) ?_
          · obtain ⟨q0, q1, q2, q3, q4, q5, q6, q7, q8, q9⟩ := hSw; go_simp
          simp only [Act.put, List.setIfInBounds_toArray, List.set_cons_zero, List.set_cons_succ]
          refine lin_val (i := 10) (v := ?_) rfl (by kernel_rfl) (by kernel_rfl) (by kernel_rfl) (fun _ _ _ h => h) hSS hS rfl (fun w hSw => ?_) ?_
          rotate_left
          · obtain ⟨q0, q1, q2, q3, q4, q5, q6, q7, q8, q9⟩ := hSw; go_simp; first | done | with_reducible rfl
          simp only [Act.put, List.setIfInBounds_toArray, List.set_cons_zero, List.set_cons_succ]
          refine lin_val (i := 11) (v := ?_) rfl (by kernel_rfl) (by kernel_rfl) (by kernel_rfl) (fun _ _ _ h => h) hSS hS rfl (fun w hSw => ?_) ?_
          rotate_left
          · obtain ⟨q0, q1, q2, q3, q4, q5, q6, q7, q8, q9⟩ := hSw; go_simp; first | done | with_reducible rfl
          simp only [Act.put, List.setIfInBounds_toArray, List.set_cons_zero, List.set_cons_succ]
          refine lin_val (i := 12) (v := ?_) rfl (by kernel_rfl) (by kernel_rfl) (by kernel_rfl) (fun _ _ _ h => h) hSS hS rfl (fun w hSw => ?_) ?_
          rotate_left
          · obtain ⟨q0, q1, q2, q3, q4, q5, q6, q7, q8, q9⟩ := hSw; go_simp; first | done | with_reducible rfl
          simp only [Act.put, List.setIfInBounds_toArray, List.set_cons_zero, List.set_cons_succ]
          refine lin_val (i := 13) (v := ?_) rfl (by kernel_rfl) (by kernel_rfl) (by kernel_rfl) (fun _ _ _ h => h) hSS hS rfl (fun w hSw => ?_) ?_
          rotate_left
          · obtain ⟨q0, q1, q2, q3, q4, q5, q6, q7, q8, q9⟩ := hSw; go_simp; first | done | with_reducible rfl
          simp only [Act.put, List.setIfInBounds_toArray, List.set_cons_zero, List.set_cons_succ]
          refine lin_done (by kernel_rfl) (fun wE kwE => ?_) _
          clear hS hSS
          have HF := hid ((HE.out.nil (Kp.refl _ _).drew).nil kwE)
          clear kwE
          go_wp2_with fail
          go_ret
          exact ⟨rfl, HF.out⟩
theorem placeslaw (W : World) (_ : Tabs W) (A : Option Addr) (n c : Nat) (l : List Itm) (x : ItemsAt W A c l) (y : l.length = n) (a : Int) (ha : 0 ≤ a ∧ a ≤ 18446744073709551615) :
    Calls Tryd.prog 4 #[.slice A n c, .int .u64 a] W fun e w' => e = .returned (.bool true) ∧ Kp [] W w' := by
  subst y
  obtain ⟨a, rfl, ha'⟩ := u64_nat ha
  exact placeslaw_any W A c l x a ha'
end Go.Proofs.YtpeldjihalldkaaDoor
