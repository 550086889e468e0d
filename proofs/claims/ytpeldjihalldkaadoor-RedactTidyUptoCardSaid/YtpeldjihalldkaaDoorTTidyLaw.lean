/- RedactTidy: values that look the same look the same when they are tidy, what is hidden stays so, and as much is held of both. -/
import Derived.Test.YtpeldjihalldkaaDoorTMore
import Derived.Test.YtpeldjihalldkaaDoorTHeld
namespace Go.Proofs.YtpeldjihalldkaaDoor
open Go Go.RowKit Go.Lib

theorem hidden_mask {w : World} {v : Vl} {cs : List Value} (h : Rep w v cs) (hf : FineV v) (W : World) (cl : Nat) (hcl : cl < 18446744073709551616) :
    Calls Tryd.prog 16 #[.agg cs.toArray, .int .u64 (cl : Int)] W fun e w' => e = .returned (.bool (hidB (maskV v) cl)) ∧ Kp [] W w' := by
  cases h with
  | mk k0 m num t keys kids code A ck B cb ks hA hB hr =>
    exact hidden_cells W k0 m (vN num) (vD num) (vS num) t A keys.length ck B kids.length cb code cl (fine_mask hf) hcl
theorem fine_remask {k m : Nat} {num : Option Dc} {t : Txt} {keys : List Txt} {kids : List Vl} {code : Nat} (h : FineV (.mk k m num t keys kids code)) (m2 : Nat) (hm2 : m2 < 18446744073709551616) : FineV (.mk k m2 num t keys kids code) := by
  cases h with
  | mk _ _ _ _ _ _ _ hk hm hn hn0 ht ht0 hkl hk0 hks hkd hc hcode hc0 hc8 hmany hf => exact .mk k m2 num t keys kids code hk hm2 hn hn0 ht ht0 hkl hk0 hks hkd hc hcode hc0 hc8 hmany hf
theorem tidy_fine : ∀ v, FineV v → FineV (tidyV v) ∧ sizeV (tidyV v) = sizeV v := by
  refine Vl.ind fun k m num t keys kids code ih hf => ?_
  have hfk := fine_kid hf
  by_cases hm : m = 0
  · subst hm
    have e : tidyV (.mk k 0 num t keys kids code) = .mk k 0 num t keys (tidys kids) code := by unfold tidyV; rw [if_neg (by simp)]
    rw [e]
    constructor
    · cases hf with
      | mk _ _ _ _ _ _ _ hk hm hn hn0 ht ht0 hkl hk0 hks hkd hc hcode hc0 hc8 hmany hff =>
        refine .mk k 0 num t keys (tidys kids) code hk hm hn hn0 ht ht0 (fun h => by rw [tidys_map, List.length_map]; exact hkl h) hk0 hks hkd (fun h6 h7 => by rw [hc h6 h7]; simp [tidys]) hcode hc0 hc8 (by rw [tidys_map, List.length_map]; exact hmany) fun i v hv => ?_
        rw [tidys_map, List.getElem?_map] at hv
        obtain ⟨u, hu, rfl⟩ := Option.map_eq_some_iff.1 hv
        exact (ih u (at_mem hu) (hff i u hu)).1
    · have h : ∀ l : List Vl, (∀ v ∈ l, sizeV (tidyV v) = sizeV v) → sizes (tidys l) = sizes l := by
        intro l
        induction l with
        | nil => intro _; simp [tidys]
        | cons v r ih2 =>
          intro h
          unfold tidys sizes
          rw [h v (by simp), ih2 fun u hu => h u (by simp [hu])]
      unfold sizeV
      rw [h kids fun v hv => (ih v hv (hfk v hv)).2]
  · have e : tidyV (.mk k m num t keys kids code) = .mk k (0 ||| deepV (.mk k m num t keys kids code)) num t keys (bares kids) code := by
      unfold tidyV
      rw [if_pos hm]
      unfold bareV withV
      rfl
    have hb := bare_fine _ hf
    have hs := bare_size (.mk k m num t keys kids code)
    have e2 : bareV (.mk k m num t keys kids code) = .mk k 0 num t keys (bares kids) code := by unfold bareV; rfl
    rw [e2] at hb hs
    rw [e]
    refine ⟨fine_remask hb _ (Nat.or_lt_two_pow (n := 64) (by decide) (deep_lt _ hf)), ?_⟩
    rw [← hs]
    unfold sizeV
    rfl
set_option maxRecDepth 100000 in
set_option maxHeartbeats 25600000 in
theorem tidylaw_any (w : World) (A : Option Addr) (c : Nat) (l : List Itm) (hl : ItemsAt w A c l) (A' : Option Addr) (c' : Nat) (l' : List Itm) (hl' : ItemsAt w A' c' l') (cl : Nat) (hcl : cl < 18446744073709551616) :
    Calls Tryd.prog 6 #[.slice A l.length c, .slice A' l'.length c', .int .u64 (cl : Int)] w fun e w' => e = .returned (.bool true) ∧ Kp [] w w' := by
  have q1 := shown9_any w
  have q2 := fun W (k : Kp [] w W) => built_any W A c l (hl.kept k)
  have q3 := fun W (k : Kp [] w W) => built_any W A' c' l' (hl'.kept k)
  obtain ⟨N, hN⟩ : ∃ N, N = l.length := ⟨_, rfl⟩
  obtain ⟨M, hM⟩ : ∃ M, M = l'.length := ⟨_, rfl⟩
  rw [← hN] at q2 ⊢
  rw [← hM] at q3 ⊢
  have HCL := hid hcl
  clear hl hl' hN hM hcl
  go_enter Tryd.func6, Tryd.ntmps6
  go_wp2_with fail
  (with_reducible refine q1.mono ?_)
  rintro e w1 ⟨rfl, k1⟩
  have qb := q2 _ k1
  have HK1 := hid k1
  clear k1 q1 q2
  go_wp2_with fail
  (with_reducible refine qb.mono ?_)
  rintro e w2 ⟨va, ca, rfl, hrsa, hfa, hza, k2⟩
  have hrsa2 : RepS w2 (fun x => x < w2.heap.size) va ca := hrsa.mono (fun x h => h.2)
  have HA := hid (And.intro hrsa2 (And.intro hfa hza))
  have hk2 := HK1.out.nil k2
  have hrepa := hrsa.rep
  cases hrepa with
  | mk k m num t keys kids code A1 ck B1 cb ks hA1 hB1 hr1 =>
    unfold vC at HA ⊢
    obtain ⟨nk, hnk⟩ : ∃ x, x = keys.length := ⟨_, rfl⟩
    obtain ⟨nb, hnb⟩ : ∃ x, x = kids.length := ⟨_, rfl⟩
    simp only [← hnk, ← hnb] at HA ⊢
    have hmask : maskV (.mk k m num t keys kids code) = m := rfl
    obtain ⟨va, hva⟩ : ∃ v : Vl, v = .mk k m num t keys kids code := ⟨_, rfl⟩
    rw [← hva] at HA hmask
    have HMV := hid hmask
    obtain ⟨w3, hw3⟩ : ∃ w3, w3 = w2.alloc (.cells #[.int .i64 (k : Int), .int .u64 (m : Int), .bool (vN num), .string ⟨(vD num).toArray⟩, .int .i64 (vS num), .string ⟨t.toArray⟩, .slice A1 nk ck, .slice B1 nb cb, .int .i64 (code : Int)] 31) := ⟨_, rfl⟩
    have hk23 : Kp [] w2 w3 := by rw [hw3]; exact (Kp.refl _ _).alloc _
    have hca : Cells w3 w2.heap.size 31 [.int .i64 (k : Int), .int .u64 (m : Int), .bool (vN num), .string ⟨(vD num).toArray⟩, .int .i64 (vS num), .string ⟨t.toArray⟩, .slice A1 nk ck, .slice B1 nb cb, .int .i64 (code : Int)] := by rw [hw3]; exact Cells.fresh w2 31 _
    have qb2 := q3 _ (hk2.nil hk23)
    have HW3 := hid hw3
    have H3 := hid (And.intro hk2 (And.intro hk23 hca))
    clear hrsa hrsa2 hfa hza k2 hA1 hB1 hr1 hnk hnb hva hw3 hk2 hk23 hca qb q3 hmask
    go_wp2_with fail
    rw [← HW3.out]
    (with_reducible refine qb2.mono ?_)
    rintro e w4 ⟨vb, cb0, rfl, hrsb, hfb, hzb, k4⟩
    have hrsb2 : RepS w4 (fun x => x < w4.heap.size) vb cb0 := hrsb.mono (fun x h => h.2)
    have hrepb := hrsb.rep
    have HB := hid (And.intro hrsb2 (And.intro hfb hzb))
    have hk34 := k4
    cases hrepb with
    | mk k' m' num' t' keys' kids' code' A2 ck' B2 cb' ks' hA2 hB2 hr2 =>
      unfold vC at HB ⊢
      obtain ⟨nk', hnk'⟩ : ∃ x, x = keys'.length := ⟨_, rfl⟩
      obtain ⟨nb', hnb'⟩ : ∃ x, x = kids'.length := ⟨_, rfl⟩
      simp only [← hnk', ← hnb'] at HB ⊢
      obtain ⟨vb, hvb⟩ : ∃ v : Vl, v = .mk k' m' num' t' keys' kids' code' := ⟨_, rfl⟩
      rw [← hvb] at HB
      obtain ⟨w5, hw5⟩ : ∃ w5, w5 = w4.alloc (.cells #[.int .i64 (k' : Int), .int .u64 (m' : Int), .bool (vN num'), .string ⟨(vD num').toArray⟩, .int .i64 (vS num'), .string ⟨t'.toArray⟩, .slice A2 nk' ck', .slice B2 nb' cb', .int .i64 (code' : Int)] 31) := ⟨_, rfl⟩
      have hk45 : Kp [] w4 w5 := by rw [hw5]; exact (Kp.refl _ _).alloc _
      have hcb : Cells w5 w4.heap.size 31 [.int .i64 (k' : Int), .int .u64 (m' : Int), .bool (vN num'), .string ⟨(vD num').toArray⟩, .int .i64 (vS num'), .string ⟨t'.toArray⟩, .slice A2 nk' ck', .slice B2 nb' cb', .int .i64 (code' : Int)] := by rw [hw5]; exact Cells.fresh w4 31 _
      have hk35 := hk34.nil hk45
      have hca4 := H3.out.2.2.keep hk34 (by simp)
      have v0 := hca4.cell 0; have v1 := hca4.cell 1; have v2 := hca4.cell 2; have v3 := hca4.cell 3; have v4 := hca4.cell 4; have v5 := hca4.cell 5; have v6 := hca4.cell 6; have v7 := hca4.cell 7; have v8 := hca4.cell 8
      have vv0 := fun o => ((Kp.refl [] w4).alloc o).cell v0 (by simp)
      have vv1 := fun o => ((Kp.refl [] w4).alloc o).cell v1 (by simp)
      have vv2 := fun o => ((Kp.refl [] w4).alloc o).cell v2 (by simp)
      have vv3 := fun o => ((Kp.refl [] w4).alloc o).cell v3 (by simp)
      have vv4 := fun o => ((Kp.refl [] w4).alloc o).cell v4 (by simp)
      have vv5 := fun o => ((Kp.refl [] w4).alloc o).cell v5 (by simp)
      have vv6 := fun o => ((Kp.refl [] w4).alloc o).cell v6 (by simp)
      have vv7 := fun o => ((Kp.refl [] w4).alloc o).cell v7 (by simp)
      have vv8 := fun o => ((Kp.refl [] w4).alloc o).cell v8 (by simp)
      have H5 := hid (And.intro (H3.out.2.2.keep hk35 (by simp)) (And.intro hcb (And.intro (H3.out.2.1.nil hk35) (And.intro hk45 ((H3.out.1.nil H3.out.2.1).nil hk35)))))
      have HW5 := hid hw5
      clear hrsb hrsb2 hfb hzb k4 hA2 hB2 hr2 hnk' hnb' hvb hw5 hk34 hk45 hk35 hca4 hcb qb2 v0 v1 v2 v3 v4 v5 v6 v7 v8
      -- Tidy of the first
      have qt := tidy_rep4 HA.out.1 HA.out.2.1 w5 H5.out.2.2.1
      go_wp2_with fail
      rw [← HW5.out]
      clear vv0 vv1 vv2 vv3 vv4 vv5 vv6 vv7 vv8
      (with_reducible refine qt.mono ?_)
      rintro e w6 ⟨cx, rfl, hrx, k6⟩
      obtain ⟨xk, xm, xn, xd, xz, xx, xA, xnk, xck, xB, xnb, xcb, xco, rfl⟩ := hrx.rep.isV
      obtain ⟨w7, hw7⟩ : ∃ w7, w7 = w6.alloc (.cells #[.int .i64 xk, .int .u64 xm, .bool xn, .string xd, .int .i64 xz, .string xx, .slice xA xnk xck, .slice xB xnb xcb, .int .i64 xco] 31) := ⟨_, rfl⟩
      have hk67 : Kp [] w6 w7 := by rw [hw7]; exact (Kp.refl _ _).alloc _
      have hcx : Cells w7 w6.heap.size 31 [.int .i64 xk, .int .u64 xm, .bool xn, .string xd, .int .i64 xz, .string xx, .slice xA xnk xck, .slice xB xnb xcb, .int .i64 xco] := by rw [hw7]; exact Cells.fresh w6 31 _
      have hk57 := k6.nil hk67
      have hcb6 := H5.out.2.1.keep k6 (by simp)
      have v0 := hcb6.cell 0; have v1 := hcb6.cell 1; have v2 := hcb6.cell 2; have v3 := hcb6.cell 3; have v4 := hcb6.cell 4; have v5 := hcb6.cell 5; have v6 := hcb6.cell 6; have v7 := hcb6.cell 7; have v8 := hcb6.cell 8
      have vv0 := fun o => ((Kp.refl [] w6).alloc o).cell v0 (by simp)
      have vv1 := fun o => ((Kp.refl [] w6).alloc o).cell v1 (by simp)
      have vv2 := fun o => ((Kp.refl [] w6).alloc o).cell v2 (by simp)
      have vv3 := fun o => ((Kp.refl [] w6).alloc o).cell v3 (by simp)
      have vv4 := fun o => ((Kp.refl [] w6).alloc o).cell v4 (by simp)
      have vv5 := fun o => ((Kp.refl [] w6).alloc o).cell v5 (by simp)
      have vv6 := fun o => ((Kp.refl [] w6).alloc o).cell v6 (by simp)
      have vv7 := fun o => ((Kp.refl [] w6).alloc o).cell v7 (by simp)
      have vv8 := fun o => ((Kp.refl [] w6).alloc o).cell v8 (by simp)
      have HRX := hid (And.intro hrx.rep hk67)
      have H7 := hid (And.intro (H5.out.1.keep hk57 (by simp)) (And.intro (H5.out.2.1.keep hk57 (by simp)) (And.intro hcx (And.intro hk57 (And.intro (H5.out.2.2.1.nil hk57) (And.intro (H5.out.2.2.2.1.nil hk57) (H5.out.2.2.2.2.nil hk57)))))))
      have HW7 := hid hw7
      clear hrx k6 hk67 hk57 hcx hw7 qt hcb6 v0 v1 v2 v3 v4 v5 v6 v7 v8
      have qt := tidy_rep4 HB.out.1 HB.out.2.1 w7 H7.out.2.2.2.2.2.1
      go_wp2_with fail
      rw [← HW7.out]
      clear vv0 vv1 vv2 vv3 vv4 vv5 vv6 vv7 vv8
      (with_reducible refine qt.mono ?_)
      rintro e w8 ⟨cy, rfl, hry, k8⟩
      obtain ⟨yk, ym, yn, yd, yz, yx, yA, ynk, yck, yB, ynb, ycb, yco, rfl⟩ := hry.rep.isV
      obtain ⟨w9, hw9⟩ : ∃ w9, w9 = w8.alloc (.cells #[.int .i64 yk, .int .u64 ym, .bool yn, .string yd, .int .i64 yz, .string yx, .slice yA ynk yck, .slice yB ynb ycb, .int .i64 yco] 31) := ⟨_, rfl⟩
      have hk89 : Kp [] w8 w9 := by rw [hw9]; exact (Kp.refl _ _).alloc _
      have hcy : Cells w9 w8.heap.size 31 [.int .i64 yk, .int .u64 ym, .bool yn, .string yd, .int .i64 yz, .string yx, .slice yA ynk yck, .slice yB ynb ycb, .int .i64 yco] := by rw [hw9]; exact Cells.fresh w8 31 _
      have hk79 := k8.nil hk89
      have hca8 := H7.out.1.keep k8 (by simp)
      have v0 := hca8.cell 0; have v1 := hca8.cell 1; have v2 := hca8.cell 2; have v3 := hca8.cell 3; have v4 := hca8.cell 4; have v5 := hca8.cell 5; have v6 := hca8.cell 6; have v7 := hca8.cell 7; have v8 := hca8.cell 8
      have vv0 := fun o => ((Kp.refl [] w8).alloc o).cell v0 (by simp)
      have vv1 := fun o => ((Kp.refl [] w8).alloc o).cell v1 (by simp)
      have vv2 := fun o => ((Kp.refl [] w8).alloc o).cell v2 (by simp)
      have vv3 := fun o => ((Kp.refl [] w8).alloc o).cell v3 (by simp)
      have vv4 := fun o => ((Kp.refl [] w8).alloc o).cell v4 (by simp)
      have vv5 := fun o => ((Kp.refl [] w8).alloc o).cell v5 (by simp)
      have vv6 := fun o => ((Kp.refl [] w8).alloc o).cell v6 (by simp)
      have vv7 := fun o => ((Kp.refl [] w8).alloc o).cell v7 (by simp)
      have vv8 := fun o => ((Kp.refl [] w8).alloc o).cell v8 (by simp)
      have hca := H7.out.1.keep hk79 (by simp)
      have hcb := H7.out.2.1.keep hk79 (by simp)
      have hcx := H7.out.2.2.1.keep hk79 (by simp)
      have ra := HA.out.1.rep.kept (H7.out.2.2.2.2.1.nil hk79)
      have rb := HB.out.1.rep.kept (H7.out.2.2.2.2.2.1.nil hk79)
      have rx := HRX.out.1.kept (HRX.out.2.nil hk79)
      have ry := hry.rep.kept hk89
      have hkw := H7.out.2.2.2.2.2.2.nil hk79
      have fx := tidy_fine va HA.out.2.1
      have fy := tidy_fine vb HB.out.2.1
      have za := HA.out.2.2
      have zb := HB.out.2.2
      have qha := fun W => hidden_mask ra HA.out.2.1 W cl HCL.out
      have qhx0 := fun W => hidden_mask rx fx.1 W cl HCL.out
      have qal := fun W (h : Kp [] w9 W) => alike_any (ra.kept h) (rb.kept h) HA.out.2.1 HB.out.2.1 cl HCL.out
      have qxy := fun W (h : Kp [] w9 W) => alike_any (rx.kept h) (ry.kept h) fx.1 fy.1 cl HCL.out
      have qhx := fun W (h : Kp [] w9 W) => held_rep rx (by omega) W h
      have qhy := fun W (h : Kp [] w9 W) => held_rep ry (by omega) W h
      have hth := tidy_hid cl va
      have hta := tidy_alike cl va vb
      obtain ⟨p, hp⟩ : ∃ p, p = alikeL cl va vb := ⟨_, rfl⟩
      obtain ⟨ha, hha⟩ : ∃ p, p = hidB (maskV va) cl := ⟨_, rfl⟩
      obtain ⟨hx, hhx⟩ : ∃ p, p = hidB (maskV (tidyV va)) cl := ⟨_, rfl⟩
      obtain ⟨pxy, hpxy⟩ : ∃ p, p = alikeL cl (tidyV va) (tidyV vb) := ⟨_, rfl⟩
      obtain ⟨dx, hdx⟩ : ∃ p, p = heldV (tidyV va) := ⟨_, rfl⟩
      obtain ⟨dy, hdy⟩ : ∃ p, p = heldV (tidyV vb) := ⟨_, rfl⟩
      simp only [← hp] at qal hta
      simp only [← hha] at qha hth
      simp only [← hhx] at qhx0 hth
      simp only [← hpxy] at qxy hta
      simp only [← hdx] at qhx hta
      simp only [← hdy] at qhy hta
      obtain ⟨gA, hgA⟩ : ∃ gA, gA = w2.heap.size := ⟨_, rfl⟩
      obtain ⟨gB, hgB⟩ : ∃ gB, gB = w4.heap.size := ⟨_, rfl⟩
      obtain ⟨gX, hgX⟩ : ∃ gX, gX = w6.heap.size := ⟨_, rfl⟩
      obtain ⟨gY, hgY⟩ : ∃ gY, gY = w8.heap.size := ⟨_, rfl⟩
      rw [← hgA] at hca
      rw [← hgB] at hcb
      rw [← hgX] at hcx
      rw [← hgY] at hcy
      have HG := hid (And.intro hgA (And.intro hgB (And.intro hgX hgY)))
      have HT := hid (And.intro hth hta)
      have HKW := hid hkw
      have HW9 := hid hw9
      clear hry k8 hk89 hk79 hw9 qt hca8 v0 v1 v2 v3 v4 v5 v6 v7 v8 ra rb rx ry hkw fx fy za zb hth hta hp hha hhx hpxy hdx hdy hgA hgB hgX hgY
      have a0 := hca.cell 0; have a1 := hca.cell 1; have a2 := hca.cell 2; have a3 := hca.cell 3; have a4 := hca.cell 4; have a5 := hca.cell 5; have a6 := hca.cell 6; have a7 := hca.cell 7; have a8 := hca.cell 8
      have b0 := hcb.cell 0; have b1 := hcb.cell 1; have b2 := hcb.cell 2; have b3 := hcb.cell 3; have b4 := hcb.cell 4; have b5 := hcb.cell 5; have b6 := hcb.cell 6; have b7 := hcb.cell 7; have b8 := hcb.cell 8
      have x0 := hcx.cell 0; have x1 := hcx.cell 1; have x2 := hcx.cell 2; have x3 := hcx.cell 3; have x4 := hcx.cell 4; have x5 := hcx.cell 5; have x6 := hcx.cell 6; have x7 := hcx.cell 7; have x8 := hcx.cell 8
      have y0 := hcy.cell 0; have y1 := hcy.cell 1; have y2 := hcy.cell 2; have y3 := hcy.cell 3; have y4 := hcy.cell 4; have y5 := hcy.cell 5; have y6 := hcy.cell 6; have y7 := hcy.cell 7; have y8 := hcy.cell 8
      go_wp2_with fail
      rw [← HW9.out]
      simp only [← HG.out.1, ← HG.out.2.1, ← HG.out.2.2.1, ← HG.out.2.2.2]
      clear vv0 vv1 vv2 vv3 vv4 vv5 vv6 vv7 vv8
      (with_reducible refine (qha _).mono ?_)
      rintro e w10 ⟨rfl, k10⟩
      have hca := hca.keep k10 (by simp)
      have hcb := hcb.keep k10 (by simp)
      have hcx := hcx.keep k10 (by simp)
      have hcy := hcy.keep k10 (by simp)
      clear a0 a1 a2 a3 a4 a5 a6 a7 a8 b0 b1 b2 b3 b4 b5 b6 b7 b8 x0 x1 x2 x3 x4 x5 x6 x7 x8 y0 y1 y2 y3 y4 y5 y6 y7 y8
      have a0 := hca.cell 0; have a1 := hca.cell 1; have a2 := hca.cell 2; have a3 := hca.cell 3; have a4 := hca.cell 4; have a5 := hca.cell 5; have a6 := hca.cell 6; have a7 := hca.cell 7; have a8 := hca.cell 8
      have b0 := hcb.cell 0; have b1 := hcb.cell 1; have b2 := hcb.cell 2; have b3 := hcb.cell 3; have b4 := hcb.cell 4; have b5 := hcb.cell 5; have b6 := hcb.cell 6; have b7 := hcb.cell 7; have b8 := hcb.cell 8
      have x0 := hcx.cell 0; have x1 := hcx.cell 1; have x2 := hcx.cell 2; have x3 := hcx.cell 3; have x4 := hcx.cell 4; have x5 := hcx.cell 5; have x6 := hcx.cell 6; have x7 := hcx.cell 7; have x8 := hcx.cell 8
      have y0 := hcy.cell 0; have y1 := hcy.cell 1; have y2 := hcy.cell 2; have y3 := hcy.cell 3; have y4 := hcy.cell 4; have y5 := hcy.cell 5; have y6 := hcy.cell 6; have y7 := hcy.cell 7; have y8 := hcy.cell 8
      have H10 := hid k10
      clear k10 qha
      cases ha with
      | false =>
        go_wp2_with fail
        (with_reducible refine (qal _ H10.out).mono ?_)
        rintro e w12 ⟨rfl, k12⟩
        have H12 := hid ((H10.out).nil k12)
        have hca := hca.keep k12 (by simp)
        have hcb := hcb.keep k12 (by simp)
        have hcx := hcx.keep k12 (by simp)
        have hcy := hcy.keep k12 (by simp)
        clear a0 a1 a2 a3 a4 a5 a6 a7 a8 b0 b1 b2 b3 b4 b5 b6 b7 b8 x0 x1 x2 x3 x4 x5 x6 x7 x8 y0 y1 y2 y3 y4 y5 y6 y7 y8
        have a0 := hca.cell 0; have a1 := hca.cell 1; have a2 := hca.cell 2; have a3 := hca.cell 3; have a4 := hca.cell 4; have a5 := hca.cell 5; have a6 := hca.cell 6; have a7 := hca.cell 7; have a8 := hca.cell 8
        have b0 := hcb.cell 0; have b1 := hcb.cell 1; have b2 := hcb.cell 2; have b3 := hcb.cell 3; have b4 := hcb.cell 4; have b5 := hcb.cell 5; have b6 := hcb.cell 6; have b7 := hcb.cell 7; have b8 := hcb.cell 8
        have x0 := hcx.cell 0; have x1 := hcx.cell 1; have x2 := hcx.cell 2; have x3 := hcx.cell 3; have x4 := hcx.cell 4; have x5 := hcx.cell 5; have x6 := hcx.cell 6; have x7 := hcx.cell 7; have x8 := hcx.cell 8
        have y0 := hcy.cell 0; have y1 := hcy.cell 1; have y2 := hcy.cell 2; have y3 := hcy.cell 3; have y4 := hcy.cell 4; have y5 := hcy.cell 5; have y6 := hcy.cell 6; have y7 := hcy.cell 7; have y8 := hcy.cell 8
        have qxy := fun W (h : Kp [] w12 W) => qxy W (H12.out.nil h)
        have qhx := fun W (h : Kp [] w12 W) => qhx W (H12.out.nil h)
        have qhy := fun W (h : Kp [] w12 W) => qhy W (H12.out.nil h)
        clear k12 qal hca hcb hcx hcy
        cases p with
        | false =>
          go_wp2_with fail
          refine lin_start (fun w' => w'.cell? ⟨gA, 1, none⟩ = some (Value.int .u64 (m : Int)) ∧ w'.cell? ⟨gX, 0, none⟩ = some (Value.int .i64 xk) ∧ w'.cell? ⟨gX, 1, none⟩ = some (Value.int .u64 xm) ∧ w'.cell? ⟨gX, 2, none⟩ = some (Value.bool xn) ∧ w'.cell? ⟨gX, 3, none⟩ = some (Value.string xd) ∧ w'.cell? ⟨gX, 4, none⟩ = some (Value.int .i64 xz) ∧ w'.cell? ⟨gX, 5, none⟩ = some (Value.string xx) ∧ w'.cell? ⟨gX, 6, none⟩ = some (Value.slice xA xnk xck) ∧ w'.cell? ⟨gX, 7, none⟩ = some (Value.slice xB xnb xcb) ∧ w'.cell? ⟨gX, 8, none⟩ = some (Value.int .i64 xco) ∧ w'.cell? ⟨gY, 0, none⟩ = some (Value.int .i64 yk) ∧ w'.cell? ⟨gY, 1, none⟩ = some (Value.int .u64 ym) ∧ w'.cell? ⟨gY, 2, none⟩ = some (Value.bool yn) ∧ w'.cell? ⟨gY, 3, none⟩ = some (Value.string yd) ∧ w'.cell? ⟨gY, 4, none⟩ = some (Value.int .i64 yz) ∧ w'.cell? ⟨gY, 5, none⟩ = some (Value.string yx) ∧ w'.cell? ⟨gY, 6, none⟩ = some (Value.slice yA ynk yck) ∧ w'.cell? ⟨gY, 7, none⟩ = some (Value.slice yB ynb ycb) ∧ w'.cell? ⟨gY, 8, none⟩ = some (Value.int .i64 yco) ∧ Kp [] w12 w') ((Stays.cell _ _).and ((Stays.cell _ _).and ((Stays.cell _ _).and ((Stays.cell _ _).and ((Stays.cell _ _).and ((Stays.cell _ _).and ((Stays.cell _ _).and ((Stays.cell _ _).and ((Stays.cell _ _).and ((Stays.cell _ _).and ((Stays.cell _ _).and ((Stays.cell _ _).and ((Stays.cell _ _).and ((Stays.cell _ _).and ((Stays.cell _ _).and ((Stays.cell _ _).and ((Stays.cell _ _).and ((Stays.cell _ _).and ((Stays.cell _ _).and ((Stays.kp _ _))))))))))))))))))))) (by kernel_rfl) ⟨a1, x0, x1, x2, x3, x4, x5, x6, x7, x8, y0, y1, y2, y3, y4, y5, y6, y7, y8, (Kp.refl _ _).drew⟩ (fun hSS hS => ?_)
          refine lin_val (i := 0) (v := ?_) rfl (by kernel_rfl) (by kernel_rfl) (by kernel_rfl) (fun _ _ _ h => h) hSS hS rfl (fun w hSw => ?_) ?_
          rotate_left
          · obtain ⟨q0, q1, q2, q3, q4, q5, q6, q7, q8, q9, q10, q11, q12, q13, q14, q15, q16, q17, q18, q19⟩ := hSw; go_simp; first | done | with_reducible rfl
          simp only [Act.put, List.setIfInBounds_toArray, List.set_cons_zero, List.set_cons_succ]
          refine lin_val (i := 1) (v := ?_) rfl (by kernel_rfl) (by kernel_rfl) (by kernel_rfl) (fun _ _ _ h => h) hSS hS rfl (fun w hSw => ?_) ?_
          rotate_left
          · obtain ⟨q0, q1, q2, q3, q4, q5, q6, q7, q8, q9, q10, q11, q12, q13, q14, q15, q16, q17, q18, q19⟩ := hSw; go_simp; first | done | with_reducible rfl
          simp only [Act.put, List.setIfInBounds_toArray, List.set_cons_zero, List.set_cons_succ]
          refine lin_val (i := 2) (v := ?_) rfl (by kernel_rfl) (by kernel_rfl) (by kernel_rfl) (fun _ _ _ h => h) hSS hS rfl (fun w hSw => ?_) ?_
          rotate_left
          · obtain ⟨q0, q1, q2, q3, q4, q5, q6, q7, q8, q9, q10, q11, q12, q13, q14, q15, q16, q17, q18, q19⟩ := hSw; go_simp; first | done | with_reducible rfl
          simp only [Act.put, List.setIfInBounds_toArray, List.set_cons_zero, List.set_cons_succ]
          refine lin_val (i := 3) (v := ?_) rfl (by kernel_rfl) (by kernel_rfl) (by kernel_rfl) (fun _ _ _ h => h) hSS hS rfl (fun w hSw => ?_) ?_
          rotate_left
          · obtain ⟨q0, q1, q2, q3, q4, q5, q6, q7, q8, q9, q10, q11, q12, q13, q14, q15, q16, q17, q18, q19⟩ := hSw; go_simp; first | done | with_reducible rfl
          simp only [Act.put, List.setIfInBounds_toArray, List.set_cons_zero, List.set_cons_succ]
          refine lin_val (i := 4) (v := ?_) rfl (by kernel_rfl) (by kernel_rfl) (by kernel_rfl) (fun _ _ _ h => h) hSS hS rfl (fun w hSw => ?_) ?_
          rotate_left
          · obtain ⟨q0, q1, q2, q3, q4, q5, q6, q7, q8, q9, q10, q11, q12, q13, q14, q15, q16, q17, q18, q19⟩ := hSw; go_simp; first | done | with_reducible rfl
          simp only [Act.put, List.setIfInBounds_toArray, List.set_cons_zero, List.set_cons_succ]
          refine lin_val (i := 5) (v := ?_) rfl (by kernel_rfl) (by kernel_rfl) (by kernel_rfl) (fun _ _ _ h => h) hSS hS rfl (fun w hSw => ?_) ?_
          rotate_left
          · obtain ⟨q0, q1, q2, q3, q4, q5, q6, q7, q8, q9, q10, q11, q12, q13, q14, q15, q16, q17, q18, q19⟩ := hSw; go_simp; first | done | with_reducible rfl
          simp only [Act.put, List.setIfInBounds_toArray, List.set_cons_zero, List.set_cons_succ]
          refine lin_val (i := 6) (v := ?_) rfl (by kernel_rfl) (by kernel_rfl) (by kernel_rfl) (fun _ _ _ h => h) hSS hS rfl (fun w hSw => ?_) ?_
          rotate_left
          · obtain ⟨q0, q1, q2, q3, q4, q5, q6, q7, q8, q9, q10, q11, q12, q13, q14, q15, q16, q17, q18, q19⟩ := hSw; go_simp; first | done | with_reducible rfl
          simp only [Act.put, List.setIfInBounds_toArray, List.set_cons_zero, List.set_cons_succ]
          refine lin_val (i := 7) (v := ?_) rfl (by kernel_rfl) (by kernel_rfl) (by kernel_rfl) (fun _ _ _ h => h) hSS hS rfl (fun w hSw => ?_) ?_
          rotate_left
          · obtain ⟨q0, q1, q2, q3, q4, q5, q6, q7, q8, q9, q10, q11, q12, q13, q14, q15, q16, q17, q18, q19⟩ := hSw; go_simp; first | done | with_reducible rfl
          simp only [Act.put, List.setIfInBounds_toArray, List.set_cons_zero, List.set_cons_succ]
          refine lin_not (i := 8) rfl (by kernel_rfl) (by kernel_rfl) (by kernel_rfl) (fun _ _ _ h => h) hSS hS rfl ?_
          simp only [Act.put, List.setIfInBounds_toArray, List.set_cons_zero, List.set_cons_succ]
          refine lin_not (i := 9) rfl (by kernel_rfl) (by kernel_rfl) (by kernel_rfl) (fun _ _ _ h => h) hSS hS rfl ?_
          simp only [Act.put, List.setIfInBounds_toArray, List.set_cons_zero, List.set_cons_succ]
          refine lin_not (i := 10) rfl (by kernel_rfl) (by kernel_rfl) (by kernel_rfl) (fun _ _ _ h => h) hSS hS rfl ?_
          simp only [Act.put, List.setIfInBounds_toArray, List.set_cons_zero, List.set_cons_succ]
          refine lin_not (i := 11) rfl (by kernel_rfl) (by kernel_rfl) (by kernel_rfl) (fun _ _ _ h => h) hSS hS rfl ?_
          simp only [Act.put, List.setIfInBounds_toArray, List.set_cons_zero, List.set_cons_succ]
          refine lin_val (i := 12) (v := ?_) rfl (by kernel_rfl) (by kernel_rfl) (by kernel_rfl) (fun _ _ _ h => h) hSS hS rfl (fun w hSw => ?_) ?_
          rotate_left
          · obtain ⟨q0, q1, q2, q3, q4, q5, q6, q7, q8, q9, q10, q11, q12, q13, q14, q15, q16, q17, q18, q19⟩ := hSw; go_simp; first | done | with_reducible rfl
          simp only [Act.put, List.setIfInBounds_toArray, List.set_cons_zero, List.set_cons_succ]
          refine lin_val (i := 13) (v := ?_) rfl (by kernel_rfl) (by kernel_rfl) (by kernel_rfl) (fun _ _ _ h => h) hSS hS rfl (fun w hSw => ?_) ?_
          rotate_left
          · obtain ⟨q0, q1, q2, q3, q4, q5, q6, q7, q8, q9, q10, q11, q12, q13, q14, q15, q16, q17, q18, q19⟩ := hSw; go_simp; first | done | with_reducible rfl
          simp only [Act.put, List.setIfInBounds_toArray, List.set_cons_zero, List.set_cons_succ]
          refine lin_val (i := 14) (v := ?_) rfl (by kernel_rfl) (by kernel_rfl) (by kernel_rfl) (fun _ _ _ h => h) hSS hS rfl (fun w hSw => ?_) ?_
          rotate_left
          · obtain ⟨q0, q1, q2, q3, q4, q5, q6, q7, q8, q9, q10, q11, q12, q13, q14, q15, q16, q17, q18, q19⟩ := hSw; go_simp; first | done | with_reducible rfl
          simp only [Act.put, List.setIfInBounds_toArray, List.set_cons_zero, List.set_cons_succ]
          refine lin_val (i := 15) (v := ?_) rfl (by kernel_rfl) (by kernel_rfl) (by kernel_rfl) (fun _ _ _ h => h) hSS hS rfl (fun w hSw => ?_) ?_
          rotate_left
          · obtain ⟨q0, q1, q2, q3, q4, q5, q6, q7, q8, q9, q10, q11, q12, q13, q14, q15, q16, q17, q18, q19⟩ := hSw; go_simp; first | done | with_reducible rfl
          simp only [Act.put, List.setIfInBounds_toArray, List.set_cons_zero, List.set_cons_succ]
          refine lin_val (i := 16) (v := ?_) rfl (by kernel_rfl) (by kernel_rfl) (by kernel_rfl) (fun _ _ _ h => h) hSS hS rfl (fun w hSw => ?_) ?_
          rotate_left
          · obtain ⟨q0, q1, q2, q3, q4, q5, q6, q7, q8, q9, q10, q11, q12, q13, q14, q15, q16, q17, q18, q19⟩ := hSw; go_simp; first | done | with_reducible rfl
          simp only [Act.put, List.setIfInBounds_toArray, List.set_cons_zero, List.set_cons_succ]
          refine lin_val (i := 17) (v := ?_) rfl (by kernel_rfl) (by kernel_rfl) (by kernel_rfl) (fun _ _ _ h => h) hSS hS rfl (fun w hSw => ?_) ?_
          rotate_left
          · obtain ⟨q0, q1, q2, q3, q4, q5, q6, q7, q8, q9, q10, q11, q12, q13, q14, q15, q16, q17, q18, q19⟩ := hSw; go_simp; first | done | with_reducible rfl
          simp only [Act.put, List.setIfInBounds_toArray, List.set_cons_zero, List.set_cons_succ]
          refine lin_not (i := 18) rfl (by kernel_rfl) (by kernel_rfl) (by kernel_rfl) (fun _ _ _ h => h) hSS hS rfl ?_
          simp only [Act.put, List.setIfInBounds_toArray, List.set_cons_zero, List.set_cons_succ]
          refine lin_not (i := 19) rfl (by kernel_rfl) (by kernel_rfl) (by kernel_rfl) (fun _ _ _ h => h) hSS hS rfl ?_
          simp only [Act.put, List.setIfInBounds_toArray, List.set_cons_zero, List.set_cons_succ]
          refine lin_not (i := 20) rfl (by kernel_rfl) (by kernel_rfl) (by kernel_rfl) (fun _ _ _ h => h) hSS hS rfl ?_
          simp only [Act.put, List.setIfInBounds_toArray, List.set_cons_zero, List.set_cons_succ]
          refine lin_val (i := 21) (v := ?_) rfl (by kernel_rfl) (by kernel_rfl) (by kernel_rfl) (fun _ _ _ h => h) hSS hS rfl (fun w hSw => ?_) ?_
          rotate_left
          · obtain ⟨q0, q1, q2, q3, q4, q5, q6, q7, q8, q9, q10, q11, q12, q13, q14, q15, q16, q17, q18, q19⟩ := hSw; go_simp; first | done | with_reducible rfl
          simp only [Act.put, List.setIfInBounds_toArray, List.set_cons_zero, List.set_cons_succ]
          refine lin_val (i := 22) (v := ?_) rfl (by kernel_rfl) (by kernel_rfl) (by kernel_rfl) (fun _ _ _ h => h) hSS hS rfl (fun w hSw => ?_) ?_
          rotate_left
          · obtain ⟨q0, q1, q2, q3, q4, q5, q6, q7, q8, q9, q10, q11, q12, q13, q14, q15, q16, q17, q18, q19⟩ := hSw; go_simp; first | done | with_reducible rfl
          simp only [Act.put, List.setIfInBounds_toArray, List.set_cons_zero, List.set_cons_succ]
          refine lin_not (i := 23) rfl (by kernel_rfl) (by kernel_rfl) (by kernel_rfl) (fun _ _ _ h => h) hSS hS rfl ?_
          simp only [Act.put, List.setIfInBounds_toArray, List.set_cons_zero, List.set_cons_succ]
          refine lin_not (i := 24) rfl (by kernel_rfl) (by kernel_rfl) (by kernel_rfl) (fun _ _ _ h => h) hSS hS rfl ?_
          simp only [Act.put, List.setIfInBounds_toArray, List.set_cons_zero, List.set_cons_succ]
          refine lin_not (i := 25) rfl (by kernel_rfl) (by kernel_rfl) (by kernel_rfl) (fun _ _ _ h => h) hSS hS rfl ?_
          simp only [Act.put, List.setIfInBounds_toArray, List.set_cons_zero, List.set_cons_succ]
          refine lin_not (i := 26) rfl (by kernel_rfl) (by kernel_rfl) (by kernel_rfl) (fun _ _ _ h => h) hSS hS rfl ?_
          simp only [Act.put, List.setIfInBounds_toArray, List.set_cons_zero, List.set_cons_succ]
          refine lin_not (i := 27) rfl (by kernel_rfl) (by kernel_rfl) (by kernel_rfl) (fun _ _ _ h => h) hSS hS rfl ?_
          simp only [Act.put, List.setIfInBounds_toArray, List.set_cons_zero, List.set_cons_succ]
          refine lin_val (i := 28) (v := ?_) rfl (by kernel_rfl) (by kernel_rfl) (by kernel_rfl) (fun _ _ _ h => h) hSS hS rfl (fun w hSw => ?_) ?_
          rotate_left
          · obtain ⟨q0, q1, q2, q3, q4, q5, q6, q7, q8, q9, q10, q11, q12, q13, q14, q15, q16, q17, q18, q19⟩ := hSw; go_simp; first | done | with_reducible rfl
          simp only [Act.put, List.setIfInBounds_toArray, List.set_cons_zero, List.set_cons_succ]
          refine lin_val (i := 29) (v := ?_) rfl (by kernel_rfl) (by kernel_rfl) (by kernel_rfl) (fun _ _ _ h => h) hSS hS rfl (fun w hSw => ?_) ?_
          rotate_left
          · obtain ⟨q0, q1, q2, q3, q4, q5, q6, q7, q8, q9, q10, q11, q12, q13, q14, q15, q16, q17, q18, q19⟩ := hSw; go_simp; first | done | with_reducible rfl
          simp only [Act.put, List.setIfInBounds_toArray, List.set_cons_zero, List.set_cons_succ]
          refine lin_val (i := 30) (v := ?_) rfl (by kernel_rfl) (by kernel_rfl) (by kernel_rfl) (fun _ _ _ h => h) hSS hS rfl (fun w hSw => ?_) ?_
          rotate_left
          · obtain ⟨q0, q1, q2, q3, q4, q5, q6, q7, q8, q9, q10, q11, q12, q13, q14, q15, q16, q17, q18, q19⟩ := hSw; go_simp; first | done | with_reducible rfl
          simp only [Act.put, List.setIfInBounds_toArray, List.set_cons_zero, List.set_cons_succ]
          refine lin_done (by kernel_rfl) (fun wE kwE => ?_) _
          clear hS hSS
          have HKE := hid (((HKW.out.nil H12.out).nil (Kp.refl _ _).drew).nil kwE)
          clear kwE
          go_wp2_with fail
          go_ret
          exact ⟨rfl, HKE.out⟩
        | true =>
          obtain ⟨h1, h2⟩ := HT.out.2 rfl
          subst h1 h2
          rcases Nat.eq_zero_or_pos m with hm0 | hm0
          · have zm : ((m : Int) != 0) = false := by rw [hm0]; rfl
            have HM0 := hid hm0
            clear hm0
            go_wp2_with fail
            refine lin_start (fun w' => w'.cell? ⟨gA, 1, none⟩ = some (Value.int .u64 (m : Int)) ∧ w'.cell? ⟨gX, 0, none⟩ = some (Value.int .i64 xk) ∧ w'.cell? ⟨gX, 1, none⟩ = some (Value.int .u64 xm) ∧ w'.cell? ⟨gX, 2, none⟩ = some (Value.bool xn) ∧ w'.cell? ⟨gX, 3, none⟩ = some (Value.string xd) ∧ w'.cell? ⟨gX, 4, none⟩ = some (Value.int .i64 xz) ∧ w'.cell? ⟨gX, 5, none⟩ = some (Value.string xx) ∧ w'.cell? ⟨gX, 6, none⟩ = some (Value.slice xA xnk xck) ∧ w'.cell? ⟨gX, 7, none⟩ = some (Value.slice xB xnb xcb) ∧ w'.cell? ⟨gX, 8, none⟩ = some (Value.int .i64 xco) ∧ w'.cell? ⟨gY, 0, none⟩ = some (Value.int .i64 yk) ∧ w'.cell? ⟨gY, 1, none⟩ = some (Value.int .u64 ym) ∧ w'.cell? ⟨gY, 2, none⟩ = some (Value.bool yn) ∧ w'.cell? ⟨gY, 3, none⟩ = some (Value.string yd) ∧ w'.cell? ⟨gY, 4, none⟩ = some (Value.int .i64 yz) ∧ w'.cell? ⟨gY, 5, none⟩ = some (Value.string yx) ∧ w'.cell? ⟨gY, 6, none⟩ = some (Value.slice yA ynk yck) ∧ w'.cell? ⟨gY, 7, none⟩ = some (Value.slice yB ynb ycb) ∧ w'.cell? ⟨gY, 8, none⟩ = some (Value.int .i64 yco) ∧ Kp [] w12 w') ((Stays.cell _ _).and ((Stays.cell _ _).and ((Stays.cell _ _).and ((Stays.cell _ _).and ((Stays.cell _ _).and ((Stays.cell _ _).and ((Stays.cell _ _).and ((Stays.cell _ _).and ((Stays.cell _ _).and ((Stays.cell _ _).and ((Stays.cell _ _).and ((Stays.cell _ _).and ((Stays.cell _ _).and ((Stays.cell _ _).and ((Stays.cell _ _).and ((Stays.cell _ _).and ((Stays.cell _ _).and ((Stays.cell _ _).and ((Stays.cell _ _).and ((Stays.kp _ _))))))))))))))))))))) (by kernel_rfl) ⟨a1, x0, x1, x2, x3, x4, x5, x6, x7, x8, y0, y1, y2, y3, y4, y5, y6, y7, y8, (Kp.refl _ _).drew⟩ (fun hSS hS => ?_)
            refine lin_val (i := 0) (v := ?_) rfl (by kernel_rfl) (by kernel_rfl) (by kernel_rfl) (fun _ _ _ h => h) hSS hS rfl (fun w hSw => ?_) ?_
            rotate_left
            · obtain ⟨q0, q1, q2, q3, q4, q5, q6, q7, q8, q9, q10, q11, q12, q13, q14, q15, q16, q17, q18, q19⟩ := hSw; go_simp; first | done | with_reducible rfl
            simp only [Act.put, List.setIfInBounds_toArray, List.set_cons_zero, List.set_cons_succ]
            refine lin_val (i := 1) (v := ?_) rfl (by kernel_rfl) (by kernel_rfl) (by kernel_rfl) (fun _ _ _ h => h) hSS hS rfl (fun w hSw => ?_) ?_
            rotate_left
            · obtain ⟨q0, q1, q2, q3, q4, q5, q6, q7, q8, q9, q10, q11, q12, q13, q14, q15, q16, q17, q18, q19⟩ := hSw; go_simp; first | done | with_reducible rfl
            simp only [Act.put, List.setIfInBounds_toArray, List.set_cons_zero, List.set_cons_succ]
            refine lin_val (i := 2) (v := ?_) rfl (by kernel_rfl) (by kernel_rfl) (by kernel_rfl) (fun _ _ _ h => h) hSS hS rfl (fun w hSw => ?_) ?_
            rotate_left
            · obtain ⟨q0, q1, q2, q3, q4, q5, q6, q7, q8, q9, q10, q11, q12, q13, q14, q15, q16, q17, q18, q19⟩ := hSw; go_simp; first | done | with_reducible rfl
            simp only [Act.put, List.setIfInBounds_toArray, List.set_cons_zero, List.set_cons_succ]
            refine lin_val (i := 3) (v := ?_) rfl (by kernel_rfl) (by kernel_rfl) (by kernel_rfl) (fun _ _ _ h => h) hSS hS rfl (fun w hSw => ?_) ?_
            rotate_left
            · obtain ⟨q0, q1, q2, q3, q4, q5, q6, q7, q8, q9, q10, q11, q12, q13, q14, q15, q16, q17, q18, q19⟩ := hSw; go_simp; first | done | with_reducible rfl
            simp only [Act.put, List.setIfInBounds_toArray, List.set_cons_zero, List.set_cons_succ]
            refine lin_val (i := 4) (v := ?_) rfl (by kernel_rfl) (by kernel_rfl) (by kernel_rfl) (fun _ _ _ h => h) hSS hS rfl (fun w hSw => ?_) ?_
            rotate_left
            · obtain ⟨q0, q1, q2, q3, q4, q5, q6, q7, q8, q9, q10, q11, q12, q13, q14, q15, q16, q17, q18, q19⟩ := hSw; go_simp; first | done | with_reducible rfl
            simp only [Act.put, List.setIfInBounds_toArray, List.set_cons_zero, List.set_cons_succ]
            refine lin_val (i := 5) (v := ?_) rfl (by kernel_rfl) (by kernel_rfl) (by kernel_rfl) (fun _ _ _ h => h) hSS hS rfl (fun w hSw => ?_) ?_
            rotate_left
            · obtain ⟨q0, q1, q2, q3, q4, q5, q6, q7, q8, q9, q10, q11, q12, q13, q14, q15, q16, q17, q18, q19⟩ := hSw; go_simp; first | done | with_reducible rfl
            simp only [Act.put, List.setIfInBounds_toArray, List.set_cons_zero, List.set_cons_succ]
            refine lin_val (i := 6) (v := ?_) rfl (by kernel_rfl) (by kernel_rfl) (by kernel_rfl) (fun _ _ _ h => h) hSS hS rfl (fun w hSw => ?_) ?_
            rotate_left
            · obtain ⟨q0, q1, q2, q3, q4, q5, q6, q7, q8, q9, q10, q11, q12, q13, q14, q15, q16, q17, q18, q19⟩ := hSw; go_simp; first | done | with_reducible rfl
            simp only [Act.put, List.setIfInBounds_toArray, List.set_cons_zero, List.set_cons_succ]
            refine lin_val (i := 7) (v := ?_) rfl (by kernel_rfl) (by kernel_rfl) (by kernel_rfl) (fun _ _ _ h => h) hSS hS rfl (fun w hSw => ?_) ?_
            rotate_left
            · obtain ⟨q0, q1, q2, q3, q4, q5, q6, q7, q8, q9, q10, q11, q12, q13, q14, q15, q16, q17, q18, q19⟩ := hSw; go_simp; first | done | with_reducible rfl
            simp only [Act.put, List.setIfInBounds_toArray, List.set_cons_zero, List.set_cons_succ]
            refine lin_val (i := 8) (v := ?_) rfl (by kernel_rfl) (by kernel_rfl) (by kernel_rfl) (fun _ _ _ h => h) hSS hS rfl (fun w hSw => ?_) ?_
            rotate_left
            · obtain ⟨q0, q1, q2, q3, q4, q5, q6, q7, q8, q9, q10, q11, q12, q13, q14, q15, q16, q17, q18, q19⟩ := hSw; go_simp; first | done | with_reducible rfl
            simp only [Act.put, List.setIfInBounds_toArray, List.set_cons_zero, List.set_cons_succ]
            refine lin_val (i := 9) (v := ?_) rfl (by kernel_rfl) (by kernel_rfl) (by kernel_rfl) (fun _ _ _ h => h) hSS hS rfl (fun w hSw => ?_) ?_
            rotate_left
            · obtain ⟨q0, q1, q2, q3, q4, q5, q6, q7, q8, q9, q10, q11, q12, q13, q14, q15, q16, q17, q18, q19⟩ := hSw; go_simp; first | done | with_reducible rfl
            simp only [Act.put, List.setIfInBounds_toArray, List.set_cons_zero, List.set_cons_succ]
            refine lin_val (i := 10) (v := ?_) rfl (by kernel_rfl) (by kernel_rfl) (by kernel_rfl) (fun _ _ _ h => h) hSS hS rfl (fun w hSw => ?_) ?_
            rotate_left
            · obtain ⟨q0, q1, q2, q3, q4, q5, q6, q7, q8, q9, q10, q11, q12, q13, q14, q15, q16, q17, q18, q19⟩ := hSw; go_simp; first | done | with_reducible rfl
            simp only [Act.put, List.setIfInBounds_toArray, List.set_cons_zero, List.set_cons_succ]
            refine lin_call (i := 11) rfl (by kernel_rfl) (by kernel_rfl) (by kernel_rfl) (fun _ _ _ h => h) hSS hS rfl (fun w hSw => by obtain ⟨q0, q1, q2, q3, q4, q5, q6, q7, q8, q9, q10, q11, q12, q13, q14, q15, q16, q17, q18, q19⟩ := hSw; exact qxy w q19) (fun w hSw => ?_) ?_
            · obtain ⟨q0, q1, q2, q3, q4, q5, q6, q7, q8, q9, q10, q11, q12, q13, q14, q15, q16, q17, q18, q19⟩ := hSw; go_simp
            simp only [Act.put, List.setIfInBounds_toArray, List.set_cons_zero, List.set_cons_succ]
            refine lin_val (i := 12) (v := ?_) rfl (by kernel_rfl) (by kernel_rfl) (by kernel_rfl) (fun _ _ _ h => h) hSS hS rfl (fun w hSw => ?_) ?_
            rotate_left
            · obtain ⟨q0, q1, q2, q3, q4, q5, q6, q7, q8, q9, q10, q11, q12, q13, q14, q15, q16, q17, q18, q19⟩ := hSw; go_simp; first | done | with_reducible rfl
            simp only [Act.put, List.setIfInBounds_toArray, List.set_cons_zero, List.set_cons_succ]
            refine lin_val (i := 13) (v := ?_) rfl (by kernel_rfl) (by kernel_rfl) (by kernel_rfl) (fun _ _ _ h => h) hSS hS rfl (fun w hSw => ?_) ?_
            rotate_left
            · obtain ⟨q0, q1, q2, q3, q4, q5, q6, q7, q8, q9, q10, q11, q12, q13, q14, q15, q16, q17, q18, q19⟩ := hSw; go_simp; first | done | with_reducible rfl
            simp only [Act.put, List.setIfInBounds_toArray, List.set_cons_zero, List.set_cons_succ]
            refine lin_val (i := 14) (v := ?_) rfl (by kernel_rfl) (by kernel_rfl) (by kernel_rfl) (fun _ _ _ h => h) hSS hS rfl (fun w hSw => ?_) ?_
            rotate_left
            · obtain ⟨q0, q1, q2, q3, q4, q5, q6, q7, q8, q9, q10, q11, q12, q13, q14, q15, q16, q17, q18, q19⟩ := hSw; go_simp; first | done | with_reducible rfl
            simp only [Act.put, List.setIfInBounds_toArray, List.set_cons_zero, List.set_cons_succ]
            refine lin_val (i := 15) (v := ?_) rfl (by kernel_rfl) (by kernel_rfl) (by kernel_rfl) (fun _ _ _ h => h) hSS hS rfl (fun w hSw => ?_) ?_
            rotate_left
            · obtain ⟨q0, q1, q2, q3, q4, q5, q6, q7, q8, q9, q10, q11, q12, q13, q14, q15, q16, q17, q18, q19⟩ := hSw; go_simp; first | done | with_reducible rfl
            simp only [Act.put, List.setIfInBounds_toArray, List.set_cons_zero, List.set_cons_succ]
            refine lin_val (i := 16) (v := ?_) rfl (by kernel_rfl) (by kernel_rfl) (by kernel_rfl) (fun _ _ _ h => h) hSS hS rfl (fun w hSw => ?_) ?_
            rotate_left
            · obtain ⟨q0, q1, q2, q3, q4, q5, q6, q7, q8, q9, q10, q11, q12, q13, q14, q15, q16, q17, q18, q19⟩ := hSw; go_simp; first | done | with_reducible rfl
            simp only [Act.put, List.setIfInBounds_toArray, List.set_cons_zero, List.set_cons_succ]
            refine lin_val (i := 17) (v := ?_) rfl (by kernel_rfl) (by kernel_rfl) (by kernel_rfl) (fun _ _ _ h => h) hSS hS rfl (fun w hSw => ?_) ?_
            rotate_left
            · obtain ⟨q0, q1, q2, q3, q4, q5, q6, q7, q8, q9, q10, q11, q12, q13, q14, q15, q16, q17, q18, q19⟩ := hSw; go_simp; first | done | with_reducible rfl
            simp only [Act.put, List.setIfInBounds_toArray, List.set_cons_zero, List.set_cons_succ]
            refine lin_val (i := 18) (v := ?_) rfl (by kernel_rfl) (by kernel_rfl) (by kernel_rfl) (fun _ _ _ h => h) hSS hS rfl (fun w hSw => ?_) ?_
            rotate_left
            · obtain ⟨q0, q1, q2, q3, q4, q5, q6, q7, q8, q9, q10, q11, q12, q13, q14, q15, q16, q17, q18, q19⟩ := hSw; go_simp; first | done | with_reducible rfl
            simp only [Act.put, List.setIfInBounds_toArray, List.set_cons_zero, List.set_cons_succ]
            refine lin_val (i := 19) (v := ?_) rfl (by kernel_rfl) (by kernel_rfl) (by kernel_rfl) (fun _ _ _ h => h) hSS hS rfl (fun w hSw => ?_) ?_
            rotate_left
            · obtain ⟨q0, q1, q2, q3, q4, q5, q6, q7, q8, q9, q10, q11, q12, q13, q14, q15, q16, q17, q18, q19⟩ := hSw; go_simp; first | done | with_reducible rfl
            simp only [Act.put, List.setIfInBounds_toArray, List.set_cons_zero, List.set_cons_succ]
            refine lin_val (i := 20) (v := ?_) rfl (by kernel_rfl) (by kernel_rfl) (by kernel_rfl) (fun _ _ _ h => h) hSS hS rfl (fun w hSw => ?_) ?_
            rotate_left
            · obtain ⟨q0, q1, q2, q3, q4, q5, q6, q7, q8, q9, q10, q11, q12, q13, q14, q15, q16, q17, q18, q19⟩ := hSw; go_simp; first | done | with_reducible rfl
            simp only [Act.put, List.setIfInBounds_toArray, List.set_cons_zero, List.set_cons_succ]
            refine lin_val (i := 21) (v := ?_) rfl (by kernel_rfl) (by kernel_rfl) (by kernel_rfl) (fun _ _ _ h => h) hSS hS rfl (fun w hSw => ?_) ?_
            rotate_left
            · obtain ⟨q0, q1, q2, q3, q4, q5, q6, q7, q8, q9, q10, q11, q12, q13, q14, q15, q16, q17, q18, q19⟩ := hSw; go_simp; first | done | with_reducible rfl
            simp only [Act.put, List.setIfInBounds_toArray, List.set_cons_zero, List.set_cons_succ]
            refine lin_val (i := 22) (v := ?_) rfl (by kernel_rfl) (by kernel_rfl) (by kernel_rfl) (fun _ _ _ h => h) hSS hS rfl (fun w hSw => ?_) ?_
            rotate_left
            · obtain ⟨q0, q1, q2, q3, q4, q5, q6, q7, q8, q9, q10, q11, q12, q13, q14, q15, q16, q17, q18, q19⟩ := hSw; go_simp; first | done | with_reducible rfl
            simp only [Act.put, List.setIfInBounds_toArray, List.set_cons_zero, List.set_cons_succ]
            refine lin_val (i := 23) (v := ?_) rfl (by kernel_rfl) (by kernel_rfl) (by kernel_rfl) (fun _ _ _ h => h) hSS hS rfl (fun w hSw => ?_) ?_
            rotate_left
            · obtain ⟨q0, q1, q2, q3, q4, q5, q6, q7, q8, q9, q10, q11, q12, q13, q14, q15, q16, q17, q18, q19⟩ := hSw; go_simp; first | done | with_reducible rfl
            simp only [Act.put, List.setIfInBounds_toArray, List.set_cons_zero, List.set_cons_succ]
            refine lin_call (i := 24) rfl (by kernel_rfl) (by kernel_rfl) (by kernel_rfl) (fun _ _ _ h => h) hSS hS rfl (fun w hSw => by obtain ⟨q0, q1, q2, q3, q4, q5, q6, q7, q8, q9, q10, q11, q12, q13, q14, q15, q16, q17, q18, q19⟩ := hSw; exact qhx w q19) (fun w hSw => ?_) ?_
            · obtain ⟨q0, q1, q2, q3, q4, q5, q6, q7, q8, q9, q10, q11, q12, q13, q14, q15, q16, q17, q18, q19⟩ := hSw; go_simp
            simp only [Act.put, List.setIfInBounds_toArray, List.set_cons_zero, List.set_cons_succ]
            refine lin_val (i := 25) (v := ?_) rfl (by kernel_rfl) (by kernel_rfl) (by kernel_rfl) (fun _ _ _ h => h) hSS hS rfl (fun w hSw => ?_) ?_
            rotate_left
            · obtain ⟨q0, q1, q2, q3, q4, q5, q6, q7, q8, q9, q10, q11, q12, q13, q14, q15, q16, q17, q18, q19⟩ := hSw; go_simp; first | done | with_reducible rfl
            simp only [Act.put, List.setIfInBounds_toArray, List.set_cons_zero, List.set_cons_succ]
            refine lin_call (i := 26) rfl (by kernel_rfl) (by kernel_rfl) (by kernel_rfl) (fun _ _ _ h => h) hSS hS rfl (fun w hSw => by obtain ⟨q0, q1, q2, q3, q4, q5, q6, q7, q8, q9, q10, q11, q12, q13, q14, q15, q16, q17, q18, q19⟩ := hSw; exact qhy w q19) (fun w hSw => ?_) ?_
            · obtain ⟨q0, q1, q2, q3, q4, q5, q6, q7, q8, q9, q10, q11, q12, q13, q14, q15, q16, q17, q18, q19⟩ := hSw; go_simp
            simp only [Act.put, List.setIfInBounds_toArray, List.set_cons_zero, List.set_cons_succ]
            refine lin_val (i := 27) (v := ?_) rfl (by kernel_rfl) (by kernel_rfl) (by kernel_rfl) (fun _ _ _ h => h) hSS hS rfl (fun w hSw => ?_) ?_
            rotate_left
            · obtain ⟨q0, q1, q2, q3, q4, q5, q6, q7, q8, q9, q10, q11, q12, q13, q14, q15, q16, q17, q18, q19⟩ := hSw; go_simp; first | done | with_reducible rfl
            simp only [Act.put, List.setIfInBounds_toArray, List.set_cons_zero, List.set_cons_succ]
            refine lin_val (i := 28) (v := ?_) rfl (by kernel_rfl) (by kernel_rfl) (by kernel_rfl) (fun _ _ _ h => h) hSS hS rfl (fun w hSw => ?_) ?_
            rotate_left
            · obtain ⟨q0, q1, q2, q3, q4, q5, q6, q7, q8, q9, q10, q11, q12, q13, q14, q15, q16, q17, q18, q19⟩ := hSw; go_simp; first | done | with_reducible rfl
            simp only [Act.put, List.setIfInBounds_toArray, List.set_cons_zero, List.set_cons_succ]
            refine lin_val (i := 29) (v := ?_) rfl (by kernel_rfl) (by kernel_rfl) (by kernel_rfl) (fun _ _ _ h => h) hSS hS rfl (fun w hSw => ?_) ?_
            rotate_left
            · obtain ⟨q0, q1, q2, q3, q4, q5, q6, q7, q8, q9, q10, q11, q12, q13, q14, q15, q16, q17, q18, q19⟩ := hSw; go_simp; first | done | with_reducible rfl
            simp only [Act.put, List.setIfInBounds_toArray, List.set_cons_zero, List.set_cons_succ]
            refine lin_val (i := 30) (v := ?_) rfl (by kernel_rfl) (by kernel_rfl) (by kernel_rfl) (fun _ _ _ h => h) hSS hS rfl (fun w hSw => ?_) ?_
            rotate_left
            · obtain ⟨q0, q1, q2, q3, q4, q5, q6, q7, q8, q9, q10, q11, q12, q13, q14, q15, q16, q17, q18, q19⟩ := hSw; go_simp; first | done | with_reducible rfl
            simp only [Act.put, List.setIfInBounds_toArray, List.set_cons_zero, List.set_cons_succ]
            refine lin_done (by kernel_rfl) (fun wE kwE => ?_) _
            clear hS hSS
            have HKE := hid (((HKW.out.nil H12.out).nil (Kp.refl _ _).drew).nil kwE)
            clear kwE
            go_wp2_with fail
            go_ret
            exact ⟨rfl, HKE.out⟩
          · have zm : ((m : Int) != 0) = true := by simp; omega
            have HM0 := hid hm0
            clear hm0
            go_wp2_with fail
            refine lin_start (fun w' => w'.cell? ⟨gA, 1, none⟩ = some (Value.int .u64 (m : Int)) ∧ w'.cell? ⟨gX, 0, none⟩ = some (Value.int .i64 xk) ∧ w'.cell? ⟨gX, 1, none⟩ = some (Value.int .u64 xm) ∧ w'.cell? ⟨gX, 2, none⟩ = some (Value.bool xn) ∧ w'.cell? ⟨gX, 3, none⟩ = some (Value.string xd) ∧ w'.cell? ⟨gX, 4, none⟩ = some (Value.int .i64 xz) ∧ w'.cell? ⟨gX, 5, none⟩ = some (Value.string xx) ∧ w'.cell? ⟨gX, 6, none⟩ = some (Value.slice xA xnk xck) ∧ w'.cell? ⟨gX, 7, none⟩ = some (Value.slice xB xnb xcb) ∧ w'.cell? ⟨gX, 8, none⟩ = some (Value.int .i64 xco) ∧ w'.cell? ⟨gY, 0, none⟩ = some (Value.int .i64 yk) ∧ w'.cell? ⟨gY, 1, none⟩ = some (Value.int .u64 ym) ∧ w'.cell? ⟨gY, 2, none⟩ = some (Value.bool yn) ∧ w'.cell? ⟨gY, 3, none⟩ = some (Value.string yd) ∧ w'.cell? ⟨gY, 4, none⟩ = some (Value.int .i64 yz) ∧ w'.cell? ⟨gY, 5, none⟩ = some (Value.string yx) ∧ w'.cell? ⟨gY, 6, none⟩ = some (Value.slice yA ynk yck) ∧ w'.cell? ⟨gY, 7, none⟩ = some (Value.slice yB ynb ycb) ∧ w'.cell? ⟨gY, 8, none⟩ = some (Value.int .i64 yco) ∧ Kp [] w12 w') ((Stays.cell _ _).and ((Stays.cell _ _).and ((Stays.cell _ _).and ((Stays.cell _ _).and ((Stays.cell _ _).and ((Stays.cell _ _).and ((Stays.cell _ _).and ((Stays.cell _ _).and ((Stays.cell _ _).and ((Stays.cell _ _).and ((Stays.cell _ _).and ((Stays.cell _ _).and ((Stays.cell _ _).and ((Stays.cell _ _).and ((Stays.cell _ _).and ((Stays.cell _ _).and ((Stays.cell _ _).and ((Stays.cell _ _).and ((Stays.cell _ _).and ((Stays.kp _ _))))))))))))))))))))) (by kernel_rfl) ⟨a1, x0, x1, x2, x3, x4, x5, x6, x7, x8, y0, y1, y2, y3, y4, y5, y6, y7, y8, (Kp.refl _ _).drew⟩ (fun hSS hS => ?_)
            refine lin_val (i := 0) (v := ?_) rfl (by kernel_rfl) (by kernel_rfl) (by kernel_rfl) (fun _ _ _ h => h) hSS hS rfl (fun w hSw => ?_) ?_
            rotate_left
            · obtain ⟨q0, q1, q2, q3, q4, q5, q6, q7, q8, q9, q10, q11, q12, q13, q14, q15, q16, q17, q18, q19⟩ := hSw; go_simp; first | done | with_reducible rfl
            simp only [Act.put, List.setIfInBounds_toArray, List.set_cons_zero, List.set_cons_succ]
            refine lin_val (i := 1) (v := ?_) rfl (by kernel_rfl) (by kernel_rfl) (by kernel_rfl) (fun _ _ _ h => h) hSS hS rfl (fun w hSw => ?_) ?_
            rotate_left
            · obtain ⟨q0, q1, q2, q3, q4, q5, q6, q7, q8, q9, q10, q11, q12, q13, q14, q15, q16, q17, q18, q19⟩ := hSw; go_simp; first | done | with_reducible rfl
            simp only [Act.put, List.setIfInBounds_toArray, List.set_cons_zero, List.set_cons_succ]
            refine lin_val (i := 2) (v := ?_) rfl (by kernel_rfl) (by kernel_rfl) (by kernel_rfl) (fun _ _ _ h => h) hSS hS rfl (fun w hSw => ?_) ?_
            rotate_left
            · obtain ⟨q0, q1, q2, q3, q4, q5, q6, q7, q8, q9, q10, q11, q12, q13, q14, q15, q16, q17, q18, q19⟩ := hSw; go_simp; first | done | with_reducible rfl
            simp only [Act.put, List.setIfInBounds_toArray, List.set_cons_zero, List.set_cons_succ]
            refine lin_val (i := 3) (v := ?_) rfl (by kernel_rfl) (by kernel_rfl) (by kernel_rfl) (fun _ _ _ h => h) hSS hS rfl (fun w hSw => ?_) ?_
            rotate_left
            · obtain ⟨q0, q1, q2, q3, q4, q5, q6, q7, q8, q9, q10, q11, q12, q13, q14, q15, q16, q17, q18, q19⟩ := hSw; go_simp; first | done | with_reducible rfl
            simp only [Act.put, List.setIfInBounds_toArray, List.set_cons_zero, List.set_cons_succ]
            refine lin_val (i := 4) (v := ?_) rfl (by kernel_rfl) (by kernel_rfl) (by kernel_rfl) (fun _ _ _ h => h) hSS hS rfl (fun w hSw => ?_) ?_
            rotate_left
            · obtain ⟨q0, q1, q2, q3, q4, q5, q6, q7, q8, q9, q10, q11, q12, q13, q14, q15, q16, q17, q18, q19⟩ := hSw; go_simp; first | done | with_reducible rfl
            simp only [Act.put, List.setIfInBounds_toArray, List.set_cons_zero, List.set_cons_succ]
            refine lin_val (i := 5) (v := ?_) rfl (by kernel_rfl) (by kernel_rfl) (by kernel_rfl) (fun _ _ _ h => h) hSS hS rfl (fun w hSw => ?_) ?_
            rotate_left
            · obtain ⟨q0, q1, q2, q3, q4, q5, q6, q7, q8, q9, q10, q11, q12, q13, q14, q15, q16, q17, q18, q19⟩ := hSw; go_simp; first | done | with_reducible rfl
            simp only [Act.put, List.setIfInBounds_toArray, List.set_cons_zero, List.set_cons_succ]
            refine lin_val (i := 6) (v := ?_) rfl (by kernel_rfl) (by kernel_rfl) (by kernel_rfl) (fun _ _ _ h => h) hSS hS rfl (fun w hSw => ?_) ?_
            rotate_left
            · obtain ⟨q0, q1, q2, q3, q4, q5, q6, q7, q8, q9, q10, q11, q12, q13, q14, q15, q16, q17, q18, q19⟩ := hSw; go_simp; first | done | with_reducible rfl
            simp only [Act.put, List.setIfInBounds_toArray, List.set_cons_zero, List.set_cons_succ]
            refine lin_val (i := 7) (v := ?_) rfl (by kernel_rfl) (by kernel_rfl) (by kernel_rfl) (fun _ _ _ h => h) hSS hS rfl (fun w hSw => ?_) ?_
            rotate_left
            · obtain ⟨q0, q1, q2, q3, q4, q5, q6, q7, q8, q9, q10, q11, q12, q13, q14, q15, q16, q17, q18, q19⟩ := hSw; go_simp; first | done | with_reducible rfl
            simp only [Act.put, List.setIfInBounds_toArray, List.set_cons_zero, List.set_cons_succ]
            refine lin_val (i := 8) (v := ?_) rfl (by kernel_rfl) (by kernel_rfl) (by kernel_rfl) (fun _ _ _ h => h) hSS hS rfl (fun w hSw => ?_) ?_
            rotate_left
            · obtain ⟨q0, q1, q2, q3, q4, q5, q6, q7, q8, q9, q10, q11, q12, q13, q14, q15, q16, q17, q18, q19⟩ := hSw; go_simp; first | done | with_reducible rfl
            simp only [Act.put, List.setIfInBounds_toArray, List.set_cons_zero, List.set_cons_succ]
            refine lin_val (i := 9) (v := ?_) rfl (by kernel_rfl) (by kernel_rfl) (by kernel_rfl) (fun _ _ _ h => h) hSS hS rfl (fun w hSw => ?_) ?_
            rotate_left
            · obtain ⟨q0, q1, q2, q3, q4, q5, q6, q7, q8, q9, q10, q11, q12, q13, q14, q15, q16, q17, q18, q19⟩ := hSw; go_simp; first | done | with_reducible rfl
            simp only [Act.put, List.setIfInBounds_toArray, List.set_cons_zero, List.set_cons_succ]
            refine lin_val (i := 10) (v := ?_) rfl (by kernel_rfl) (by kernel_rfl) (by kernel_rfl) (fun _ _ _ h => h) hSS hS rfl (fun w hSw => ?_) ?_
            rotate_left
            · obtain ⟨q0, q1, q2, q3, q4, q5, q6, q7, q8, q9, q10, q11, q12, q13, q14, q15, q16, q17, q18, q19⟩ := hSw; go_simp; first | done | with_reducible rfl
            simp only [Act.put, List.setIfInBounds_toArray, List.set_cons_zero, List.set_cons_succ]
            refine lin_call (i := 11) rfl (by kernel_rfl) (by kernel_rfl) (by kernel_rfl) (fun _ _ _ h => h) hSS hS rfl (fun w hSw => by obtain ⟨q0, q1, q2, q3, q4, q5, q6, q7, q8, q9, q10, q11, q12, q13, q14, q15, q16, q17, q18, q19⟩ := hSw; exact qxy w q19) (fun w hSw => ?_) ?_
            · obtain ⟨q0, q1, q2, q3, q4, q5, q6, q7, q8, q9, q10, q11, q12, q13, q14, q15, q16, q17, q18, q19⟩ := hSw; go_simp
            simp only [Act.put, List.setIfInBounds_toArray, List.set_cons_zero, List.set_cons_succ]
            refine lin_val (i := 12) (v := ?_) rfl (by kernel_rfl) (by kernel_rfl) (by kernel_rfl) (fun _ _ _ h => h) hSS hS rfl (fun w hSw => ?_) ?_
            rotate_left
            · obtain ⟨q0, q1, q2, q3, q4, q5, q6, q7, q8, q9, q10, q11, q12, q13, q14, q15, q16, q17, q18, q19⟩ := hSw; go_simp; first | done | with_reducible rfl
            simp only [Act.put, List.setIfInBounds_toArray, List.set_cons_zero, List.set_cons_succ]
            refine lin_val (i := 13) (v := ?_) rfl (by kernel_rfl) (by kernel_rfl) (by kernel_rfl) (fun _ _ _ h => h) hSS hS rfl (fun w hSw => ?_) ?_
            rotate_left
            · obtain ⟨q0, q1, q2, q3, q4, q5, q6, q7, q8, q9, q10, q11, q12, q13, q14, q15, q16, q17, q18, q19⟩ := hSw; go_simp; first | done | with_reducible rfl
            simp only [Act.put, List.setIfInBounds_toArray, List.set_cons_zero, List.set_cons_succ]
            refine lin_val (i := 14) (v := ?_) rfl (by kernel_rfl) (by kernel_rfl) (by kernel_rfl) (fun _ _ _ h => h) hSS hS rfl (fun w hSw => ?_) ?_
            rotate_left
            · obtain ⟨q0, q1, q2, q3, q4, q5, q6, q7, q8, q9, q10, q11, q12, q13, q14, q15, q16, q17, q18, q19⟩ := hSw; go_simp; first | done | with_reducible rfl
            simp only [Act.put, List.setIfInBounds_toArray, List.set_cons_zero, List.set_cons_succ]
            refine lin_val (i := 15) (v := ?_) rfl (by kernel_rfl) (by kernel_rfl) (by kernel_rfl) (fun _ _ _ h => h) hSS hS rfl (fun w hSw => ?_) ?_
            rotate_left
            · obtain ⟨q0, q1, q2, q3, q4, q5, q6, q7, q8, q9, q10, q11, q12, q13, q14, q15, q16, q17, q18, q19⟩ := hSw; go_simp; first | done | with_reducible rfl
            simp only [Act.put, List.setIfInBounds_toArray, List.set_cons_zero, List.set_cons_succ]
            refine lin_val (i := 16) (v := ?_) rfl (by kernel_rfl) (by kernel_rfl) (by kernel_rfl) (fun _ _ _ h => h) hSS hS rfl (fun w hSw => ?_) ?_
            rotate_left
            · obtain ⟨q0, q1, q2, q3, q4, q5, q6, q7, q8, q9, q10, q11, q12, q13, q14, q15, q16, q17, q18, q19⟩ := hSw; go_simp; first | done | with_reducible rfl
            simp only [Act.put, List.setIfInBounds_toArray, List.set_cons_zero, List.set_cons_succ]
            refine lin_val (i := 17) (v := ?_) rfl (by kernel_rfl) (by kernel_rfl) (by kernel_rfl) (fun _ _ _ h => h) hSS hS rfl (fun w hSw => ?_) ?_
            rotate_left
            · obtain ⟨q0, q1, q2, q3, q4, q5, q6, q7, q8, q9, q10, q11, q12, q13, q14, q15, q16, q17, q18, q19⟩ := hSw; go_simp; first | done | with_reducible rfl
            simp only [Act.put, List.setIfInBounds_toArray, List.set_cons_zero, List.set_cons_succ]
            refine lin_val (i := 18) (v := ?_) rfl (by kernel_rfl) (by kernel_rfl) (by kernel_rfl) (fun _ _ _ h => h) hSS hS rfl (fun w hSw => ?_) ?_
            rotate_left
            · obtain ⟨q0, q1, q2, q3, q4, q5, q6, q7, q8, q9, q10, q11, q12, q13, q14, q15, q16, q17, q18, q19⟩ := hSw; go_simp; first | done | with_reducible rfl
            simp only [Act.put, List.setIfInBounds_toArray, List.set_cons_zero, List.set_cons_succ]
            refine lin_val (i := 19) (v := ?_) rfl (by kernel_rfl) (by kernel_rfl) (by kernel_rfl) (fun _ _ _ h => h) hSS hS rfl (fun w hSw => ?_) ?_
            rotate_left
            · obtain ⟨q0, q1, q2, q3, q4, q5, q6, q7, q8, q9, q10, q11, q12, q13, q14, q15, q16, q17, q18, q19⟩ := hSw; go_simp; first | done | with_reducible rfl
            simp only [Act.put, List.setIfInBounds_toArray, List.set_cons_zero, List.set_cons_succ]
            refine lin_val (i := 20) (v := ?_) rfl (by kernel_rfl) (by kernel_rfl) (by kernel_rfl) (fun _ _ _ h => h) hSS hS rfl (fun w hSw => ?_) ?_
            rotate_left
            · obtain ⟨q0, q1, q2, q3, q4, q5, q6, q7, q8, q9, q10, q11, q12, q13, q14, q15, q16, q17, q18, q19⟩ := hSw; go_simp; first | done | with_reducible rfl
            simp only [Act.put, List.setIfInBounds_toArray, List.set_cons_zero, List.set_cons_succ]
            refine lin_val (i := 21) (v := ?_) rfl (by kernel_rfl) (by kernel_rfl) (by kernel_rfl) (fun _ _ _ h => h) hSS hS rfl (fun w hSw => ?_) ?_
            rotate_left
            · obtain ⟨q0, q1, q2, q3, q4, q5, q6, q7, q8, q9, q10, q11, q12, q13, q14, q15, q16, q17, q18, q19⟩ := hSw; go_simp; first | done | with_reducible rfl
            simp only [Act.put, List.setIfInBounds_toArray, List.set_cons_zero, List.set_cons_succ]
            refine lin_val (i := 22) (v := ?_) rfl (by kernel_rfl) (by kernel_rfl) (by kernel_rfl) (fun _ _ _ h => h) hSS hS rfl (fun w hSw => ?_) ?_
            rotate_left
            · obtain ⟨q0, q1, q2, q3, q4, q5, q6, q7, q8, q9, q10, q11, q12, q13, q14, q15, q16, q17, q18, q19⟩ := hSw; go_simp; first | done | with_reducible rfl
            simp only [Act.put, List.setIfInBounds_toArray, List.set_cons_zero, List.set_cons_succ]
            refine lin_not (i := 23) rfl (by kernel_rfl) (by kernel_rfl) (by kernel_rfl) (fun _ _ _ h => h) hSS hS rfl ?_
            simp only [Act.put, List.setIfInBounds_toArray, List.set_cons_zero, List.set_cons_succ]
            refine lin_not (i := 24) rfl (by kernel_rfl) (by kernel_rfl) (by kernel_rfl) (fun _ _ _ h => h) hSS hS rfl ?_
            simp only [Act.put, List.setIfInBounds_toArray, List.set_cons_zero, List.set_cons_succ]
            refine lin_not (i := 25) rfl (by kernel_rfl) (by kernel_rfl) (by kernel_rfl) (fun _ _ _ h => h) hSS hS rfl ?_
            simp only [Act.put, List.setIfInBounds_toArray, List.set_cons_zero, List.set_cons_succ]
            refine lin_not (i := 26) rfl (by kernel_rfl) (by kernel_rfl) (by kernel_rfl) (fun _ _ _ h => h) hSS hS rfl ?_
            simp only [Act.put, List.setIfInBounds_toArray, List.set_cons_zero, List.set_cons_succ]
            refine lin_not (i := 27) rfl (by kernel_rfl) (by kernel_rfl) (by kernel_rfl) (fun _ _ _ h => h) hSS hS rfl ?_
            simp only [Act.put, List.setIfInBounds_toArray, List.set_cons_zero, List.set_cons_succ]
            refine lin_val (i := 28) (v := ?_) rfl (by kernel_rfl) (by kernel_rfl) (by kernel_rfl) (fun _ _ _ h => h) hSS hS rfl (fun w hSw => ?_) ?_
            rotate_left
            · obtain ⟨q0, q1, q2, q3, q4, q5, q6, q7, q8, q9, q10, q11, q12, q13, q14, q15, q16, q17, q18, q19⟩ := hSw; go_simp; first | done | with_reducible rfl
            simp only [Act.put, List.setIfInBounds_toArray, List.set_cons_zero, List.set_cons_succ]
            refine lin_val (i := 29) (v := ?_) rfl (by kernel_rfl) (by kernel_rfl) (by kernel_rfl) (fun _ _ _ h => h) hSS hS rfl (fun w hSw => ?_) ?_
            rotate_left
            · obtain ⟨q0, q1, q2, q3, q4, q5, q6, q7, q8, q9, q10, q11, q12, q13, q14, q15, q16, q17, q18, q19⟩ := hSw; go_simp; first | done | with_reducible rfl
            simp only [Act.put, List.setIfInBounds_toArray, List.set_cons_zero, List.set_cons_succ]
            refine lin_val (i := 30) (v := ?_) rfl (by kernel_rfl) (by kernel_rfl) (by kernel_rfl) (fun _ _ _ h => h) hSS hS rfl (fun w hSw => ?_) ?_
            rotate_left
            · obtain ⟨q0, q1, q2, q3, q4, q5, q6, q7, q8, q9, q10, q11, q12, q13, q14, q15, q16, q17, q18, q19⟩ := hSw; go_simp; first | done | with_reducible rfl
            simp only [Act.put, List.setIfInBounds_toArray, List.set_cons_zero, List.set_cons_succ]
            refine lin_done (by kernel_rfl) (fun wE kwE => ?_) _
            clear hS hSS
            have HKE := hid (((HKW.out.nil H12.out).nil (Kp.refl _ _).drew).nil kwE)
            clear kwE
            go_wp2_with fail
            go_ret
            exact ⟨rfl, HKE.out⟩
      | true =>
        have h1 := HT.out.1 rfl
        subst h1
        go_wp2_with fail
        (with_reducible refine (qhx0 _).mono ?_)
        rintro e w11 ⟨rfl, k11⟩
        have hca := hca.keep k11 (by simp)
        have hcb := hcb.keep k11 (by simp)
        have hcx := hcx.keep k11 (by simp)
        have hcy := hcy.keep k11 (by simp)
        clear a0 a1 a2 a3 a4 a5 a6 a7 a8 b0 b1 b2 b3 b4 b5 b6 b7 b8 x0 x1 x2 x3 x4 x5 x6 x7 x8 y0 y1 y2 y3 y4 y5 y6 y7 y8
        have a0 := hca.cell 0; have a1 := hca.cell 1; have a2 := hca.cell 2; have a3 := hca.cell 3; have a4 := hca.cell 4; have a5 := hca.cell 5; have a6 := hca.cell 6; have a7 := hca.cell 7; have a8 := hca.cell 8
        have b0 := hcb.cell 0; have b1 := hcb.cell 1; have b2 := hcb.cell 2; have b3 := hcb.cell 3; have b4 := hcb.cell 4; have b5 := hcb.cell 5; have b6 := hcb.cell 6; have b7 := hcb.cell 7; have b8 := hcb.cell 8
        have x0 := hcx.cell 0; have x1 := hcx.cell 1; have x2 := hcx.cell 2; have x3 := hcx.cell 3; have x4 := hcx.cell 4; have x5 := hcx.cell 5; have x6 := hcx.cell 6; have x7 := hcx.cell 7; have x8 := hcx.cell 8
        have y0 := hcy.cell 0; have y1 := hcy.cell 1; have y2 := hcy.cell 2; have y3 := hcy.cell 3; have y4 := hcy.cell 4; have y5 := hcy.cell 5; have y6 := hcy.cell 6; have y7 := hcy.cell 7; have y8 := hcy.cell 8
        have H11 := hid (H10.out.nil k11)
        clear k11
        go_wp2_with fail
        (with_reducible refine (qal _ H11.out).mono ?_)
        rintro e w12 ⟨rfl, k12⟩
        have H12 := hid ((H11.out).nil k12)
        have hca := hca.keep k12 (by simp)
        have hcb := hcb.keep k12 (by simp)
        have hcx := hcx.keep k12 (by simp)
        have hcy := hcy.keep k12 (by simp)
        clear a0 a1 a2 a3 a4 a5 a6 a7 a8 b0 b1 b2 b3 b4 b5 b6 b7 b8 x0 x1 x2 x3 x4 x5 x6 x7 x8 y0 y1 y2 y3 y4 y5 y6 y7 y8
        have a0 := hca.cell 0; have a1 := hca.cell 1; have a2 := hca.cell 2; have a3 := hca.cell 3; have a4 := hca.cell 4; have a5 := hca.cell 5; have a6 := hca.cell 6; have a7 := hca.cell 7; have a8 := hca.cell 8
        have b0 := hcb.cell 0; have b1 := hcb.cell 1; have b2 := hcb.cell 2; have b3 := hcb.cell 3; have b4 := hcb.cell 4; have b5 := hcb.cell 5; have b6 := hcb.cell 6; have b7 := hcb.cell 7; have b8 := hcb.cell 8
        have x0 := hcx.cell 0; have x1 := hcx.cell 1; have x2 := hcx.cell 2; have x3 := hcx.cell 3; have x4 := hcx.cell 4; have x5 := hcx.cell 5; have x6 := hcx.cell 6; have x7 := hcx.cell 7; have x8 := hcx.cell 8
        have y0 := hcy.cell 0; have y1 := hcy.cell 1; have y2 := hcy.cell 2; have y3 := hcy.cell 3; have y4 := hcy.cell 4; have y5 := hcy.cell 5; have y6 := hcy.cell 6; have y7 := hcy.cell 7; have y8 := hcy.cell 8
        have qxy := fun W (h : Kp [] w12 W) => qxy W (H12.out.nil h)
        have qhx := fun W (h : Kp [] w12 W) => qhx W (H12.out.nil h)
        have qhy := fun W (h : Kp [] w12 W) => qhy W (H12.out.nil h)
        clear k12 qal hca hcb hcx hcy
        cases p with
        | false =>
          go_wp2_with fail
          refine lin_start (fun w' => w'.cell? ⟨gA, 1, none⟩ = some (Value.int .u64 (m : Int)) ∧ w'.cell? ⟨gX, 0, none⟩ = some (Value.int .i64 xk) ∧ w'.cell? ⟨gX, 1, none⟩ = some (Value.int .u64 xm) ∧ w'.cell? ⟨gX, 2, none⟩ = some (Value.bool xn) ∧ w'.cell? ⟨gX, 3, none⟩ = some (Value.string xd) ∧ w'.cell? ⟨gX, 4, none⟩ = some (Value.int .i64 xz) ∧ w'.cell? ⟨gX, 5, none⟩ = some (Value.string xx) ∧ w'.cell? ⟨gX, 6, none⟩ = some (Value.slice xA xnk xck) ∧ w'.cell? ⟨gX, 7, none⟩ = some (Value.slice xB xnb xcb) ∧ w'.cell? ⟨gX, 8, none⟩ = some (Value.int .i64 xco) ∧ w'.cell? ⟨gY, 0, none⟩ = some (Value.int .i64 yk) ∧ w'.cell? ⟨gY, 1, none⟩ = some (Value.int .u64 ym) ∧ w'.cell? ⟨gY, 2, none⟩ = some (Value.bool yn) ∧ w'.cell? ⟨gY, 3, none⟩ = some (Value.string yd) ∧ w'.cell? ⟨gY, 4, none⟩ = some (Value.int .i64 yz) ∧ w'.cell? ⟨gY, 5, none⟩ = some (Value.string yx) ∧ w'.cell? ⟨gY, 6, none⟩ = some (Value.slice yA ynk yck) ∧ w'.cell? ⟨gY, 7, none⟩ = some (Value.slice yB ynb ycb) ∧ w'.cell? ⟨gY, 8, none⟩ = some (Value.int .i64 yco) ∧ Kp [] w12 w') ((Stays.cell _ _).and ((Stays.cell _ _).and ((Stays.cell _ _).and ((Stays.cell _ _).and ((Stays.cell _ _).and ((Stays.cell _ _).and ((Stays.cell _ _).and ((Stays.cell _ _).and ((Stays.cell _ _).and ((Stays.cell _ _).and ((Stays.cell _ _).and ((Stays.cell _ _).and ((Stays.cell _ _).and ((Stays.cell _ _).and ((Stays.cell _ _).and ((Stays.cell _ _).and ((Stays.cell _ _).and ((Stays.cell _ _).and ((Stays.cell _ _).and ((Stays.kp _ _))))))))))))))))))))) (by kernel_rfl) ⟨a1, x0, x1, x2, x3, x4, x5, x6, x7, x8, y0, y1, y2, y3, y4, y5, y6, y7, y8, (Kp.refl _ _).drew⟩ (fun hSS hS => ?_)
          refine lin_val (i := 0) (v := ?_) rfl (by kernel_rfl) (by kernel_rfl) (by kernel_rfl) (fun _ _ _ h => h) hSS hS rfl (fun w hSw => ?_) ?_
          rotate_left
          · obtain ⟨q0, q1, q2, q3, q4, q5, q6, q7, q8, q9, q10, q11, q12, q13, q14, q15, q16, q17, q18, q19⟩ := hSw; go_simp; first | done | with_reducible rfl
          simp only [Act.put, List.setIfInBounds_toArray, List.set_cons_zero, List.set_cons_succ]
          refine lin_val (i := 1) (v := ?_) rfl (by kernel_rfl) (by kernel_rfl) (by kernel_rfl) (fun _ _ _ h => h) hSS hS rfl (fun w hSw => ?_) ?_
          rotate_left
          · obtain ⟨q0, q1, q2, q3, q4, q5, q6, q7, q8, q9, q10, q11, q12, q13, q14, q15, q16, q17, q18, q19⟩ := hSw; go_simp; first | done | with_reducible rfl
          simp only [Act.put, List.setIfInBounds_toArray, List.set_cons_zero, List.set_cons_succ]
          refine lin_val (i := 2) (v := ?_) rfl (by kernel_rfl) (by kernel_rfl) (by kernel_rfl) (fun _ _ _ h => h) hSS hS rfl (fun w hSw => ?_) ?_
          rotate_left
          · obtain ⟨q0, q1, q2, q3, q4, q5, q6, q7, q8, q9, q10, q11, q12, q13, q14, q15, q16, q17, q18, q19⟩ := hSw; go_simp; first | done | with_reducible rfl
          simp only [Act.put, List.setIfInBounds_toArray, List.set_cons_zero, List.set_cons_succ]
          refine lin_val (i := 3) (v := ?_) rfl (by kernel_rfl) (by kernel_rfl) (by kernel_rfl) (fun _ _ _ h => h) hSS hS rfl (fun w hSw => ?_) ?_
          rotate_left
          · obtain ⟨q0, q1, q2, q3, q4, q5, q6, q7, q8, q9, q10, q11, q12, q13, q14, q15, q16, q17, q18, q19⟩ := hSw; go_simp; first | done | with_reducible rfl
          simp only [Act.put, List.setIfInBounds_toArray, List.set_cons_zero, List.set_cons_succ]
          refine lin_val (i := 4) (v := ?_) rfl (by kernel_rfl) (by kernel_rfl) (by kernel_rfl) (fun _ _ _ h => h) hSS hS rfl (fun w hSw => ?_) ?_
          rotate_left
          · obtain ⟨q0, q1, q2, q3, q4, q5, q6, q7, q8, q9, q10, q11, q12, q13, q14, q15, q16, q17, q18, q19⟩ := hSw; go_simp; first | done | with_reducible rfl
          simp only [Act.put, List.setIfInBounds_toArray, List.set_cons_zero, List.set_cons_succ]
          refine lin_val (i := 5) (v := ?_) rfl (by kernel_rfl) (by kernel_rfl) (by kernel_rfl) (fun _ _ _ h => h) hSS hS rfl (fun w hSw => ?_) ?_
          rotate_left
          · obtain ⟨q0, q1, q2, q3, q4, q5, q6, q7, q8, q9, q10, q11, q12, q13, q14, q15, q16, q17, q18, q19⟩ := hSw; go_simp; first | done | with_reducible rfl
          simp only [Act.put, List.setIfInBounds_toArray, List.set_cons_zero, List.set_cons_succ]
          refine lin_val (i := 6) (v := ?_) rfl (by kernel_rfl) (by kernel_rfl) (by kernel_rfl) (fun _ _ _ h => h) hSS hS rfl (fun w hSw => ?_) ?_
          rotate_left
          · obtain ⟨q0, q1, q2, q3, q4, q5, q6, q7, q8, q9, q10, q11, q12, q13, q14, q15, q16, q17, q18, q19⟩ := hSw; go_simp; first | done | with_reducible rfl
          simp only [Act.put, List.setIfInBounds_toArray, List.set_cons_zero, List.set_cons_succ]
          refine lin_val (i := 7) (v := ?_) rfl (by kernel_rfl) (by kernel_rfl) (by kernel_rfl) (fun _ _ _ h => h) hSS hS rfl (fun w hSw => ?_) ?_
          rotate_left
          · obtain ⟨q0, q1, q2, q3, q4, q5, q6, q7, q8, q9, q10, q11, q12, q13, q14, q15, q16, q17, q18, q19⟩ := hSw; go_simp; first | done | with_reducible rfl
          simp only [Act.put, List.setIfInBounds_toArray, List.set_cons_zero, List.set_cons_succ]
          refine lin_not (i := 8) rfl (by kernel_rfl) (by kernel_rfl) (by kernel_rfl) (fun _ _ _ h => h) hSS hS rfl ?_
          simp only [Act.put, List.setIfInBounds_toArray, List.set_cons_zero, List.set_cons_succ]
          refine lin_not (i := 9) rfl (by kernel_rfl) (by kernel_rfl) (by kernel_rfl) (fun _ _ _ h => h) hSS hS rfl ?_
          simp only [Act.put, List.setIfInBounds_toArray, List.set_cons_zero, List.set_cons_succ]
          refine lin_not (i := 10) rfl (by kernel_rfl) (by kernel_rfl) (by kernel_rfl) (fun _ _ _ h => h) hSS hS rfl ?_
          simp only [Act.put, List.setIfInBounds_toArray, List.set_cons_zero, List.set_cons_succ]
          refine lin_not (i := 11) rfl (by kernel_rfl) (by kernel_rfl) (by kernel_rfl) (fun _ _ _ h => h) hSS hS rfl ?_
          simp only [Act.put, List.setIfInBounds_toArray, List.set_cons_zero, List.set_cons_succ]
          refine lin_val (i := 12) (v := ?_) rfl (by kernel_rfl) (by kernel_rfl) (by kernel_rfl) (fun _ _ _ h => h) hSS hS rfl (fun w hSw => ?_) ?_
          rotate_left
          · obtain ⟨q0, q1, q2, q3, q4, q5, q6, q7, q8, q9, q10, q11, q12, q13, q14, q15, q16, q17, q18, q19⟩ := hSw; go_simp; first | done | with_reducible rfl
          simp only [Act.put, List.setIfInBounds_toArray, List.set_cons_zero, List.set_cons_succ]
          refine lin_val (i := 13) (v := ?_) rfl (by kernel_rfl) (by kernel_rfl) (by kernel_rfl) (fun _ _ _ h => h) hSS hS rfl (fun w hSw => ?_) ?_
          rotate_left
          · obtain ⟨q0, q1, q2, q3, q4, q5, q6, q7, q8, q9, q10, q11, q12, q13, q14, q15, q16, q17, q18, q19⟩ := hSw; go_simp; first | done | with_reducible rfl
          simp only [Act.put, List.setIfInBounds_toArray, List.set_cons_zero, List.set_cons_succ]
          refine lin_val (i := 14) (v := ?_) rfl (by kernel_rfl) (by kernel_rfl) (by kernel_rfl) (fun _ _ _ h => h) hSS hS rfl (fun w hSw => ?_) ?_
          rotate_left
          · obtain ⟨q0, q1, q2, q3, q4, q5, q6, q7, q8, q9, q10, q11, q12, q13, q14, q15, q16, q17, q18, q19⟩ := hSw; go_simp; first | done | with_reducible rfl
          simp only [Act.put, List.setIfInBounds_toArray, List.set_cons_zero, List.set_cons_succ]
          refine lin_val (i := 15) (v := ?_) rfl (by kernel_rfl) (by kernel_rfl) (by kernel_rfl) (fun _ _ _ h => h) hSS hS rfl (fun w hSw => ?_) ?_
          rotate_left
          · obtain ⟨q0, q1, q2, q3, q4, q5, q6, q7, q8, q9, q10, q11, q12, q13, q14, q15, q16, q17, q18, q19⟩ := hSw; go_simp; first | done | with_reducible rfl
          simp only [Act.put, List.setIfInBounds_toArray, List.set_cons_zero, List.set_cons_succ]
          refine lin_val (i := 16) (v := ?_) rfl (by kernel_rfl) (by kernel_rfl) (by kernel_rfl) (fun _ _ _ h => h) hSS hS rfl (fun w hSw => ?_) ?_
          rotate_left
          · obtain ⟨q0, q1, q2, q3, q4, q5, q6, q7, q8, q9, q10, q11, q12, q13, q14, q15, q16, q17, q18, q19⟩ := hSw; go_simp; first | done | with_reducible rfl
          simp only [Act.put, List.setIfInBounds_toArray, List.set_cons_zero, List.set_cons_succ]
          refine lin_val (i := 17) (v := ?_) rfl (by kernel_rfl) (by kernel_rfl) (by kernel_rfl) (fun _ _ _ h => h) hSS hS rfl (fun w hSw => ?_) ?_
          rotate_left
          · obtain ⟨q0, q1, q2, q3, q4, q5, q6, q7, q8, q9, q10, q11, q12, q13, q14, q15, q16, q17, q18, q19⟩ := hSw; go_simp; first | done | with_reducible rfl
          simp only [Act.put, List.setIfInBounds_toArray, List.set_cons_zero, List.set_cons_succ]
          refine lin_not (i := 18) rfl (by kernel_rfl) (by kernel_rfl) (by kernel_rfl) (fun _ _ _ h => h) hSS hS rfl ?_
          simp only [Act.put, List.setIfInBounds_toArray, List.set_cons_zero, List.set_cons_succ]
          refine lin_not (i := 19) rfl (by kernel_rfl) (by kernel_rfl) (by kernel_rfl) (fun _ _ _ h => h) hSS hS rfl ?_
          simp only [Act.put, List.setIfInBounds_toArray, List.set_cons_zero, List.set_cons_succ]
          refine lin_not (i := 20) rfl (by kernel_rfl) (by kernel_rfl) (by kernel_rfl) (fun _ _ _ h => h) hSS hS rfl ?_
          simp only [Act.put, List.setIfInBounds_toArray, List.set_cons_zero, List.set_cons_succ]
          refine lin_val (i := 21) (v := ?_) rfl (by kernel_rfl) (by kernel_rfl) (by kernel_rfl) (fun _ _ _ h => h) hSS hS rfl (fun w hSw => ?_) ?_
          rotate_left
          · obtain ⟨q0, q1, q2, q3, q4, q5, q6, q7, q8, q9, q10, q11, q12, q13, q14, q15, q16, q17, q18, q19⟩ := hSw; go_simp; first | done | with_reducible rfl
          simp only [Act.put, List.setIfInBounds_toArray, List.set_cons_zero, List.set_cons_succ]
          refine lin_val (i := 22) (v := ?_) rfl (by kernel_rfl) (by kernel_rfl) (by kernel_rfl) (fun _ _ _ h => h) hSS hS rfl (fun w hSw => ?_) ?_
          rotate_left
          · obtain ⟨q0, q1, q2, q3, q4, q5, q6, q7, q8, q9, q10, q11, q12, q13, q14, q15, q16, q17, q18, q19⟩ := hSw; go_simp; first | done | with_reducible rfl
          simp only [Act.put, List.setIfInBounds_toArray, List.set_cons_zero, List.set_cons_succ]
          refine lin_not (i := 23) rfl (by kernel_rfl) (by kernel_rfl) (by kernel_rfl) (fun _ _ _ h => h) hSS hS rfl ?_
          simp only [Act.put, List.setIfInBounds_toArray, List.set_cons_zero, List.set_cons_succ]
          refine lin_not (i := 24) rfl (by kernel_rfl) (by kernel_rfl) (by kernel_rfl) (fun _ _ _ h => h) hSS hS rfl ?_
          simp only [Act.put, List.setIfInBounds_toArray, List.set_cons_zero, List.set_cons_succ]
          refine lin_not (i := 25) rfl (by kernel_rfl) (by kernel_rfl) (by kernel_rfl) (fun _ _ _ h => h) hSS hS rfl ?_
          simp only [Act.put, List.setIfInBounds_toArray, List.set_cons_zero, List.set_cons_succ]
          refine lin_not (i := 26) rfl (by kernel_rfl) (by kernel_rfl) (by kernel_rfl) (fun _ _ _ h => h) hSS hS rfl ?_
          simp only [Act.put, List.setIfInBounds_toArray, List.set_cons_zero, List.set_cons_succ]
          refine lin_not (i := 27) rfl (by kernel_rfl) (by kernel_rfl) (by kernel_rfl) (fun _ _ _ h => h) hSS hS rfl ?_
          simp only [Act.put, List.setIfInBounds_toArray, List.set_cons_zero, List.set_cons_succ]
          refine lin_val (i := 28) (v := ?_) rfl (by kernel_rfl) (by kernel_rfl) (by kernel_rfl) (fun _ _ _ h => h) hSS hS rfl (fun w hSw => ?_) ?_
          rotate_left
          · obtain ⟨q0, q1, q2, q3, q4, q5, q6, q7, q8, q9, q10, q11, q12, q13, q14, q15, q16, q17, q18, q19⟩ := hSw; go_simp; first | done | with_reducible rfl
          simp only [Act.put, List.setIfInBounds_toArray, List.set_cons_zero, List.set_cons_succ]
          refine lin_val (i := 29) (v := ?_) rfl (by kernel_rfl) (by kernel_rfl) (by kernel_rfl) (fun _ _ _ h => h) hSS hS rfl (fun w hSw => ?_) ?_
          rotate_left
          · obtain ⟨q0, q1, q2, q3, q4, q5, q6, q7, q8, q9, q10, q11, q12, q13, q14, q15, q16, q17, q18, q19⟩ := hSw; go_simp; first | done | with_reducible rfl
          simp only [Act.put, List.setIfInBounds_toArray, List.set_cons_zero, List.set_cons_succ]
          refine lin_val (i := 30) (v := ?_) rfl (by kernel_rfl) (by kernel_rfl) (by kernel_rfl) (fun _ _ _ h => h) hSS hS rfl (fun w hSw => ?_) ?_
          rotate_left
          · obtain ⟨q0, q1, q2, q3, q4, q5, q6, q7, q8, q9, q10, q11, q12, q13, q14, q15, q16, q17, q18, q19⟩ := hSw; go_simp; first | done | with_reducible rfl
          simp only [Act.put, List.setIfInBounds_toArray, List.set_cons_zero, List.set_cons_succ]
          refine lin_done (by kernel_rfl) (fun wE kwE => ?_) _
          clear hS hSS
          have HKE := hid (((HKW.out.nil H12.out).nil (Kp.refl _ _).drew).nil kwE)
          clear kwE
          go_wp2_with fail
          go_ret
          exact ⟨rfl, HKE.out⟩
        | true =>
          obtain ⟨h1, h2⟩ := HT.out.2 rfl
          subst h1 h2
          rcases Nat.eq_zero_or_pos m with hm0 | hm0
          · have zm : ((m : Int) != 0) = false := by rw [hm0]; rfl
            have HM0 := hid hm0
            clear hm0
            go_wp2_with fail
            refine lin_start (fun w' => w'.cell? ⟨gA, 1, none⟩ = some (Value.int .u64 (m : Int)) ∧ w'.cell? ⟨gX, 0, none⟩ = some (Value.int .i64 xk) ∧ w'.cell? ⟨gX, 1, none⟩ = some (Value.int .u64 xm) ∧ w'.cell? ⟨gX, 2, none⟩ = some (Value.bool xn) ∧ w'.cell? ⟨gX, 3, none⟩ = some (Value.string xd) ∧ w'.cell? ⟨gX, 4, none⟩ = some (Value.int .i64 xz) ∧ w'.cell? ⟨gX, 5, none⟩ = some (Value.string xx) ∧ w'.cell? ⟨gX, 6, none⟩ = some (Value.slice xA xnk xck) ∧ w'.cell? ⟨gX, 7, none⟩ = some (Value.slice xB xnb xcb) ∧ w'.cell? ⟨gX, 8, none⟩ = some (Value.int .i64 xco) ∧ w'.cell? ⟨gY, 0, none⟩ = some (Value.int .i64 yk) ∧ w'.cell? ⟨gY, 1, none⟩ = some (Value.int .u64 ym) ∧ w'.cell? ⟨gY, 2, none⟩ = some (Value.bool yn) ∧ w'.cell? ⟨gY, 3, none⟩ = some (Value.string yd) ∧ w'.cell? ⟨gY, 4, none⟩ = some (Value.int .i64 yz) ∧ w'.cell? ⟨gY, 5, none⟩ = some (Value.string yx) ∧ w'.cell? ⟨gY, 6, none⟩ = some (Value.slice yA ynk yck) ∧ w'.cell? ⟨gY, 7, none⟩ = some (Value.slice yB ynb ycb) ∧ w'.cell? ⟨gY, 8, none⟩ = some (Value.int .i64 yco) ∧ Kp [] w12 w') ((Stays.cell _ _).and ((Stays.cell _ _).and ((Stays.cell _ _).and ((Stays.cell _ _).and ((Stays.cell _ _).and ((Stays.cell _ _).and ((Stays.cell _ _).and ((Stays.cell _ _).and ((Stays.cell _ _).and ((Stays.cell _ _).and ((Stays.cell _ _).and ((Stays.cell _ _).and ((Stays.cell _ _).and ((Stays.cell _ _).and ((Stays.cell _ _).and ((Stays.cell _ _).and ((Stays.cell _ _).and ((Stays.cell _ _).and ((Stays.cell _ _).and ((Stays.kp _ _))))))))))))))))))))) (by kernel_rfl) ⟨a1, x0, x1, x2, x3, x4, x5, x6, x7, x8, y0, y1, y2, y3, y4, y5, y6, y7, y8, (Kp.refl _ _).drew⟩ (fun hSS hS => ?_)
            refine lin_val (i := 0) (v := ?_) rfl (by kernel_rfl) (by kernel_rfl) (by kernel_rfl) (fun _ _ _ h => h) hSS hS rfl (fun w hSw => ?_) ?_
            rotate_left
            · obtain ⟨q0, q1, q2, q3, q4, q5, q6, q7, q8, q9, q10, q11, q12, q13, q14, q15, q16, q17, q18, q19⟩ := hSw; go_simp; first | done | with_reducible rfl
            simp only [Act.put, List.setIfInBounds_toArray, List.set_cons_zero, List.set_cons_succ]
            refine lin_val (i := 1) (v := ?_) rfl (by kernel_rfl) (by kernel_rfl) (by kernel_rfl) (fun _ _ _ h => h) hSS hS rfl (fun w hSw => ?_) ?_
            rotate_left
            · obtain ⟨q0, q1, q2, q3, q4, q5, q6, q7, q8, q9, q10, q11, q12, q13, q14, q15, q16, q17, q18, q19⟩ := hSw; go_simp; first | done | with_reducible rfl
            simp only [Act.put, List.setIfInBounds_toArray, List.set_cons_zero, List.set_cons_succ]
            refine lin_val (i := 2) (v := ?_) rfl (by kernel_rfl) (by kernel_rfl) (by kernel_rfl) (fun _ _ _ h => h) hSS hS rfl (fun w hSw => ?_) ?_
            rotate_left
            · obtain ⟨q0, q1, q2, q3, q4, q5, q6, q7, q8, q9, q10, q11, q12, q13, q14, q15, q16, q17, q18, q19⟩ := hSw; go_simp; first | done | with_reducible rfl
            simp only [Act.put, List.setIfInBounds_toArray, List.set_cons_zero, List.set_cons_succ]
            refine lin_val (i := 3) (v := ?_) rfl (by kernel_rfl) (by kernel_rfl) (by kernel_rfl) (fun _ _ _ h => h) hSS hS rfl (fun w hSw => ?_) ?_
            rotate_left
            · obtain ⟨q0, q1, q2, q3, q4, q5, q6, q7, q8, q9, q10, q11, q12, q13, q14, q15, q16, q17, q18, q19⟩ := hSw; go_simp; first | done | with_reducible rfl
            simp only [Act.put, List.setIfInBounds_toArray, List.set_cons_zero, List.set_cons_succ]
            refine lin_val (i := 4) (v := ?_) rfl (by kernel_rfl) (by kernel_rfl) (by kernel_rfl) (fun _ _ _ h => h) hSS hS rfl (fun w hSw => ?_) ?_
            rotate_left
            · obtain ⟨q0, q1, q2, q3, q4, q5, q6, q7, q8, q9, q10, q11, q12, q13, q14, q15, q16, q17, q18, q19⟩ := hSw; go_simp; first | done | with_reducible rfl
            simp only [Act.put, List.setIfInBounds_toArray, List.set_cons_zero, List.set_cons_succ]
            refine lin_val (i := 5) (v := ?_) rfl (by kernel_rfl) (by kernel_rfl) (by kernel_rfl) (fun _ _ _ h => h) hSS hS rfl (fun w hSw => ?_) ?_
            rotate_left
            · obtain ⟨q0, q1, q2, q3, q4, q5, q6, q7, q8, q9, q10, q11, q12, q13, q14, q15, q16, q17, q18, q19⟩ := hSw; go_simp; first | done | with_reducible rfl
            simp only [Act.put, List.setIfInBounds_toArray, List.set_cons_zero, List.set_cons_succ]
            refine lin_val (i := 6) (v := ?_) rfl (by kernel_rfl) (by kernel_rfl) (by kernel_rfl) (fun _ _ _ h => h) hSS hS rfl (fun w hSw => ?_) ?_
            rotate_left
            · obtain ⟨q0, q1, q2, q3, q4, q5, q6, q7, q8, q9, q10, q11, q12, q13, q14, q15, q16, q17, q18, q19⟩ := hSw; go_simp; first | done | with_reducible rfl
            simp only [Act.put, List.setIfInBounds_toArray, List.set_cons_zero, List.set_cons_succ]
            refine lin_val (i := 7) (v := ?_) rfl (by kernel_rfl) (by kernel_rfl) (by kernel_rfl) (fun _ _ _ h => h) hSS hS rfl (fun w hSw => ?_) ?_
            rotate_left
            · obtain ⟨q0, q1, q2, q3, q4, q5, q6, q7, q8, q9, q10, q11, q12, q13, q14, q15, q16, q17, q18, q19⟩ := hSw; go_simp; first | done | with_reducible rfl
            simp only [Act.put, List.setIfInBounds_toArray, List.set_cons_zero, List.set_cons_succ]
            refine lin_val (i := 8) (v := ?_) rfl (by kernel_rfl) (by kernel_rfl) (by kernel_rfl) (fun _ _ _ h => h) hSS hS rfl (fun w hSw => ?_) ?_
            rotate_left
            · obtain ⟨q0, q1, q2, q3, q4, q5, q6, q7, q8, q9, q10, q11, q12, q13, q14, q15, q16, q17, q18, q19⟩ := hSw; go_simp; first | done | with_reducible rfl
            simp only [Act.put, List.setIfInBounds_toArray, List.set_cons_zero, List.set_cons_succ]
            refine lin_val (i := 9) (v := ?_) rfl (by kernel_rfl) (by kernel_rfl) (by kernel_rfl) (fun _ _ _ h => h) hSS hS rfl (fun w hSw => ?_) ?_
            rotate_left
            · obtain ⟨q0, q1, q2, q3, q4, q5, q6, q7, q8, q9, q10, q11, q12, q13, q14, q15, q16, q17, q18, q19⟩ := hSw; go_simp; first | done | with_reducible rfl
            simp only [Act.put, List.setIfInBounds_toArray, List.set_cons_zero, List.set_cons_succ]
            refine lin_val (i := 10) (v := ?_) rfl (by kernel_rfl) (by kernel_rfl) (by kernel_rfl) (fun _ _ _ h => h) hSS hS rfl (fun w hSw => ?_) ?_
            rotate_left
            · obtain ⟨q0, q1, q2, q3, q4, q5, q6, q7, q8, q9, q10, q11, q12, q13, q14, q15, q16, q17, q18, q19⟩ := hSw; go_simp; first | done | with_reducible rfl
            simp only [Act.put, List.setIfInBounds_toArray, List.set_cons_zero, List.set_cons_succ]
            refine lin_call (i := 11) rfl (by kernel_rfl) (by kernel_rfl) (by kernel_rfl) (fun _ _ _ h => h) hSS hS rfl (fun w hSw => by obtain ⟨q0, q1, q2, q3, q4, q5, q6, q7, q8, q9, q10, q11, q12, q13, q14, q15, q16, q17, q18, q19⟩ := hSw; exact qxy w q19) (fun w hSw => ?_) ?_
            · obtain ⟨q0, q1, q2, q3, q4, q5, q6, q7, q8, q9, q10, q11, q12, q13, q14, q15, q16, q17, q18, q19⟩ := hSw; go_simp
            simp only [Act.put, List.setIfInBounds_toArray, List.set_cons_zero, List.set_cons_succ]
            refine lin_val (i := 12) (v := ?_) rfl (by kernel_rfl) (by kernel_rfl) (by kernel_rfl) (fun _ _ _ h => h) hSS hS rfl (fun w hSw => ?_) ?_
            rotate_left
            · obtain ⟨q0, q1, q2, q3, q4, q5, q6, q7, q8, q9, q10, q11, q12, q13, q14, q15, q16, q17, q18, q19⟩ := hSw; go_simp; first | done | with_reducible rfl
            simp only [Act.put, List.setIfInBounds_toArray, List.set_cons_zero, List.set_cons_succ]
            refine lin_val (i := 13) (v := ?_) rfl (by kernel_rfl) (by kernel_rfl) (by kernel_rfl) (fun _ _ _ h => h) hSS hS rfl (fun w hSw => ?_) ?_
            rotate_left
            · obtain ⟨q0, q1, q2, q3, q4, q5, q6, q7, q8, q9, q10, q11, q12, q13, q14, q15, q16, q17, q18, q19⟩ := hSw; go_simp; first | done | with_reducible rfl
            simp only [Act.put, List.setIfInBounds_toArray, List.set_cons_zero, List.set_cons_succ]
            refine lin_val (i := 14) (v := ?_) rfl (by kernel_rfl) (by kernel_rfl) (by kernel_rfl) (fun _ _ _ h => h) hSS hS rfl (fun w hSw => ?_) ?_
            rotate_left
            · obtain ⟨q0, q1, q2, q3, q4, q5, q6, q7, q8, q9, q10, q11, q12, q13, q14, q15, q16, q17, q18, q19⟩ := hSw; go_simp; first | done | with_reducible rfl
            simp only [Act.put, List.setIfInBounds_toArray, List.set_cons_zero, List.set_cons_succ]
            refine lin_val (i := 15) (v := ?_) rfl (by kernel_rfl) (by kernel_rfl) (by kernel_rfl) (fun _ _ _ h => h) hSS hS rfl (fun w hSw => ?_) ?_
            rotate_left
            · obtain ⟨q0, q1, q2, q3, q4, q5, q6, q7, q8, q9, q10, q11, q12, q13, q14, q15, q16, q17, q18, q19⟩ := hSw; go_simp; first | done | with_reducible rfl
            simp only [Act.put, List.setIfInBounds_toArray, List.set_cons_zero, List.set_cons_succ]
            refine lin_val (i := 16) (v := ?_) rfl (by kernel_rfl) (by kernel_rfl) (by kernel_rfl) (fun _ _ _ h => h) hSS hS rfl (fun w hSw => ?_) ?_
            rotate_left
            · obtain ⟨q0, q1, q2, q3, q4, q5, q6, q7, q8, q9, q10, q11, q12, q13, q14, q15, q16, q17, q18, q19⟩ := hSw; go_simp; first | done | with_reducible rfl
            simp only [Act.put, List.setIfInBounds_toArray, List.set_cons_zero, List.set_cons_succ]
            refine lin_val (i := 17) (v := ?_) rfl (by kernel_rfl) (by kernel_rfl) (by kernel_rfl) (fun _ _ _ h => h) hSS hS rfl (fun w hSw => ?_) ?_
            rotate_left
            · obtain ⟨q0, q1, q2, q3, q4, q5, q6, q7, q8, q9, q10, q11, q12, q13, q14, q15, q16, q17, q18, q19⟩ := hSw; go_simp; first | done | with_reducible rfl
            simp only [Act.put, List.setIfInBounds_toArray, List.set_cons_zero, List.set_cons_succ]
            refine lin_val (i := 18) (v := ?_) rfl (by kernel_rfl) (by kernel_rfl) (by kernel_rfl) (fun _ _ _ h => h) hSS hS rfl (fun w hSw => ?_) ?_
            rotate_left
            · obtain ⟨q0, q1, q2, q3, q4, q5, q6, q7, q8, q9, q10, q11, q12, q13, q14, q15, q16, q17, q18, q19⟩ := hSw; go_simp; first | done | with_reducible rfl
            simp only [Act.put, List.setIfInBounds_toArray, List.set_cons_zero, List.set_cons_succ]
            refine lin_val (i := 19) (v := ?_) rfl (by kernel_rfl) (by kernel_rfl) (by kernel_rfl) (fun _ _ _ h => h) hSS hS rfl (fun w hSw => ?_) ?_
            rotate_left
            · obtain ⟨q0, q1, q2, q3, q4, q5, q6, q7, q8, q9, q10, q11, q12, q13, q14, q15, q16, q17, q18, q19⟩ := hSw; go_simp; first | done | with_reducible rfl
            simp only [Act.put, List.setIfInBounds_toArray, List.set_cons_zero, List.set_cons_succ]
            refine lin_val (i := 20) (v := ?_) rfl (by kernel_rfl) (by kernel_rfl) (by kernel_rfl) (fun _ _ _ h => h) hSS hS rfl (fun w hSw => ?_) ?_
            rotate_left
            · obtain ⟨q0, q1, q2, q3, q4, q5, q6, q7, q8, q9, q10, q11, q12, q13, q14, q15, q16, q17, q18, q19⟩ := hSw; go_simp; first | done | with_reducible rfl
            simp only [Act.put, List.setIfInBounds_toArray, List.set_cons_zero, List.set_cons_succ]
            refine lin_val (i := 21) (v := ?_) rfl (by kernel_rfl) (by kernel_rfl) (by kernel_rfl) (fun _ _ _ h => h) hSS hS rfl (fun w hSw => ?_) ?_
            rotate_left
            · obtain ⟨q0, q1, q2, q3, q4, q5, q6, q7, q8, q9, q10, q11, q12, q13, q14, q15, q16, q17, q18, q19⟩ := hSw; go_simp; first | done | with_reducible rfl
            simp only [Act.put, List.setIfInBounds_toArray, List.set_cons_zero, List.set_cons_succ]
            refine lin_val (i := 22) (v := ?_) rfl (by kernel_rfl) (by kernel_rfl) (by kernel_rfl) (fun _ _ _ h => h) hSS hS rfl (fun w hSw => ?_) ?_
            rotate_left
            · obtain ⟨q0, q1, q2, q3, q4, q5, q6, q7, q8, q9, q10, q11, q12, q13, q14, q15, q16, q17, q18, q19⟩ := hSw; go_simp; first | done | with_reducible rfl
            simp only [Act.put, List.setIfInBounds_toArray, List.set_cons_zero, List.set_cons_succ]
            refine lin_val (i := 23) (v := ?_) rfl (by kernel_rfl) (by kernel_rfl) (by kernel_rfl) (fun _ _ _ h => h) hSS hS rfl (fun w hSw => ?_) ?_
            rotate_left
            · obtain ⟨q0, q1, q2, q3, q4, q5, q6, q7, q8, q9, q10, q11, q12, q13, q14, q15, q16, q17, q18, q19⟩ := hSw; go_simp; first | done | with_reducible rfl
            simp only [Act.put, List.setIfInBounds_toArray, List.set_cons_zero, List.set_cons_succ]
            refine lin_call (i := 24) rfl (by kernel_rfl) (by kernel_rfl) (by kernel_rfl) (fun _ _ _ h => h) hSS hS rfl (fun w hSw => by obtain ⟨q0, q1, q2, q3, q4, q5, q6, q7, q8, q9, q10, q11, q12, q13, q14, q15, q16, q17, q18, q19⟩ := hSw; exact qhx w q19) (fun w hSw => ?_) ?_
            · obtain ⟨q0, q1, q2, q3, q4, q5, q6, q7, q8, q9, q10, q11, q12, q13, q14, q15, q16, q17, q18, q19⟩ := hSw; go_simp
            simp only [Act.put, List.setIfInBounds_toArray, List.set_cons_zero, List.set_cons_succ]
            refine lin_val (i := 25) (v := ?_) rfl (by kernel_rfl) (by kernel_rfl) (by kernel_rfl) (fun _ _ _ h => h) hSS hS rfl (fun w hSw => ?_) ?_
            rotate_left
            · obtain ⟨q0, q1, q2, q3, q4, q5, q6, q7, q8, q9, q10, q11, q12, q13, q14, q15, q16, q17, q18, q19⟩ := hSw; go_simp; first | done | with_reducible rfl
            simp only [Act.put, List.setIfInBounds_toArray, List.set_cons_zero, List.set_cons_succ]
            refine lin_call (i := 26) rfl (by kernel_rfl) (by kernel_rfl) (by kernel_rfl) (fun _ _ _ h => h) hSS hS rfl (fun w hSw => by obtain ⟨q0, q1, q2, q3, q4, q5, q6, q7, q8, q9, q10, q11, q12, q13, q14, q15, q16, q17, q18, q19⟩ := hSw; exact qhy w q19) (fun w hSw => ?_) ?_
            · obtain ⟨q0, q1, q2, q3, q4, q5, q6, q7, q8, q9, q10, q11, q12, q13, q14, q15, q16, q17, q18, q19⟩ := hSw; go_simp
            simp only [Act.put, List.setIfInBounds_toArray, List.set_cons_zero, List.set_cons_succ]
            refine lin_val (i := 27) (v := ?_) rfl (by kernel_rfl) (by kernel_rfl) (by kernel_rfl) (fun _ _ _ h => h) hSS hS rfl (fun w hSw => ?_) ?_
            rotate_left
            · obtain ⟨q0, q1, q2, q3, q4, q5, q6, q7, q8, q9, q10, q11, q12, q13, q14, q15, q16, q17, q18, q19⟩ := hSw; go_simp; first | done | with_reducible rfl
            simp only [Act.put, List.setIfInBounds_toArray, List.set_cons_zero, List.set_cons_succ]
            refine lin_val (i := 28) (v := ?_) rfl (by kernel_rfl) (by kernel_rfl) (by kernel_rfl) (fun _ _ _ h => h) hSS hS rfl (fun w hSw => ?_) ?_
            rotate_left
            · obtain ⟨q0, q1, q2, q3, q4, q5, q6, q7, q8, q9, q10, q11, q12, q13, q14, q15, q16, q17, q18, q19⟩ := hSw; go_simp; first | done | with_reducible rfl
            simp only [Act.put, List.setIfInBounds_toArray, List.set_cons_zero, List.set_cons_succ]
            refine lin_val (i := 29) (v := ?_) rfl (by kernel_rfl) (by kernel_rfl) (by kernel_rfl) (fun _ _ _ h => h) hSS hS rfl (fun w hSw => ?_) ?_
            rotate_left
            · obtain ⟨q0, q1, q2, q3, q4, q5, q6, q7, q8, q9, q10, q11, q12, q13, q14, q15, q16, q17, q18, q19⟩ := hSw; go_simp; first | done | with_reducible rfl
            simp only [Act.put, List.setIfInBounds_toArray, List.set_cons_zero, List.set_cons_succ]
            refine lin_val (i := 30) (v := ?_) rfl (by kernel_rfl) (by kernel_rfl) (by kernel_rfl) (fun _ _ _ h => h) hSS hS rfl (fun w hSw => ?_) ?_
            rotate_left
            · obtain ⟨q0, q1, q2, q3, q4, q5, q6, q7, q8, q9, q10, q11, q12, q13, q14, q15, q16, q17, q18, q19⟩ := hSw; go_simp; first | done | with_reducible rfl
            simp only [Act.put, List.setIfInBounds_toArray, List.set_cons_zero, List.set_cons_succ]
            refine lin_done (by kernel_rfl) (fun wE kwE => ?_) _
            clear hS hSS
            have HKE := hid (((HKW.out.nil H12.out).nil (Kp.refl _ _).drew).nil kwE)
            clear kwE
            go_wp2_with fail
            go_ret
            exact ⟨rfl, HKE.out⟩
          · have zm : ((m : Int) != 0) = true := by simp; omega
            have HM0 := hid hm0
            clear hm0
            go_wp2_with fail
            refine lin_start (fun w' => w'.cell? ⟨gA, 1, none⟩ = some (Value.int .u64 (m : Int)) ∧ w'.cell? ⟨gX, 0, none⟩ = some (Value.int .i64 xk) ∧ w'.cell? ⟨gX, 1, none⟩ = some (Value.int .u64 xm) ∧ w'.cell? ⟨gX, 2, none⟩ = some (Value.bool xn) ∧ w'.cell? ⟨gX, 3, none⟩ = some (Value.string xd) ∧ w'.cell? ⟨gX, 4, none⟩ = some (Value.int .i64 xz) ∧ w'.cell? ⟨gX, 5, none⟩ = some (Value.string xx) ∧ w'.cell? ⟨gX, 6, none⟩ = some (Value.slice xA xnk xck) ∧ w'.cell? ⟨gX, 7, none⟩ = some (Value.slice xB xnb xcb) ∧ w'.cell? ⟨gX, 8, none⟩ = some (Value.int .i64 xco) ∧ w'.cell? ⟨gY, 0, none⟩ = some (Value.int .i64 yk) ∧ w'.cell? ⟨gY, 1, none⟩ = some (Value.int .u64 ym) ∧ w'.cell? ⟨gY, 2, none⟩ = some (Value.bool yn) ∧ w'.cell? ⟨gY, 3, none⟩ = some (Value.string yd) ∧ w'.cell? ⟨gY, 4, none⟩ = some (Value.int .i64 yz) ∧ w'.cell? ⟨gY, 5, none⟩ = some (Value.string yx) ∧ w'.cell? ⟨gY, 6, none⟩ = some (Value.slice yA ynk yck) ∧ w'.cell? ⟨gY, 7, none⟩ = some (Value.slice yB ynb ycb) ∧ w'.cell? ⟨gY, 8, none⟩ = some (Value.int .i64 yco) ∧ Kp [] w12 w') ((Stays.cell _ _).and ((Stays.cell _ _).and ((Stays.cell _ _).and ((Stays.cell _ _).and ((Stays.cell _ _).and ((Stays.cell _ _).and ((Stays.cell _ _).and ((Stays.cell _ _).and ((Stays.cell _ _).and ((Stays.cell _ _).and ((Stays.cell _ _).and ((Stays.cell _ _).and ((Stays.cell _ _).and ((Stays.cell _ _).and ((Stays.cell _ _).and ((Stays.cell _ _).and ((Stays.cell _ _).and ((Stays.cell _ _).and ((Stays.cell _ _).and ((Stays.kp _ _))))))))))))))))))))) (by kernel_rfl) ⟨a1, x0, x1, x2, x3, x4, x5, x6, x7, x8, y0, y1, y2, y3, y4, y5, y6, y7, y8, (Kp.refl _ _).drew⟩ (fun hSS hS => ?_)
            refine lin_val (i := 0) (v := ?_) rfl (by kernel_rfl) (by kernel_rfl) (by kernel_rfl) (fun _ _ _ h => h) hSS hS rfl (fun w hSw => ?_) ?_
            rotate_left
            · obtain ⟨q0, q1, q2, q3, q4, q5, q6, q7, q8, q9, q10, q11, q12, q13, q14, q15, q16, q17, q18, q19⟩ := hSw; go_simp; first | done | with_reducible rfl
            simp only [Act.put, List.setIfInBounds_toArray, List.set_cons_zero, List.set_cons_succ]
            refine lin_val (i := 1) (v := ?_) rfl (by kernel_rfl) (by kernel_rfl) (by kernel_rfl) (fun _ _ _ h => h) hSS hS rfl (fun w hSw => ?_) ?_
            rotate_left
            · obtain ⟨q0, q1, q2, q3, q4, q5, q6, q7, q8, q9, q10, q11, q12, q13, q14, q15, q16, q17, q18, q19⟩ := hSw; go_simp; first | done | with_reducible rfl
            simp only [Act.put, List.setIfInBounds_toArray, List.set_cons_zero, List.set_cons_succ]
            refine lin_val (i := 2) (v := ?_) rfl (by kernel_rfl) (by kernel_rfl) (by kernel_rfl) (fun _ _ _ h => h) hSS hS rfl (fun w hSw => ?_) ?_
            rotate_left
            · obtain ⟨q0, q1, q2, q3, q4, q5, q6, q7, q8, q9, q10, q11, q12, q13, q14, q15, q16, q17, q18, q19⟩ := hSw; go_simp; first | done | with_reducible rfl
            simp only [Act.put, List.setIfInBounds_toArray, List.set_cons_zero, List.set_cons_succ]
            refine lin_val (i := 3) (v := ?_) rfl (by kernel_rfl) (by kernel_rfl) (by kernel_rfl) (fun _ _ _ h => h) hSS hS rfl (fun w hSw => ?_) ?_
            rotate_left
            · obtain ⟨q0, q1, q2, q3, q4, q5, q6, q7, q8, q9, q10, q11, q12, q13, q14, q15, q16, q17, q18, q19⟩ := hSw; go_simp; first | done | with_reducible rfl
            simp only [Act.put, List.setIfInBounds_toArray, List.set_cons_zero, List.set_cons_succ]
            refine lin_val (i := 4) (v := ?_) rfl (by kernel_rfl) (by kernel_rfl) (by kernel_rfl) (fun _ _ _ h => h) hSS hS rfl (fun w hSw => ?_) ?_
            rotate_left
            · obtain ⟨q0, q1, q2, q3, q4, q5, q6, q7, q8, q9, q10, q11, q12, q13, q14, q15, q16, q17, q18, q19⟩ := hSw; go_simp; first | done | with_reducible rfl
            simp only [Act.put, List.setIfInBounds_toArray, List.set_cons_zero, List.set_cons_succ]
            refine lin_val (i := 5) (v := ?_) rfl (by kernel_rfl) (by kernel_rfl) (by kernel_rfl) (fun _ _ _ h => h) hSS hS rfl (fun w hSw => ?_) ?_
            rotate_left
            · obtain ⟨q0, q1, q2, q3, q4, q5, q6, q7, q8, q9, q10, q11, q12, q13, q14, q15, q16, q17, q18, q19⟩ := hSw; go_simp; first | done | with_reducible rfl
            simp only [Act.put, List.setIfInBounds_toArray, List.set_cons_zero, List.set_cons_succ]
            refine lin_val (i := 6) (v := ?_) rfl (by kernel_rfl) (by kernel_rfl) (by kernel_rfl) (fun _ _ _ h => h) hSS hS rfl (fun w hSw => ?_) ?_
            rotate_left
            · obtain ⟨q0, q1, q2, q3, q4, q5, q6, q7, q8, q9, q10, q11, q12, q13, q14, q15, q16, q17, q18, q19⟩ := hSw; go_simp; first | done | with_reducible rfl
            simp only [Act.put, List.setIfInBounds_toArray, List.set_cons_zero, List.set_cons_succ]
            refine lin_val (i := 7) (v := ?_) rfl (by kernel_rfl) (by kernel_rfl) (by kernel_rfl) (fun _ _ _ h => h) hSS hS rfl (fun w hSw => ?_) ?_
            rotate_left
            · obtain ⟨q0, q1, q2, q3, q4, q5, q6, q7, q8, q9, q10, q11, q12, q13, q14, q15, q16, q17, q18, q19⟩ := hSw; go_simp; first | done | with_reducible rfl
            simp only [Act.put, List.setIfInBounds_toArray, List.set_cons_zero, List.set_cons_succ]
            refine lin_val (i := 8) (v := ?_) rfl (by kernel_rfl) (by kernel_rfl) (by kernel_rfl) (fun _ _ _ h => h) hSS hS rfl (fun w hSw => ?_) ?_
            rotate_left
            · obtain ⟨q0, q1, q2, q3, q4, q5, q6, q7, q8, q9, q10, q11, q12, q13, q14, q15, q16, q17, q18, q19⟩ := hSw; go_simp; first | done | with_reducible rfl
            simp only [Act.put, List.setIfInBounds_toArray, List.set_cons_zero, List.set_cons_succ]
            refine lin_val (i := 9) (v := ?_) rfl (by kernel_rfl) (by kernel_rfl) (by kernel_rfl) (fun _ _ _ h => h) hSS hS rfl (fun w hSw => ?_) ?_
            rotate_left
            · obtain ⟨q0, q1, q2, q3, q4, q5, q6, q7, q8, q9, q10, q11, q12, q13, q14, q15, q16, q17, q18, q19⟩ := hSw; go_simp; first | done | with_reducible rfl
            simp only [Act.put, List.setIfInBounds_toArray, List.set_cons_zero, List.set_cons_succ]
            refine lin_val (i := 10) (v := ?_) rfl (by kernel_rfl) (by kernel_rfl) (by kernel_rfl) (fun _ _ _ h => h) hSS hS rfl (fun w hSw => ?_) ?_
            rotate_left
            · obtain ⟨q0, q1, q2, q3, q4, q5, q6, q7, q8, q9, q10, q11, q12, q13, q14, q15, q16, q17, q18, q19⟩ := hSw; go_simp; first | done | with_reducible rfl
            simp only [Act.put, List.setIfInBounds_toArray, List.set_cons_zero, List.set_cons_succ]
            refine lin_call (i := 11) rfl (by kernel_rfl) (by kernel_rfl) (by kernel_rfl) (fun _ _ _ h => h) hSS hS rfl (fun w hSw => by obtain ⟨q0, q1, q2, q3, q4, q5, q6, q7, q8, q9, q10, q11, q12, q13, q14, q15, q16, q17, q18, q19⟩ := hSw; exact qxy w q19) (fun w hSw => ?_) ?_
            · obtain ⟨q0, q1, q2, q3, q4, q5, q6, q7, q8, q9, q10, q11, q12, q13, q14, q15, q16, q17, q18, q19⟩ := hSw; go_simp
            simp only [Act.put, List.setIfInBounds_toArray, List.set_cons_zero, List.set_cons_succ]
            refine lin_val (i := 12) (v := ?_) rfl (by kernel_rfl) (by kernel_rfl) (by kernel_rfl) (fun _ _ _ h => h) hSS hS rfl (fun w hSw => ?_) ?_
            rotate_left
            · obtain ⟨q0, q1, q2, q3, q4, q5, q6, q7, q8, q9, q10, q11, q12, q13, q14, q15, q16, q17, q18, q19⟩ := hSw; go_simp; first | done | with_reducible rfl
            simp only [Act.put, List.setIfInBounds_toArray, List.set_cons_zero, List.set_cons_succ]
            refine lin_val (i := 13) (v := ?_) rfl (by kernel_rfl) (by kernel_rfl) (by kernel_rfl) (fun _ _ _ h => h) hSS hS rfl (fun w hSw => ?_) ?_
            rotate_left
            · obtain ⟨q0, q1, q2, q3, q4, q5, q6, q7, q8, q9, q10, q11, q12, q13, q14, q15, q16, q17, q18, q19⟩ := hSw; go_simp; first | done | with_reducible rfl
            simp only [Act.put, List.setIfInBounds_toArray, List.set_cons_zero, List.set_cons_succ]
            refine lin_val (i := 14) (v := ?_) rfl (by kernel_rfl) (by kernel_rfl) (by kernel_rfl) (fun _ _ _ h => h) hSS hS rfl (fun w hSw => ?_) ?_
            rotate_left
            · obtain ⟨q0, q1, q2, q3, q4, q5, q6, q7, q8, q9, q10, q11, q12, q13, q14, q15, q16, q17, q18, q19⟩ := hSw; go_simp; first | done | with_reducible rfl
            simp only [Act.put, List.setIfInBounds_toArray, List.set_cons_zero, List.set_cons_succ]
            refine lin_val (i := 15) (v := ?_) rfl (by kernel_rfl) (by kernel_rfl) (by kernel_rfl) (fun _ _ _ h => h) hSS hS rfl (fun w hSw => ?_) ?_
            rotate_left
            · obtain ⟨q0, q1, q2, q3, q4, q5, q6, q7, q8, q9, q10, q11, q12, q13, q14, q15, q16, q17, q18, q19⟩ := hSw; go_simp; first | done | with_reducible rfl
            simp only [Act.put, List.setIfInBounds_toArray, List.set_cons_zero, List.set_cons_succ]
            refine lin_val (i := 16) (v := ?_) rfl (by kernel_rfl) (by kernel_rfl) (by kernel_rfl) (fun _ _ _ h => h) hSS hS rfl (fun w hSw => ?_) ?_
            rotate_left
            · obtain ⟨q0, q1, q2, q3, q4, q5, q6, q7, q8, q9, q10, q11, q12, q13, q14, q15, q16, q17, q18, q19⟩ := hSw; go_simp; first | done | with_reducible rfl
            simp only [Act.put, List.setIfInBounds_toArray, List.set_cons_zero, List.set_cons_succ]
            refine lin_val (i := 17) (v := ?_) rfl (by kernel_rfl) (by kernel_rfl) (by kernel_rfl) (fun _ _ _ h => h) hSS hS rfl (fun w hSw => ?_) ?_
            rotate_left
            · obtain ⟨q0, q1, q2, q3, q4, q5, q6, q7, q8, q9, q10, q11, q12, q13, q14, q15, q16, q17, q18, q19⟩ := hSw; go_simp; first | done | with_reducible rfl
            simp only [Act.put, List.setIfInBounds_toArray, List.set_cons_zero, List.set_cons_succ]
            refine lin_val (i := 18) (v := ?_) rfl (by kernel_rfl) (by kernel_rfl) (by kernel_rfl) (fun _ _ _ h => h) hSS hS rfl (fun w hSw => ?_) ?_
            rotate_left
            · obtain ⟨q0, q1, q2, q3, q4, q5, q6, q7, q8, q9, q10, q11, q12, q13, q14, q15, q16, q17, q18, q19⟩ := hSw; go_simp; first | done | with_reducible rfl
            simp only [Act.put, List.setIfInBounds_toArray, List.set_cons_zero, List.set_cons_succ]
            refine lin_val (i := 19) (v := ?_) rfl (by kernel_rfl) (by kernel_rfl) (by kernel_rfl) (fun _ _ _ h => h) hSS hS rfl (fun w hSw => ?_) ?_
            rotate_left
            · obtain ⟨q0, q1, q2, q3, q4, q5, q6, q7, q8, q9, q10, q11, q12, q13, q14, q15, q16, q17, q18, q19⟩ := hSw; go_simp; first | done | with_reducible rfl
            simp only [Act.put, List.setIfInBounds_toArray, List.set_cons_zero, List.set_cons_succ]
            refine lin_val (i := 20) (v := ?_) rfl (by kernel_rfl) (by kernel_rfl) (by kernel_rfl) (fun _ _ _ h => h) hSS hS rfl (fun w hSw => ?_) ?_
            rotate_left
            · obtain ⟨q0, q1, q2, q3, q4, q5, q6, q7, q8, q9, q10, q11, q12, q13, q14, q15, q16, q17, q18, q19⟩ := hSw; go_simp; first | done | with_reducible rfl
            simp only [Act.put, List.setIfInBounds_toArray, List.set_cons_zero, List.set_cons_succ]
            refine lin_val (i := 21) (v := ?_) rfl (by kernel_rfl) (by kernel_rfl) (by kernel_rfl) (fun _ _ _ h => h) hSS hS rfl (fun w hSw => ?_) ?_
            rotate_left
            · obtain ⟨q0, q1, q2, q3, q4, q5, q6, q7, q8, q9, q10, q11, q12, q13, q14, q15, q16, q17, q18, q19⟩ := hSw; go_simp; first | done | with_reducible rfl
            simp only [Act.put, List.setIfInBounds_toArray, List.set_cons_zero, List.set_cons_succ]
            refine lin_val (i := 22) (v := ?_) rfl (by kernel_rfl) (by kernel_rfl) (by kernel_rfl) (fun _ _ _ h => h) hSS hS rfl (fun w hSw => ?_) ?_
            rotate_left
            · obtain ⟨q0, q1, q2, q3, q4, q5, q6, q7, q8, q9, q10, q11, q12, q13, q14, q15, q16, q17, q18, q19⟩ := hSw; go_simp; first | done | with_reducible rfl
            simp only [Act.put, List.setIfInBounds_toArray, List.set_cons_zero, List.set_cons_succ]
            refine lin_not (i := 23) rfl (by kernel_rfl) (by kernel_rfl) (by kernel_rfl) (fun _ _ _ h => h) hSS hS rfl ?_
            simp only [Act.put, List.setIfInBounds_toArray, List.set_cons_zero, List.set_cons_succ]
            refine lin_not (i := 24) rfl (by kernel_rfl) (by kernel_rfl) (by kernel_rfl) (fun _ _ _ h => h) hSS hS rfl ?_
            simp only [Act.put, List.setIfInBounds_toArray, List.set_cons_zero, List.set_cons_succ]
            refine lin_not (i := 25) rfl (by kernel_rfl) (by kernel_rfl) (by kernel_rfl) (fun _ _ _ h => h) hSS hS rfl ?_
            simp only [Act.put, List.setIfInBounds_toArray, List.set_cons_zero, List.set_cons_succ]
            refine lin_not (i := 26) rfl (by kernel_rfl) (by kernel_rfl) (by kernel_rfl) (fun _ _ _ h => h) hSS hS rfl ?_
            simp only [Act.put, List.setIfInBounds_toArray, List.set_cons_zero, List.set_cons_succ]
            refine lin_not (i := 27) rfl (by kernel_rfl) (by kernel_rfl) (by kernel_rfl) (fun _ _ _ h => h) hSS hS rfl ?_
            simp only [Act.put, List.setIfInBounds_toArray, List.set_cons_zero, List.set_cons_succ]
            refine lin_val (i := 28) (v := ?_) rfl (by kernel_rfl) (by kernel_rfl) (by kernel_rfl) (fun _ _ _ h => h) hSS hS rfl (fun w hSw => ?_) ?_
            rotate_left
            · obtain ⟨q0, q1, q2, q3, q4, q5, q6, q7, q8, q9, q10, q11, q12, q13, q14, q15, q16, q17, q18, q19⟩ := hSw; go_simp; first | done | with_reducible rfl
            simp only [Act.put, List.setIfInBounds_toArray, List.set_cons_zero, List.set_cons_succ]
            refine lin_val (i := 29) (v := ?_) rfl (by kernel_rfl) (by kernel_rfl) (by kernel_rfl) (fun _ _ _ h => h) hSS hS rfl (fun w hSw => ?_) ?_
            rotate_left
            · obtain ⟨q0, q1, q2, q3, q4, q5, q6, q7, q8, q9, q10, q11, q12, q13, q14, q15, q16, q17, q18, q19⟩ := hSw; go_simp; first | done | with_reducible rfl
            simp only [Act.put, List.setIfInBounds_toArray, List.set_cons_zero, List.set_cons_succ]
            refine lin_val (i := 30) (v := ?_) rfl (by kernel_rfl) (by kernel_rfl) (by kernel_rfl) (fun _ _ _ h => h) hSS hS rfl (fun w hSw => ?_) ?_
            rotate_left
            · obtain ⟨q0, q1, q2, q3, q4, q5, q6, q7, q8, q9, q10, q11, q12, q13, q14, q15, q16, q17, q18, q19⟩ := hSw; go_simp; first | done | with_reducible rfl
            simp only [Act.put, List.setIfInBounds_toArray, List.set_cons_zero, List.set_cons_succ]
            refine lin_done (by kernel_rfl) (fun wE kwE => ?_) _
            clear hS hSS
            have HKE := hid (((HKW.out.nil H12.out).nil (Kp.refl _ _).drew).nil kwE)
            clear kwE
            go_wp2_with fail
            go_ret
            exact ⟨rfl, HKE.out⟩
theorem tidylaw (W : World) (_ : Tabs W) (A : Option Addr) (n c : Nat) (l : List Itm) (x : ItemsAt W A c l) (y : l.length = n) (A' : Option Addr) (n' c' : Nat) (l' : List Itm) (x' : ItemsAt W A' c' l') (y' : l'.length = n') (a : Int) (ha : 0 ≤ a ∧ a ≤ 18446744073709551615) :
    Calls Tryd.prog 6 #[.slice A n c, .slice A' n' c', .int .u64 a] W fun e w' => e = .returned (.bool true) ∧ Kp [] W w' := by
  subst y y'
  obtain ⟨a, rfl, ha'⟩ := u64_nat ha
  exact tidylaw_any W A c l x A' c' l' x' a ha'
end Go.Proofs.YtpeldjihalldkaaDoor
