/- AuditCut: of a log that is cut anywhere the records that are whole are told, and outputs are proved by them just if there are not more bytes. -/
import Derived.Test.YtepeopfdenieeaaDoorOpenPiece
import Derived.Test.YtepeopfdenieeaaDoorShown19
import Derived.Test.YtepeopfdenieeaaDoorProved
import Derived.Test.YtepeopfdenieeaaDoorRowsLaw
import Derived.Deep.DeepCutAuto
namespace Go.Proofs.YtepeopfdenieeaaDoor
open Go Go.RowKit

/-- Of bytes that are cut the records are the first ones. -/
theorem Rows.cut : ∀ {rs qs : List Rec} {l rest rest' : List UInt8} {K : Nat}, Rows l rs rest → Rows (l.take K) qs rest' → qs = rs.take qs.length ∧ qs.length ≤ rs.length
  | rs, [], _, _, _, _, _, _ => by simp
  | [], q :: qs, l, rest, rest', K, h, k => by
    have hr : l = rest := by simpa [putAll] using h.2.1
    subst hr
    have e : l = putB q ++ (putAll qs ++ rest' ++ l.drop K) := by
      have h2 := k.2.1
      have h3 : l = (putAll (q :: qs) ++ rest') ++ l.drop K := by rw [← h2, List.take_append_drop]
      simpa [putAll] using h3
    exact absurd ⟨k.1 q (by simp), _, e⟩ (h.2.2 q)
  | r :: rs, q :: qs, l, rest, rest', K, h, k => by
    have hl : l = putB q ++ (putAll qs ++ rest' ++ l.drop K) := by
      have h2 := k.2.1
      have h3 : l = (putAll (q :: qs) ++ rest') ++ l.drop K := by rw [← h2, List.take_append_drop]
      simpa [putAll] using h3
    have e := h.2.1.symm.trans hl
    obtain ⟨rfl, e2⟩ := putB_free (h.1 r (by simp)) (k.1 q (by simp)) (putAll rs ++ rest) _ (by simpa [putAll] using e)
    have hK : (putB r).length ≤ K := by
      have h2 := congrArg List.length k.2.1
      rw [putAll_cons, List.length_append, List.length_append, List.length_take] at h2
      omega
    have hk2 : Rows ((putAll rs ++ rest).take (K - (putB r).length)) qs rest' := by
      refine ⟨fun x hx => k.1 x (by simp [hx]), ?_, k.2.2⟩
      have h2 := k.2.1
      have h3 : l = putB r ++ (putAll rs ++ rest) := by rw [h.2.1]; simp [putAll]
      rw [h3, List.take_append, List.take_of_length_le (by omega), putAll_cons, List.append_assoc] at h2
      exact List.append_cancel_left h2
    obtain ⟨h1, h2⟩ := Rows.cut (rs := rs) (qs := qs) (l := putAll rs ++ rest) ⟨fun x hx => h.1 x (by simp [hx]), rfl, h.2.2⟩ hk2
    exact ⟨by rw [List.length_cons, List.take_succ_cons, ← h1], by simpa using h2⟩
/-- What the three blocks of an audit are. -/
structure Trio (w : World) (a al ao : Nat) : Prop where
  l : w.heap.size ≤ al
  o : w.heap.size ≤ ao
  a : w.heap.size ≤ a
theorem Trio.kp {w w1 w2 : World} {a al ao : Nat} (h : Trio w a al ao) (k1 : Kp [] w w1) (k2 : Kp [a, al, ao] w1 w2) : Kp [] w w2 :=
  k1.trans k2 (by
    intro x hx hl
    obtain ⟨h1, h2, h3⟩ := h
    simp at hx
    omega)
theorem piece_cells {w : World} {P : Addr} {p : Pc} (h : PieceAt w P p) : ∃ A c B d, (∀ wx, Kp [] w wx → wx.cell? P = some (.int .i64 p.r.doc) ∧ wx.cell? ⟨P.block, P.off + 1, none⟩ = some (.int .i64 p.r.out) ∧ wx.cell? ⟨P.block, P.off + 2, none⟩ = some (.int .i64 p.r.len) ∧ wx.cell? ⟨P.block, P.off + 3, none⟩ = some (.slice A p.r.holes.length c) ∧
      wx.cell? ⟨P.block, P.off + 4, none⟩ = some (.slice B p.b.length d) ∧ wx.cell? ⟨P.block, P.off + 5, none⟩ = some (.bool p.right)) ∧
    ∀ wx, Kp [] w wx → PcIs wx p (.agg #[.int .i64 p.r.doc, .int .i64 p.r.out, .int .i64 p.r.len, .slice A p.r.holes.length c, .slice B p.b.length d, .bool p.right]) := by
  obtain ⟨A, c, B, d, h0, h1, h2, h3, h4, h5, h6, h7, h8, h9, h10, h11⟩ := h
  exact ⟨A, c, B, d, fun wx k => ⟨k.cell h0 (by simp), k.cell h1 (by simp), k.cell h2 (by simp), k.cell h3 (by simp), k.cell h4 (by simp), k.cell h5 (by simp)⟩,
    fun wx k => ⟨A, c, B, d, rfl, h6.kept k, h7, h8, h9.kept k, h10, h11⟩⟩
theorem fewP_sizes (p : Pc) : ∀ s ∈ (fewP p).r.holes, s.size ≤ 60 := size_fewPH _ _
theorem fewP_b (p : Pc) : (fewP p).b.length ≤ 100 := by
  show (p.b.take 100).length ≤ 100
  rw [List.length_take]; omega

set_option maxRecDepth 100000 in
set_option maxHeartbeats 8000000 in
theorem acut_any (w : World) (hT : Tabs w) (A : Option Addr) (n c : Nat) (ps : List Pc) (hs : PiecesAt w A ps) (hn : ps.length = n) (_hc : n ≤ c) (_hc2 : c ≤ 9223372036854775807) (hin : ∀ p ∈ ps, RecIn p.r) (t0 t1 : Int)
    (ht0 : -9223372036854775808 ≤ t0 ∧ t0 ≤ 9223372036854775807) (ht1 : -9223372036854775808 ≤ t1 ∧ t1 ≤ 9223372036854775807) :
    Calls Tryd.prog 12 #[.slice A n c, .agg #[.int .i64 t0, .int .i64 t1]] w (YesPost w) := by
  have Hn := hid hn
  have Hin := hid hin
  clear hn hin
  obtain ⟨w0, hw0, D0, K0⟩ : ∃ w0, w0 = w.alloc (.cells #[.int .i64 t0, .int .i64 t1] 73) ∧ Cells w0 w.heap.size 73 [.int .i64 t0, .int .i64 t1] ∧ Kp [] w w0 := ⟨_, rfl, Cells.fresh _ _ _, (Kp.refl _ _).alloc _⟩
  obtain ⟨S, hS⟩ : ∃ S, S = w.heap.size := ⟨_, rfl⟩
  rw [← hS] at D0
  have HW := hid (And.intro hw0 hS)
  have hSlt := D0.lt
  clear hw0 hS
  go_enter Tryd.func12, Tryd.ntmps12
  go_wp2_with fail
  rw [← HW.out.1, ← HW.out.2]
  refine (shown19_any _ (hT.kept K0)).mono ?_
  rintro e w1 ⟨rfl, k1⟩
  go_wp2_with fail
  refine (new_any w1 1048576 (-1)).mono ?_
  rintro e w2 ⟨rfl, s2, k2⟩
  go_wp2_with fail
  refine (new_any w2 1048576 (-1)).mono ?_
  rintro e w3 ⟨rfl, s3, k3⟩
  go_wp2_with fail
  refine (anew_any w3 w1.heap.size w2.heap.size).mono ?_
  rintro e w4 ⟨rfl, h4, k4⟩
  obtain ⟨ha, kw, hlt1, hlt2⟩ := sink_pair s2 k2 s3 k3 h4 k4
  have kw4 : Kp [] w w4 := (K0.nil k1).nil kw
  have D4 := D0.keep (k1.nil kw) (by simp)
  have hsz : w.heap.size ≤ w1.heap.size := (K0.nil k1).size
  have hS1 : S < w1.heap.size := by have := k1.size; omega
  obtain ⟨al, hal⟩ : ∃ al, al = w1.heap.size := ⟨_, rfl⟩
  obtain ⟨ao, hao⟩ : ∃ ao, ao = w2.heap.size := ⟨_, rfl⟩
  obtain ⟨a, haa⟩ : ∃ a, a = w3.heap.size := ⟨_, rfl⟩
  have htr : Trio w a al ao := ⟨by omega, by omega, by omega⟩
  rw [← hal, ← hao, ← haa] at ha
  rw [← hal] at hlt1 hS1
  rw [← hao] at hlt1 hlt2
  rw [← haa] at hlt2
  rw [← hal, ← hao, ← haa]
  have hok : (AK.mk (SK.make 1048576 (-1)) (SK.make 1048576 (-1)) 0).Ok := ⟨SK.make_ok _ _ (by omega), SK.make_ok _ _ (by omega)⟩
  clear s2 s3 h4 k2 k3 k4 kw k1 hal hao haa hsz
  go_wp2_with fail
  go_loopw [9] (fun i wr => ∃ (k : Nat) (s : AK), k ≤ n ∧ k ≤ 20 ∧ i = .int .i64 k ∧ AuditAt wr a al ao s ∧ s.Ok ∧ Kp [] w wr ∧ Cells wr S 73 [.int .i64 t0, .int .i64 t1]) (fun i _ => n - (intOf i).toNat)
  case atStart => exact ⟨0, _, by omega, by omega, rfl, ha, hok, kw4, D4⟩
  case round =>
    clear ha hok kw4 D4
    obtain ⟨k, s, hk, hk20, rfl, ha, hok, kr, D4⟩ := hrel
    by_cases hlt : k < n ∧ k < 20
    · obtain ⟨hlt, hlt20⟩ := hlt
      have hkl : k < ps.length := by rw [Hn.out]; exact hlt
      obtain ⟨ad, hA, hpc⟩ := hs k _ (List.getElem?_eq_getElem hkl)
      subst hA
      obtain ⟨p, hp⟩ : ∃ p, p = ps[k] := ⟨_, rfl⟩
      have hz := (Hin.out _ (List.getElem_mem hkl)).sizes
      rw [← hp] at hpc hz
      clear hp hkl
      obtain ⟨Ap, cp, Bp, dp, hcells, hpis⟩ := piece_cells hpc
      obtain ⟨c0, c1, c2, c3, c4, c5⟩ := hcells wr kr
      have hpi := hpis wr kr
      clear hcells hpis hpc
      go_wp2_with fail
      refine (fewp_any wr p _ hpi hz).mono ?_
      rintro e w5 ⟨v5, rfl, ⟨Aq, cq, Bq, dq, rfl, q1, q2, q3, q4, q5, q6⟩, k5⟩
      have hfs := fewP_sizes p
      have hfb := fewP_b p
      obtain ⟨f, hf⟩ : ∃ f, f = fewP p := ⟨_, rfl⟩
      rw [← hf] at q1 q2 q4 q5 hfs hfb ⊢
      clear hf hpi c0 c1 c2 c3 c4 c5
      obtain ⟨nb, hnb⟩ : ∃ nb, nb = f.b.length := ⟨_, rfl⟩
      rw [← hnb] at q5 hfb ⊢
      have k6 : Kp [] w5 (w5.alloc (.cells #[.int .i64 f.r.doc, .int .i64 f.r.out, .int .i64 f.r.len, .slice Aq f.r.holes.length cq, .slice Bq nb dq, .bool f.right] 61)) := (Kp.refl _ _).alloc _
      have ha6 := ha.kept (k5.nil k6)
      have kw6 := (kr.nil k5).nil k6
      have hR6 : RecIs (w5.alloc (.cells #[.int .i64 f.r.doc, .int .i64 f.r.out, .int .i64 f.r.len, .slice Aq f.r.holes.length cq, .slice Bq nb dq, .bool f.right] 61)) f.r (.agg #[.int .i64 f.r.doc, .int .i64 f.r.out, .int .i64 f.r.len, .slice Aq f.r.holes.length cq]) := ⟨Aq, cq, rfl, q1.kept k6, q2, q3⟩
      have hb6 := q4.kept k6
      have D6 := D4.keep (k5.nil k6) (by simp)
      have Hnb := hid hnb
      clear hnb
      go_wp2_with fail
      refine (release_any _ (hT.kept kw6) a al ao s ha6 hok _ f.r hR6 (fun x hx => Nat.le_trans (hfs x hx) (by omega)) Bq nb dq f.b hb6 Hnb.out.symm q5 (by omega)).mono ?_
      rintro e w7 ⟨rfl, ha7, k7⟩
      have kw7 := htr.kp kw6 k7
      have D7 := D6.keep k7 (by simp; omega)
      have hok7 := hok.release f.r f.b (by rw [← Hnb.out]; omega)
      clear ha6 hR6 hb6 D6 ha D4
      go_wp2_with fail
      go_roundw
      case rel => exact ⟨k + 1, _, by omega, by omega, by go_num, ha7, hok7, kw7, D7⟩
      case measure => simp [intOf]; omega
    · have hxl := hok.l.len
      have hyl := hok.o.len
      obtain ⟨X, hX⟩ : ∃ X, X = s.log.xs := ⟨_, rfl⟩
      obtain ⟨Y, hY⟩ : ∃ Y, Y = s.out.xs := ⟨_, rfl⟩
      have hbx := bytes_full wr al s.log ha.l (by omega)
      have hby := fun wx (kx : Kp [] wr wx) => bytes_full wx ao s.out (ha.o.kept kx) (by omega)
      rw [← hX] at hbx hxl
      rw [← hY] at hby hyl
      obtain ⟨nx, hnx⟩ : ∃ nx, nx = X.length := ⟨_, rfl⟩
      obtain ⟨ny, hny⟩ : ∃ ny, ny = Y.length := ⟨_, rfl⟩
      have Hnx := hid hnx
      have Hny := hid hny
      have Hbx := hid hbx
      have Hby := hid hby
      rw [← hnx] at hxl
      rw [← hny] at hyl
      clear hX hY hnx hny hbx hby ha hok
      rcases (show ¬ k < n ∨ (k < n ∧ ¬ k < 20) from by omega) with hx | ⟨hx1, hx2⟩
      all_goals
        go_wp2_with fail
        refine Hbx.out.mono ?_
        rintro e w5 ⟨A5, c5, rfl, sx, k5, -, hx5, hx52⟩
        rw [← Hnx.out] at hx5 ⊢
        go_wp2_with fail
        refine (Hby.out w5 k5).mono ?_
        rintro e w6 ⟨A6, c6, rfl, sy, k6, -, hy6, hy62⟩
        rw [← Hny.out] at hy6 ⊢
        have sx6 := sx.kept k6
        have D6 := D4.keep (k5.nil k6) (by simp)
        have kw6 := (kr.nil k5).nil k6
        go_wp2_with fail
        refine (recover_any w6 (hT.kept kw6) A5 nx c5 X sx6 Hnx.out.symm hx5 hx52 (by omega)).mono ?_
        rintro e w7 ⟨rs, rest, v7, hrows, rfl, hro, k7, -⟩
        obtain ⟨A7, c7, rfl, hR7, hc7, hc72⟩ := hro.shape
        have D7 := D6.keep k7 (by simp)
        have P0 := D7.cell 0
        have P1 := D7.cell 1
        simp only [List.getElem?_cons_zero, List.getElem?_cons_succ] at P0 P1
        have sx7 := sx6.kept k7
        have sy7 := sy.kept k7
        have kw7 := kw6.nil k7
        have Hrows := hid hrows
        clear hrows hro Hbx Hby sx sx6 D6
        go_upto_region 17 with fail
        go_cut [76] (fun v wx => ∃ bo, v = .bool bo ∧ (bo = true ↔ 0 ≤ t0 ∧ t0 < nx) ∧ wx = w7)
        case first =>
          by_cases ha1 : 0 ≤ t0
          · by_cases ha2 : t0 < nx
            · go_wp2_with fail
              go_meet
              exact ⟨true, rfl, by simp [ha1, ha2], rfl⟩
            · go_wp2_with fail
              go_meet
              exact ⟨false, rfl, by simp [ha2], rfl⟩
          · go_wp2_with fail
            go_meet
            exact ⟨false, rfl, by simp; omega, rfl⟩
        case' rest => obtain ⟨bo, rfl, hbo, hwc⟩ := hcut
        case' rest => subst wc
        case' rest => have Hbo := hid hbo
        case' rest => clear hbo
        case' rest => go_upto_if 76 with fail
        case' rest => go_cut [11] (fun v wx => ∃ K : Nat, v = .slice A5 K c5 ∧ K ≤ nx ∧ wx = w7)
        case first =>
          cases bo with
          | true =>
            obtain ⟨ha1, ha2⟩ := Hbo.out.1 rfl
            obtain ⟨K, rfl⟩ := Int.eq_ofNat_of_zero_le ha1
            have hle : (K : Int) ≤ (c5 : Int) := by omega
            go_wp2_with fail
            go_meet
            exact ⟨K, rfl, by omega, rfl⟩
          | false =>
            go_wp2_with fail
            go_meet
            exact ⟨nx, rfl, by omega, rfl⟩
        case' rest => obtain ⟨K, rfl, hK, hwc⟩ := hcut
        case' rest => subst wc
        case' rest => clear Hbo
        go_upto_region 19 with fail
        go_cut [90] (fun v wx => ∃ bo, v = .bool bo ∧ (bo = true ↔ 0 ≤ t1 ∧ t1 < ny) ∧ wx = w7)
        case first =>
          by_cases ha1 : 0 ≤ t1
          · by_cases ha2 : t1 < ny
            · go_wp2_with fail
              go_meet
              exact ⟨true, rfl, by simp [ha1, ha2], rfl⟩
            · go_wp2_with fail
              go_meet
              exact ⟨false, rfl, by simp [ha2], rfl⟩
          · go_wp2_with fail
            go_meet
            exact ⟨false, rfl, by simp; omega, rfl⟩
        case' rest => obtain ⟨bo, rfl, hbo, hwc⟩ := hcut
        case' rest => subst wc
        case' rest => have Hbo := hid hbo
        case' rest => clear hbo
        case' rest => go_upto_if 90 with fail
        case' rest => go_cut [12] (fun v wx => ∃ L : Nat, v = .slice A6 L c6 ∧ L ≤ ny ∧ wx = w7)
        case first =>
          cases bo with
          | true =>
            obtain ⟨ha1, ha2⟩ := Hbo.out.1 rfl
            obtain ⟨L, rfl⟩ := Int.eq_ofNat_of_zero_le ha1
            have hle : (L : Int) ≤ (c6 : Int) := by omega
            go_wp2_with fail
            go_meet
            exact ⟨L, rfl, by omega, rfl⟩
          | false =>
            go_wp2_with fail
            go_meet
            exact ⟨ny, rfl, by omega, rfl⟩
        case' rest => obtain ⟨L, rfl, hL, hwc⟩ := hcut
        case' rest => subst wc
        case' rest => clear Hbo
        case rest =>
          have hsK := sx7.take8 K
          have hlK : (X.take K).length = K := by rw [List.length_take]; have := Hnx.out; omega
          have HlK := hid hlK
          clear hlK P0 P1
          go_wp2_with fail
          refine (recover_any w7 (hT.kept kw7) A5 K c5 (X.take K) hsK HlK.out (by omega) hx52 (by omega)).mono ?_
          rintro e w8 ⟨qs, rest', v8, hrows', rfl, hro8, k8, -⟩
          obtain ⟨hq1, hq2⟩ := Hrows.out.cut hrows'
          obtain ⟨A8, c8, rfl, hR8, hc8, hc82⟩ := hro8.shape
          have hpl : (putAll qs).length ≤ K := by
            have h := congrArg List.length hrows'.2.1
            rw [List.length_append, HlK.out] at h
            omega
          have hcnt := putAll_len qs
          obtain ⟨M, hM⟩ : ∃ M, M = qs.length := ⟨_, rfl⟩
          obtain ⟨Z, hZ⟩ : ∃ Z, Z = (putAll qs).length := ⟨_, rfl⟩
          obtain ⟨Q, hQ⟩ : ∃ Q, Q = rs.length := ⟨_, rfl⟩
          rw [← hM] at hc8 hq2 hcnt hq1 ⊢
          rw [← hZ] at hpl hcnt ⊢
          rw [← hQ] at hq2 hc7 ⊢
          have HM := hid hM
          have HQ := hid hQ
          have Hq1 := hid hq1
          have Hrows' := hid hrows'
          have kw8 := kw7.nil k8
          have hR78 := hR7.kept k8
          have sx8 := (sx7.kept k8).take8 K
          clear hM hZ hQ hq1 hrows' hro8
          go_wp2_with fail
          go_loopw [17, 18] (fun z i wx => ∃ j : Nat, j ≤ M ∧ i = .int .i64 j ∧ z = .int .i64 (sumLen (qs.take j)) ∧ wx = w8) (fun _ i _ => M - (intOf i).toNat)
          case atStart => exact ⟨0, by omega, rfl, rfl, rfl⟩
          case round =>
            obtain ⟨j, hj', rfl, rfl, hwx⟩ := hrel
            have hwx2 := hwx.symm
            subst hwx2
            have hb := sumLen_bound (qs.take j) (fun r hr => Hrows'.out.1 r (List.mem_of_mem_take hr))
            rw [List.length_take, Nat.min_eq_left (by have := HM.out; omega)] at hb
            obtain ⟨z, hz⟩ : ∃ z, z = sumLen (qs.take j) := ⟨_, rfl⟩
            rw [← hz] at hb ⊢
            by_cases hlt3 : j < M
            · have hjl : j < qs.length := by rw [← HM.out]; exact hlt3
              obtain ⟨ad, hA, Ar, c', a0, a1, a2, a3, a4, a5, a6⟩ := hR8 j _ (List.getElem?_eq_getElem hjl)
              subst hA
              have hsn : sumLen (qs.take (j + 1)) = z + (qs[j]).len := by
                rw [List.take_add_one, List.getElem?_eq_getElem hjl, hz]
                exact sumLen_snoc _ _
              have hlen : 0 ≤ (qs[j]).len ∧ (qs[j]).len ≤ 1073741824 := by
                obtain ⟨_, _, h, _⟩ := may_zero (Hrows'.out.1 qs[j] (List.getElem_mem hjl))
                exact h
              obtain ⟨r, hr⟩ : ∃ r, r = qs[j] := ⟨_, rfl⟩
              rw [← hr] at a0 a1 a2 a3 hsn hlen
              have Hsn := hid hsn
              clear hr hsn hz a4
              go_wp2_with fail
              go_roundw
              case rel => exact ⟨j + 1, by omega, by go_num, by rw [Hsn.out], trivial⟩
              case measure => simp [intOf]; omega
            · have hfull : qs.take j = qs := List.take_of_length_le (by have := HM.out; omega)
              rw [hfull] at hz
              have Hz := hid hz
              have iM : (M : Int) ≤ (c7 : Int) := by omega
              clear hz hfull
              have hsame := same_any w8 A8 c8 qs hR8 A7 c7 qs (by have := hR78.take M; rwa [← Hq1.out] at this) (by rw [← HM.out]; omega)
              rw [← HM.out] at hsame
              have Hsame := hid hsame
              clear hsame
              go_wp2_with fail
              refine Hsame.out.mono ?_
              rintro e w9 ⟨b1, rfl, hb1, q1, hw9⟩
              have hb1' : b1 = true := hb1.2 rfl
              subst hb1'
              have k9 : Kp [] w8 w9 := by rw [hw9]; exact (Kp.refl _ _).drewN _
              have sx9 := sx8.kept k9
              have kw9 := kw8.nil k9
              clear hw9 hb1
              go_wp2_with fail
              refine (proved_any w9 (hT.kept kw9) A5 K c5 (X.take K) sx9 HlK.out (by omega) hx52 (by omega) A6 L c6 (by omega)).mono ?_
              rintro e w10 ⟨us, rest3, hrows3, rfl, k10⟩
              obtain ⟨h1, -⟩ := Hrows'.out.one hrows3
              subst h1
              rw [← Hz.out]
              have kz := kw9.nil k10
              clear hrows3
              go_wp2_with fail
              go_ret
              exact ⟨by simp, kz⟩
end Go.Proofs.YtepeopfdenieeaaDoor
