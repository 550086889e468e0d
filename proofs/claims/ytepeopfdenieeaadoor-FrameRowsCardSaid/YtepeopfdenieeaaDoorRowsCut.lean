/- FrameRows: records in a row that are cut anywhere are told as far as they are whole, and no more. -/
import Derived.Test.YtepeopfdenieeaaDoorRowsLaw
import Derived.Test.YtepeopfdenieeaaDoorPuts
import Derived.Test.YtepeopfdenieeaaDoorSame
import Derived.Deep.DeepCutAuto
namespace Go.Proofs.YtepeopfdenieeaaDoor
open Go Go.RowKit

theorem infoInt : (Tryd.prog.info? 3).map (fun i => (i.zero, i.size, i.bytes)) = some (some (.int .i64 0), 1, 8) := by kernel_rfl
theorem one_int (x : Int) : ∀ u ∈ [Value.int .i64 x], u.oneCell' = true := by
  intro u hu
  rw [List.mem_singleton.1 hu]
  rfl
theorem OwnB.to_wide {e : TypeId} {w : World} {v : Value} {l : List UInt8} (h : OwnB e w v l) : OwnN w e 1 v l.length (u8s l) := h
theorem putB_small {r : Rec} (h : mayOf r = 0) : (putB r).length ≤ 900008 := by
  have h1 := bodyL_small h
  have h2 : (putB r).length = (bodyL r).length + 8 := by
    rw [putB, headL]
    simp only [List.length_append, List.length_reverse, length_be]
    omega
  omega
/-- What the loop has made. -/
structure Rowed (w : World) (v6 v7 v8 : Value) (qs : List Rec) : Prop where
  b : OwnB 5 w v6 (putAll qs)
  r : RowT w v7 qs
  e : Own w 3 v8 qs.length (endsOf qs)
theorem own_cap6 {w : World} {e : TypeId} {A : Option Addr} {n c : Nat} {xs : List Value} {m : Nat} (h : Own w e (.slice A m c) n xs) : c ≤ 9223372036854775807 := by
  obtain ⟨-, h2⟩ := h
  rcases h2 with ⟨h2, -⟩ | ⟨g, cap, cur, h2, -, -, -, h3, -⟩
  · injection h2 with _ _ h2; omega
  · injection h2 with _ _ h2; simp only [maxLen] at h3; omega
set_option maxRecDepth 100000 in
set_option maxHeartbeats 8000000 in
theorem rows_any (w : World) (hT : Tabs w) (A : Option Addr) (n c : Nat) (rs : List Rec) (hs : RecsAt w A rs) (hn : rs.length = n) (_hc : n ≤ c) (_hc2 : c ≤ 9223372036854775807) (hin : ∀ r ∈ rs, RecIn r) (at_ : Int) (hat : -9223372036854775808 ≤ at_ ∧ at_ ≤ 9223372036854775807) :
    Calls Tryd.prog 8 #[.slice A n c, .int .i64 at_] w (YesPost w) := by
  have Hn := hid hn
  have Hin := hid hin
  clear hn hin
  go_enter Tryd.func8, Tryd.ntmps8
  go_wp2_with fail
  refine (shown_any _ hT).mono ?_
  rintro e w2 ⟨rfl, hk2⟩
  go_wp2_with fail
  obtain ⟨w5, hw5, g6, g7, g8, K5⟩ : ∃ w5, w5 = ((w2.alloc (.cells #[] 5)).alloc (.cells #[] 24)).alloc (.cells #[] 3) ∧ Cells w5 w2.heap.size 5 [] ∧ Cells w5 (w2.heap.size + 1) 24 [] ∧ Cells w5 (w2.heap.size + 1 + 1) 3 [] ∧ Kp [] w2 w5 :=
    ⟨_, rfl, ((Cells.fresh _ _ _).alloc _).alloc _, (Cells.fresh1 _ _ _ _).alloc _, by have := Cells.fresh1 (w2.alloc (.cells #[] 5)) (.cells #[] 24) 3 []; simpa using this, (((Kp.refl _ _).alloc _).alloc _).alloc _⟩
  rw [← hw5]
  obtain ⟨S, hS⟩ : ∃ S, S = w2.heap.size := ⟨_, rfl⟩
  rw [← hS] at g6 g7 g8 ⊢
  have HS := hid (And.intro hw5 hS)
  have start : Rowed w5 (.slice (some ⟨S, 0, none⟩) 0 0) (.slice (some ⟨S + 1, 0, none⟩) 0 0) (.slice (some ⟨S + 1 + 1, 0, none⟩) 0 0) [] :=
    ⟨Own.of_cells g6 (Nat.zero_le _), RowT.of_empty g7, Own.of_cells g8 (Nat.zero_le _)⟩
  have fresh0 : New w2 w5 (.slice (some ⟨S, 0, none⟩) 0 0) ∧ New w2 w5 (.slice (some ⟨S + 1, 0, none⟩) 0 0) ∧ New w2 w5 (.slice (some ⟨S + 1 + 1, 0, none⟩) 0 0) :=
    ⟨⟨K5, fun g hg => by have e : S = g := (by simpa [Value.ownBlock] using hg); omega⟩, ⟨K5, fun g hg => by have e : S + 1 = g := (by simpa [Value.ownBlock] using hg); omega⟩, ⟨K5, fun g hg => by have e : S + 1 + 1 = g := (by simpa [Value.ownBlock] using hg); omega⟩⟩
  clear hw5 hS g6 g7 g8
  go_wp2_with fail
  go_loopw [6, 7, 8, 9] (fun v6 v7 v8 i wr => ∃ (k : Nat) (qs : List Rec), k ≤ n ∧ k ≤ 12 ∧ i = .int .i64 k ∧ Rowed wr v6 v7 v8 qs ∧ qs.length ≤ k ∧ (putAll qs).length ≤ k * 1000000 ∧ (∀ r ∈ qs, mayOf r = 0) ∧ New w2 wr v6 ∧ New w2 wr v7 ∧ New w2 wr v8) (fun _ _ _ i _ => n - (intOf i).toNat)
  case atStart => exact ⟨0, [], by omega, by omega, rfl, start, by simp, by simp [putAll], by simp, fresh0.1, fresh0.2.1, fresh0.2.2⟩
  case round =>
    clear start fresh0
    obtain ⟨k, qs, hk, hk12, rfl, hro, hql, hpl, hmay, n6, n7, n8⟩ := hrel
    by_cases hlt : k < n ∧ k < 12
    · obtain ⟨hlt, hlt2⟩ := hlt
      have hkl : k < rs.length := by rw [Hn.out]; exact hlt
      obtain ⟨ad, hA, Ar, cr, a0, a1, a2, a3, a4, a5, a6⟩ := hs k _ (List.getElem?_eq_getElem hkl)
      subst hA
      obtain ⟨r, hr1⟩ : ∃ r, r = rs[k] := ⟨_, rfl⟩
      have hz := (Hin.out _ (List.getElem_mem hkl)).sizes
      rw [← hr1] at a0 a1 a2 a3 a4 a5 hz
      clear hr1 hkl
      have hcells : ∀ wx, Kp [] w wx → (wx.cell? (ad.add (k * 4)) = some (.int .i64 r.doc) ∧ wx.cell? ⟨(ad.add (k * 4)).block, (ad.add (k * 4)).off + 1, none⟩ = some (.int .i64 r.out) ∧ wx.cell? ⟨(ad.add (k * 4)).block, (ad.add (k * 4)).off + 2, none⟩ = some (.int .i64 r.len) ∧ wx.cell? ⟨(ad.add (k * 4)).block, (ad.add (k * 4)).off + 3, none⟩ = some (.slice Ar r.holes.length cr)) ∧
          RecIs wx r (.agg #[.int .i64 r.doc, .int .i64 r.out, .int .i64 r.len, .slice Ar r.holes.length cr]) :=
        fun wx k => ⟨⟨k.cell a0 (by simp), k.cell a1 (by simp), k.cell a2 (by simp), k.cell a3 (by simp)⟩, Ar, cr, rfl, a4.kept k, a5, a6⟩
      have HC := hid hcells
      have Hmay := hid hmay
      have hkr : Kp [] w wr := hk2.nil n6.kp
      clear hcells hmay a0 a1 a2 a3 a4 a5 a6
      obtain ⟨⟨c0, c1, c2, c3⟩, hRI⟩ := HC.out wr hkr
      go_wp2_with fail
      refine (few_any wr r _ hRI hz).mono ?_
      rintro e w3 ⟨v3, rfl, hR3, hk3⟩
      go_wp2_with fail
      refine (put_any w3 (fewL r) v3 hR3 (hT.kept (hkr.nil hk3)) (fun s hs => Nat.le_trans (fewL_sizes r s hs) (by omega))).mono ?_
      rintro e w4 ⟨v10, rfl, ho10, hn10⟩
      have k4 := hk3.nil hn10.kp
      clear hR3 c0 c1 c2 c3 hRI
      obtain ⟨A10, c10, rfl, hsp10, hc10, -⟩ := ho10.shape
      obtain ⟨q, hq⟩ : ∃ q, q = mayOf (fewL r) := ⟨_, rfl⟩
      obtain ⟨X, hX⟩ : ∃ X, X = putL (fewL r) := ⟨_, rfl⟩
      rw [← hq]
      rw [← hX] at hsp10 hc10 ⊢
      have Hq := hid hq
      have HX := hid hX
      clear hq hX ho10 hn10
      by_cases h0 : q = 0
      · subst h0
        have hXb : X = putB (fewL r) := by rw [HX.out, putL, if_pos Hq.out.symm]
        have hXl : X.length ≤ 900008 := by rw [hXb]; exact putB_small Hq.out.symm
        have o6 := hro.b.kept k4
        have o7 := hro.r.kept k4
        have o8 := Own.kept hro.e k4
        obtain ⟨L, hL⟩ : ∃ L, L = (putAll qs).length := ⟨_, rfl⟩
        obtain ⟨m, hm⟩ : ∃ m, m = X.length := ⟨_, rfl⟩
        rw [← hL] at hpl
        rw [← hm] at hXl hc10 ⊢
        have o6' : Own w4 5 u6 L (u8s (putAll qs)) := by rw [hL]; exact o6
        have HL := hid hL
        have Hm := hid hm
        have HXb := hid hXb
        clear hL hm hXb o6
        go_wp2_with (at_builtin; go_must (refine wpList_append1 rfl _ _ 25 rfl 5 (.int .u8 0) 1 Tryd.underlying25 infoByte rfl _ L (u8s (putAll qs)) rfl o6' _ m c10 (u8s X) rfl hsp10 (by rw [length_u8s]; exact Hm.out.symm) (u8s_one _) ?_ ?_ ?_))
        · omega
        · omega
        intro v6 w5' p6 k5 b5
        have p7 := o7.keep_other (OwnB.to_wide (by rw [HL.out] at o6'; exact o6')) (by decide) (by decide) k5
        have p8 := OwnN.keep_other (s := 1) o8 (OwnB.to_wide (by rw [HL.out] at o6'; exact o6')) (by decide) k5
        have m6 := (n6.kept k4).append k5 b5 (Nat.le_refl _)
        rw [← u8s_append] at p6
        clear o6' o7 o8 k5 b5 hsp10 hro
        have hkw5 : Kp [] w w5' := hk2.nil m6.kp
        obtain ⟨⟨c0, c1, c2, c3⟩, hRI⟩ := HC.out w5' hkw5
        go_wp2_with fail
        refine (few_own w5' r _ hRI hz).mono ?_
        rintro e w6 ⟨A12, c12, rfl, ho12, hk6⟩
        have k6 := hk6.nil ((Kp.refl [] w6).alloc (.cells (recCells (fewL r) A12 c12).toArray 24))
        have o6 := Own.kept p6 k6
        have o7 := p7.kept k6
        have o8 := OwnN.kept (s := 1) p8 k6
        have hT12 := OwnN.kept (s := 1) ho12 ((Kp.refl [] w6).alloc (.cells (recCells (fewL r) A12 c12).toArray 24))
        obtain ⟨xs, hx1, hx2⟩ := o7
        have hsN : Span (w6.alloc (.cells (recCells (fewL r) A12 c12).toArray 24)) (some ⟨w6.heap.size, 0, none⟩) (recCells (fewL r) A12 c12) := Span.of_cells (Cells.fresh _ _ _)
        have m7 := (New.kept ⟨m6.kp, n7.blk⟩ k6 : New w2 _ u7)
        clear p6 p7 p8 c0 c1 c2 c3 hRI
        go_wp2_with (at_builtin; go_must (refine wpList_appendN rfl _ _ 35 rfl 24 _ 4 48 Tryd.underlying35 infoRec rfl (by omega) _ qs.length xs rfl hx1 _ 1 1 (recCells (fewL r) A12 c12) rfl hsN rfl (recCells_one _ _ _) ?_ ?_ ?_))
        · omega
        · omega
        intro v7 w7 p7 k7 b7
        have q6 := OwnN.keep_other (s := 1) o6 hx1 (by decide) k7
        have q8 := o8.keep_other hx1 (by decide) k7
        have q7 := RowT.snoc ⟨hx1, hx2⟩ p7 k7 hT12
        have m7' := m7.append k7 b7 (by simp)
        clear o6 o8 hx1 hx2 p7 k7 b7 hT12 hsN
        obtain ⟨A6, c6, rfl, -, hc6, -⟩ := Own.shape q6
        have hall : (putAll (qs ++ [fewL r])).length = L + m := by rw [putAll_snoc, List.length_append, ← HL.out, ← HXb.out, ← Hm.out]
        have k8 := ((Kp.refl [] w7).alloc (.cells #[.int .i64 ((L + m : Nat) : Int)] 3))
        have hsI : Span (w7.alloc (.cells #[.int .i64 ((L + m : Nat) : Int)] 3)) (some ⟨w7.heap.size, 0, none⟩) [.int .i64 ((L + m : Nat) : Int)] := Span.of_cells (Cells.fresh _ _ _)
        have q8' := q8.kept k8
        have Hall := hid hall
        clear hall
        go_wp2_with (at_builtin; go_must (refine wpList_append1 rfl _ _ 46 rfl 3 (.int .i64 0) 8 Tryd.underlying46 infoInt rfl _ qs.length (endsOf qs) rfl q8' _ 1 1 [.int .i64 ((L + m : Nat) : Int)] rfl hsI rfl (one_int _) ?_ ?_ ?_))
        · omega
        · omega
        intro v8 w8 p8 k9 b9
        have r6 := OwnN.keep_other (s := 1) (OwnN.kept (s := 1) q6 k8) q8' (by decide) k9
        have r7 := (q7.kept k8).keep_other q8' (by decide) (by decide) k9
        have m8 : New w2 w8 v8 := (New.kept ⟨m7'.kp, n8.blk⟩ k8).append k9 b9 (by simp)
        have row : Rowed w8 (.slice A6 (L + m) c6) v7 v8 (qs ++ [fewL r]) := by
          refine ⟨?_, r7, ?_⟩
          · have h9 : OwnB 5 w8 (.slice A6 (L + m) c6) (putAll qs ++ X) := by
              show Own _ _ _ _ _
              rw [List.length_append, ← HL.out, ← Hm.out]
              exact r6
            rw [putAll_snoc, ← HXb.out]
            exact h9
          · rw [endsOf_snoc, Hall.out, List.length_append]
            exact p8
        have Row := hid row
        have hpl1 : (putAll (qs ++ [fewL r])).length ≤ (k + 1) * 1000000 := by rw [Hall.out, Nat.add_mul]; omega
        have hmay1 : ∀ z ∈ qs ++ [fewL r], mayOf z = 0 := by
          intro z hz
          rcases List.mem_append.1 hz with hz | hz
          · exact Hmay.out z hz
          · rw [List.mem_singleton.1 hz]; exact Hq.out.symm
        have Hpl1 := hid hpl1
        have Hmay1 := hid hmay1
        have M6 : New w2 w8 (.slice A6 (L + m) c6) := ⟨m8.kp, m6.blk⟩
        have M7 : New w2 w8 v7 := ⟨m8.kp, m7'.blk⟩
        clear hpl hpl1 hmay1 row r6 r7 q6 q7 q8 q8' p8 k9 b9
        go_wp2_with fail
        go_roundw
        case rel => exact ⟨k + 1, qs ++ [fewL r], by omega, by omega, by go_num, Row.out, by rw [List.length_append]; simp only [List.length_cons, List.length_nil]; omega, Hpl1.out, Hmay1.out, M6, M7, m8⟩
        case measure => simp [intOf]; omega
      · have hq0 : ¬ q = 0 := h0
        have hpl1 : (putAll qs).length ≤ (k + 1) * 1000000 := Nat.le_trans hpl (Nat.mul_le_mul_right _ (by omega))
        have Hpl1 := hid hpl1
        clear hpl hpl1
        go_wp2_with fail
        go_roundw
        case rel => exact ⟨k + 1, qs, by omega, by omega, by go_num, ⟨hro.b.kept k4, hro.r.kept k4, Own.kept hro.e k4⟩, by omega, Hpl1.out, Hmay.out, n6.kept k4, n7.kept k4, n8.kept k4⟩
        case measure => simp [intOf]; omega
    · obtain ⟨N, hN⟩ : ∃ N, N = (putAll qs).length := ⟨_, rfl⟩
      have hkw : Kp [] w wr := hk2.nil n6.kp
      obtain ⟨o6, o7, o8⟩ := hro
      obtain ⟨A6, c6, rfl, hs6, hc6, -⟩ := o6.shape
      have hc62 := own_cap6 o6
      obtain ⟨A7, c7, rfl, hR7, hc7, hc72⟩ := o7.recs.shape
      obtain ⟨A8, c8, rfl, hs8, hc8, -⟩ := Own.shape o8
      rw [← hN] at hc6 hpl ⊢
      obtain ⟨M, hM⟩ : ∃ M, M = qs.length := ⟨_, rfl⟩
      rw [← hM] at hc7 hc8 hql ⊢
      have HN := hid hN
      have HM := hid hM
      have Hmay := hid hmay
      clear hN hM hmay o6 o7 o8 n6 n7 n8
      rcases (show ¬ k < n ∨ (k < n ∧ ¬ k < 12) from by omega) with hx | ⟨hx1, hx2⟩
      all_goals
        go_upto_region 14 with fail
        go_cut [68] (fun v wx => ∃ bo, v = .bool bo ∧ (bo = true ↔ 0 ≤ at_ ∧ at_ < N) ∧ wx = wr)
        case first =>
          by_cases ha1 : 0 ≤ at_
          · by_cases ha2 : at_ < N
            · go_wp2_with fail
              go_meet
              exact ⟨true, rfl, by simp [ha1, ha2], rfl⟩
            · go_wp2_with fail
              go_meet
              exact ⟨false, rfl, by simp [ha2], rfl⟩
          · go_wp2_with fail
            go_meet
            exact ⟨false, rfl, by simp; omega, rfl⟩
        case' rest => obtain ⟨bo, rfl, hbo, hwc⟩ := hcut
        case' rest => subst wc
        case' rest => have Hbo := hid hbo
        case' rest => clear hbo
        case' rest => go_upto_if 68 with fail
        case' rest => go_cut [12] (fun v wx => ∃ K : Nat, v = .int .i64 K ∧ K ≤ N ∧ wx = wr)
        case first =>
          cases bo with
          | true =>
            obtain ⟨ha1, ha2⟩ := Hbo.out.1 rfl
            obtain ⟨K, rfl⟩ := Int.eq_ofNat_of_zero_le ha1
            go_wp2_with fail
            go_meet
            exact ⟨K, rfl, by omega, rfl⟩
          | false =>
            go_wp2_with fail
            go_meet
            exact ⟨N, rfl, by omega, rfl⟩
        case rest =>
          obtain ⟨K, rfl, hKN, hwc⟩ := hcut
          subst wc
          go_wp2_with fail
          go_loopw [13, 14, 15] (fun v13 v14 v15 wx => ∃ (i wh : Nat), i ≤ M ∧ wh ≤ i ∧ v15 = .int .i64 i ∧ v13 = .int .i64 wh ∧ v14 = .int .i64 ((putAll (qs.take wh)).length : Nat) ∧ (putAll (qs.take wh)).length ≤ K ∧ (wh < i → K < (putAll (qs.take (wh + 1))).length) ∧ wx = wr) (fun _ _ v15 _ => M - (intOf v15).toNat)
          case atStart => exact ⟨0, 0, by omega, by omega, rfl, rfl, rfl, by simp [putAll], by omega, rfl⟩
          case round =>
            obtain ⟨i, wh, hi, hwh, rfl, rfl, rfl, h1, h2, hwx⟩ := hrel
            rename_i wx
            subst hwx
            by_cases hlt3 : i < M
            · have hi8 := endsOf_get qs i (by rw [← HM.out]; exact hlt3)
              obtain ⟨ad8, hA8, hcell8⟩ := hs8 i _ hi8
              subst hA8
              obtain ⟨E, hE⟩ : ∃ E, E = (putAll (qs.take (i + 1))).length := ⟨_, rfl⟩
              rw [← hE] at hcell8
              have HE := hid hE
              have H1 := hid h1
              have H2 := hid h2
              clear hE h1 h2 hi8
              obtain ⟨Z, hZ⟩ : ∃ Z, Z = (putAll (qs.take wh)).length := ⟨_, rfl⟩
              rw [← hZ]
              have HZ := hid hZ
              clear hZ
              by_cases hEK : E ≤ K
              · go_wp2_with fail
                go_roundw
                case rel => exact ⟨i + 1, i + 1, by omega, by omega, by go_num, by go_num, by rw [← HE.out], by rw [← HE.out]; exact hEK, by omega, trivial⟩
                case measure => simp [intOf]; omega
              · go_wp2_with fail
                go_roundw
                case rel =>
                  refine ⟨i + 1, wh, by omega, by omega, by go_num, rfl, by rw [← HZ.out], H1.out, fun _ => ?_, trivial⟩
                  by_cases hwi : wh < i
                  · exact H2.out hwi
                  · obtain rfl : wh = i := by omega
                    rw [← HE.out]
                    omega
                case measure => simp [intOf]; omega
            · obtain rfl : i = M := by omega
              have hcut := cut_rows (K := K) (wh := wh) Hmay.out rfl h1 (fun h => h2 (by rw [HM.out]; exact h))
              have hlK : ((putAll qs).take K).length = K := by rw [List.length_take, ← HN.out]; omega
              have hsK := hs6.take8 K
              have hwhl : (qs.take wh).length = wh := by rw [List.length_take, ← HM.out]; omega
              have Hcut := hid hcut
              have HlK := hid hlK
              have Hwhl := hid hwhl
              have iw : (wh : Int) ≤ (c7 : Int) := by omega
              have iK : (K : Int) ≤ (c6 : Int) := by omega
              clear hcut hlK hwhl h1 h2
              obtain ⟨Z, hZ⟩ : ∃ Z, Z = (putAll (qs.take wh)).length := ⟨_, rfl⟩
              rw [← hZ]
              have HZ := hid hZ
              clear hZ
              go_wp2_with fail
              refine (all_any _ (hT.kept hkw) A6 K c6 _ hsK HlK.out (by omega) hc62 (by omega)).mono ?_
              rintro e w9 ⟨rs', rest', v9, hrows', rfl, hro9, k9, -⟩
              obtain ⟨h1, -⟩ := Hcut.out.one hrows'
              subst rs'
              obtain ⟨A9, c9, rfl, hR9, hc9, hc92⟩ := hro9.shape
              rw [← HZ.out]
              rw [Hwhl.out] at hc9 ⊢
              clear hro9 hrows'
              go_wp2_with fail
              have hsame := same_any w9 A9 c9 (qs.take wh) hR9 A7 c7 (qs.take wh) ((hR7.take wh).kept k9) (by rw [Hwhl.out]; omega)
              rw [Hwhl.out] at hsame
              refine hsame.mono ?_
              rintro e w10 ⟨b1, rfl, hb1, q1, hw10⟩
              have hb1' : b1 = true := hb1.2 rfl
              subst hb1'
              have kz : Kp [] w w10 := by
                rw [hw10]
                exact (hkw.nil k9).drewN _
              clear hw10 hb1
              go_wp2_with fail
              go_ret
              exact ⟨rfl, kz⟩
end Go.Proofs.YtepeopfdenieeaaDoor
