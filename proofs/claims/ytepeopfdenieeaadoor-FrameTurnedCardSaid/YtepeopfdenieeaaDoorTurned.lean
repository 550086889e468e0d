/- FrameTurned: a record of which up to four bytes side by side are turned is none. -/
import Derived.Test.YtepeopfdenieeaaDoorTurnedLaw
import Derived.Test.YtepeopfdenieeaaDoorTake
import Derived.Test.YtepeopfdenieeaaDoorPuts
import Derived.Test.YtepeopfdenieeaaDoorWide
import Derived.Deep.DeepCutAuto
namespace Go.Proofs.YtepeopfdenieeaaDoor
open Go Go.RowKit

theorem xor_u8 (a b : UInt8) : bits .xor .u8 (a.toNat : Int) (b.toNat : Int) = ((a ^^^ b).toNat : Int) := by
  rw [u8_xor_nat _ _ a.toNat_lt b.toNat_lt, UInt8.toNat_xor]
set_option maxRecDepth 100000 in
set_option maxHeartbeats 4000000 in
theorem turned_any (w : World) (hT : Tabs w) (v : Value) (r : Rec) (hr : RecIs w r v) (hin : RecIn r) (at_ : Int) (hat : -9223372036854775808 ≤ at_ ∧ at_ ≤ 9223372036854775807) (b0 b1 b2 b3 : UInt8) :
    Calls Tryd.prog 6 #[v, .int .i64 at_, .agg #[u8 b0, u8 b1, u8 b2, u8 b3]] w (YesPost w) := by
  have hz := hin.sizes
  clear hin
  obtain ⟨Ar, cr, rfl, hspr, hcr, hcr2⟩ := hr
  obtain ⟨m, hm⟩ : ∃ m, m = r.holes.length := ⟨_, rfl⟩
  rw [← hm] at hcr ⊢
  obtain ⟨w1, hw1, B1, B2, K1⟩ : ∃ w1, w1 = (w.alloc (.cells #[.int .i64 r.doc, .int .i64 r.out, .int .i64 r.len, .slice Ar m cr] 24)).alloc (.cells #[u8 b0, u8 b1, u8 b2, u8 b3] 38) ∧
      Cells w1 w.heap.size 24 [.int .i64 r.doc, .int .i64 r.out, .int .i64 r.len, .slice Ar m cr] ∧ Cells w1 (w.heap.size + 1) 38 [u8 b0, u8 b1, u8 b2, u8 b3] ∧ Kp [] w w1 :=
    ⟨_, rfl, (Cells.fresh _ _ _).alloc _, Cells.fresh1 _ _ _ _, ((Kp.refl _ _).alloc _).alloc _⟩
  have hR1 : RecIs w1 r (.agg #[.int .i64 r.doc, .int .i64 r.out, .int .i64 r.len, .slice Ar m cr]) := by
    refine ⟨Ar, cr, by rw [hm], hspr.kept K1, by omega, hcr2⟩
  obtain ⟨S, hS⟩ : ∃ S, S = w.heap.size := ⟨_, rfl⟩
  rw [← hS] at B1 B2
  have HS := hid (And.intro hw1 hS)
  clear hw1 hS hm
  go_enter Tryd.func6, Tryd.ntmps6
  go_wp2_with fail
  rw [← HS.out.1, ← HS.out.2]
  refine (shown_any _ (hT.kept K1)).mono ?_
  rintro e w2 ⟨rfl, hk2⟩
  have C := B1.keep hk2 (by simp)
  have C0 := C.cell 0
  have C1 := C.cell 1
  have C2 := C.cell 2
  have C3 := C.cell 3
  simp only [List.getElem?_cons_zero, List.getElem?_cons_succ] at C0 C1 C2 C3
  have hR2 := hR1.kept hk2
  go_wp2_with fail
  refine (few_any w2 r _ hR2 hz).mono ?_
  rintro e w3 ⟨v3, rfl, hR3, hk3⟩
  go_wp2_with fail
  refine (put_any w3 (fewL r) v3 hR3 (hT.kept ((K1.nil hk2).nil hk3)) (fun s hs => Nat.le_trans (fewL_sizes r s hs) (by omega))).mono ?_
  rintro e w4 ⟨v4, rfl, ho4, hn4⟩
  have kw : Kp [] w w4 := ((K1.nil hk2).nil hk3).nil hn4.kp
  have hA4 := (B2.keep hk2 (by simp)).keep (hk3.nil hn4.kp) (by simp)
  clear C0 C1 C2 C3 C hR1 hR2 hR3 B1 B2
  obtain ⟨A4, c4, rfl, hsp4, hc4, -⟩ := ho4.shape
  have hc42 : c4 ≤ 9223372036854775807 := by
    obtain ⟨-, h2⟩ := ho4
    rcases h2 with ⟨h2, -⟩ | ⟨g, cap, cur, h2, -, -, -, h3, -⟩
    · injection h2 with _ _ h2; omega
    · injection h2 with _ _ h2; simp only [maxLen] at h3; omega
  obtain ⟨q, hq⟩ : ∃ q, q = mayOf (fewL r) := ⟨_, rfl⟩
  obtain ⟨M, hM⟩ : ∃ M, M = putL (fewL r) := ⟨_, rfl⟩
  rw [← hq]
  rw [← hM] at ho4 hsp4 hc4 hn4 ⊢
  obtain ⟨N, hN⟩ : ∃ N, N = M.length := ⟨_, rfl⟩
  rw [← hN] at hc4 hn4 ⊢
  have Hq := hid hq
  have HM := hid hM
  have HN := hid hN
  clear hq hM hN
  by_cases h1 : q = 0
  · subst h1
    by_cases h2 : 1000 < N
    · go_wp2_with fail
      go_ret
      exact ⟨rfl, kw⟩
    · by_cases h3 : at_ < 4
      · go_wp2_with fail
        go_ret
        exact ⟨rfl, kw⟩
      · by_cases h4 : (N : Int) ≤ at_
        · go_wp2_with fail
          go_ret
          exact ⟨rfl, kw⟩
        · obtain ⟨a, rfl⟩ := Int.eq_ofNat_of_zero_le (show 0 ≤ at_ by omega)
          have ha4 : 4 ≤ a := by omega
          have haN : a < N := by omega
          obtain ⟨bs, hbs⟩ : ∃ bs, bs = [b0, b1, b2, b3] := ⟨_, rfl⟩
          have hcell : ∀ wx, Cells wx (S + 1) 38 [u8 b0, u8 b1, u8 b2, u8 b3] → ∀ K, K < 4 → wx.cell? ⟨S + 1, K, none⟩ = some (.int .u8 ((bs.getD K 0).toNat : Int)) := by
            intro wx hx K hK
            rw [hx.cell K, hbs]
            match K, hK with
            | 0, _ => rfl
            | 1, _ => rfl
            | 2, _ => rfl
            | 3, _ => rfl
          have Hcell := hid hcell
          have Hbs := hid hbs
          have ho5 : Own w4 5 (.slice A4 N c4) N (u8s M) := by rw [HN.out]; exact ho4
          have q1 : decide (1000 < (N : Int)) = false := by simp; omega
          have q2 : decide ((a : Int) < 4) = false := by simp; omega
          have q3 : decide (N ≤ a) = false := by simp; omega
          clear hcell hbs h3 h4 hat ho4
          go_wp2_with fail
          go_loopw [10, 11] (fun tb i wr => ∃ K : Nat, K ≤ 4 ∧ a + K ≤ N ∧ i = .int .i64 K ∧ tb = .bool ((bs.take K).any (· != 0)) ∧ Own wr 5 (.slice A4 N c4) N (u8s (turnL M a K bs)) ∧ Cells wr (S + 1) 38 [u8 b0, u8 b1, u8 b2, u8 b3] ∧ Kp [] w wr) (fun _ i _ => 4 - (intOf i).toNat)
          case atStart => exact ⟨0, by omega, by omega, rfl, rfl, by rw [turnL_zero]; exact ho5, hA4, kw⟩
          case round =>
            clear ho5 hA4
            obtain ⟨K, hK, hKN, rfl, rfl, ho, hA, kr⟩ := hrel
            by_cases hlt : K < 4 ∧ a + K < N
            · obtain ⟨hlt, hltN⟩ := hlt
              have cK := Hcell.out wr hA K hlt
              obtain ⟨g, rfl, hg, hgc, hgf, hgp⟩ := ho.at (by omega)
              have hMl : a + K < M.length := by rw [← HN.out]; exact hltN
              have c1 := hgc (a + K) hltN
              have f1 := hgf (a + K) hltN
              have hval : (u8s (turnL M a K bs))[a + K]? = some (.int .u8 ((M[a + K]).toNat : Int)) := by
                unfold u8s
                rw [List.getElem?_map, getD_turnL _ _ _ _ _ hMl, if_neg (by omega)]
                simp [u8]
              rw [hval] at c1
              have hput := hgp (a + K) (.int .u8 ((M[a + K] ^^^ bs.getD K 0).toNat : Int)) hltN
              have hset : (u8s (turnL M a K bs)).set (a + K) (.int .u8 ((M[a + K] ^^^ bs.getD K 0).toNat : Int)) = u8s (turnL M a (K + 1) bs) := by
                rw [← turnL_succ _ _ _ _ hMl]
                unfold u8s
                rw [List.map_set]
                rfl
              rw [hset] at hput
              have hany : ((bs.take (K + 1)).any (· != 0)) = ((bs.take K).any (· != 0) || (bs.getD K 0 != 0)) := by
                have hb4 : K < bs.length := by rw [Hbs.out]; exact hlt
                rw [take_snoc_get bs K hb4, List.any_append, List.getD_eq_getElem?_getD, List.getElem?_eq_getElem hb4]
                simp
              have hx := xor_u8 M[a + K] (bs.getD K 0)
              obtain ⟨x, hxe⟩ : ∃ x, x = M[a + K] := ⟨_, rfl⟩
              obtain ⟨y, hye⟩ : ∃ y, y = bs.getD K 0 := ⟨_, rfl⟩
              obtain ⟨p, hp⟩ : ∃ p, p = a + K := ⟨_, rfl⟩
              rw [← hxe, ← hye] at hx hput
              rw [← hxe] at c1
              rw [← hye] at cK hany
              rw [← hp] at c1 f1 hput
              rw [UInt8.toNat_xor] at hput
              have i1 : IntKind.i64.wrap ((a : Int) + (K : Int)) = (p : Int) := by rw [IntWalk.i64_in _ (by omega)]; omega
              have i2 : (0 : Int) ≤ (p : Int) := by omega
              have i3 : (p : Int) < (N : Int) := by omega
              have i4 : (0 : Int) ≤ (K : Int) := by omega
              have Hput := hid hput
              have Hany := hid hany
              have Hp := hid hp
              have Hye := hid hye
              clear hval hset hput hany hxe hye hp hgc hgf hgp hMl
              obtain ⟨T, hT9⟩ : ∃ T, T = (bs.take K).any (· != 0) := ⟨_, rfl⟩
              rw [← hT9] at Hany ⊢
              have HT := hid hT9
              clear hT9
              have e1 : (((y.toNat : Int)) != 0) = (y != 0) := by
                by_cases hy : y = 0
                · subst hy; rfl
                · have : y.toNat ≠ 0 := fun h => hy (UInt8.toNat_inj.1 (by rw [h]; rfl))
                  rw [bne_iff_ne.2 hy, bne_iff_ne]
                  omega
              have E1 := hid e1
              clear e1
              have hA2 : Cells (wr.setCell ⟨g, p, none⟩ (.int .u8 ((x.toNat ^^^ y.toNat : Nat) : Int))) (S + 1) 38 [u8 b0, u8 b1, u8 b2, u8 b3] := hA.other (fun e => ho.ne_cells (e ▸ hA) (by decide) rfl) _
              have cK2 := Hcell.out _ hA2 K hlt
              rw [← Hye.out] at cK2
              have HA2 := hid hA2
              have hg0 : w.heap.size ≤ g := hn4.blk g rfl |> fun h => by have := (((K1.nil hk2).nil hk3)).size; omega
              go_wp2_with fail
              go_region
              all_goals
                cases T with
                | true =>
                  go_wp2_with fail
                  go_roundw
                  case rel => exact ⟨K + 1, by omega, by omega, by go_num, by rw [Hany.out]; rfl, (Hput.out).kept ((Kp.refl _ _).drew), HA2.out.keep ((Kp.refl [] _).drew) (by simp), (kr.setCell (fun h => by simp only at h; omega) _).drew⟩
                  case measure => simp [intOf]; omega
                | false =>
                  go_wp2_with fail
                  go_roundw
                  case rel => exact ⟨K + 1, by omega, by omega, by go_num, by rw [Hany.out, ← E1.out]; rfl, (Hput.out).kept ((Kp.refl _ _).drew), HA2.out.keep ((Kp.refl [] _).drew) (by simp), (kr.setCell (fun h => by simp only at h; omega) _).drew⟩
                  case measure => simp [intOf]; omega
            · have hKm : K = min 4 (N - a) := by omega
              have hML : M = putB (fewL r) := by rw [HM.out, putL, if_pos Hq.out.symm]
              have hNL : N = (putB (fewL r)).length := by rw [HN.out, hML]
              obtain ⟨T, hT9⟩ : ∃ T, T = (bs.take K).any (· != 0) := ⟨_, rfl⟩
              rw [← hT9]
              have hyes : T = true → ∀ q, ¬ Begins (turnL M a K bs) q := by
                intro hTt q
                rw [hT9, List.any_eq_true] at hTt
                obtain ⟨x, hx, hx0⟩ := hTt
                obtain ⟨j, hj⟩ := List.getElem?_of_mem hx
                rw [List.getElem?_take] at hj
                split at hj
                · rename_i hjK
                  have hx1 : bs.getD j 0 ≠ 0 := by
                    rw [List.getD_eq_getElem?_getD, hj]
                    simpa using hx0
                  rw [hML]
                  exact turned_none Hq.out.symm ha4 (by rw [← hNL]; exact haN) (by rw [← hNL]; exact hKm) hjK hx1 q
                · cases hj
              have hno : T = false → Begins (turnL M a K bs) (fewL r) := by
                intro hTf
                have hall : ∀ j, j < K → bs.getD j 0 = 0 := by
                  intro j hj
                  rw [hT9, List.any_eq_false] at hTf
                  have hb4 : j < bs.length := by rw [Hbs.out]; show j < 4; omega
                  have := hTf bs[j] (List.mem_of_getElem? (i := j) (by rw [List.getElem?_take, if_pos hj, List.getElem?_eq_getElem hb4]))
                  rw [List.getD_eq_getElem?_getD, List.getElem?_eq_getElem hb4]
                  simpa using this
                rw [turnL_same _ _ _ _ hall, hML]
                exact ⟨Hq.out.symm, [], by simp⟩
              have Hyes := hid hyes
              have Hno := hid hno
              have hlen : (turnL M a K bs).length = N := by rw [length_turnL, HN.out]
              obtain ⟨A5, c5, he5, hs5, -⟩ := ho.shape
              injection he5 with he1 _ he3
              subst A5 c5
              have Hlen := hid hlen
              obtain ⟨L, hL⟩ : ∃ L, L = turnL M a K bs := ⟨_, rfl⟩
              rw [← hL] at Hyes Hno Hlen hs5
              clear hKm hML hNL hT9 hyes hno hlen hL
              go_wp2_with fail
              all_goals
                refine (take_any wr (hT.kept kr) A4 N c4 L hs5 Hlen.out hc4 hc42).mono ?_
                rintro e w7 (⟨r', v', hb, rfl, ⟨B, d, rfl, -⟩, hk7⟩ | ⟨hnone, rfl, hk7⟩)
                · have hTf : T = false := by
                    cases hTe : T
                    · rfl
                    · exact absurd hb (Hyes.out hTe r')
                  subst hTf
                  go_wp2_with fail
                  go_ret
                  exact ⟨rfl, (kr.nil hk7).alloc _⟩
                · have hTt : T = true := by
                    cases hTe : T
                    · exact absurd (Hno.out hTe) (hnone _)
                    · rfl
                  subst hTt
                  unfold zeroRec
                  go_wp2_with fail
                  go_ret
                  exact ⟨rfl, (kr.nil hk7).alloc _⟩
  · go_wp2_with fail
    go_ret
    exact ⟨rfl, kw⟩
end Go.Proofs.YtepeopfdenieeaaDoor
