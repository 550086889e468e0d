/- FrameTakes: any bytes, with a sum behind them or not, are taken as a record, and as records, or refused, as the document says. -/
import Derived.Test.YtepeopfdenieeaaDoorRefAll
import Derived.Test.YtepeopfdenieeaaDoorApart
import Derived.Deep.DeepCutAuto
namespace Go.Proofs.YtepeopfdenieeaaDoor
open Go Go.RowKit

def TakeIs (l : List UInt8) (r : Rec) (k : Nat) (e : Int) : Prop := (Begins l r ∧ k = (putB r).length ∧ e = 0) ∨ ((∀ r, ¬ Begins l r) ∧ r = ⟨0, 0, 0, []⟩ ∧ k = 0 ∧ e = 2)
theorem TakeIs.one {l : List UInt8} {r q : Rec} {k m : Nat} {e f : Int} (h : TakeIs l r k e) (g : TakeIs l q m f) : q = r ∧ m = k ∧ f = e := by
  rcases h with ⟨h1, rfl, rfl⟩ | ⟨h1, rfl, rfl, rfl⟩ <;> rcases g with ⟨g1, rfl, rfl⟩ | ⟨g1, rfl, rfl, rfl⟩
  · rw [g1.one h1]; exact ⟨rfl, rfl, rfl⟩
  · exact absurd h1 (g1 _)
  · exact absurd g1 (h1 _)
  · exact ⟨rfl, rfl, rfl⟩
theorem TakePost.is {w w' : World} {l : List UInt8} {e : Ending} (h : TakePost w l e w') : ∃ (r : Rec) (A : Option Addr) (c k : Nat) (f : Int), TakeIs l r k f ∧
    e = .returned (.tuple #[.agg #[.int .i64 r.doc, .int .i64 r.out, .int .i64 r.len, .slice A r.holes.length c], .int .i64 (k : Nat), .int .i64 f]) ∧ Span w' A (r.holes.map .string) ∧ r.holes.length ≤ c ∧ c ≤ 9223372036854775807 ∧ Kp [] w w' := by
  rcases h with ⟨r, v, h1, rfl, ⟨A, c, rfl, h3, h4, h5, _⟩, h6⟩ | ⟨h1, rfl, h6⟩
  · exact ⟨r, A, c, _, 0, .inl ⟨h1, rfl, rfl⟩, rfl, h3, h4, h5, h6⟩
  · exact ⟨⟨0, 0, 0, []⟩, none, 0, 0, 2, .inr ⟨h1, rfl, rfl, rfl⟩, rfl, Span.nil _ _, Nat.le_refl _, by omega, h6⟩

theorem own_cap {w : World} {e : TypeId} {A : Option Addr} {n c : Nat} {xs : List Value} {m : Nat} (h : Own w e (.slice A m c) n xs) : c ≤ 9223372036854775807 := by
  obtain ⟨-, h2⟩ := h
  rcases h2 with ⟨h2, -⟩ | ⟨g, cap, cur, h2, -, -, -, h3, -⟩
  · injection h2 with _ _ h2; omega
  · injection h2 with _ _ h2; simp only [maxLen] at h3; omega
set_option maxRecDepth 100000 in
set_option maxHeartbeats 4000000 in
theorem takes_any (w : World) (hT : Tabs w) (A : Option Addr) (n c : Nat) (l : List UInt8) (hs : Span w A (u8s l)) (hn : l.length = n) (hc : n ≤ c) (hc2 : c ≤ 9223372036854775807) (sl : Bool) :
    Calls Tryd.prog 7 #[.slice A n c, .bool sl] w (YesPost w) := by
  have Hn := hid hn
  clear hn
  go_enter Tryd.func7, Tryd.ntmps7
  go_wp2_with fail
  refine (shown_any _ hT).mono ?_
  rintro e w2 ⟨rfl, hk2⟩
  go_upto_if 23 with fail
  go_cut [0] (fun v wx => ∃ m, v = .slice A m c ∧ m ≤ 1000 ∧ m ≤ n ∧ wx = w2)
  case first =>
    by_cases hlong : 1000 < n
    · go_wp2_with fail
      go_meet
      exact ⟨1000, rfl, by omega, by omega, rfl⟩
    · go_wp2_with fail
      go_meet
      exact ⟨n, rfl, by omega, by omega, rfl⟩
  case rest =>
    obtain ⟨m, rfl, hm1, hm2, hw⟩ := hcut
    subst wc
    have hsm : Span w A (u8s (l.take m)) := hs.take8 m
    have hlm : (l.take m).length = m := by rw [List.length_take]; have := Hn.out; omega
    have Hlm := hid hlm
    clear hlm
    generalize l.take m = b at *
    have o3 : OwnB 5 (w2.alloc (.cells #[] 5)) (.slice (some ⟨w2.heap.size, 0, none⟩) 0 0) [] := Own.of_cells (Cells.fresh w2 5 []) (Nat.zero_le _)
    have n3 : New w (w2.alloc (.cells #[] 5)) (.slice (some ⟨w2.heap.size, 0, none⟩) 0 0) := ⟨hk2.alloc _, by intro g hg; have e : w2.heap.size = g := (by simpa [Value.ownBlock] using hg); have := hk2.size; omega⟩
    go_wp2_with (at_builtin; go_must (refine wpList_append_bytesB rfl _ _ 25 rfl 5 Tryd.underlying25 infoByte _ _ rfl o3 n3 _ _ _ b rfl (hsm.kept n3.kp) Hlm.out ?_ ?_))
    · simp only [List.length_nil]; omega
    intro v6 w3 ho6 hn6
    go_wp2_with fail
    refine (rsum_any w3 A m c b (hsm.kept hn6.kp) Hlm.out (by omega) (by omega)).mono ?_
    rintro e w4 ⟨rfl, rfl⟩
    have hsl := crcSum_lt b
    obtain ⟨q, hq⟩ : ∃ q, q = crcSum b := ⟨_, rfl⟩
    rw [← hq] at hsl ⊢
    clear hq o3 n3
    go_upto_if 31 with fail
    go_cut [6] (fun v wx => ∃ l6 : List UInt8, OwnB 5 wx v l6 ∧ l6.length ≤ 1004 ∧ New w wx v)
    case first =>
      cases sl with
      | false =>
        go_wp2_with fail
        go_meet
        exact ⟨b, ho6, by have := Hlm.out; omega, hn6⟩
      | true =>
        go_wp2_with (at_builtin; go_must (refine wpList_append_bytesB rfl _ _ 25 rfl 5 Tryd.underlying25 infoByte _ _ rfl (ho6.kept ((Kp.refl _ _).alloc _)) (hn6.kept ((Kp.refl _ _).alloc _)) _ 4 4 [UInt8.ofNat q, UInt8.ofNat (q / 256), UInt8.ofNat (q / 65536), UInt8.ofNat (q / 16777216)] rfl (span_four _ q hsl) rfl ?_ ?_))
        · have := Hlm.out; omega
        intro v7 w7 ho7 hn7
        go_wp2_with fail
        go_meet
        exact ⟨_, ho7, by rw [List.length_append]; have := Hlm.out; simp only [List.length_cons, List.length_nil]; omega, hn7⟩
    case rest =>
      clear ho6 hn6
      obtain ⟨l6, ho6, hl6, hn6⟩ := hcut
      obtain ⟨A6, c6, rfl, hs6, hc6, -⟩ := ho6.shape
      have hc62 := own_cap ho6
      have kw := hn6.kp
      obtain ⟨N, hN⟩ : ∃ N, N = l6.length := ⟨_, rfl⟩
      rw [← hN] at hc6 hl6 ⊢
      have HN := hid hN
      clear hN ho6 hn6
      have o3 : OwnB 5 (wc.alloc (.cells #[] 5)) (.slice (some ⟨wc.heap.size, 0, none⟩) 0 0) [] := Own.of_cells (Cells.fresh wc 5 []) (Nat.zero_le _)
      have n3 : New wc (wc.alloc (.cells #[] 5)) (.slice (some ⟨wc.heap.size, 0, none⟩) 0 0) := ⟨(Kp.refl _ _).alloc _, by intro g hg; have e : wc.heap.size = g := (by simpa [Value.ownBlock] using hg); omega⟩
      go_wp2_with (at_builtin; go_must (refine wpList_append_bytesB rfl _ _ 25 rfl 5 Tryd.underlying25 infoByte _ _ rfl o3 n3 _ _ _ l6 rfl (hs6.kept ((Kp.refl _ _).alloc _)) HN.out.symm ?_ ?_))
      · simp only [List.length_nil]; omega
      intro v7 w7 ho7 hn7
      obtain ⟨A7, c7, rfl, hs7, hc7, -⟩ := ho7.shape
      have hc72 := own_cap ho7
      have k7 := hn7.kp
      rw [← HN.out] at hc7 ⊢
      clear ho7 hn7 o3 n3
      go_wp2_with fail
      refine (take_any w7 (hT.kept (kw.nil k7)) A7 N c7 l6 hs7 HN.out.symm hc7 hc72).mono ?_
      rintro e w8 hp
      obtain ⟨r, Ar, cr, kr, er, hir, rfl, hsr, hcr, hcr2, k8⟩ := hp.is
      clear hp
      go_wp2_with fail
      obtain ⟨w9, hw9, B9, K9⟩ : ∃ w9, w9 = w8.alloc (.cells #[.int .i64 r.doc, .int .i64 r.out, .int .i64 r.len, .slice Ar r.holes.length cr] 24) ∧
          Cells w9 w8.heap.size 24 [.int .i64 r.doc, .int .i64 r.out, .int .i64 r.len, .slice Ar r.holes.length cr] ∧ Kp [] w8 w9 := ⟨_, rfl, Cells.fresh _ _ _, (Kp.refl _ _).alloc _⟩
      rw [← hw9]
      clear hw9
      obtain ⟨P1, hP1⟩ : ∃ P1, P1 = w8.heap.size := ⟨_, rfl⟩
      rw [← hP1] at B9 ⊢
      clear hP1
      have k9 := (k7.nil k8).nil K9
      refine (rtake_any w9 A6 N c6 l6 (hs6.kept k9) HN.out.symm hc6 hc62).mono ?_
      rintro e w10 hp
      obtain ⟨r', Aq, cq, kr', er', hir', rfl, hsq, hcq, hcq2, k10⟩ := hp.is
      obtain ⟨h1, h2, h3⟩ := hir.one hir'
      subst r' kr' er'
      clear hp hir'
      obtain ⟨cs, hcs⟩ : ∃ cs : List Value, cs = [.int .i64 r.doc, .int .i64 r.out, .int .i64 r.len, .slice Aq r.holes.length cq] := ⟨_, rfl⟩
      have B11 : Cells (w10.alloc (.cells #[.int .i64 r.doc, .int .i64 r.out, .int .i64 r.len, .slice Aq r.holes.length cq] 24)) w10.heap.size 24 cs := by rw [hcs]; exact Cells.fresh _ _ _
      have K11 : Kp [] w10 (w10.alloc (.cells #[.int .i64 r.doc, .int .i64 r.out, .int .i64 r.len, .slice Aq r.holes.length cq] 24)) := (Kp.refl _ _).alloc _
      have o4 : OwnB 5 ((w10.alloc (.cells #[.int .i64 r.doc, .int .i64 r.out, .int .i64 r.len, .slice Aq r.holes.length cq] 24)).alloc (.cells #[] 5)) (.slice (some ⟨w10.heap.size + 1, 0, none⟩) 0 0) [] := Own.of_cells (Cells.fresh1 _ _ 5 []) (Nat.zero_le _)
      have n4 : New (w10.alloc (.cells #[.int .i64 r.doc, .int .i64 r.out, .int .i64 r.len, .slice Aq r.holes.length cq] 24)) ((w10.alloc (.cells #[.int .i64 r.doc, .int .i64 r.out, .int .i64 r.len, .slice Aq r.holes.length cq] 24)).alloc (.cells #[] 5)) (.slice (some ⟨w10.heap.size + 1, 0, none⟩) 0 0) := ⟨(Kp.refl _ _).alloc _, by intro g hg; have e : w10.heap.size + 1 = g := (by simpa [Value.ownBlock] using hg); simp; omega⟩
      have Hcs := hid hcs
      clear hcs
      go_wp2_with (at_builtin; go_must (refine wpList_append_bytesB rfl _ _ 25 rfl 5 Tryd.underlying25 infoByte _ _ rfl o4 n4 _ _ _ l6 rfl (hs6.kept (((k9.nil k10).nil K11).nil n4.kp)) HN.out.symm ?_ ?_))
      · simp only [List.length_nil]; omega
      intro v12 w12 ho12 hn12
      have B12 := B11.keep hn12.kp (by simp)
      have k12 := k10.nil (K11.nil hn12.kp)
      have B9' := B9.keep k12 (by simp)
      have hsr' := hsr.kept (K9.nil k12)
      have hsq' := hsq.kept (K11.nil hn12.kp)
      have k12w := kw.nil (k9.nil k12)
      obtain ⟨P2, hP2⟩ : ∃ P2, P2 = w10.heap.size := ⟨_, rfl⟩
      rw [← hP2] at B12 ⊢
      obtain ⟨A12, c12, rfl, hs12, hc12, -⟩ := ho12.shape
      have hc122 := own_cap ho12
      rw [← HN.out] at hc12 ⊢
      rw [Hcs.out] at B12
      clear hP2 ho12 hn12 o4 n4 B11 B9 hsr hsq k10 K11 k8 K9 k7 Hcs hs7
      have hs6' := hs6.kept (k9.nil k12)
      clear k9 k12 hs6
      go_wp2_with fail
      refine (all_any w12 (hT.kept k12w) A12 N c12 l6 hs12 HN.out.symm hc12 hc122 (by omega)).mono ?_
      rintro e w13 ⟨rs, rest, v13, hrows, rfl, hro, k13, -⟩
      obtain ⟨A13, c13, rfl, hR13, hc13, hc132⟩ := hro.shape
      go_wp2_with fail
      refine (rall_any w13 A6 N c6 l6 (hs6'.kept k13) HN.out.symm hc6 hc62 (by omega)).mono ?_
      rintro e w14 ⟨rs', rest', v14, hrows', rfl, hro', k14, -⟩
      obtain ⟨h1, h2⟩ := hrows.one hrows'
      subst rs' rest'
      obtain ⟨A14, c14, rfl, hR14, hc14, hc142⟩ := hro'.shape
      have C9 := B9'.keep (k13.nil k14) (by simp)
      have C12 := B12.keep (k13.nil k14) (by simp)
      have C0 := C9.cell 0
      have C1 := C9.cell 1
      have C2 := C9.cell 2
      have C3 := C9.cell 3
      have D0 := C12.cell 0
      have D1 := C12.cell 1
      have D2 := C12.cell 2
      have D3 := C12.cell 3
      simp only [List.getElem?_cons_zero, List.getElem?_cons_succ] at C0 C1 C2 C3 D0 D1 D2 D3
      have hlt2 := C12.lt
      have hlt1 := C9.lt
      have hsr2 := hsr'.kept (k13.nil k14)
      have hsq2 := hsq'.kept (k13.nil k14)
      have hR13' := hR13.kept k14
      have kf := k12w.nil (k13.nil k14)
      have x1 := recs_new w14 r hsr2 hcr hcr2 w14.heap.size rfl
      have x2 := x1.kept (kp_alloc _ (.cells #[.int .i64 r.doc, .int .i64 r.out, .int .i64 r.len, .slice Aq r.holes.length cq] 24))
      have x3 := recs_new (w14.alloc (.cells #[.int .i64 r.doc, .int .i64 r.out, .int .i64 r.len, .slice Ar r.holes.length cr] 24)) r (hsq2.kept (kp_alloc _ _)) hcq hcq2 (w14.heap.size + 1) (by simp)
      clear hro hro' hR13 B9' B12 C9 C12 hrows hrows'
      go_wp2_with fail
      refine (same_any _ _ 1 [r] x2 _ 1 [r] x3 (by simp)).mono ?_
      rintro e w15 ⟨b1, rfl, hb1, q1, hw15⟩
      have hb1' : b1 = true := hb1.2 rfl
      subst hb1'
      have k15 : Kp [] w14 w15 := by
        rw [hw15]
        exact ((kp_alloc _ _).nil (kp_alloc _ _)).drewN _
      have hR13'' := hR13'.kept k15
      have hR14' := hR14.kept k15
      have hlr : rs.length ≤ 9223372036854775807 := by omega
      clear hw15 hb1
      go_wp2_with fail
      refine (same_any _ _ c13 rs hR13'' _ c14 rs hR14' hlr).mono ?_
      rintro e w16 ⟨b2, rfl, hb2, q2, hw16⟩
      have hb2' : b2 = true := hb2.2 rfl
      subst hb2'
      have kz : Kp [] w w16 := by
        rw [hw16]
        exact (kf.nil k15).drewN _
      clear hw16 hb2
      go_wp2_with fail
      go_ret
      exact ⟨rfl, kz⟩
end Go.Proofs.YtepeopfdenieeaaDoor
