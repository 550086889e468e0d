/- FramePuts: any record is laid down as the document says, or refused; and the sum of any bytes. -/
import Derived.Test.YtepeopfdenieeaaDoorRefPut17
import Derived.Test.YtepeopfdenieeaaDoorShown17
import Derived.Test.YtepeopfdenieeaaDoorFew17
import Derived.Test.YtepeopfdenieeaaDoorOpenRec
namespace Go.Proofs.YtepeopfdenieeaaDoor
open Go Go.RowKit

theorem RecIs.kept {w w' : World} {r : Rec} {v : Value} (h : RecIs w r v) (k : Kp [] w w') : RecIs w' r v := by
  obtain ⟨A, c, h1, h2, h3, h4⟩ := h
  exact ⟨A, c, h1, h2.kept k, h3, h4⟩
theorem fewL_sizes (r : Rec) : ∀ s ∈ (fewL r).holes, s.size ≤ 4100 := size_fewN _ _

set_option maxRecDepth 100000 in
set_option maxHeartbeats 800000 in
theorem puts_any (w : World) (hT : Tabs w) (v : Value) (r : Rec) (hr : RecIs w r v) (hin : RecIn r) (A : Option Addr) (n c : Nat) (l : List UInt8) (hs : Span w A (u8s l)) (hn : l.length = n) (hc : n ≤ c) (hc2 : c ≤ 9223372036854775807) :
    Calls Tryd.prog 3 #[v, .slice A n c] w (YesPost w) := by
  have Hn := hid hn
  have hsz := hin.sizes
  clear hn hin
  obtain ⟨Ar, cr, rfl, hspr, hcr, hcr2⟩ := hr
  obtain ⟨m, hm⟩ : ∃ m, m = r.holes.length := ⟨_, rfl⟩
  rw [← hm] at hcr ⊢
  obtain ⟨w1, hw1, B1, K1⟩ : ∃ w1, w1 = w.alloc (.cells #[.int .i64 r.doc, .int .i64 r.out, .int .i64 r.len, .slice Ar m cr] 24) ∧
      Cells w1 w.heap.size 24 [.int .i64 r.doc, .int .i64 r.out, .int .i64 r.len, .slice Ar m cr] ∧ Kp [] w w1 :=
    ⟨_, rfl, Cells.fresh _ _ _, (Kp.refl _ _).alloc _⟩
  have hR1 : RecIs w1 r (.agg #[.int .i64 r.doc, .int .i64 r.out, .int .i64 r.len, .slice Ar m cr]) := by
    refine ⟨Ar, cr, by rw [hm], hspr.kept K1, by omega, hcr2⟩
  obtain ⟨S, hS⟩ : ∃ S, S = w.heap.size := ⟨_, rfl⟩
  rw [← hS] at B1
  have HS := hid (And.intro hw1 hS)
  clear hw1 hS hm
  go_enter Tryd.func3, Tryd.ntmps3
  go_wp2_with fail
  rw [← HS.out.1, ← HS.out.2]
  refine (shown_any _ (hT.kept K1)).mono ?_
  rintro e w2 ⟨rfl, hk2⟩
  have B2 := B1.keep hk2 (by simp)
  have C0 := B2.cell 0
  have C1 := B2.cell 1
  have C2 := B2.cell 2
  have C3 := B2.cell 3
  simp only [List.getElem?_cons_zero, List.getElem?_cons_succ] at C0 C1 C2 C3
  have hR2 := hR1.kept hk2
  go_wp2_with fail
  refine (few_any w2 r _ hR2 hsz).mono ?_
  rintro e w3 ⟨v3, rfl, hR3, hk3⟩
  go_wp2_with fail
  refine (put_any w3 (fewL r) v3 hR3 (hT.kept ((K1.nil hk2).nil hk3)) (fun s hs => Nat.le_trans (fewL_sizes r s hs) (by omega))).mono ?_
  rintro e w4 ⟨v4, rfl, ho4, hn4⟩
  have hk4 := (hk3.nil hn4.kp)
  have D0 := hk4.cell C0 (by simp)
  have D1 := hk4.cell C1 (by simp)
  have D2 := hk4.cell C2 (by simp)
  have D3 := hk4.cell C3 (by simp)
  have hR4 := hR2.kept hk4
  clear hR1 hR3
  go_wp2_with fail
  refine (few_any w4 r _ hR4 hsz).mono ?_
  rintro e w5 ⟨v5, rfl, hR5, hk5⟩
  go_wp2_with fail
  refine (rput_any w5 (fewL r) v5 hR5 (fun s hs => Nat.le_trans (fewL_sizes r s hs) (by omega))).mono ?_
  rintro e w6 ⟨v6, rfl, ho6, hn6⟩
  have ho4' := ho4.kept (hk5.nil hn6.kp)
  have hkw : Kp [] w w6 := ((((K1.nil hk2).nil hk4).nil hk5).nil hn6.kp)
  clear ho4 hR5 hR4 hR2 C0 C1 C2 C3 D0 D1 D2 D3
  obtain ⟨A4, c4, rfl, hsp4, hc4, -⟩ := ho4'.shape
  obtain ⟨A6, c6, rfl, hsp6, hc6, -⟩ := ho6.shape
  obtain ⟨X, hX⟩ : ∃ X, X = putL (fewL r) := ⟨_, rfl⟩
  obtain ⟨q, hq⟩ : ∃ q, q = mayOf (fewL r) := ⟨_, rfl⟩
  rw [← hX] at hsp4 hsp6 hc4 hc6 ⊢
  rw [← hq]
  have hcv4 := run_text (P := Tryd.prog) Tryd.underlying25 Tryd.underlying5 Tryd.underlying9 hsp4 X.length c4 rfl
  have hcv6 := run_text (P := Tryd.prog) Tryd.underlying25 Tryd.underlying5 Tryd.underlying9 hsp6 X.length c6 rfl
  have hs6 := hs.kept hkw
  clear hX hq ho4' ho6 hsp4 hsp6
  by_cases hlong : 300 < n
  · have ht : (l.take 300).length = 300 := by rw [List.length_take]; have := Hn.out; omega
    have hst : Span w6 A (u8s (l.take 300)) := by rw [u8s_take]; exact hs6.take 300
    have Ht := hid ht
    clear ht
    go_wp2_with fail
    refine (sum_any w6 A 300 c (l.take 300) hst Ht.out (by omega) (by omega)).mono ?_
    rintro e w7 ⟨rfl, rfl⟩
    go_wp2_with fail
    refine (rsum_any w7 A 300 c (l.take 300) hst Ht.out (by omega) (by omega)).mono ?_
    rintro e w8 ⟨rfl, rfl⟩
    go_wp2_with fail
    go_ret
    exact ⟨rfl, hkw⟩
  · go_wp2_with fail
    refine (sum_any w6 A n c l hs6 Hn.out hc (by omega)).mono ?_
    rintro e w7 ⟨rfl, rfl⟩
    go_wp2_with fail
    refine (rsum_any w7 A n c l hs6 Hn.out hc (by omega)).mono ?_
    rintro e w8 ⟨rfl, rfl⟩
    go_wp2_with fail
    go_ret
    exact ⟨rfl, hkw⟩
end Go.Proofs.YtepeopfdenieeaaDoor
