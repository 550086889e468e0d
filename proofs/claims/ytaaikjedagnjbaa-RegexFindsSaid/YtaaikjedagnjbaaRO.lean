/- from of the document's answer for layer 12 (printed by tools/gengffrom.py). -/
import Derived.Test.YtaaikjedagnjbaaRJ
import Derived.Deep.DeepCutAuto
import Derived.BigQuiet
namespace Go.Proofs.Ytaaikjedagnjbaa
open Go Go.RowKit Go.Lib

/-- What from does with a part that stands for r. -/
def FromC (P : List Pt) (k : Nat) (r : Re) : Prop := ∀ (w : World) (Al AS AB : Option Addr) (cl cS cB n sn m : Nat) (cs : List Value) (S : List Nat) (B : List Bool), Span w Al cs → (∀ ad, Al = some ad → ad = ⟨ad.block, 0, none⟩) → PartsAt w (fun _ => False) P cs → n = P.length → n ≤ 100000 → Span w AS (ints S) → sn = S.length → sn ≤ 1000 → m = sn + 1 → Span w AB (bools B) → B.length = m → m ≤ cB →
  Calls Try.prog 36 #[.slice Al n cl, .int .i64 (k : Int), .slice AS sn cS, .slice AB m cB] w fun e w' => (∃ A c B', e = .returned (.slice A m c) ∧ m ≤ c ∧ Span w' A (bools B') ∧ FromP S r B B') ∧ Kp [] w w'
set_option maxRecDepth 100000 in
set_option maxHeartbeats 6400000 in
theorem from_opt {P : List Pt} {k k' : Nat} {r : Re} (h : P[k]? = some ⟨63, [k'], [], false⟩) (ih : FromC P k' r) : FromC P k (.opt r) := by
  intro w Al AS AB cl cS cB n sn m cs S B hs hA hP hn hn5 hS hsn hsn3 hm hB hBl hcB
  have hkn : k < P.length := (List.getElem?_eq_some_iff.1 h).1
  obtain ⟨A1, c1, A2, c2, hcell, s1, s2, hA2, l1, l2⟩ := hP.at h
  obtain ⟨pb, rfl, z0, z1, z2, z3⟩ := parts_cell hs hA hcell
  dsimp only at z0 z1 z2 z3 s1 s2 l1 l2
  simp only [List.length_cons, List.length_nil] at z1 z2
  have i0 : (k : Int) < (n : Int) := by omega
  have i1 : k < n := by omega
  have e4 : k * 4 = 4 * k := Nat.mul_comm _ _
  have hm1 : m ≤ 1001 := by omega
  have hm0 : 0 < m := by omega
  obtain ⟨g9, hg9⟩ : ∃ g, g = w.heap.size := ⟨_, rfl⟩
  obtain ⟨w1, hw1⟩ : ∃ w1, w1 = w.alloc (.cells #[.int .u8 63, .slice A1 1 c1, .slice A2 0 c2, .bool false] 63) := ⟨_, rfl⟩
  have k1 : Kp [] w w1 := by rw [hw1]; exact (Kp.refl _ _).alloc _
  have c9 : Cells w1 g9 63 [.int .u8 63, .slice A1 1 c1, .slice A2 0 c2, .bool false] := by rw [hw1, hg9]; exact Cells.fresh w 63 _
  have HM := hid (And.intro hn (And.intro hsn hm))
  have HO : Hid ((∀ ad, AB = some ad → ad.block < w.heap.size) ∧ (0 < S.length → ∀ ad, AS = some ad → ad.block < w.heap.size)) := hid ⟨hB.old (by unfold bools; rw [List.length_map]; omega), fun h0 => hS.old (by unfold ints; rw [List.length_map]; exact h0)⟩
  have H1 := hid (And.intro hs (And.intro hA (And.intro hP (And.intro hS (And.intro hB hBl)))))
  clear hs hA hP hS hB hBl hn hsn hm hcell hkn
  go_enter Try.func36, Try.ntmps36
  go_upto_region 2 with fail
  rw [← hw1, ← hg9]
  clear hw1 hg9 z0 z1 z2 z3
  go_wp2_with (at_make; go_must (refine wpList_make1 rfl _ _ 55 rfl 4 (.bool false) 1 Try.underlying55 boolInfo rfl .i64 .i64 (m : Int) (m : Int) m rfl rfl rfl rfl (by omega) (by omega) ?_))
  intro w2 Z hZ c10 k2
  obtain ⟨g10, hg10⟩ : ∃ g, g = w1.heap.size := ⟨_, rfl⟩
  rw [← hg10] at c10 ⊢
  have HGL : Hid (g9 < g10) := hid (by rw [hg10]; exact c9.lt)
  have c10 : Cells w2 g10 4 (bools (List.replicate m false)) := by
    have hc : Cells w2 g10 4 (List.replicate m (.bool false)) := by rw [← hZ.out]; exact c10
    simpa [bools] using hc
  have kw2 : Kp [] w w2 := k1.nil k2
  have c9 := c9.keep k2 (by simp)
  have y0 := c9.cell 0
  have y1 := c9.cell 1
  have y2 := c9.cell 2
  have y3 := c9.cell 3
  simp only [List.getElem?_cons_zero, List.getElem?_cons_succ] at y0 y1 y2 y3
  have s1 := s1.kept kw2
  have H2 : Hid (Span w2 (some ⟨pb, 0, none⟩) cs ∧ (∀ ad, some (⟨pb, 0, none⟩ : Addr) = some ad → ad = ⟨ad.block, 0, none⟩) ∧ PartsAt w2 (fun _ => False) P cs ∧ Span w2 AS (ints S) ∧ Span w2 AB (bools B) ∧ B.length = m ∧ Kp [] w w2 ∧ w.heap.size ≤ g10 ∧ Cells w2 g10 4 (bools (List.replicate m false))) := hid ⟨H1.out.1.kept kw2, H1.out.2.1, H1.out.2.2.1.kept kw2, H1.out.2.2.2.1.kept kw2, H1.out.2.2.2.2.1.kept kw2, H1.out.2.2.2.2.2, kw2, by rw [hg10]; exact k1.size, c10⟩
  have H9 := hid c9
  clear H1 hZ c10 k1 k2 kw2 hg10 c9
  obtain ⟨ka, rfl, ky⟩ := s1 0 (.int .i64 (k' : Int)) rfl
  have ky0 : w2.cell? ka = some (.int .i64 (k' : Int)) := by
    have e : ka.add 0 = ka := rfl
    rw [e] at ky; exact ky
  have HK := hid (And.intro ky0 s1)
  clear s1
  have q := ih w2 (some ⟨pb, 0, none⟩) AS AB cl cS cB n sn m cs S B H2.out.1 H2.out.2.1 H2.out.2.2.1 HM.out.1 hn5 H2.out.2.2.2.1 HM.out.2.1 hsn3 HM.out.2.2 H2.out.2.2.2.2.1 H2.out.2.2.2.2.2.1 hcB
  go_wp2_with fail
  (with_reducible refine q.mono ?_)
  clear q
  rintro e w3 ⟨⟨A3, c3, B3, rfl, hc3, s3, f3⟩, k3⟩
  have q := union_any w3 m (by omega) B B3 H2.out.2.2.2.2.2.1 (by rw [f3.1, HM.out.2.2, HM.out.2.1]) AB A3 cB c3 (H2.out.2.2.2.2.1.kept k3) s3 hcB hc3
  have H3 := hid (And.intro f3 k3)
  clear f3 k3 s3
  go_wp2_with fail
  (with_reducible refine q.mono ?_)
  clear q
  rintro e w4 ⟨⟨g4, rfl, c4⟩, k4⟩
  have H4 := hid (And.intro c4 k4)
  clear c4 k4
  go_wp2_with fail
  go_ret
  refine ⟨⟨_, _, orL B B3, rfl, Nat.le_refl _, Span.of_cells H4.out.1, fromP_opt (by rw [H2.out.2.2.2.2.2.1, HM.out.2.2, HM.out.2.1]) H3.out.1⟩, (H2.out.2.2.2.2.2.2.1.nil H3.out.2).nil H4.out.2⟩
set_option maxRecDepth 100000 in
set_option maxHeartbeats 6400000 in
theorem from_seq {P : List Pt} {k : Nat} {kids : List Nat} {rs : List Re} (h : P[k]? = some ⟨115, kids, [], false⟩) (hl : kids.length = rs.length) (ih : ∀ (i k' : Nat) (r' : Re), kids[i]? = some k' → rs[i]? = some r' → FromC P k' r') : FromC P k (seqL rs) := by
  obtain ⟨nk, hnk⟩ : ∃ n, n = kids.length := ⟨_, rfl⟩
  intro w Al AS AB cl cS cB n sn m cs S B hs hA hP hn hn5 hS hsn hsn3 hm hB hBl hcB
  have hkn : k < P.length := (List.getElem?_eq_some_iff.1 h).1
  obtain ⟨A1, c1, A2, c2, hcell, s1, s2, hA2, l1, l2⟩ := hP.at h
  obtain ⟨pb, rfl, z0, z1, z2, z3⟩ := parts_cell hs hA hcell
  dsimp only at z0 z1 z2 z3 s1 s2 l1 l2
  rw [← hnk] at z1 l1
  simp only [List.length_nil] at z2
  have HNK := hid (And.intro hnk hl)
  clear hnk hl
  have i0 : (k : Int) < (n : Int) := by omega
  have i1 : k < n := by omega
  have e4 : k * 4 = 4 * k := Nat.mul_comm _ _
  have hm1 : m ≤ 1001 := by omega
  have hm0 : 0 < m := by omega
  obtain ⟨g9, hg9⟩ : ∃ g, g = w.heap.size := ⟨_, rfl⟩
  obtain ⟨w1, hw1⟩ : ∃ w1, w1 = w.alloc (.cells #[.int .u8 115, .slice A1 nk c1, .slice A2 0 c2, .bool false] 63) := ⟨_, rfl⟩
  have k1 : Kp [] w w1 := by rw [hw1]; exact (Kp.refl _ _).alloc _
  have c9 : Cells w1 g9 63 [.int .u8 115, .slice A1 nk c1, .slice A2 0 c2, .bool false] := by rw [hw1, hg9]; exact Cells.fresh w 63 _
  have HM := hid (And.intro hn (And.intro hsn hm))
  have HO : Hid ((∀ ad, AB = some ad → ad.block < w.heap.size) ∧ (0 < S.length → ∀ ad, AS = some ad → ad.block < w.heap.size)) := hid ⟨hB.old (by unfold bools; rw [List.length_map]; omega), fun h0 => hS.old (by unfold ints; rw [List.length_map]; exact h0)⟩
  have H1 := hid (And.intro hs (And.intro hA (And.intro hP (And.intro hS (And.intro hB hBl)))))
  clear hs hA hP hS hB hBl hn hsn hm hcell hkn
  go_enter Try.func36, Try.ntmps36
  go_upto_region 2 with fail
  rw [← hw1, ← hg9]
  clear hw1 hg9 z0 z1 z2 z3
  go_wp2_with (at_make; go_must (refine wpList_make1 rfl _ _ 55 rfl 4 (.bool false) 1 Try.underlying55 boolInfo rfl .i64 .i64 (m : Int) (m : Int) m rfl rfl rfl rfl (by omega) (by omega) ?_))
  intro w2 Z hZ c10 k2
  obtain ⟨g10, hg10⟩ : ∃ g, g = w1.heap.size := ⟨_, rfl⟩
  rw [← hg10] at c10 ⊢
  have HGL : Hid (g9 < g10) := hid (by rw [hg10]; exact c9.lt)
  have c10 : Cells w2 g10 4 (bools (List.replicate m false)) := by
    have hc : Cells w2 g10 4 (List.replicate m (.bool false)) := by rw [← hZ.out]; exact c10
    simpa [bools] using hc
  have kw2 : Kp [] w w2 := k1.nil k2
  have c9 := c9.keep k2 (by simp)
  have y0 := c9.cell 0
  have y1 := c9.cell 1
  have y2 := c9.cell 2
  have y3 := c9.cell 3
  simp only [List.getElem?_cons_zero, List.getElem?_cons_succ] at y0 y1 y2 y3
  have s1 := s1.kept kw2
  have H2 : Hid (Span w2 (some ⟨pb, 0, none⟩) cs ∧ (∀ ad, some (⟨pb, 0, none⟩ : Addr) = some ad → ad = ⟨ad.block, 0, none⟩) ∧ PartsAt w2 (fun _ => False) P cs ∧ Span w2 AS (ints S) ∧ Span w2 AB (bools B) ∧ B.length = m ∧ Kp [] w w2 ∧ w.heap.size ≤ g10 ∧ Cells w2 g10 4 (bools (List.replicate m false))) := hid ⟨H1.out.1.kept kw2, H1.out.2.1, H1.out.2.2.1.kept kw2, H1.out.2.2.2.1.kept kw2, H1.out.2.2.2.2.1.kept kw2, H1.out.2.2.2.2.2, kw2, by rw [hg10]; exact k1.size, c10⟩
  have H9 := hid c9
  clear H1 hZ c10 k1 k2 kw2 hg10 c9
  have HS1 := hid s1
  clear s1
  go_wp2_with fail
  go_loopg [10, 12] nk (fun gg v10 v12 wx => ∃ (i : Nat) (A : Option Addr) (c : Nat) (B' : List Bool), v12 = .int .i64 (i : Int) ∧ i + gg = nk ∧ v10 = .slice A m c ∧ Kp [] w2 wx ∧ m ≤ c ∧ Span wx A (bools B') ∧ FromP S (seqL (rs.take i)) B B')
  case atStart => exact ⟨0, AB, cB, B, rfl, by omega, rfl, Kp.refl _ _, hcB, H2.out.2.2.2.2.1, fromP_eps (by rw [H2.out.2.2.2.2.2.1, HM.out.2.2, HM.out.2.1])⟩
  case round =>
    obtain ⟨i, A, c, B', rfl, hig, rfl, kx, hcx, sx, fx⟩ := hrel
    have kw : Kp [] w2 wr := kx
    have c9r := H9.out.keep kx (by simp)
    have y1 := c9r.cell 1
    simp only [List.getElem?_cons_zero, List.getElem?_cons_succ] at y1
    have HX := hid (And.intro kx (And.intro hcx (And.intro sx fx)))
    clear kx sx fx kw c9r
    cases gk with
    | zero =>
      obtain rfl : nk = i := by omega
      go_wp2_with fail
      go_ret
      obtain ⟨kx, hcx, sx, fx⟩ := HX.out
      rw [List.take_of_length_le (by rw [← HNK.out.2, ← HNK.out.1]; exact Nat.le_refl _)] at fx
      exact ⟨⟨A, c, B', rfl, hcx, sx, fx⟩, H2.out.2.2.2.2.2.2.1.nil kx⟩
    | succ gg =>
      obtain ⟨k', hk'⟩ : ∃ k', kids[i]? = some k' := ⟨_, List.getElem?_eq_getElem (by have := HNK.out.1; omega)⟩
      obtain ⟨r', hr'⟩ : ∃ r', rs[i]? = some r' := ⟨_, List.getElem?_eq_getElem (by have := HNK.out.1; have := HNK.out.2; omega)⟩
      obtain ⟨ka, rfl, ky⟩ := (HS1.out.kept HX.out.1) i (.int .i64 (k' : Int)) (by simp [ints, hk'])
      have hB' : B'.length = m := by rw [HX.out.2.2.2.1, HM.out.2.2, HM.out.2.1]
      have q := ih i k' r' hk' hr' wr (some ⟨pb, 0, none⟩) AS A cl cS c n sn m cs S B' (H2.out.1.kept HX.out.1) H2.out.2.1 (H2.out.2.2.1.kept HX.out.1) HM.out.1 hn5 (H2.out.2.2.2.1.kept HX.out.1) HM.out.2.1 hsn3 HM.out.2.2 HX.out.2.2.1 hB' HX.out.2.1
      have b0 : (i : Int) < (nk : Int) := by omega
      have b1 : decide ((i : Int) < (nk : Int)) = true := decide_eq_true b0
      have b2 : i < nk := by omega
      have b3 : decide (i < nk) = true := decide_eq_true b2
      have iw : IntKind.i64.wrap ((i : Int) + 1) = (i : Int) + 1 := IntWalk.i64_in _ (by omega)
      have HR := hid (And.intro hk' hr')
      clear hk' hr' hB'
      go_wp2_with fail
      (with_reducible refine q.mono ?_)
      clear q
      rintro e w3 ⟨⟨A3, c3, B3, rfl, hc3, s3, f3⟩, k3⟩
      have H3 := hid (And.intro f3 (And.intro k3 (And.intro s3 hc3)))
      clear f3 k3 s3 hc3
      go_wp2_with fail
      go_roundg gg
      case measure => omega
      case rel =>
        refine ⟨i + 1, A3, c3, B3, rfl, by omega, rfl, HX.out.1.nil H3.out.2.1, H3.out.2.2.2, H3.out.2.2.1, ?_⟩
        rw [List.take_add_one, HR.out.2, Option.toList_some, seqL_snoc]
        exact fromP_seq HX.out.2.2.2 H3.out.1
set_option maxRecDepth 100000 in
set_option maxHeartbeats 6400000 in
theorem from_alt {P : List Pt} {k : Nat} {kids : List Nat} {rs : List Re} (h : P[k]? = some ⟨97, kids, [], false⟩) (hl : kids.length = rs.length) (h0 : rs ≠ []) (ih : ∀ (i k' : Nat) (r' : Re), kids[i]? = some k' → rs[i]? = some r' → FromC P k' r') : FromC P k (altL rs) := by
  obtain ⟨nk, hnk⟩ : ∃ n, n = kids.length := ⟨_, rfl⟩
  intro w Al AS AB cl cS cB n sn m cs S B hs hA hP hn hn5 hS hsn hsn3 hm hB hBl hcB
  have hkn : k < P.length := (List.getElem?_eq_some_iff.1 h).1
  obtain ⟨A1, c1, A2, c2, hcell, s1, s2, hA2, l1, l2⟩ := hP.at h
  obtain ⟨pb, rfl, z0, z1, z2, z3⟩ := parts_cell hs hA hcell
  dsimp only at z0 z1 z2 z3 s1 s2 l1 l2
  rw [← hnk] at z1 l1
  simp only [List.length_nil] at z2
  have HNK := hid (And.intro hnk (And.intro hl h0))
  clear hnk hl h0
  have i0 : (k : Int) < (n : Int) := by omega
  have i1 : k < n := by omega
  have e4 : k * 4 = 4 * k := Nat.mul_comm _ _
  have hm1 : m ≤ 1001 := by omega
  have hm0 : 0 < m := by omega
  obtain ⟨g9, hg9⟩ : ∃ g, g = w.heap.size := ⟨_, rfl⟩
  obtain ⟨w1, hw1⟩ : ∃ w1, w1 = w.alloc (.cells #[.int .u8 97, .slice A1 nk c1, .slice A2 0 c2, .bool false] 63) := ⟨_, rfl⟩
  have k1 : Kp [] w w1 := by rw [hw1]; exact (Kp.refl _ _).alloc _
  have c9 : Cells w1 g9 63 [.int .u8 97, .slice A1 nk c1, .slice A2 0 c2, .bool false] := by rw [hw1, hg9]; exact Cells.fresh w 63 _
  have HM := hid (And.intro hn (And.intro hsn hm))
  have HO : Hid ((∀ ad, AB = some ad → ad.block < w.heap.size) ∧ (0 < S.length → ∀ ad, AS = some ad → ad.block < w.heap.size)) := hid ⟨hB.old (by unfold bools; rw [List.length_map]; omega), fun h0 => hS.old (by unfold ints; rw [List.length_map]; exact h0)⟩
  have H1 := hid (And.intro hs (And.intro hA (And.intro hP (And.intro hS (And.intro hB hBl)))))
  clear hs hA hP hS hB hBl hn hsn hm hcell hkn
  go_enter Try.func36, Try.ntmps36
  go_upto_region 2 with fail
  rw [← hw1, ← hg9]
  clear hw1 hg9 z0 z1 z2 z3
  go_wp2_with (at_make; go_must (refine wpList_make1 rfl _ _ 55 rfl 4 (.bool false) 1 Try.underlying55 boolInfo rfl .i64 .i64 (m : Int) (m : Int) m rfl rfl rfl rfl (by omega) (by omega) ?_))
  intro w2 Z hZ c10 k2
  obtain ⟨g10, hg10⟩ : ∃ g, g = w1.heap.size := ⟨_, rfl⟩
  rw [← hg10] at c10 ⊢
  have HGL : Hid (g9 < g10) := hid (by rw [hg10]; exact c9.lt)
  have c10 : Cells w2 g10 4 (bools (List.replicate m false)) := by
    have hc : Cells w2 g10 4 (List.replicate m (.bool false)) := by rw [← hZ.out]; exact c10
    simpa [bools] using hc
  have kw2 : Kp [] w w2 := k1.nil k2
  have c9 := c9.keep k2 (by simp)
  have y0 := c9.cell 0
  have y1 := c9.cell 1
  have y2 := c9.cell 2
  have y3 := c9.cell 3
  simp only [List.getElem?_cons_zero, List.getElem?_cons_succ] at y0 y1 y2 y3
  have s1 := s1.kept kw2
  have H2 : Hid (Span w2 (some ⟨pb, 0, none⟩) cs ∧ (∀ ad, some (⟨pb, 0, none⟩ : Addr) = some ad → ad = ⟨ad.block, 0, none⟩) ∧ PartsAt w2 (fun _ => False) P cs ∧ Span w2 AS (ints S) ∧ Span w2 AB (bools B) ∧ B.length = m ∧ Kp [] w w2 ∧ w.heap.size ≤ g10 ∧ Cells w2 g10 4 (bools (List.replicate m false))) := hid ⟨H1.out.1.kept kw2, H1.out.2.1, H1.out.2.2.1.kept kw2, H1.out.2.2.2.1.kept kw2, H1.out.2.2.2.2.1.kept kw2, H1.out.2.2.2.2.2, kw2, by rw [hg10]; exact k1.size, c10⟩
  have H9 := hid c9
  clear H1 hZ c10 k1 k2 kw2 hg10 c9
  have HS1 := hid s1
  clear s1
  go_wp2_with fail
  go_loopg [10, 11] nk (fun gg v10 v11 wx => ∃ (i : Nat) (A : Option Addr) (c : Nat) (B' : List Bool), v11 = .int .i64 (i : Int) ∧ i + gg = nk ∧ v10 = .slice A m c ∧ Kp [] w2 wx ∧ m ≤ c ∧ Span wx A (bools B') ∧ (B'.length = m ∧ ((i = 0 ∧ B' = List.replicate m false) ∨ (0 < i ∧ FromP S (altL (rs.take i)) B B'))))
  case atStart => exact ⟨0, _, _, List.replicate m false, rfl, by omega, rfl, Kp.refl _ _, Nat.le_refl _, Span.of_cells H2.out.2.2.2.2.2.2.2.2, List.length_replicate, .inl ⟨rfl, rfl⟩⟩
  case round =>
    obtain ⟨i, A, c, B', rfl, hig, rfl, kx, hcx, sx, fx⟩ := hrel
    have kw : Kp [] w2 wr := kx
    have c9r := H9.out.keep kx (by simp)
    have y1 := c9r.cell 1
    simp only [List.getElem?_cons_zero, List.getElem?_cons_succ] at y1
    have HX := hid (And.intro kx (And.intro hcx (And.intro sx fx)))
    clear kx sx fx kw c9r
    cases gk with
    | zero =>
      obtain rfl : nk = i := by omega
      go_wp2_with fail
      go_ret
      obtain ⟨kx, hcx, sx, -, fx⟩ := HX.out
      have hpos : 0 < nk := by rw [HNK.out.1, HNK.out.2.1]; exact List.length_pos_iff.2 HNK.out.2.2
      rcases fx with ⟨e, -⟩ | ⟨-, fx⟩
      · omega
      · rw [List.take_of_length_le (by rw [← HNK.out.2.1, ← HNK.out.1]; exact Nat.le_refl _)] at fx
        exact ⟨⟨A, c, B', rfl, hcx, sx, fx⟩, H2.out.2.2.2.2.2.2.1.nil kx⟩
    | succ gg =>
      obtain ⟨k', hk'⟩ : ∃ k', kids[i]? = some k' := ⟨_, List.getElem?_eq_getElem (by have := HNK.out.1; omega)⟩
      obtain ⟨r', hr'⟩ : ∃ r', rs[i]? = some r' := ⟨_, List.getElem?_eq_getElem (by have := HNK.out.1; have := HNK.out.2.1; omega)⟩
      obtain ⟨ka, rfl, ky⟩ := (HS1.out.kept HX.out.1) i (.int .i64 (k' : Int)) (by simp [ints, hk'])
      have q := ih i k' r' hk' hr' wr (some ⟨pb, 0, none⟩) AS AB cl cS cB n sn m cs S B (H2.out.1.kept HX.out.1) H2.out.2.1 (H2.out.2.2.1.kept HX.out.1) HM.out.1 hn5 (H2.out.2.2.2.1.kept HX.out.1) HM.out.2.1 hsn3 HM.out.2.2 (H2.out.2.2.2.2.1.kept HX.out.1) H2.out.2.2.2.2.2.1 hcB
      have b0 : (i : Int) < (nk : Int) := by omega
      have b1 : decide ((i : Int) < (nk : Int)) = true := decide_eq_true b0
      have b2 : i < nk := by omega
      have b3 : decide (i < nk) = true := decide_eq_true b2
      have iw : IntKind.i64.wrap ((i : Int) + 1) = (i : Int) + 1 := IntWalk.i64_in _ (by omega)
      have HR := hid (And.intro hk' hr')
      clear hk' hr'
      go_wp2_with fail
      (with_reducible refine q.mono ?_)
      clear q
      rintro e w3 ⟨⟨A3, c3, B3, rfl, hc3, s3, f3⟩, k3⟩
      have hB3 : B3.length = m := by rw [f3.1, HM.out.2.2, HM.out.2.1]
      have q := union_any w3 m (by omega) B' B3 HX.out.2.2.2.1 hB3 A A3 c c3 (HX.out.2.2.1.kept k3) s3 HX.out.2.1 hc3
      have H3 := hid (And.intro f3 (And.intro k3 hB3))
      clear f3 k3 s3 hB3
      go_wp2_with fail
      (with_reducible refine q.mono ?_)
      clear q
      rintro e w4 ⟨⟨g4, rfl, c4⟩, k4⟩
      have H4 := hid (And.intro c4 k4)
      clear c4 k4
      go_wp2_with fail
      go_roundg gg
      case measure => omega
      case rel =>
        refine ⟨i + 1, _, _, orL B' B3, rfl, by omega, rfl, (HX.out.1.nil H3.out.2.1).nil H4.out.2, Nat.le_refl _, Span.of_cells H4.out.1, by rw [orL_len (by rw [HX.out.2.2.2.1, H3.out.2.2]), HX.out.2.2.2.1], .inr ⟨by omega, ?_⟩⟩
        rw [List.take_add_one, HR.out.2, Option.toList_some]
        rcases HX.out.2.2.2.2 with ⟨e0, eB⟩ | ⟨e0, fB⟩
        · subst e0
          rw [eB, orL_none H3.out.2.2]
          exact H3.out.1
        · rw [altL_snoc (by intro hn; have := congrArg List.length hn; rw [List.length_take, List.length_nil] at this; have := HNK.out.1; have := HNK.out.2.1; omega)]
          exact fromP_alt fB H3.out.1
set_option maxRecDepth 100000 in
set_option maxHeartbeats 6400000 in
theorem from_star {P : List Pt} {k k' : Nat} {r : Re} (h : P[k]? = some ⟨42, [k'], [], false⟩) (ih : FromC P k' r) : FromC P k (.star r) := by
  intro w Al AS AB cl cS cB n sn m cs S B hs hA hP hn hn5 hS hsn hsn3 hm hB hBl hcB
  have hkn : k < P.length := (List.getElem?_eq_some_iff.1 h).1
  obtain ⟨A1, c1, A2, c2, hcell, s1, s2, hA2, l1, l2⟩ := hP.at h
  obtain ⟨pb, rfl, z0, z1, z2, z3⟩ := parts_cell hs hA hcell
  dsimp only at z0 z1 z2 z3 s1 s2 l1 l2
  simp only [List.length_cons, List.length_nil] at z1 z2
  have i0 : (k : Int) < (n : Int) := by omega
  have i1 : k < n := by omega
  have e4 : k * 4 = 4 * k := Nat.mul_comm _ _
  have hm1 : m ≤ 1001 := by omega
  have hm0 : 0 < m := by omega
  obtain ⟨g9, hg9⟩ : ∃ g, g = w.heap.size := ⟨_, rfl⟩
  obtain ⟨w1, hw1⟩ : ∃ w1, w1 = w.alloc (.cells #[.int .u8 42, .slice A1 1 c1, .slice A2 0 c2, .bool false] 63) := ⟨_, rfl⟩
  have k1 : Kp [] w w1 := by rw [hw1]; exact (Kp.refl _ _).alloc _
  have c9 : Cells w1 g9 63 [.int .u8 42, .slice A1 1 c1, .slice A2 0 c2, .bool false] := by rw [hw1, hg9]; exact Cells.fresh w 63 _
  have HM := hid (And.intro hn (And.intro hsn hm))
  have HO : Hid ((∀ ad, AB = some ad → ad.block < w.heap.size) ∧ (0 < S.length → ∀ ad, AS = some ad → ad.block < w.heap.size)) := hid ⟨hB.old (by unfold bools; rw [List.length_map]; omega), fun h0 => hS.old (by unfold ints; rw [List.length_map]; exact h0)⟩
  have H1 := hid (And.intro hs (And.intro hA (And.intro hP (And.intro hS (And.intro hB hBl)))))
  clear hs hA hP hS hB hBl hn hsn hm hcell hkn
  go_enter Try.func36, Try.ntmps36
  go_upto_region 2 with fail
  rw [← hw1, ← hg9]
  clear hw1 hg9 z0 z1 z2 z3
  go_wp2_with (at_make; go_must (refine wpList_make1 rfl _ _ 55 rfl 4 (.bool false) 1 Try.underlying55 boolInfo rfl .i64 .i64 (m : Int) (m : Int) m rfl rfl rfl rfl (by omega) (by omega) ?_))
  intro w2 Z hZ c10 k2
  obtain ⟨g10, hg10⟩ : ∃ g, g = w1.heap.size := ⟨_, rfl⟩
  rw [← hg10] at c10 ⊢
  have HGL : Hid (g9 < g10) := hid (by rw [hg10]; exact c9.lt)
  have c10 : Cells w2 g10 4 (bools (List.replicate m false)) := by
    have hc : Cells w2 g10 4 (List.replicate m (.bool false)) := by rw [← hZ.out]; exact c10
    simpa [bools] using hc
  have kw2 : Kp [] w w2 := k1.nil k2
  have c9 := c9.keep k2 (by simp)
  have y0 := c9.cell 0
  have y1 := c9.cell 1
  have y2 := c9.cell 2
  have y3 := c9.cell 3
  simp only [List.getElem?_cons_zero, List.getElem?_cons_succ] at y0 y1 y2 y3
  have s1 := s1.kept kw2
  have H2 : Hid (Span w2 (some ⟨pb, 0, none⟩) cs ∧ (∀ ad, some (⟨pb, 0, none⟩ : Addr) = some ad → ad = ⟨ad.block, 0, none⟩) ∧ PartsAt w2 (fun _ => False) P cs ∧ Span w2 AS (ints S) ∧ Span w2 AB (bools B) ∧ B.length = m ∧ Kp [] w w2 ∧ w.heap.size ≤ g10 ∧ Cells w2 g10 4 (bools (List.replicate m false))) := hid ⟨H1.out.1.kept kw2, H1.out.2.1, H1.out.2.2.1.kept kw2, H1.out.2.2.2.1.kept kw2, H1.out.2.2.2.2.1.kept kw2, H1.out.2.2.2.2.2, kw2, by rw [hg10]; exact k1.size, c10⟩
  have H9 := hid c9
  clear H1 hZ c10 k1 k2 kw2 hg10 c9
  obtain ⟨ka, rfl, ky⟩ := s1 0 (.int .i64 (k' : Int)) rfl
  have ky0 : w2.cell? ka = some (.int .i64 (k' : Int)) := by
    have e : ka.add 0 = ka := rfl
    rw [e] at ky; exact ky
  have HK := hid (And.intro ky0 s1)
  clear s1
  have q := ih w2 (some ⟨pb, 0, none⟩) AS AB cl cS cB n sn m cs S B H2.out.1 H2.out.2.1 H2.out.2.2.1 HM.out.1 hn5 H2.out.2.2.2.1 HM.out.2.1 hsn3 HM.out.2.2 H2.out.2.2.2.2.1 H2.out.2.2.2.2.2.1 hcB
  go_wp2_with fail
  (with_reducible refine q.mono ?_)
  clear q
  rintro e w3 ⟨⟨A3, c3, B3, rfl, hc3, s3, f3⟩, k3⟩
  have c9r := H9.out.keep k3 (by simp)
  have y0 := c9r.cell 0
  simp only [List.getElem?_cons_zero] at y0
  have H3 := hid (And.intro f3 (And.intro k3 (And.intro s3 hc3)))
  clear f3 k3 s3 hc3 c9r
  go_wp2_with fail
  go_loopg [10, 13] m (fun gg v10 v13 wx => ∃ (A A' : Option Addr) (c c' : Nat) (out more : List Bool), v10 = .slice A m c ∧ v13 = .slice A' m c' ∧ restB out ≤ gg ∧ Kp [] w2 wx ∧ m ≤ c ∧ m ≤ c' ∧ Span wx A (bools out) ∧ Span wx A' (bools more) ∧ LoopI S r (.star r) B out more ∧ (∀ j : Nat, B[j]? = some true → out[j]? = some true))
  case atStart =>
    have hBm : B.length = S.length + 1 := by rw [H2.out.2.2.2.2.2.1, HM.out.2.2, HM.out.2.1]
    exact ⟨AB, A3, cB, c3, B, B3, rfl, rfl, by have := List.countP_le_length (p := fun b : Bool => !b) (l := B); have := H2.out.2.2.2.2.2.1; unfold restB; omega, H3.out.2.1, hcB, H3.out.2.2.2, H2.out.2.2.2.2.1.kept H3.out.2.1, H3.out.2.2.1, loop_star hBm H3.out.1, fun j hj => hj⟩
  case round =>
    obtain ⟨A, A', c, c', out, more, rfl, rfl, hrest, kx, hc, hc', so, sm, hI, hB0⟩ := hrel
    have ho : out.length = m := by rw [hI.lo, HM.out.2.2, HM.out.2.1]
    have hmm : more.length = m := by rw [hI.lm, HM.out.2.2, HM.out.2.1]
    have q := some_any wr m (by omega) more out hmm ho A' A c' c sm so
    have c9r := H9.out.keep kx (by simp)
    have y1 := c9r.cell 1
    simp only [List.getElem?_cons_zero, List.getElem?_cons_succ] at y1
    have ky := kx.cell HK.out.1 (by simp)
    obtain ⟨nb, hnb⟩ : ∃ b, b = newB more out := ⟨_, rfl⟩
    rw [← hnb] at q
    have HX := hid (And.intro kx (And.intro so (And.intro sm (And.intro hI (And.intro ho (And.intro hmm (And.intro hnb hrest)))))))
    have HB0 := hid hB0
    clear hB0
    clear kx so sm hI ho hmm hnb c9r hrest
    go_wp2_with fail
    (with_reducible refine q.mono ?_)
    clear q
    rintro e w4 ⟨rfl, hw⟩
    rw [hw]
    clear hw
    cases nb with
    | false =>
      go_wp2_with fail
      go_ret
      exact ⟨⟨A, c, out, rfl, hc, HX.out.2.1, loop_end_star HX.out.2.2.2.1 HB0.out HX.out.2.2.2.2.2.2.1.symm⟩, H2.out.2.2.2.2.2.2.1.nil HX.out.1⟩
    | true =>
      have q := union_any wr m (by omega) out more HX.out.2.2.2.2.1 HX.out.2.2.2.2.2.1 A A' c c' HX.out.2.1 HX.out.2.2.1 hc hc'
      go_wp2_with fail
      (with_reducible refine q.mono ?_)
      clear q
      rintro e w5 ⟨⟨g5, rfl, c5⟩, k5⟩
      have kx5 := HX.out.1.nil k5
      have q := ih w5 (some ⟨pb, 0, none⟩) AS A' cl cS c' n sn m cs S more (H2.out.1.kept kx5) H2.out.2.1 (H2.out.2.2.1.kept kx5) HM.out.1 hn5 (H2.out.2.2.2.1.kept kx5) HM.out.2.1 hsn3 HM.out.2.2 (HX.out.2.2.1.kept k5) HX.out.2.2.2.2.2.1 hc'
      have c9r := H9.out.keep kx5 (by simp)
      have y1 := c9r.cell 1
      simp only [List.getElem?_cons_zero, List.getElem?_cons_succ] at y1
      have ky := kx5.cell HK.out.1 (by simp)
      have H5 := hid (And.intro kx5 c5)
      clear k5 kx5 c5 c9r
      go_wp2_with fail
      (with_reducible refine q.mono ?_)
      clear q
      rintro e w6 ⟨⟨A6, c6, B6, rfl, hc6, s6, f6⟩, k6⟩
      have hlt := rest_less (by rw [HX.out.2.2.2.2.1, HX.out.2.2.2.2.2.1]) HX.out.2.2.2.2.2.2.1.symm
      have hrest := HX.out.2.2.2.2.2.2.2
      have H6 := hid (And.intro k6 (And.intro s6 f6))
      clear k6 s6 f6
      go_wp2_with fail
      go_roundg (gk - 1)
      case measure => omega
      case rel =>
        exact ⟨_, A6, _, c6, orL out more, B6, rfl, rfl, by omega, H5.out.1.nil H6.out.1, Nat.le_refl _, hc6, (Span.of_cells H5.out.2).kept H6.out.1, H6.out.2.1, loop_step (.inl rfl) HX.out.2.2.2.1 H6.out.2.2, fun j hj => (orL_true (by rw [HX.out.2.2.2.2.1, HX.out.2.2.2.2.2.1]) j).2 (.inl (HB0.out j hj))⟩
set_option maxRecDepth 100000 in
set_option maxHeartbeats 6400000 in
theorem from_plus {P : List Pt} {k k' : Nat} {r : Re} (h : P[k]? = some ⟨43, [k'], [], false⟩) (ih : FromC P k' r) : FromC P k (.plus r) := by
  intro w Al AS AB cl cS cB n sn m cs S B hs hA hP hn hn5 hS hsn hsn3 hm hB hBl hcB
  have hkn : k < P.length := (List.getElem?_eq_some_iff.1 h).1
  obtain ⟨A1, c1, A2, c2, hcell, s1, s2, hA2, l1, l2⟩ := hP.at h
  obtain ⟨pb, rfl, z0, z1, z2, z3⟩ := parts_cell hs hA hcell
  dsimp only at z0 z1 z2 z3 s1 s2 l1 l2
  simp only [List.length_cons, List.length_nil] at z1 z2
  have i0 : (k : Int) < (n : Int) := by omega
  have i1 : k < n := by omega
  have e4 : k * 4 = 4 * k := Nat.mul_comm _ _
  have hm1 : m ≤ 1001 := by omega
  have hm0 : 0 < m := by omega
  obtain ⟨g9, hg9⟩ : ∃ g, g = w.heap.size := ⟨_, rfl⟩
  obtain ⟨w1, hw1⟩ : ∃ w1, w1 = w.alloc (.cells #[.int .u8 43, .slice A1 1 c1, .slice A2 0 c2, .bool false] 63) := ⟨_, rfl⟩
  have k1 : Kp [] w w1 := by rw [hw1]; exact (Kp.refl _ _).alloc _
  have c9 : Cells w1 g9 63 [.int .u8 43, .slice A1 1 c1, .slice A2 0 c2, .bool false] := by rw [hw1, hg9]; exact Cells.fresh w 63 _
  have HM := hid (And.intro hn (And.intro hsn hm))
  have HO : Hid ((∀ ad, AB = some ad → ad.block < w.heap.size) ∧ (0 < S.length → ∀ ad, AS = some ad → ad.block < w.heap.size)) := hid ⟨hB.old (by unfold bools; rw [List.length_map]; omega), fun h0 => hS.old (by unfold ints; rw [List.length_map]; exact h0)⟩
  have H1 := hid (And.intro hs (And.intro hA (And.intro hP (And.intro hS (And.intro hB hBl)))))
  clear hs hA hP hS hB hBl hn hsn hm hcell hkn
  go_enter Try.func36, Try.ntmps36
  go_upto_region 2 with fail
  rw [← hw1, ← hg9]
  clear hw1 hg9 z0 z1 z2 z3
  go_wp2_with (at_make; go_must (refine wpList_make1 rfl _ _ 55 rfl 4 (.bool false) 1 Try.underlying55 boolInfo rfl .i64 .i64 (m : Int) (m : Int) m rfl rfl rfl rfl (by omega) (by omega) ?_))
  intro w2 Z hZ c10 k2
  obtain ⟨g10, hg10⟩ : ∃ g, g = w1.heap.size := ⟨_, rfl⟩
  rw [← hg10] at c10 ⊢
  have HGL : Hid (g9 < g10) := hid (by rw [hg10]; exact c9.lt)
  have c10 : Cells w2 g10 4 (bools (List.replicate m false)) := by
    have hc : Cells w2 g10 4 (List.replicate m (.bool false)) := by rw [← hZ.out]; exact c10
    simpa [bools] using hc
  have kw2 : Kp [] w w2 := k1.nil k2
  have c9 := c9.keep k2 (by simp)
  have y0 := c9.cell 0
  have y1 := c9.cell 1
  have y2 := c9.cell 2
  have y3 := c9.cell 3
  simp only [List.getElem?_cons_zero, List.getElem?_cons_succ] at y0 y1 y2 y3
  have s1 := s1.kept kw2
  have H2 : Hid (Span w2 (some ⟨pb, 0, none⟩) cs ∧ (∀ ad, some (⟨pb, 0, none⟩ : Addr) = some ad → ad = ⟨ad.block, 0, none⟩) ∧ PartsAt w2 (fun _ => False) P cs ∧ Span w2 AS (ints S) ∧ Span w2 AB (bools B) ∧ B.length = m ∧ Kp [] w w2 ∧ w.heap.size ≤ g10 ∧ Cells w2 g10 4 (bools (List.replicate m false))) := hid ⟨H1.out.1.kept kw2, H1.out.2.1, H1.out.2.2.1.kept kw2, H1.out.2.2.2.1.kept kw2, H1.out.2.2.2.2.1.kept kw2, H1.out.2.2.2.2.2, kw2, by rw [hg10]; exact k1.size, c10⟩
  have H9 := hid c9
  clear H1 hZ c10 k1 k2 kw2 hg10 c9
  obtain ⟨ka, rfl, ky⟩ := s1 0 (.int .i64 (k' : Int)) rfl
  have ky0 : w2.cell? ka = some (.int .i64 (k' : Int)) := by
    have e : ka.add 0 = ka := rfl
    rw [e] at ky; exact ky
  have HK := hid (And.intro ky0 s1)
  clear s1
  have q := ih w2 (some ⟨pb, 0, none⟩) AS AB cl cS cB n sn m cs S B H2.out.1 H2.out.2.1 H2.out.2.2.1 HM.out.1 hn5 H2.out.2.2.2.1 HM.out.2.1 hsn3 HM.out.2.2 H2.out.2.2.2.2.1 H2.out.2.2.2.2.2.1 hcB
  go_wp2_with fail
  (with_reducible refine q.mono ?_)
  clear q
  rintro e w3 ⟨⟨A3, c3, B3, rfl, hc3, s3, f3⟩, k3⟩
  have c9r := H9.out.keep k3 (by simp)
  have y0 := c9r.cell 0
  simp only [List.getElem?_cons_zero] at y0
  have H3 := hid (And.intro f3 (And.intro k3 (And.intro s3 hc3)))
  clear f3 k3 s3 hc3 c9r
  go_wp2_with fail
  go_loopg [10, 13] m (fun gg v10 v13 wx => ∃ (A A' : Option Addr) (c c' : Nat) (out more : List Bool), v10 = .slice A m c ∧ v13 = .slice A' m c' ∧ restB out ≤ gg ∧ Kp [] w2 wx ∧ m ≤ c ∧ m ≤ c' ∧ Span wx A (bools out) ∧ Span wx A' (bools more) ∧ LoopI S r (.plus r) B out more)
  case atStart =>
    have hBm : B.length = S.length + 1 := by rw [H2.out.2.2.2.2.2.1, HM.out.2.2, HM.out.2.1]
    have hms : m = S.length + 1 := by rw [HM.out.2.2, HM.out.2.1]
    exact ⟨_, A3, _, c3, List.replicate m false, B3, rfl, rfl, by have := List.countP_le_length (p := fun b : Bool => !b) (l := List.replicate m false); rw [List.length_replicate] at this; unfold restB; omega, H3.out.2.1, Nat.le_refl _, H3.out.2.2.2, (Span.of_cells H2.out.2.2.2.2.2.2.2.2).kept H3.out.2.1, H3.out.2.2.1, by have := loop_plus H3.out.1; rw [← hms] at this; exact this⟩
  case round =>
    obtain ⟨A, A', c, c', out, more, rfl, rfl, hrest, kx, hc, hc', so, sm, hI⟩ := hrel
    have ho : out.length = m := by rw [hI.lo, HM.out.2.2, HM.out.2.1]
    have hmm : more.length = m := by rw [hI.lm, HM.out.2.2, HM.out.2.1]
    have q := some_any wr m (by omega) more out hmm ho A' A c' c sm so
    have c9r := H9.out.keep kx (by simp)
    have y1 := c9r.cell 1
    simp only [List.getElem?_cons_zero, List.getElem?_cons_succ] at y1
    have ky := kx.cell HK.out.1 (by simp)
    obtain ⟨nb, hnb⟩ : ∃ b, b = newB more out := ⟨_, rfl⟩
    rw [← hnb] at q
    have HX := hid (And.intro kx (And.intro so (And.intro sm (And.intro hI (And.intro ho (And.intro hmm (And.intro hnb hrest)))))))
    clear kx so sm hI ho hmm hnb c9r hrest
    go_wp2_with fail
    (with_reducible refine q.mono ?_)
    clear q
    rintro e w4 ⟨rfl, hw⟩
    rw [hw]
    clear hw
    cases nb with
    | false =>
      go_wp2_with fail
      go_ret
      exact ⟨⟨A, c, out, rfl, hc, HX.out.2.1, loop_end_plus HX.out.2.2.2.1 HX.out.2.2.2.2.2.2.1.symm⟩, H2.out.2.2.2.2.2.2.1.nil HX.out.1⟩
    | true =>
      have q := union_any wr m (by omega) out more HX.out.2.2.2.2.1 HX.out.2.2.2.2.2.1 A A' c c' HX.out.2.1 HX.out.2.2.1 hc hc'
      go_wp2_with fail
      (with_reducible refine q.mono ?_)
      clear q
      rintro e w5 ⟨⟨g5, rfl, c5⟩, k5⟩
      have kx5 := HX.out.1.nil k5
      have q := ih w5 (some ⟨pb, 0, none⟩) AS A' cl cS c' n sn m cs S more (H2.out.1.kept kx5) H2.out.2.1 (H2.out.2.2.1.kept kx5) HM.out.1 hn5 (H2.out.2.2.2.1.kept kx5) HM.out.2.1 hsn3 HM.out.2.2 (HX.out.2.2.1.kept k5) HX.out.2.2.2.2.2.1 hc'
      have c9r := H9.out.keep kx5 (by simp)
      have y1 := c9r.cell 1
      simp only [List.getElem?_cons_zero, List.getElem?_cons_succ] at y1
      have ky := kx5.cell HK.out.1 (by simp)
      have H5 := hid (And.intro kx5 c5)
      clear k5 kx5 c5 c9r
      go_wp2_with fail
      (with_reducible refine q.mono ?_)
      clear q
      rintro e w6 ⟨⟨A6, c6, B6, rfl, hc6, s6, f6⟩, k6⟩
      have hlt := rest_less (by rw [HX.out.2.2.2.2.1, HX.out.2.2.2.2.2.1]) HX.out.2.2.2.2.2.2.1.symm
      have hrest := HX.out.2.2.2.2.2.2.2
      have H6 := hid (And.intro k6 (And.intro s6 f6))
      clear k6 s6 f6
      go_wp2_with fail
      go_roundg (gk - 1)
      case measure => omega
      case rel =>
        exact ⟨_, A6, _, c6, orL out more, B6, rfl, rfl, by omega, H5.out.1.nil H6.out.1, Nat.le_refl _, hc6, (Span.of_cells H5.out.2).kept H6.out.1, H6.out.2.1, loop_step (.inr rfl) HX.out.2.2.2.1 H6.out.2.2⟩
/-- Places reached from those before i. -/
def FromI (S : List Nat) (r : Re) (B : List Bool) (i : Nat) (out : List Bool) : Prop := out.length = S.length + 1 ∧ ∀ j : Nat, out[j]? = some true ↔ ∃ i' : Nat, i' < i ∧ B[i']? = some true ∧ Mt S r i' j
section
variable {S : List Nat} {r : Re} {B out : List Bool} {i : Nat}
theorem fromI_zero (n : Nat) (hn : n = S.length + 1) : FromI S r B 0 (List.replicate n false) := ⟨by rw [List.length_replicate, hn], fun j => ⟨fun h => absurd h (fromP_none _ j), fun ⟨i', h, _⟩ => absurd h (Nat.not_lt_zero _)⟩⟩
theorem fromI_end (h : FromI S r B i out) (hi : B.length ≤ i) : FromP S r B out := ⟨h.1, fun j => by
  rw [h.2]
  exact ⟨fun ⟨i', _, h2, h3⟩ => ⟨i', h2, h3⟩, fun ⟨i', h2, h3⟩ => ⟨i', by have := (List.getElem?_eq_some_iff.1 h2).1; omega, h2, h3⟩⟩⟩
theorem fromI_skip (h : FromI S r B i out) (hn : B[i]? = some true → ∀ j, ¬ Mt S r i j) : FromI S r B (i + 1) out := ⟨h.1, fun j => by
  rw [h.2]
  constructor
  · rintro ⟨i', h1, h2, h3⟩
    exact ⟨i', by omega, h2, h3⟩
  · rintro ⟨i', h1, h2, h3⟩
    rcases Nat.lt_or_ge i' i with h4 | h4
    · exact ⟨i', h4, h2, h3⟩
    · obtain rfl : i' = i := by omega
      exact absurd h3 (hn h2 j)⟩
theorem fromI_hit (h : FromI S r B i out) {j0 : Nat} (hb : B[i]? = some true) (hm : ∀ j, Mt S r i j ↔ j = j0) (hj : j0 ≤ S.length) : FromI S r B (i + 1) (out.set j0 true) := ⟨by rw [List.length_set]; exact h.1, fun j => by
  rw [List.getElem?_set]
  by_cases e : j0 = j
  · subst e
    rw [if_pos rfl, if_pos (by rw [h.1]; omega)]
    exact ⟨fun _ => ⟨i, by omega, hb, (hm _).2 rfl⟩, fun _ => rfl⟩
  · rw [if_neg e, h.2]
    constructor
    · rintro ⟨i', h1, h2, h3⟩
      exact ⟨i', by omega, h2, h3⟩
    · rintro ⟨i', h1, h2, h3⟩
      rcases Nat.lt_or_ge i' i with h4 | h4
      · exact ⟨i', h4, h2, h3⟩
      · obtain rfl : i' = i := by omega
        exact absurd ((hm j).1 h3).symm e⟩
/-- A place that is itself or nothing: no other one came there before. -/
theorem fromI_same (h : FromI S r B i out) (hs : ∀ i' j, Mt S r i' j → j = i') (hi : i < out.length) : out.set i false = out := by
  have h1 : out[i]? = some false := by
    obtain ⟨b, hb⟩ : ∃ b, out[i]? = some b := ⟨_, List.getElem?_eq_getElem hi⟩
    cases b
    · exact hb
    · obtain ⟨i', h2, _, h3⟩ := (h.2 i).1 hb
      have := hs _ _ h3
      omega
  refine List.ext_getElem? fun j => ?_
  rw [List.getElem?_set]
  by_cases e : i = j
  · subst e; rw [if_pos rfl, if_pos hi, h1]
  · rw [if_neg e]
end
set_option maxRecDepth 100000 in
set_option maxHeartbeats 12800000 in
theorem from_cls {P : List Pt} {k : Nat} {items : List (Int × Int)} {neg : Bool} {f : Nat → Bool} (h : P[k]? = some ⟨99, [], items, neg⟩) (hf : ∀ c : Nat, f c = holdB 99 items neg (c : Int)) : FromC P k (.cls f) := by
  intro w Al AS AB cl cS cB n sn m cs S B hs hA hP hn hn5 hS hsn hsn3 hm hB hBl hcB
  have hkn : k < P.length := (List.getElem?_eq_some_iff.1 h).1
  obtain ⟨A1, c1, A2, c2, hcell, s1, s2, hA2, l1, l2⟩ := hP.at h
  obtain ⟨pb, rfl, z0, z1, z2, z3⟩ := parts_cell hs hA hcell
  dsimp only at z0 z1 z2 z3 s1 s2 l1 l2
  obtain ⟨nn, hnn⟩ : ∃ n, n = items.length := ⟨_, rfl⟩
  rw [← hnn] at z2 l2
  simp only [List.length_nil] at z1
  have HNN := hid hnn
  clear hnn
  have i0 : (k : Int) < (n : Int) := by omega
  have i1 : k < n := by omega
  have e4 : k * 4 = 4 * k := Nat.mul_comm _ _
  have hm1 : m ≤ 1001 := by omega
  have hm0 : 0 < m := by omega
  obtain ⟨g9, hg9⟩ : ∃ g, g = w.heap.size := ⟨_, rfl⟩
  obtain ⟨w1, hw1⟩ : ∃ w1, w1 = w.alloc (.cells #[.int .u8 99, .slice A1 0 c1, .slice A2 nn c2, .bool neg] 63) := ⟨_, rfl⟩
  have k1 : Kp [] w w1 := by rw [hw1]; exact (Kp.refl _ _).alloc _
  have c9 : Cells w1 g9 63 [.int .u8 99, .slice A1 0 c1, .slice A2 nn c2, .bool neg] := by rw [hw1, hg9]; exact Cells.fresh w 63 _
  have HM := hid (And.intro hn (And.intro hsn hm))
  have HO : Hid ((∀ ad, AB = some ad → ad.block < w.heap.size) ∧ (0 < S.length → ∀ ad, AS = some ad → ad.block < w.heap.size)) := hid ⟨hB.old (by unfold bools; rw [List.length_map]; omega), fun h0 => hS.old (by unfold ints; rw [List.length_map]; exact h0)⟩
  have H1 := hid (And.intro hs (And.intro hA (And.intro hP (And.intro hS (And.intro hB hBl)))))
  clear hs hA hP hS hB hBl hn hsn hm hcell hkn
  go_enter Try.func36, Try.ntmps36
  go_upto_region 2 with fail
  rw [← hw1, ← hg9]
  clear hw1 hg9 z0 z1 z2 z3
  go_wp2_with (at_make; go_must (refine wpList_make1 rfl _ _ 55 rfl 4 (.bool false) 1 Try.underlying55 boolInfo rfl .i64 .i64 (m : Int) (m : Int) m rfl rfl rfl rfl (by omega) (by omega) ?_))
  intro w2 Z hZ c10 k2
  obtain ⟨g10, hg10⟩ : ∃ g, g = w1.heap.size := ⟨_, rfl⟩
  rw [← hg10] at c10 ⊢
  have HGL : Hid (g9 < g10) := hid (by rw [hg10]; exact c9.lt)
  have c10 : Cells w2 g10 4 (bools (List.replicate m false)) := by
    have hc : Cells w2 g10 4 (List.replicate m (.bool false)) := by rw [← hZ.out]; exact c10
    simpa [bools] using hc
  have kw2 : Kp [] w w2 := k1.nil k2
  have c9 := c9.keep k2 (by simp)
  have y0 := c9.cell 0
  have y1 := c9.cell 1
  have y2 := c9.cell 2
  have y3 := c9.cell 3
  simp only [List.getElem?_cons_zero, List.getElem?_cons_succ] at y0 y1 y2 y3
  have s1 := s1.kept kw2
  have H2 : Hid (Span w2 (some ⟨pb, 0, none⟩) cs ∧ (∀ ad, some (⟨pb, 0, none⟩ : Addr) = some ad → ad = ⟨ad.block, 0, none⟩) ∧ PartsAt w2 (fun _ => False) P cs ∧ Span w2 AS (ints S) ∧ Span w2 AB (bools B) ∧ B.length = m ∧ Kp [] w w2 ∧ w.heap.size ≤ g10 ∧ Cells w2 g10 4 (bools (List.replicate m false))) := hid ⟨H1.out.1.kept kw2, H1.out.2.1, H1.out.2.2.1.kept kw2, H1.out.2.2.2.1.kept kw2, H1.out.2.2.2.2.1.kept kw2, H1.out.2.2.2.2.2, kw2, by rw [hg10]; exact k1.size, c10⟩
  have H9 := hid c9
  clear H1 hZ c10 k1 k2 kw2 hg10 c9
  have HG : Hid (g9 ≠ g10) := hid (fun e => by have h1 := HGL.out; omega)
  have HS2K := hid s2
  have HS2 := hid (And.intro True.intro hA2)
  have HSL := hid l2
  clear s1 s2 hA2
  have hAo := HO.out
  go_wp2_with fail
  go_loopg [14] m (fun gg v14 wx => ∃ (i : Nat) (out : List Bool), v14 = .int .i64 (i : Int) ∧ i + gg = m ∧ Kp [g10] w2 wx ∧ Cells wx g10 4 (bools out) ∧ FromI S (.cls f) B i out)
  case atStart => exact ⟨0, List.replicate m false, rfl, by omega, Kp.refl _ _, H2.out.2.2.2.2.2.2.2.2, fromI_zero m (by rw [HM.out.2.2, HM.out.2.1])⟩
  case round =>
    obtain ⟨i, out, rfl, hig, kx, cx, fI⟩ := hrel
    have hsm : m = sn + 1 := HM.out.2.2
    have HX := hid (And.intro kx (And.intro cx fI))
    cases gk with
    | zero =>
      have b0 : ¬ (i : Int) ≤ (sn : Int) := by omega
      have b1 : decide ((i : Int) ≤ (sn : Int)) = false := decide_eq_false b0
      have b2 : decide (i ≤ sn) = false := decide_eq_false (by omega)
      clear kx cx fI hsm hAo
      go_wp2_with fail
      go_ret
      have hend := fromI_end HX.out.2.2 (by rw [H2.out.2.2.2.2.2.1]; omega)
      exact ⟨⟨_, _, rfl, Nat.le_refl _, out, Span.of_cells HX.out.2.1, hend⟩, H2.out.2.2.2.2.2.2.1.fresh HX.out.1 H2.out.2.2.2.2.2.2.2.1⟩
    | succ gg =>
      have hg99 : g9 ≠ g10 := HG.out
      have c9r := H9.out.keep kx (by simpa using hg99)
      have y0 := c9r.cell 0
      have y1 := c9r.cell 1
      have y2 := c9r.cell 2
      have y3 := c9r.cell 3
      simp only [List.getElem?_cons_zero, List.getElem?_cons_succ] at y0 y1 y2 y3
      obtain ⟨b, hb⟩ : ∃ b, B[i]? = some b := ⟨_, List.getElem?_eq_getElem (by have := H2.out.2.2.2.2.2.1; omega)⟩
      have sBr := H2.out.2.2.2.2.1.keep kx (fun ad e hm => by have h1 := List.mem_singleton.1 hm; have := hAo.1 ad e; have := H2.out.2.2.2.2.2.2.2.1; omega)
      obtain ⟨ab, rfl, yb⟩ := sBr i _ (bools_at hb)
      have b0 : (i : Int) ≤ (sn : Int) := by omega
      have b1 : decide ((i : Int) ≤ (sn : Int)) = true := decide_eq_true b0
      have b2 : decide (i ≤ sn) = true := decide_eq_true (by omega)
      have b3 : (i : Int) < (m : Int) := by omega
      have b4 : i < m := by omega
      obtain ⟨i1, hi1⟩ : ∃ k, k = i + 1 := ⟨_, rfl⟩
      have iw : IntKind.i64.wrap ((i : Int) + 1) = (i1 : Int) := by rw [IntWalk.i64_in _ (by omega)]; omega
      have HB := hid (And.intro hb hi1)
      have HSR := hid sBr
      cases b with
      | false =>
        clear kx cx fI hsm c9r hb hi1 sBr hAo
        go_wp2_with fail
        go_roundg gg
        case measure => omega
        case rel => exact ⟨i1, out, rfl, by have := HB.out.2; omega, HX.out.1, HX.out.2.1, by rw [HB.out.2]; exact fromI_skip HX.out.2.2 (fun h => by rw [HB.out.1] at h; cases h)⟩
      | true =>
        by_cases hin : i < sn
        · obtain ⟨x, hx⟩ : ∃ x, S[i]? = some x := ⟨_, List.getElem?_eq_getElem (by have := HM.out.2.1; omega)⟩
          have sSr := H2.out.2.2.2.1.keep kx (fun ad e hm => by have h1 := List.mem_singleton.1 hm; have := hAo.2 (by have := HM.out.2.1; omega) ad e; have := H2.out.2.2.2.2.2.2.2.1; omega)
          obtain ⟨as_, rfl, ys⟩ := sSr i (.int .i64 (x : Int)) (by simp [ints, hx])
          obtain ⟨hd, hhd⟩ : ∃ b, b = holdB 99 items neg (x : Int) := ⟨_, rfl⟩
          have kk : Kp [] w wr := H2.out.2.2.2.2.2.2.1.fresh kx H2.out.2.2.2.2.2.2.2.1
          have HQ : Hid (∀ W', Kp [] wr W' → Calls Try.prog 45 #[.agg #[.int .u8 99, .slice A1 0 c1, .slice A2 nn c2, .bool neg], .int .i64 (x : Int)] W' fun e w' => e = .returned (.bool hd) ∧ Kp [] W' w') := hid (fun W' hW => by
            have h := holds_any W' 99 A1 A2 0 c1 c2 items neg (x : Int) ((HS2K.out.kept kk).kept hW) HS2.out.2 (by first | exact HSL.out | (rw [← HNN.out]; exact HSL.out) | exact Nat.zero_le _)
            rw [← hhd, ← HNN.out] at h
            exact h)
          have j0 : (i : Int) < (sn : Int) := by omega
          have j1 : decide ((i : Int) < (sn : Int)) = true := decide_eq_true j0
          have j2 : decide (i < sn) = true := decide_eq_true hin
          have HD := hid (And.intro hx (And.intro hhd (And.intro hin hsm)))
          clear sSr hx hhd kk kx cx fI hsm c9r hb hi1 sBr hAo hin
          go_upto_region 10 with fail
          refine lin_start (fun W' => Kp [] wr W') (Stays.kp _ _) (by kernel_rfl) (Kp.refl _ _).drew (fun hSS hS => ?_)
          refine lin_val (i := 0) (v := ?_) rfl (by kernel_rfl) (by kernel_rfl) (by kernel_rfl) (by kernel_rfl) (fun _ _ _ h => h) hSS hS rfl (fun W' hSw => ?_) ?_
          rotate_left
          · go_simp; first | done | with_reducible rfl
          try simp only [Act.put, List.setIfInBounds_toArray, List.set_cons_zero, List.set_cons_succ]
          refine lin_val (i := 1) (v := ?_) rfl (by kernel_rfl) (by kernel_rfl) (by kernel_rfl) (by kernel_rfl) (fun _ _ _ h => h) hSS hS rfl (fun W' hSw => ?_) ?_
          rotate_left
          · go_simp; first | done | with_reducible rfl
          try simp only [Act.put, List.setIfInBounds_toArray, List.set_cons_zero, List.set_cons_succ]
          refine lin_val (i := 2) (v := ?_) rfl (by kernel_rfl) (by kernel_rfl) (by kernel_rfl) (by kernel_rfl) (fun _ _ _ h => h) hSS hS rfl (fun W' hSw => ?_) ?_
          rotate_left
          · go_simp; first | done | with_reducible rfl
          try simp only [Act.put, List.setIfInBounds_toArray, List.set_cons_zero, List.set_cons_succ]
          refine lin_val (i := 3) (v := ?_) rfl (by kernel_rfl) (by kernel_rfl) (by kernel_rfl) (by kernel_rfl) (fun _ _ _ h => h) hSS hS rfl (fun W' hSw => ?_) ?_
          rotate_left
          · go_simp; first | done | with_reducible rfl
          try simp only [Act.put, List.setIfInBounds_toArray, List.set_cons_zero, List.set_cons_succ]
          refine lin_val (i := 4) (v := ?_) rfl (by kernel_rfl) (by kernel_rfl) (by kernel_rfl) (by kernel_rfl) (fun _ _ _ h => h) hSS hS rfl (fun W' hSw => ?_) ?_
          rotate_left
          · go_simp; first | done | with_reducible rfl
          try simp only [Act.put, List.setIfInBounds_toArray, List.set_cons_zero, List.set_cons_succ]
          refine lin_val (i := 5) (v := ?_) rfl (by kernel_rfl) (by kernel_rfl) (by kernel_rfl) (by kernel_rfl) (fun _ _ _ h => h) hSS hS rfl (fun W' hSw => ?_) ?_
          rotate_left
          · have y0 := hSw.cell y0 (by simp); have y1 := hSw.cell y1 (by simp); have y2 := hSw.cell y2 (by simp); have y3 := hSw.cell y3 (by simp); go_simp; first | done | with_reducible rfl
          try simp only [Act.put, List.setIfInBounds_toArray, List.set_cons_zero, List.set_cons_succ]
          refine lin_val (i := 6) (v := ?_) rfl (by kernel_rfl) (by kernel_rfl) (by kernel_rfl) (by kernel_rfl) (fun _ _ _ h => h) hSS hS rfl (fun W' hSw => ?_) ?_
          rotate_left
          · go_simp; first | done | with_reducible rfl
          try simp only [Act.put, List.setIfInBounds_toArray, List.set_cons_zero, List.set_cons_succ]
          refine lin_val (i := 7) (v := ?_) rfl (by kernel_rfl) (by kernel_rfl) (by kernel_rfl) (by kernel_rfl) (fun _ _ _ h => h) hSS hS rfl (fun W' hSw => ?_) ?_
          rotate_left
          · go_simp; first | done | with_reducible rfl
          try simp only [Act.put, List.setIfInBounds_toArray, List.set_cons_zero, List.set_cons_succ]
          refine lin_val (i := 8) (v := ?_) rfl (by kernel_rfl) (by kernel_rfl) (by kernel_rfl) (by kernel_rfl) (fun _ _ _ h => h) hSS hS rfl (fun W' hSw => ?_) ?_
          rotate_left
          · go_simp; first | done | with_reducible rfl
          try simp only [Act.put, List.setIfInBounds_toArray, List.set_cons_zero, List.set_cons_succ]
          refine lin_val (i := 9) (v := ?_) rfl (by kernel_rfl) (by kernel_rfl) (by kernel_rfl) (by kernel_rfl) (fun _ _ _ h => h) hSS hS rfl (fun W' hSw => ?_) ?_
          rotate_left
          · have ys := hSw.cell ys (by simp); go_simp; first | done | with_reducible rfl
          try simp only [Act.put, List.setIfInBounds_toArray, List.set_cons_zero, List.set_cons_succ]
          refine lin_call (i := 10) (v := .bool hd) (f := 45) (args := _) rfl (by kernel_rfl) (by kernel_rfl) (by kernel_rfl) (by kernel_rfl) (fun _ _ _ h => h) hSS hS rfl (fun W' hSw => HQ.out W' hSw) (fun W' hSw => ?_) ?_
          · go_simp
          try simp only [Act.put, List.setIfInBounds_toArray, List.set_cons_zero, List.set_cons_succ]
          refine lin_last (i := 11) (by kernel_rfl) rfl (by kernel_rfl) (fun wz kz K hK => ?_)
          have kz' : Kp [] wr wz := (Kp.refl _ _).drew.nil kz
          have HKZ := hid kz'
          clear kz kz' hS hSS
          go_simp
          refine hK.out _ _ ?_
          clear hK K
          have kz := HKZ.out
          have cz := HX.out.2.1.keep kz (by simp)
          have frz := cz.free i1
          have i1m : i1 < m := by have := HB.out.2; have := HD.out.2.2.1; have := HD.out.2.2.2; omega
          have i1i : (i1 : Int) < (m : Int) := by omega
          have hcur : ∃ b0, out[i1]? = some b0 := ⟨_, List.getElem?_eq_getElem (by have := HX.out.2.2.1; have := HM.out.2.1; have := HD.out.2.2.2; omega)⟩
          obtain ⟨b0', hb0'⟩ := hcur
          have yz : wz.cell? ⟨g10, i1, none⟩ = some (.bool b0') := by rw [cz.cell i1]; exact bools_at hb0'
          obtain ⟨w9, hw9⟩ : ∃ w9, w9 = wz.setCell ⟨g10, i1, none⟩ (.bool true) := ⟨_, rfl⟩
          have k9 : Kp [g10] w2 w9 := by rw [hw9]; exact (HX.out.1.nil kz).setCell (fun _ => by simp) _
          have c9 : Cells w9 g10 4 (bools (out.set i1 true)) := by rw [hw9, ← bools_set]; exact cz.put i1 _
          have hmt : ∀ j, Mt S (.cls f) i j ↔ j = i + 1 ∧ hd = true := fun j => by
            rw [mt_cls]
            constructor
            · rintro ⟨h1, c, h2, h3⟩
              rw [HD.out.1] at h2
              injection h2 with h2
              subst h2
              rw [hf, ← HD.out.2.1] at h3
              exact ⟨h1, h3⟩
            · rintro ⟨h1, h2⟩
              exact ⟨h1, x, HD.out.1, by rw [hf, ← HD.out.2.1]; exact h2⟩
          have HW := hid hw9
          have HZ := hid (And.intro k9 (And.intro c9 (And.intro hmt (And.intro (HX.out.1.nil kz) cz))))
          clear kz cz hb0' hw9 k9 c9 hmt HQ y0 y1 y2 y3 ys yb
          cases hd with
          | true =>
            go_wp2_with fail
            rw [← HW.out]
            go_roundg gg
            case measure => omega
            case rel =>
              refine ⟨i1, out.set i1 true, rfl, by have := HB.out.2; omega, HZ.out.1, HZ.out.2.1, ?_⟩
              have hm2 := HZ.out.2.2.1
              rw [HB.out.2]
              exact fromI_hit HX.out.2.2 HB.out.1 (fun j => by rw [hm2 j]; simp) (by have := HB.out.2; have := HD.out.2.2.1; have := HM.out.2.1; omega)
          | false =>
            go_wp2_with fail
            go_roundg gg
            case measure => omega
            case rel =>
              refine ⟨i1, out, rfl, by have := HB.out.2; omega, HZ.out.2.2.2.1, HZ.out.2.2.2.2, ?_⟩
              have hm2 := HZ.out.2.2.1
              rw [HB.out.2]
              exact fromI_skip HX.out.2.2 (fun _ j hj => by have := ((hm2 j).1 hj).2; cases this)
        · have j0 : ¬ (i : Int) < (sn : Int) := by omega
          have j1 : decide ((i : Int) < (sn : Int)) = false := decide_eq_false j0
          have j2 : decide (i < sn) = false := decide_eq_false hin
          have HD := hid hin
          clear kx cx fI hsm c9r hb hi1 sBr hAo hin
          go_upto_region 10 with fail
          refine lin_start (fun W' => Kp [] wr W') (Stays.kp _ _) (by kernel_rfl) (Kp.refl _ _).drew (fun hSS hS => ?_)
          refine lin_val (i := 0) (v := ?_) rfl (by kernel_rfl) (by kernel_rfl) (by kernel_rfl) (by kernel_rfl) (fun _ _ _ h => h) hSS hS rfl (fun W' hSw => ?_) ?_
          rotate_left
          · go_simp; first | done | with_reducible rfl
          try simp only [Act.put, List.setIfInBounds_toArray, List.set_cons_zero, List.set_cons_succ]
          refine lin_val (i := 1) (v := ?_) rfl (by kernel_rfl) (by kernel_rfl) (by kernel_rfl) (by kernel_rfl) (fun _ _ _ h => h) hSS hS rfl (fun W' hSw => ?_) ?_
          rotate_left
          · go_simp; first | done | with_reducible rfl
          try simp only [Act.put, List.setIfInBounds_toArray, List.set_cons_zero, List.set_cons_succ]
          refine lin_val (i := 2) (v := ?_) rfl (by kernel_rfl) (by kernel_rfl) (by kernel_rfl) (by kernel_rfl) (fun _ _ _ h => h) hSS hS rfl (fun W' hSw => ?_) ?_
          rotate_left
          · go_simp; first | done | with_reducible rfl
          try simp only [Act.put, List.setIfInBounds_toArray, List.set_cons_zero, List.set_cons_succ]
          refine lin_val (i := 3) (v := ?_) rfl (by kernel_rfl) (by kernel_rfl) (by kernel_rfl) (by kernel_rfl) (fun _ _ _ h => h) hSS hS rfl (fun W' hSw => ?_) ?_
          rotate_left
          · go_simp; first | done | with_reducible rfl
          try simp only [Act.put, List.setIfInBounds_toArray, List.set_cons_zero, List.set_cons_succ]
          refine lin_val (i := 4) (v := ?_) rfl (by kernel_rfl) (by kernel_rfl) (by kernel_rfl) (by kernel_rfl) (fun _ _ _ h => h) hSS hS rfl (fun W' hSw => ?_) ?_
          rotate_left
          · go_simp; first | done | with_reducible rfl
          try simp only [Act.put, List.setIfInBounds_toArray, List.set_cons_zero, List.set_cons_succ]
          refine lin_not (i := 5) rfl (by kernel_rfl) (by kernel_rfl) (by kernel_rfl) (by kernel_rfl) (fun _ _ _ h => h) hSS hS rfl ?_
          try simp only [Act.put, List.setIfInBounds_toArray, List.set_cons_zero, List.set_cons_succ]
          refine lin_not (i := 6) rfl (by kernel_rfl) (by kernel_rfl) (by kernel_rfl) (by kernel_rfl) (fun _ _ _ h => h) hSS hS rfl ?_
          try simp only [Act.put, List.setIfInBounds_toArray, List.set_cons_zero, List.set_cons_succ]
          refine lin_not (i := 7) rfl (by kernel_rfl) (by kernel_rfl) (by kernel_rfl) (by kernel_rfl) (fun _ _ _ h => h) hSS hS rfl ?_
          try simp only [Act.put, List.setIfInBounds_toArray, List.set_cons_zero, List.set_cons_succ]
          refine lin_not (i := 8) rfl (by kernel_rfl) (by kernel_rfl) (by kernel_rfl) (by kernel_rfl) (fun _ _ _ h => h) hSS hS rfl ?_
          try simp only [Act.put, List.setIfInBounds_toArray, List.set_cons_zero, List.set_cons_succ]
          refine lin_not (i := 9) rfl (by kernel_rfl) (by kernel_rfl) (by kernel_rfl) (by kernel_rfl) (fun _ _ _ h => h) hSS hS rfl ?_
          try simp only [Act.put, List.setIfInBounds_toArray, List.set_cons_zero, List.set_cons_succ]
          refine lin_not (i := 10) rfl (by kernel_rfl) (by kernel_rfl) (by kernel_rfl) (by kernel_rfl) (fun _ _ _ h => h) hSS hS rfl ?_
          try simp only [Act.put, List.setIfInBounds_toArray, List.set_cons_zero, List.set_cons_succ]
          refine lin_last (i := 11) (by kernel_rfl) rfl (by kernel_rfl) (fun wz kz K hK => ?_)
          have kz' : Kp [] wr wz := (Kp.refl _ _).drew.nil kz
          have HKZ := hid kz'
          clear kz kz' hS hSS
          go_simp
          refine hK.out _ _ ?_
          clear hK K
          clear y0 y1 y2 y3 yb
          go_wp2_with fail
          go_roundg gg
          case measure => omega
          case rel =>
            refine ⟨i1, out, rfl, by have := HB.out.2; omega, HX.out.1.nil HKZ.out, HX.out.2.1.keep HKZ.out (by simp), ?_⟩
            rw [HB.out.2]
            exact fromI_skip HX.out.2.2 (fun _ j hj => by
              obtain ⟨_, c, h2, _⟩ := mt_cls.1 hj
              have := (List.getElem?_eq_some_iff.1 h2).1
              have := HD.out
              have := HM.out.2.1
              omega)
set_option maxRecDepth 100000 in
set_option maxHeartbeats 12800000 in
theorem from_dot {P : List Pt} {k : Nat} {f : Nat → Bool} (h : P[k]? = some ⟨46, [], [], false⟩) (hf : ∀ c : Nat, f c = holdB 46 [] false (c : Int)) : FromC P k (.cls f) := by
  intro w Al AS AB cl cS cB n sn m cs S B hs hA hP hn hn5 hS hsn hsn3 hm hB hBl hcB
  have hkn : k < P.length := (List.getElem?_eq_some_iff.1 h).1
  obtain ⟨A1, c1, A2, c2, hcell, s1, s2, hA2, l1, l2⟩ := hP.at h
  obtain ⟨pb, rfl, z0, z1, z2, z3⟩ := parts_cell hs hA hcell
  dsimp only at z0 z1 z2 z3 s1 s2 l1 l2
  simp only [List.length_nil] at z1 z2
  have i0 : (k : Int) < (n : Int) := by omega
  have i1 : k < n := by omega
  have e4 : k * 4 = 4 * k := Nat.mul_comm _ _
  have hm1 : m ≤ 1001 := by omega
  have hm0 : 0 < m := by omega
  obtain ⟨g9, hg9⟩ : ∃ g, g = w.heap.size := ⟨_, rfl⟩
  obtain ⟨w1, hw1⟩ : ∃ w1, w1 = w.alloc (.cells #[.int .u8 46, .slice A1 0 c1, .slice A2 0 c2, .bool false] 63) := ⟨_, rfl⟩
  have k1 : Kp [] w w1 := by rw [hw1]; exact (Kp.refl _ _).alloc _
  have c9 : Cells w1 g9 63 [.int .u8 46, .slice A1 0 c1, .slice A2 0 c2, .bool false] := by rw [hw1, hg9]; exact Cells.fresh w 63 _
  have HM := hid (And.intro hn (And.intro hsn hm))
  have HO : Hid ((∀ ad, AB = some ad → ad.block < w.heap.size) ∧ (0 < S.length → ∀ ad, AS = some ad → ad.block < w.heap.size)) := hid ⟨hB.old (by unfold bools; rw [List.length_map]; omega), fun h0 => hS.old (by unfold ints; rw [List.length_map]; exact h0)⟩
  have H1 := hid (And.intro hs (And.intro hA (And.intro hP (And.intro hS (And.intro hB hBl)))))
  clear hs hA hP hS hB hBl hn hsn hm hcell hkn
  go_enter Try.func36, Try.ntmps36
  go_upto_region 2 with fail
  rw [← hw1, ← hg9]
  clear hw1 hg9 z0 z1 z2 z3
  go_wp2_with (at_make; go_must (refine wpList_make1 rfl _ _ 55 rfl 4 (.bool false) 1 Try.underlying55 boolInfo rfl .i64 .i64 (m : Int) (m : Int) m rfl rfl rfl rfl (by omega) (by omega) ?_))
  intro w2 Z hZ c10 k2
  obtain ⟨g10, hg10⟩ : ∃ g, g = w1.heap.size := ⟨_, rfl⟩
  rw [← hg10] at c10 ⊢
  have HGL : Hid (g9 < g10) := hid (by rw [hg10]; exact c9.lt)
  have c10 : Cells w2 g10 4 (bools (List.replicate m false)) := by
    have hc : Cells w2 g10 4 (List.replicate m (.bool false)) := by rw [← hZ.out]; exact c10
    simpa [bools] using hc
  have kw2 : Kp [] w w2 := k1.nil k2
  have c9 := c9.keep k2 (by simp)
  have y0 := c9.cell 0
  have y1 := c9.cell 1
  have y2 := c9.cell 2
  have y3 := c9.cell 3
  simp only [List.getElem?_cons_zero, List.getElem?_cons_succ] at y0 y1 y2 y3
  have s1 := s1.kept kw2
  have H2 : Hid (Span w2 (some ⟨pb, 0, none⟩) cs ∧ (∀ ad, some (⟨pb, 0, none⟩ : Addr) = some ad → ad = ⟨ad.block, 0, none⟩) ∧ PartsAt w2 (fun _ => False) P cs ∧ Span w2 AS (ints S) ∧ Span w2 AB (bools B) ∧ B.length = m ∧ Kp [] w w2 ∧ w.heap.size ≤ g10 ∧ Cells w2 g10 4 (bools (List.replicate m false))) := hid ⟨H1.out.1.kept kw2, H1.out.2.1, H1.out.2.2.1.kept kw2, H1.out.2.2.2.1.kept kw2, H1.out.2.2.2.2.1.kept kw2, H1.out.2.2.2.2.2, kw2, by rw [hg10]; exact k1.size, c10⟩
  have H9 := hid c9
  clear H1 hZ c10 k1 k2 kw2 hg10 c9
  have HG : Hid (g9 ≠ g10) := hid (fun e => by have h1 := HGL.out; omega)
  have HS2K := hid s2
  have HS2 := hid (And.intro True.intro hA2)
  have HSL := hid l2
  clear s1 s2 hA2
  have hAo := HO.out
  go_wp2_with fail
  go_loopg [14] m (fun gg v14 wx => ∃ (i : Nat) (out : List Bool), v14 = .int .i64 (i : Int) ∧ i + gg = m ∧ Kp [g10] w2 wx ∧ Cells wx g10 4 (bools out) ∧ FromI S (.cls f) B i out)
  case atStart => exact ⟨0, List.replicate m false, rfl, by omega, Kp.refl _ _, H2.out.2.2.2.2.2.2.2.2, fromI_zero m (by rw [HM.out.2.2, HM.out.2.1])⟩
  case round =>
    obtain ⟨i, out, rfl, hig, kx, cx, fI⟩ := hrel
    have hsm : m = sn + 1 := HM.out.2.2
    have HX := hid (And.intro kx (And.intro cx fI))
    cases gk with
    | zero =>
      have b0 : ¬ (i : Int) ≤ (sn : Int) := by omega
      have b1 : decide ((i : Int) ≤ (sn : Int)) = false := decide_eq_false b0
      have b2 : decide (i ≤ sn) = false := decide_eq_false (by omega)
      clear kx cx fI hsm hAo
      go_wp2_with fail
      go_ret
      have hend := fromI_end HX.out.2.2 (by rw [H2.out.2.2.2.2.2.1]; omega)
      exact ⟨⟨_, _, rfl, Nat.le_refl _, out, Span.of_cells HX.out.2.1, hend⟩, H2.out.2.2.2.2.2.2.1.fresh HX.out.1 H2.out.2.2.2.2.2.2.2.1⟩
    | succ gg =>
      have hg99 : g9 ≠ g10 := HG.out
      have c9r := H9.out.keep kx (by simpa using hg99)
      have y0 := c9r.cell 0
      have y1 := c9r.cell 1
      have y2 := c9r.cell 2
      have y3 := c9r.cell 3
      simp only [List.getElem?_cons_zero, List.getElem?_cons_succ] at y0 y1 y2 y3
      obtain ⟨b, hb⟩ : ∃ b, B[i]? = some b := ⟨_, List.getElem?_eq_getElem (by have := H2.out.2.2.2.2.2.1; omega)⟩
      have sBr := H2.out.2.2.2.2.1.keep kx (fun ad e hm => by have h1 := List.mem_singleton.1 hm; have := hAo.1 ad e; have := H2.out.2.2.2.2.2.2.2.1; omega)
      obtain ⟨ab, rfl, yb⟩ := sBr i _ (bools_at hb)
      have b0 : (i : Int) ≤ (sn : Int) := by omega
      have b1 : decide ((i : Int) ≤ (sn : Int)) = true := decide_eq_true b0
      have b2 : decide (i ≤ sn) = true := decide_eq_true (by omega)
      have b3 : (i : Int) < (m : Int) := by omega
      have b4 : i < m := by omega
      obtain ⟨i1, hi1⟩ : ∃ k, k = i + 1 := ⟨_, rfl⟩
      have iw : IntKind.i64.wrap ((i : Int) + 1) = (i1 : Int) := by rw [IntWalk.i64_in _ (by omega)]; omega
      have HB := hid (And.intro hb hi1)
      have HSR := hid sBr
      cases b with
      | false =>
        clear kx cx fI hsm c9r hb hi1 sBr hAo
        go_wp2_with fail
        go_roundg gg
        case measure => omega
        case rel => exact ⟨i1, out, rfl, by have := HB.out.2; omega, HX.out.1, HX.out.2.1, by rw [HB.out.2]; exact fromI_skip HX.out.2.2 (fun h => by rw [HB.out.1] at h; cases h)⟩
      | true =>
        by_cases hin : i < sn
        · obtain ⟨x, hx⟩ : ∃ x, S[i]? = some x := ⟨_, List.getElem?_eq_getElem (by have := HM.out.2.1; omega)⟩
          have sSr := H2.out.2.2.2.1.keep kx (fun ad e hm => by have h1 := List.mem_singleton.1 hm; have := hAo.2 (by have := HM.out.2.1; omega) ad e; have := H2.out.2.2.2.2.2.2.2.1; omega)
          obtain ⟨as_, rfl, ys⟩ := sSr i (.int .i64 (x : Int)) (by simp [ints, hx])
          obtain ⟨hd, hhd⟩ : ∃ b, b = holdB 46 [] false (x : Int) := ⟨_, rfl⟩
          have kk : Kp [] w wr := H2.out.2.2.2.2.2.2.1.fresh kx H2.out.2.2.2.2.2.2.2.1
          have HQ : Hid (∀ W', Kp [] wr W' → Calls Try.prog 45 #[.agg #[.int .u8 46, .slice A1 0 c1, .slice A2 0 c2, .bool false], .int .i64 (x : Int)] W' fun e w' => e = .returned (.bool hd) ∧ Kp [] W' w') := hid (fun W' hW => by
            have h := holds_any W' 46 A1 A2 0 c1 c2 [] false (x : Int) ((HS2K.out.kept kk).kept hW) HS2.out.2 (by first | exact HSL.out | (rw [← HNN.out]; exact HSL.out) | exact Nat.zero_le _)
            rw [← hhd] at h
            exact h)
          have j0 : (i : Int) < (sn : Int) := by omega
          have j1 : decide ((i : Int) < (sn : Int)) = true := decide_eq_true j0
          have j2 : decide (i < sn) = true := decide_eq_true hin
          have HD := hid (And.intro hx (And.intro hhd (And.intro hin hsm)))
          clear sSr hx hhd kk kx cx fI hsm c9r hb hi1 sBr hAo hin
          go_upto_region 10 with fail
          refine lin_start (fun W' => Kp [] wr W') (Stays.kp _ _) (by kernel_rfl) (Kp.refl _ _).drew (fun hSS hS => ?_)
          refine lin_val (i := 0) (v := ?_) rfl (by kernel_rfl) (by kernel_rfl) (by kernel_rfl) (by kernel_rfl) (fun _ _ _ h => h) hSS hS rfl (fun W' hSw => ?_) ?_
          rotate_left
          · go_simp; first | done | with_reducible rfl
          try simp only [Act.put, List.setIfInBounds_toArray, List.set_cons_zero, List.set_cons_succ]
          refine lin_val (i := 1) (v := ?_) rfl (by kernel_rfl) (by kernel_rfl) (by kernel_rfl) (by kernel_rfl) (fun _ _ _ h => h) hSS hS rfl (fun W' hSw => ?_) ?_
          rotate_left
          · go_simp; first | done | with_reducible rfl
          try simp only [Act.put, List.setIfInBounds_toArray, List.set_cons_zero, List.set_cons_succ]
          refine lin_val (i := 2) (v := ?_) rfl (by kernel_rfl) (by kernel_rfl) (by kernel_rfl) (by kernel_rfl) (fun _ _ _ h => h) hSS hS rfl (fun W' hSw => ?_) ?_
          rotate_left
          · go_simp; first | done | with_reducible rfl
          try simp only [Act.put, List.setIfInBounds_toArray, List.set_cons_zero, List.set_cons_succ]
          refine lin_val (i := 3) (v := ?_) rfl (by kernel_rfl) (by kernel_rfl) (by kernel_rfl) (by kernel_rfl) (fun _ _ _ h => h) hSS hS rfl (fun W' hSw => ?_) ?_
          rotate_left
          · go_simp; first | done | with_reducible rfl
          try simp only [Act.put, List.setIfInBounds_toArray, List.set_cons_zero, List.set_cons_succ]
          refine lin_val (i := 4) (v := ?_) rfl (by kernel_rfl) (by kernel_rfl) (by kernel_rfl) (by kernel_rfl) (fun _ _ _ h => h) hSS hS rfl (fun W' hSw => ?_) ?_
          rotate_left
          · go_simp; first | done | with_reducible rfl
          try simp only [Act.put, List.setIfInBounds_toArray, List.set_cons_zero, List.set_cons_succ]
          refine lin_val (i := 5) (v := ?_) rfl (by kernel_rfl) (by kernel_rfl) (by kernel_rfl) (by kernel_rfl) (fun _ _ _ h => h) hSS hS rfl (fun W' hSw => ?_) ?_
          rotate_left
          · have y0 := hSw.cell y0 (by simp); have y1 := hSw.cell y1 (by simp); have y2 := hSw.cell y2 (by simp); have y3 := hSw.cell y3 (by simp); go_simp; first | done | with_reducible rfl
          try simp only [Act.put, List.setIfInBounds_toArray, List.set_cons_zero, List.set_cons_succ]
          refine lin_val (i := 6) (v := ?_) rfl (by kernel_rfl) (by kernel_rfl) (by kernel_rfl) (by kernel_rfl) (fun _ _ _ h => h) hSS hS rfl (fun W' hSw => ?_) ?_
          rotate_left
          · go_simp; first | done | with_reducible rfl
          try simp only [Act.put, List.setIfInBounds_toArray, List.set_cons_zero, List.set_cons_succ]
          refine lin_val (i := 7) (v := ?_) rfl (by kernel_rfl) (by kernel_rfl) (by kernel_rfl) (by kernel_rfl) (fun _ _ _ h => h) hSS hS rfl (fun W' hSw => ?_) ?_
          rotate_left
          · go_simp; first | done | with_reducible rfl
          try simp only [Act.put, List.setIfInBounds_toArray, List.set_cons_zero, List.set_cons_succ]
          refine lin_val (i := 8) (v := ?_) rfl (by kernel_rfl) (by kernel_rfl) (by kernel_rfl) (by kernel_rfl) (fun _ _ _ h => h) hSS hS rfl (fun W' hSw => ?_) ?_
          rotate_left
          · go_simp; first | done | with_reducible rfl
          try simp only [Act.put, List.setIfInBounds_toArray, List.set_cons_zero, List.set_cons_succ]
          refine lin_val (i := 9) (v := ?_) rfl (by kernel_rfl) (by kernel_rfl) (by kernel_rfl) (by kernel_rfl) (fun _ _ _ h => h) hSS hS rfl (fun W' hSw => ?_) ?_
          rotate_left
          · have ys := hSw.cell ys (by simp); go_simp; first | done | with_reducible rfl
          try simp only [Act.put, List.setIfInBounds_toArray, List.set_cons_zero, List.set_cons_succ]
          refine lin_call (i := 10) (v := .bool hd) (f := 45) (args := _) rfl (by kernel_rfl) (by kernel_rfl) (by kernel_rfl) (by kernel_rfl) (fun _ _ _ h => h) hSS hS rfl (fun W' hSw => HQ.out W' hSw) (fun W' hSw => ?_) ?_
          · go_simp
          try simp only [Act.put, List.setIfInBounds_toArray, List.set_cons_zero, List.set_cons_succ]
          refine lin_last (i := 11) (by kernel_rfl) rfl (by kernel_rfl) (fun wz kz K hK => ?_)
          have kz' : Kp [] wr wz := (Kp.refl _ _).drew.nil kz
          have HKZ := hid kz'
          clear kz kz' hS hSS
          go_simp
          refine hK.out _ _ ?_
          clear hK K
          have kz := HKZ.out
          have cz := HX.out.2.1.keep kz (by simp)
          have frz := cz.free i1
          have i1m : i1 < m := by have := HB.out.2; have := HD.out.2.2.1; have := HD.out.2.2.2; omega
          have i1i : (i1 : Int) < (m : Int) := by omega
          have hcur : ∃ b0, out[i1]? = some b0 := ⟨_, List.getElem?_eq_getElem (by have := HX.out.2.2.1; have := HM.out.2.1; have := HD.out.2.2.2; omega)⟩
          obtain ⟨b0', hb0'⟩ := hcur
          have yz : wz.cell? ⟨g10, i1, none⟩ = some (.bool b0') := by rw [cz.cell i1]; exact bools_at hb0'
          obtain ⟨w9, hw9⟩ : ∃ w9, w9 = wz.setCell ⟨g10, i1, none⟩ (.bool true) := ⟨_, rfl⟩
          have k9 : Kp [g10] w2 w9 := by rw [hw9]; exact (HX.out.1.nil kz).setCell (fun _ => by simp) _
          have c9 : Cells w9 g10 4 (bools (out.set i1 true)) := by rw [hw9, ← bools_set]; exact cz.put i1 _
          have hmt : ∀ j, Mt S (.cls f) i j ↔ j = i + 1 ∧ hd = true := fun j => by
            rw [mt_cls]
            constructor
            · rintro ⟨h1, c, h2, h3⟩
              rw [HD.out.1] at h2
              injection h2 with h2
              subst h2
              rw [hf, ← HD.out.2.1] at h3
              exact ⟨h1, h3⟩
            · rintro ⟨h1, h2⟩
              exact ⟨h1, x, HD.out.1, by rw [hf, ← HD.out.2.1]; exact h2⟩
          have HW := hid hw9
          have HZ := hid (And.intro k9 (And.intro c9 (And.intro hmt (And.intro (HX.out.1.nil kz) cz))))
          clear kz cz hb0' hw9 k9 c9 hmt HQ y0 y1 y2 y3 ys yb
          cases hd with
          | true =>
            go_wp2_with fail
            rw [← HW.out]
            go_roundg gg
            case measure => omega
            case rel =>
              refine ⟨i1, out.set i1 true, rfl, by have := HB.out.2; omega, HZ.out.1, HZ.out.2.1, ?_⟩
              have hm2 := HZ.out.2.2.1
              rw [HB.out.2]
              exact fromI_hit HX.out.2.2 HB.out.1 (fun j => by rw [hm2 j]; simp) (by have := HB.out.2; have := HD.out.2.2.1; have := HM.out.2.1; omega)
          | false =>
            go_wp2_with fail
            go_roundg gg
            case measure => omega
            case rel =>
              refine ⟨i1, out, rfl, by have := HB.out.2; omega, HZ.out.2.2.2.1, HZ.out.2.2.2.2, ?_⟩
              have hm2 := HZ.out.2.2.1
              rw [HB.out.2]
              exact fromI_skip HX.out.2.2 (fun _ j hj => by have := ((hm2 j).1 hj).2; cases this)
        · have j0 : ¬ (i : Int) < (sn : Int) := by omega
          have j1 : decide ((i : Int) < (sn : Int)) = false := decide_eq_false j0
          have j2 : decide (i < sn) = false := decide_eq_false hin
          have HD := hid hin
          clear kx cx fI hsm c9r hb hi1 sBr hAo hin
          go_upto_region 10 with fail
          refine lin_start (fun W' => Kp [] wr W') (Stays.kp _ _) (by kernel_rfl) (Kp.refl _ _).drew (fun hSS hS => ?_)
          refine lin_val (i := 0) (v := ?_) rfl (by kernel_rfl) (by kernel_rfl) (by kernel_rfl) (by kernel_rfl) (fun _ _ _ h => h) hSS hS rfl (fun W' hSw => ?_) ?_
          rotate_left
          · go_simp; first | done | with_reducible rfl
          try simp only [Act.put, List.setIfInBounds_toArray, List.set_cons_zero, List.set_cons_succ]
          refine lin_val (i := 1) (v := ?_) rfl (by kernel_rfl) (by kernel_rfl) (by kernel_rfl) (by kernel_rfl) (fun _ _ _ h => h) hSS hS rfl (fun W' hSw => ?_) ?_
          rotate_left
          · go_simp; first | done | with_reducible rfl
          try simp only [Act.put, List.setIfInBounds_toArray, List.set_cons_zero, List.set_cons_succ]
          refine lin_val (i := 2) (v := ?_) rfl (by kernel_rfl) (by kernel_rfl) (by kernel_rfl) (by kernel_rfl) (fun _ _ _ h => h) hSS hS rfl (fun W' hSw => ?_) ?_
          rotate_left
          · go_simp; first | done | with_reducible rfl
          try simp only [Act.put, List.setIfInBounds_toArray, List.set_cons_zero, List.set_cons_succ]
          refine lin_val (i := 3) (v := ?_) rfl (by kernel_rfl) (by kernel_rfl) (by kernel_rfl) (by kernel_rfl) (fun _ _ _ h => h) hSS hS rfl (fun W' hSw => ?_) ?_
          rotate_left
          · go_simp; first | done | with_reducible rfl
          try simp only [Act.put, List.setIfInBounds_toArray, List.set_cons_zero, List.set_cons_succ]
          refine lin_val (i := 4) (v := ?_) rfl (by kernel_rfl) (by kernel_rfl) (by kernel_rfl) (by kernel_rfl) (fun _ _ _ h => h) hSS hS rfl (fun W' hSw => ?_) ?_
          rotate_left
          · go_simp; first | done | with_reducible rfl
          try simp only [Act.put, List.setIfInBounds_toArray, List.set_cons_zero, List.set_cons_succ]
          refine lin_not (i := 5) rfl (by kernel_rfl) (by kernel_rfl) (by kernel_rfl) (by kernel_rfl) (fun _ _ _ h => h) hSS hS rfl ?_
          try simp only [Act.put, List.setIfInBounds_toArray, List.set_cons_zero, List.set_cons_succ]
          refine lin_not (i := 6) rfl (by kernel_rfl) (by kernel_rfl) (by kernel_rfl) (by kernel_rfl) (fun _ _ _ h => h) hSS hS rfl ?_
          try simp only [Act.put, List.setIfInBounds_toArray, List.set_cons_zero, List.set_cons_succ]
          refine lin_not (i := 7) rfl (by kernel_rfl) (by kernel_rfl) (by kernel_rfl) (by kernel_rfl) (fun _ _ _ h => h) hSS hS rfl ?_
          try simp only [Act.put, List.setIfInBounds_toArray, List.set_cons_zero, List.set_cons_succ]
          refine lin_not (i := 8) rfl (by kernel_rfl) (by kernel_rfl) (by kernel_rfl) (by kernel_rfl) (fun _ _ _ h => h) hSS hS rfl ?_
          try simp only [Act.put, List.setIfInBounds_toArray, List.set_cons_zero, List.set_cons_succ]
          refine lin_not (i := 9) rfl (by kernel_rfl) (by kernel_rfl) (by kernel_rfl) (by kernel_rfl) (fun _ _ _ h => h) hSS hS rfl ?_
          try simp only [Act.put, List.setIfInBounds_toArray, List.set_cons_zero, List.set_cons_succ]
          refine lin_not (i := 10) rfl (by kernel_rfl) (by kernel_rfl) (by kernel_rfl) (by kernel_rfl) (fun _ _ _ h => h) hSS hS rfl ?_
          try simp only [Act.put, List.setIfInBounds_toArray, List.set_cons_zero, List.set_cons_succ]
          refine lin_last (i := 11) (by kernel_rfl) rfl (by kernel_rfl) (fun wz kz K hK => ?_)
          have kz' : Kp [] wr wz := (Kp.refl _ _).drew.nil kz
          have HKZ := hid kz'
          clear kz kz' hS hSS
          go_simp
          refine hK.out _ _ ?_
          clear hK K
          clear y0 y1 y2 y3 yb
          go_wp2_with fail
          go_roundg gg
          case measure => omega
          case rel =>
            refine ⟨i1, out, rfl, by have := HB.out.2; omega, HX.out.1.nil HKZ.out, HX.out.2.1.keep HKZ.out (by simp), ?_⟩
            rw [HB.out.2]
            exact fromI_skip HX.out.2.2 (fun _ j hj => by
              obtain ⟨_, c, h2, _⟩ := mt_cls.1 hj
              have := (List.getElem?_eq_some_iff.1 h2).1
              have := HD.out
              have := HM.out.2.1
              omega)
set_option maxRecDepth 100000 in
set_option maxHeartbeats 12800000 in
theorem from_bol {P : List Pt} {k : Nat} (h : P[k]? = some ⟨94, [], [], false⟩) : FromC P k .bol := by
  intro w Al AS AB cl cS cB n sn m cs S B hs hA hP hn hn5 hS hsn hsn3 hm hB hBl hcB
  have hkn : k < P.length := (List.getElem?_eq_some_iff.1 h).1
  obtain ⟨A1, c1, A2, c2, hcell, s1, s2, hA2, l1, l2⟩ := hP.at h
  obtain ⟨pb, rfl, z0, z1, z2, z3⟩ := parts_cell hs hA hcell
  dsimp only at z0 z1 z2 z3 s1 s2 l1 l2
  simp only [List.length_nil] at z1 z2
  have i0 : (k : Int) < (n : Int) := by omega
  have i1 : k < n := by omega
  have e4 : k * 4 = 4 * k := Nat.mul_comm _ _
  have hm1 : m ≤ 1001 := by omega
  have hm0 : 0 < m := by omega
  obtain ⟨g9, hg9⟩ : ∃ g, g = w.heap.size := ⟨_, rfl⟩
  obtain ⟨w1, hw1⟩ : ∃ w1, w1 = w.alloc (.cells #[.int .u8 94, .slice A1 0 c1, .slice A2 0 c2, .bool false] 63) := ⟨_, rfl⟩
  have k1 : Kp [] w w1 := by rw [hw1]; exact (Kp.refl _ _).alloc _
  have c9 : Cells w1 g9 63 [.int .u8 94, .slice A1 0 c1, .slice A2 0 c2, .bool false] := by rw [hw1, hg9]; exact Cells.fresh w 63 _
  have HM := hid (And.intro hn (And.intro hsn hm))
  have HO : Hid ((∀ ad, AB = some ad → ad.block < w.heap.size) ∧ (0 < S.length → ∀ ad, AS = some ad → ad.block < w.heap.size)) := hid ⟨hB.old (by unfold bools; rw [List.length_map]; omega), fun h0 => hS.old (by unfold ints; rw [List.length_map]; exact h0)⟩
  have H1 := hid (And.intro hs (And.intro hA (And.intro hP (And.intro hS (And.intro hB hBl)))))
  clear hs hA hP hS hB hBl hn hsn hm hcell hkn
  go_enter Try.func36, Try.ntmps36
  go_upto_region 2 with fail
  rw [← hw1, ← hg9]
  clear hw1 hg9 z0 z1 z2 z3
  go_wp2_with (at_make; go_must (refine wpList_make1 rfl _ _ 55 rfl 4 (.bool false) 1 Try.underlying55 boolInfo rfl .i64 .i64 (m : Int) (m : Int) m rfl rfl rfl rfl (by omega) (by omega) ?_))
  intro w2 Z hZ c10 k2
  obtain ⟨g10, hg10⟩ : ∃ g, g = w1.heap.size := ⟨_, rfl⟩
  rw [← hg10] at c10 ⊢
  have HGL : Hid (g9 < g10) := hid (by rw [hg10]; exact c9.lt)
  have c10 : Cells w2 g10 4 (bools (List.replicate m false)) := by
    have hc : Cells w2 g10 4 (List.replicate m (.bool false)) := by rw [← hZ.out]; exact c10
    simpa [bools] using hc
  have kw2 : Kp [] w w2 := k1.nil k2
  have c9 := c9.keep k2 (by simp)
  have y0 := c9.cell 0
  have y1 := c9.cell 1
  have y2 := c9.cell 2
  have y3 := c9.cell 3
  simp only [List.getElem?_cons_zero, List.getElem?_cons_succ] at y0 y1 y2 y3
  have s1 := s1.kept kw2
  have H2 : Hid (Span w2 (some ⟨pb, 0, none⟩) cs ∧ (∀ ad, some (⟨pb, 0, none⟩ : Addr) = some ad → ad = ⟨ad.block, 0, none⟩) ∧ PartsAt w2 (fun _ => False) P cs ∧ Span w2 AS (ints S) ∧ Span w2 AB (bools B) ∧ B.length = m ∧ Kp [] w w2 ∧ w.heap.size ≤ g10 ∧ Cells w2 g10 4 (bools (List.replicate m false))) := hid ⟨H1.out.1.kept kw2, H1.out.2.1, H1.out.2.2.1.kept kw2, H1.out.2.2.2.1.kept kw2, H1.out.2.2.2.2.1.kept kw2, H1.out.2.2.2.2.2, kw2, by rw [hg10]; exact k1.size, c10⟩
  have H9 := hid c9
  clear H1 hZ c10 k1 k2 kw2 hg10 c9
  have HG : Hid (g9 ≠ g10) := hid (fun e => by have h1 := HGL.out; omega)
  clear s1 s2 hA2
  have hAo := HO.out
  go_wp2_with fail
  go_loopg [14] m (fun gg v14 wx => ∃ (i : Nat) (out : List Bool), v14 = .int .i64 (i : Int) ∧ i + gg = m ∧ Kp [g10] w2 wx ∧ Cells wx g10 4 (bools out) ∧ FromI S .bol B i out)
  case atStart => exact ⟨0, List.replicate m false, rfl, by omega, Kp.refl _ _, H2.out.2.2.2.2.2.2.2.2, fromI_zero m (by rw [HM.out.2.2, HM.out.2.1])⟩
  case round =>
    obtain ⟨i, out, rfl, hig, kx, cx, fI⟩ := hrel
    have hsm : m = sn + 1 := HM.out.2.2
    have HX := hid (And.intro kx (And.intro cx fI))
    cases gk with
    | zero =>
      have b0 : ¬ (i : Int) ≤ (sn : Int) := by omega
      have b1 : decide ((i : Int) ≤ (sn : Int)) = false := decide_eq_false b0
      have b2 : decide (i ≤ sn) = false := decide_eq_false (by omega)
      clear kx cx fI hsm hAo
      go_wp2_with fail
      go_ret
      have hend := fromI_end HX.out.2.2 (by rw [H2.out.2.2.2.2.2.1]; omega)
      exact ⟨⟨_, _, rfl, Nat.le_refl _, out, Span.of_cells HX.out.2.1, hend⟩, H2.out.2.2.2.2.2.2.1.fresh HX.out.1 H2.out.2.2.2.2.2.2.2.1⟩
    | succ gg =>
      have hg99 : g9 ≠ g10 := HG.out
      have c9r := H9.out.keep kx (by simpa using hg99)
      have y0 := c9r.cell 0
      have y1 := c9r.cell 1
      have y2 := c9r.cell 2
      have y3 := c9r.cell 3
      simp only [List.getElem?_cons_zero, List.getElem?_cons_succ] at y0 y1 y2 y3
      obtain ⟨b, hb⟩ : ∃ b, B[i]? = some b := ⟨_, List.getElem?_eq_getElem (by have := H2.out.2.2.2.2.2.1; omega)⟩
      have sBr := H2.out.2.2.2.2.1.keep kx (fun ad e hm => by have h1 := List.mem_singleton.1 hm; have := hAo.1 ad e; have := H2.out.2.2.2.2.2.2.2.1; omega)
      obtain ⟨ab, rfl, yb⟩ := sBr i _ (bools_at hb)
      have b0 : (i : Int) ≤ (sn : Int) := by omega
      have b1 : decide ((i : Int) ≤ (sn : Int)) = true := decide_eq_true b0
      have b2 : decide (i ≤ sn) = true := decide_eq_true (by omega)
      have b3 : (i : Int) < (m : Int) := by omega
      have b4 : i < m := by omega
      obtain ⟨i1, hi1⟩ : ∃ k, k = i + 1 := ⟨_, rfl⟩
      have iw : IntKind.i64.wrap ((i : Int) + 1) = (i1 : Int) := by rw [IntWalk.i64_in _ (by omega)]; omega
      have HB := hid (And.intro hb hi1)
      have HSR := hid sBr
      cases b with
      | false =>
        clear kx cx fI hsm c9r hb hi1 sBr hAo
        go_wp2_with fail
        go_roundg gg
        case measure => omega
        case rel => exact ⟨i1, out, rfl, by have := HB.out.2; omega, HX.out.1, HX.out.2.1, by rw [HB.out.2]; exact fromI_skip HX.out.2.2 (fun h => by rw [HB.out.1] at h; cases h)⟩
      | true =>
        obtain ⟨z, hz⟩ : ∃ b, b = ((i : Int) == 0) := ⟨_, rfl⟩
        have e1 := hz.symm
        have hzn : z = decide (i = 0) := by rw [hz, Bool.eq_iff_iff, beq_iff_eq, decide_eq_true_eq]; omega
        have hmt : ∀ j, Mt S .bol i j ↔ j = i ∧ z = true := fun j => by rw [mt_bol _ _ _, hzn]
        have frz := cx.free i
        have yz : wr.cell? ⟨g10, i, none⟩ = some (.bool (out.getD i false)) := by
          have hlt : i < out.length := by have := fI.1; have := HM.out.2.1; omega
          rw [cx.cell i]
          exact bools_at (by rw [List.getD_eq_getElem?_getD, List.getElem?_eq_getElem hlt]; rfl)
        obtain ⟨oi, hoi⟩ : ∃ x, x = out.getD i false := ⟨_, rfl⟩
        rw [← hoi] at yz
        obtain ⟨w9, hw9⟩ : ∃ w9, w9 = wr.setCell ⟨g10, i, none⟩ (.bool z) := ⟨_, rfl⟩
        have k9 : Kp [g10] w2 w9 := by rw [hw9]; exact kx.setCell (fun _ => by simp) _
        have c9' : Cells w9 g10 4 (bools (out.set i z)) := by rw [hw9, ← bools_set]; exact cx.put i _
        have HW := hid hw9
        have HZ := hid (And.intro k9 (And.intro c9' (And.intro hmt hsm)))
        clear hw9 k9 c9' hmt hzn hz hoi kx cx fI hsm c9r hb hi1 sBr hAo
        cases z with
        | true =>
          go_wp2_with fail
          rw [← HW.out]
          go_roundg gg
          case measure => omega
          case rel =>
            refine ⟨i1, out.set i true, rfl, by have := HB.out.2; omega, HZ.out.1, HZ.out.2.1, ?_⟩
            have hm2 := HZ.out.2.2.1
            rw [HB.out.2]
            exact fromI_hit HX.out.2.2 HB.out.1 (fun j => by rw [hm2 j]; simp) (by have := HZ.out.2.2.2; have := HM.out.2.1; omega)
        | false =>
          go_wp2_with fail
          rw [← HW.out]
          go_roundg gg
          case measure => omega
          case rel =>
            have hm2 := HZ.out.2.2.1
            have hsame := fromI_same HX.out.2.2 (fun i' j hj => (((mt_bol _ _ _).1 hj).1)) (by have := HX.out.2.2.1; have := HZ.out.2.2.2; have := HM.out.2.1; omega)
            have hc := HZ.out.2.1
            rw [hsame] at hc
            refine ⟨i1, out, rfl, by have := HB.out.2; omega, HZ.out.1, hc, ?_⟩
            rw [HB.out.2]
            exact fromI_skip HX.out.2.2 (fun _ j hj => by have := ((hm2 j).1 hj).2; cases this)
set_option maxRecDepth 100000 in
set_option maxHeartbeats 12800000 in
theorem from_eol {P : List Pt} {k : Nat} (h : P[k]? = some ⟨36, [], [], false⟩) : FromC P k .eol := by
  intro w Al AS AB cl cS cB n sn m cs S B hs hA hP hn hn5 hS hsn hsn3 hm hB hBl hcB
  have hkn : k < P.length := (List.getElem?_eq_some_iff.1 h).1
  obtain ⟨A1, c1, A2, c2, hcell, s1, s2, hA2, l1, l2⟩ := hP.at h
  obtain ⟨pb, rfl, z0, z1, z2, z3⟩ := parts_cell hs hA hcell
  dsimp only at z0 z1 z2 z3 s1 s2 l1 l2
  simp only [List.length_nil] at z1 z2
  have i0 : (k : Int) < (n : Int) := by omega
  have i1 : k < n := by omega
  have e4 : k * 4 = 4 * k := Nat.mul_comm _ _
  have hm1 : m ≤ 1001 := by omega
  have hm0 : 0 < m := by omega
  obtain ⟨g9, hg9⟩ : ∃ g, g = w.heap.size := ⟨_, rfl⟩
  obtain ⟨w1, hw1⟩ : ∃ w1, w1 = w.alloc (.cells #[.int .u8 36, .slice A1 0 c1, .slice A2 0 c2, .bool false] 63) := ⟨_, rfl⟩
  have k1 : Kp [] w w1 := by rw [hw1]; exact (Kp.refl _ _).alloc _
  have c9 : Cells w1 g9 63 [.int .u8 36, .slice A1 0 c1, .slice A2 0 c2, .bool false] := by rw [hw1, hg9]; exact Cells.fresh w 63 _
  have HM := hid (And.intro hn (And.intro hsn hm))
  have HO : Hid ((∀ ad, AB = some ad → ad.block < w.heap.size) ∧ (0 < S.length → ∀ ad, AS = some ad → ad.block < w.heap.size)) := hid ⟨hB.old (by unfold bools; rw [List.length_map]; omega), fun h0 => hS.old (by unfold ints; rw [List.length_map]; exact h0)⟩
  have H1 := hid (And.intro hs (And.intro hA (And.intro hP (And.intro hS (And.intro hB hBl)))))
  clear hs hA hP hS hB hBl hn hsn hm hcell hkn
  go_enter Try.func36, Try.ntmps36
  go_upto_region 2 with fail
  rw [← hw1, ← hg9]
  clear hw1 hg9 z0 z1 z2 z3
  go_wp2_with (at_make; go_must (refine wpList_make1 rfl _ _ 55 rfl 4 (.bool false) 1 Try.underlying55 boolInfo rfl .i64 .i64 (m : Int) (m : Int) m rfl rfl rfl rfl (by omega) (by omega) ?_))
  intro w2 Z hZ c10 k2
  obtain ⟨g10, hg10⟩ : ∃ g, g = w1.heap.size := ⟨_, rfl⟩
  rw [← hg10] at c10 ⊢
  have HGL : Hid (g9 < g10) := hid (by rw [hg10]; exact c9.lt)
  have c10 : Cells w2 g10 4 (bools (List.replicate m false)) := by
    have hc : Cells w2 g10 4 (List.replicate m (.bool false)) := by rw [← hZ.out]; exact c10
    simpa [bools] using hc
  have kw2 : Kp [] w w2 := k1.nil k2
  have c9 := c9.keep k2 (by simp)
  have y0 := c9.cell 0
  have y1 := c9.cell 1
  have y2 := c9.cell 2
  have y3 := c9.cell 3
  simp only [List.getElem?_cons_zero, List.getElem?_cons_succ] at y0 y1 y2 y3
  have s1 := s1.kept kw2
  have H2 : Hid (Span w2 (some ⟨pb, 0, none⟩) cs ∧ (∀ ad, some (⟨pb, 0, none⟩ : Addr) = some ad → ad = ⟨ad.block, 0, none⟩) ∧ PartsAt w2 (fun _ => False) P cs ∧ Span w2 AS (ints S) ∧ Span w2 AB (bools B) ∧ B.length = m ∧ Kp [] w w2 ∧ w.heap.size ≤ g10 ∧ Cells w2 g10 4 (bools (List.replicate m false))) := hid ⟨H1.out.1.kept kw2, H1.out.2.1, H1.out.2.2.1.kept kw2, H1.out.2.2.2.1.kept kw2, H1.out.2.2.2.2.1.kept kw2, H1.out.2.2.2.2.2, kw2, by rw [hg10]; exact k1.size, c10⟩
  have H9 := hid c9
  clear H1 hZ c10 k1 k2 kw2 hg10 c9
  have HG : Hid (g9 ≠ g10) := hid (fun e => by have h1 := HGL.out; omega)
  clear s1 s2 hA2
  have hAo := HO.out
  go_wp2_with fail
  go_loopg [14] m (fun gg v14 wx => ∃ (i : Nat) (out : List Bool), v14 = .int .i64 (i : Int) ∧ i + gg = m ∧ Kp [g10] w2 wx ∧ Cells wx g10 4 (bools out) ∧ FromI S .eol B i out)
  case atStart => exact ⟨0, List.replicate m false, rfl, by omega, Kp.refl _ _, H2.out.2.2.2.2.2.2.2.2, fromI_zero m (by rw [HM.out.2.2, HM.out.2.1])⟩
  case round =>
    obtain ⟨i, out, rfl, hig, kx, cx, fI⟩ := hrel
    have hsm : m = sn + 1 := HM.out.2.2
    have HX := hid (And.intro kx (And.intro cx fI))
    cases gk with
    | zero =>
      have b0 : ¬ (i : Int) ≤ (sn : Int) := by omega
      have b1 : decide ((i : Int) ≤ (sn : Int)) = false := decide_eq_false b0
      have b2 : decide (i ≤ sn) = false := decide_eq_false (by omega)
      clear kx cx fI hsm hAo
      go_wp2_with fail
      go_ret
      have hend := fromI_end HX.out.2.2 (by rw [H2.out.2.2.2.2.2.1]; omega)
      exact ⟨⟨_, _, rfl, Nat.le_refl _, out, Span.of_cells HX.out.2.1, hend⟩, H2.out.2.2.2.2.2.2.1.fresh HX.out.1 H2.out.2.2.2.2.2.2.2.1⟩
    | succ gg =>
      have hg99 : g9 ≠ g10 := HG.out
      have c9r := H9.out.keep kx (by simpa using hg99)
      have y0 := c9r.cell 0
      have y1 := c9r.cell 1
      have y2 := c9r.cell 2
      have y3 := c9r.cell 3
      simp only [List.getElem?_cons_zero, List.getElem?_cons_succ] at y0 y1 y2 y3
      obtain ⟨b, hb⟩ : ∃ b, B[i]? = some b := ⟨_, List.getElem?_eq_getElem (by have := H2.out.2.2.2.2.2.1; omega)⟩
      have sBr := H2.out.2.2.2.2.1.keep kx (fun ad e hm => by have h1 := List.mem_singleton.1 hm; have := hAo.1 ad e; have := H2.out.2.2.2.2.2.2.2.1; omega)
      obtain ⟨ab, rfl, yb⟩ := sBr i _ (bools_at hb)
      have b0 : (i : Int) ≤ (sn : Int) := by omega
      have b1 : decide ((i : Int) ≤ (sn : Int)) = true := decide_eq_true b0
      have b2 : decide (i ≤ sn) = true := decide_eq_true (by omega)
      have b3 : (i : Int) < (m : Int) := by omega
      have b4 : i < m := by omega
      obtain ⟨i1, hi1⟩ : ∃ k, k = i + 1 := ⟨_, rfl⟩
      have iw : IntKind.i64.wrap ((i : Int) + 1) = (i1 : Int) := by rw [IntWalk.i64_in _ (by omega)]; omega
      have HB := hid (And.intro hb hi1)
      have HSR := hid sBr
      cases b with
      | false =>
        clear kx cx fI hsm c9r hb hi1 sBr hAo
        go_wp2_with fail
        go_roundg gg
        case measure => omega
        case rel => exact ⟨i1, out, rfl, by have := HB.out.2; omega, HX.out.1, HX.out.2.1, by rw [HB.out.2]; exact fromI_skip HX.out.2.2 (fun h => by rw [HB.out.1] at h; cases h)⟩
      | true =>
        obtain ⟨z, hz⟩ : ∃ b, b = ((i : Int) == (sn : Int)) := ⟨_, rfl⟩
        have e1 := hz.symm
        have hzn : z = decide (i = sn) := by rw [hz, Bool.eq_iff_iff, beq_iff_eq, decide_eq_true_eq]; omega
        have hmt : ∀ j, Mt S .eol i j ↔ j = i ∧ z = true := fun j => by rw [mt_eol _ _ _, hzn, ← HM.out.2.1]
        have frz := cx.free i
        have yz : wr.cell? ⟨g10, i, none⟩ = some (.bool (out.getD i false)) := by
          have hlt : i < out.length := by have := fI.1; have := HM.out.2.1; omega
          rw [cx.cell i]
          exact bools_at (by rw [List.getD_eq_getElem?_getD, List.getElem?_eq_getElem hlt]; rfl)
        obtain ⟨oi, hoi⟩ : ∃ x, x = out.getD i false := ⟨_, rfl⟩
        rw [← hoi] at yz
        obtain ⟨w9, hw9⟩ : ∃ w9, w9 = wr.setCell ⟨g10, i, none⟩ (.bool z) := ⟨_, rfl⟩
        have k9 : Kp [g10] w2 w9 := by rw [hw9]; exact kx.setCell (fun _ => by simp) _
        have c9' : Cells w9 g10 4 (bools (out.set i z)) := by rw [hw9, ← bools_set]; exact cx.put i _
        have HW := hid hw9
        have HZ := hid (And.intro k9 (And.intro c9' (And.intro hmt hsm)))
        clear hw9 k9 c9' hmt hzn hz hoi kx cx fI hsm c9r hb hi1 sBr hAo
        cases z with
        | true =>
          go_wp2_with fail
          rw [← HW.out]
          go_roundg gg
          case measure => omega
          case rel =>
            refine ⟨i1, out.set i true, rfl, by have := HB.out.2; omega, HZ.out.1, HZ.out.2.1, ?_⟩
            have hm2 := HZ.out.2.2.1
            rw [HB.out.2]
            exact fromI_hit HX.out.2.2 HB.out.1 (fun j => by rw [hm2 j]; simp) (by have := HZ.out.2.2.2; have := HM.out.2.1; omega)
        | false =>
          go_wp2_with fail
          rw [← HW.out]
          go_roundg gg
          case measure => omega
          case rel =>
            have hm2 := HZ.out.2.2.1
            have hsame := fromI_same HX.out.2.2 (fun i' j hj => (((mt_eol _ _ _).1 hj).1)) (by have := HX.out.2.2.1; have := HZ.out.2.2.2; have := HM.out.2.1; omega)
            have hc := HZ.out.2.1
            rw [hsame] at hc
            refine ⟨i1, out, rfl, by have := HB.out.2; omega, HZ.out.1, hc, ?_⟩
            rw [HB.out.2]
            exact fromI_skip HX.out.2.2 (fun _ j hj => by have := ((hm2 j).1 hj).2; cases this)
theorem from_any {P : List Pt} {k : Nat} {r : Re} (h : RepR P k r) : FromC P k r := by
  induction h with
  | alt h hl h0 _ ih => exact from_alt h hl h0 ih
  | seq h hl _ ih => exact from_seq h hl ih
  | star h _ ih => exact from_star h ih
  | plus h _ ih => exact from_plus h ih
  | opt h _ ih => exact from_opt h ih
  | dot h => exact from_dot h (fun c => by unfold holdB; rw [if_pos rfl, Bool.eq_iff_iff, decide_eq_true_eq, bne_iff_ne]; omega)
  | bol h => exact from_bol h
  | eol h => exact from_eol h
  | cls h hf => exact from_cls h (fun c => by unfold holdB; rw [if_neg (by decide), hf])
end Go.Proofs.Ytaaikjedagnjbaa

/- Ends of the document's answer for layer 12. -/
namespace Go.Proofs.Ytaaikjedagnjbaa
open Go Go.RowKit Go.Lib

/-- A pattern's parts in memory, the whole the last one. -/
structure PatAt (w : World) (v : Value) (r : Re) : Prop where
  ex : ∃ (Al : Option Addr) (cl n : Nat) (cs : List Value) (P : List Pt), v = .slice Al n cl ∧ Span w Al cs ∧ (∀ ad, Al = some ad → ad = ⟨ad.block, 0, none⟩) ∧ PartsAt w (fun _ => False) P cs ∧ n = P.length ∧ 0 < n ∧ n ≤ 100000 ∧ RepR P (n - 1) r
theorem PatAt.kept {w w' : World} {v : Value} {r : Re} (h : PatAt w v r) (k : Kp [] w w') : PatAt w' v r := by
  obtain ⟨Al, cl, n, cs, P, h1, h2, h3, h4, h5, h6, h7, h8⟩ := h.ex
  exact ⟨⟨Al, cl, n, cs, P, h1, h2.kept k, h3, h4.kept k, h5, h6, h7, h8⟩⟩
/-- The places that a pattern leads to from one. -/
def EndsP (S : List Nat) (r : Re) (a : Nat) (B : List Bool) : Prop := B.length = S.length + 1 ∧ ∀ j : Nat, B[j]? = some true ↔ Mt S r a j
set_option maxRecDepth 100000 in
set_option maxHeartbeats 6400000 in
theorem endsd_any (w : World) (v : Value) (r : Re) (hp : PatAt w v r) (AS : Option Addr) (cS sn m a : Nat) (S : List Nat) (hS : Span w AS (ints S)) (hsn : sn = S.length) (hs3 : sn ≤ 1000) (hm : m = sn + 1) (ha : a ≤ sn) :
    Calls Try.prog 28 #[v, .slice AS sn cS, .int .i64 (a : Int)] w fun e w' => (∃ A c B, e = .returned (.slice A m c) ∧ m ≤ c ∧ Span w' A (bools B) ∧ EndsP S r a B) ∧ Kp [] w w' := by
  obtain ⟨Al, cl, n, cs, P, rfl, h2, h3, h4, h5, h6, h7, h8⟩ := hp.ex
  obtain ⟨k, hk⟩ : ∃ k, k = n - 1 := ⟨_, rfl⟩
  rw [← hk] at h8
  have iw0 : IntKind.i64.wrap ((sn : Int) + 1) = (m : Int) := by rw [IntWalk.i64_in _ (by omega)]; omega
  have iw1 : IntKind.i64.wrap ((n : Int) - 1) = (k : Int) := by rw [IntWalk.i64_in _ (by omega)]; omega
  have m1 : m ≤ 1001 := by omega
  have am : a < m := by omega
  have ami : (a : Int) < (m : Int) := by omega
  have H := hid (And.intro h2 (And.intro h3 (And.intro h4 (And.intro h5 (And.intro h8 (And.intro hS (And.intro hsn hm)))))))
  clear h2 h3 h4 h5 h8 hS hsn hm hp hk
  go_enter Try.func28, Try.ntmps28
  go_wp2_with (at_make; go_must (refine wpList_make1 rfl _ _ 55 rfl 4 (.bool false) 1 Try.underlying55 boolInfo rfl .i64 .i64 (m : Int) (m : Int) m rfl rfl rfl rfl (by omega) (by omega) ?_))
  intro w1 Z hZ c1 k1
  obtain ⟨g1, hg1⟩ : ∃ g, g = w.heap.size := ⟨_, rfl⟩
  rw [← hg1] at c1 ⊢
  have c1 : Cells w1 g1 4 (bools (List.replicate m false)) := by
    have hc : Cells w1 g1 4 (List.replicate m (.bool false)) := by rw [← hZ.out]; exact c1
    simpa [bools] using hc
  have fr := c1.free a
  have ya : w1.cell? ⟨g1, a, none⟩ = some (.bool false) := by
    rw [c1.cell a]
    exact bools_at (by rw [List.getElem?_replicate, if_pos am])
  obtain ⟨w2, hw2⟩ : ∃ w2, w2 = w1.setCell ⟨g1, a, none⟩ (.bool true) := ⟨_, rfl⟩
  have k2 : Kp [] w w2 := by
    have k12 : Kp [g1] w1 w2 := by rw [hw2]; exact (Kp.refl _ _).setCell (fun _ => by simp) _
    exact k1.fresh k12 (by rw [hg1]; exact Nat.le_refl _)
  obtain ⟨B, hB⟩ : ∃ B, B = (List.replicate m false).set a true := ⟨_, rfl⟩
  have c2 : Cells w2 g1 4 (bools B) := by rw [hw2, hB, ← bools_set]; exact c1.put a _
  have hBl : B.length = m := by rw [hB, List.length_set, List.length_replicate]
  have hBj : ∀ i : Nat, B[i]? = some true ↔ i = a := fun i => by
    rw [hB, List.getElem?_set]
    by_cases e : a = i
    · subst e; rw [if_pos rfl, if_pos (by rw [List.length_replicate]; exact am)]; simp
    · rw [if_neg e]
      exact ⟨fun h => absurd h (fromP_none m i), fun h => absurd h.symm e⟩
  obtain ⟨h2, h3, h4, h5, h8, hS, hsn, hm⟩ := H.out
  have q := from_any h8 w2 Al AS (some ⟨g1, 0, none⟩) cl cS m n sn m cs S B (h2.kept k2) h3 (h4.kept k2) h5 h7 (hS.kept k2) hsn hs3 hm (Span.of_cells c2) hBl (Nat.le_refl _)
  have HB := hid (And.intro hBj k2)
  have HW := hid hw2
  clear h2 h3 h4 h5 h8 hS hsn hm hZ c1 k1 hg1 hw2 k2 hB c2 hBl hBj
  go_wp2_with fail
  rw [← HW.out]
  (with_reducible refine q.mono ?_)
  clear q
  rintro e w3 ⟨⟨A3, c3, B3, rfl, hc3, s3, f3⟩, k3⟩
  have H3 := hid (And.intro s3 (And.intro f3 k3))
  clear s3 f3 k3
  go_wp2_with fail
  go_ret
  have hend : EndsP S r a B3 := ⟨H3.out.2.1.1, fun j => by
    rw [H3.out.2.1.2]
    exact ⟨fun ⟨i, h1, h2⟩ => by rw [(HB.out.1 i).1 h1] at h2; exact h2, fun h => ⟨a, (HB.out.1 a).2 rfl, h⟩⟩⟩
  exact ⟨⟨A3, c3, B3, rfl, hc3, H3.out.1, hend⟩, HB.out.2.nil H3.out.2.2⟩
end Go.Proofs.Ytaaikjedagnjbaa

/- Whole and Find of the document's answer for layer 12, over what Parse is. -/
namespace Go.Proofs.Ytaaikjedagnjbaa
open Go Go.RowKit Go.Lib

/-- What Parse hands back. -/
def ParseP (re : ByteArray) (w : World) (e : Ending) (w' : World) : Prop := (∃ A n c, e = .returned (.tuple #[.slice A n c, .int .i64 (codeR re : Int)]) ∧ ∀ r, reR re = some r → PatAt w' (.slice A n c) r) ∧ Kp [] w w'
set_option maxRecDepth 100000 in
set_option maxHeartbeats 6400000 in
theorem wholed_any (w : World) (re s : ByteArray) (hp : ∀ W, Calls Try.prog 12 #[.string re] W (ParseP re W)) (hv : okS s) (hs : s.size ≤ 1000) :
    Calls Try.prog 14 #[.string re, .string s] w fun e w' => (∃ b, e = .returned (.tuple #[.bool b, .int .i64 (codeR re : Int)]) ∧ WholeP re s b) ∧ Kp [] w w' := by
  have q := hp w
  unfold ParseP at q
  obtain ⟨cd, hcd⟩ : ∃ c, c = codeR re := ⟨_, rfl⟩
  rw [← hcd] at q ⊢
  have qr := fun W => runes_any W s hv (by omega)
  have HCD := hid hcd
  clear hp hcd
  go_enter Try.func14, Try.ntmps14
  go_wp2_with fail
  (with_reducible refine q.mono ?_)
  clear q
  rintro e w1 ⟨⟨A, n, c, rfl, hpat⟩, k1⟩
  have H1 := hid (And.intro hpat k1)
  clear hpat k1
  cases hr : reR re with
  | none =>
    have hc3 := code_none hr
    rw [← HCD.out] at hc3
    have HR := hid hr
    clear hr qr
    rcases hc3 with rfl | rfl
    all_goals go_wp2_with fail
    all_goals
      go_ret2
      exact ⟨⟨false, rfl, by unfold WholeP; rw [HR.out]⟩, H1.out.2⟩
  | some r =>
    have hc0 : cd = 0 := HCD.out.trans (code_some hr)
    subst hc0
    have hpt := H1.out.1 r hr
    have HR := hid hr
    clear hr
    simp only [show ((0 : Nat) : Int) = 0 from rfl]
    go_wp2_with fail
    (with_reducible refine (qr w1).mono ?_)
    clear qr
    rintro e w2 ⟨v, rfl, hown, hnew⟩
    obtain ⟨A2, c2, rfl, hsp, hc2, -, -⟩ := hown.shape
    obtain ⟨S, hS⟩ : ∃ S, S = cps s := ⟨_, rfl⟩
    have hS' : cpsL s.data.toList = S := hS.symm
    rw [hS'] at hsp hc2 ⊢
    obtain ⟨sn, hsn⟩ : ∃ k, k = S.length := ⟨_, rfl⟩
    rw [← hsn] at hc2 ⊢
    have hs40 : sn ≤ 1000 := by have := cps_len s.data.toList; rw [hS'] at this; have h2 : s.data.toList.length = s.size := rfl; omega
    have q := endsd_any w2 (.slice A n c) r (hpt.kept hnew.kp) A2 c2 sn (sn + 1) 0 S hsp hsn hs40 rfl (Nat.zero_le _)
    simp only [show ((0 : Nat) : Int) = 0 from rfl] at q
    obtain ⟨m, hm⟩ : ∃ m, m = sn + 1 := ⟨_, rfl⟩
    rw [← hm] at q
    have H2 := hid (And.intro hS (And.intro hsn (And.intro hnew.kp hm)))
    clear hS hS' hsp hown hnew hpt hsn
    go_wp2_with fail
    (with_reducible refine q.mono ?_)
    clear q
    rintro e w3 ⟨⟨A3, c3, B, rfl, hc3, s3, hE⟩, k3⟩
    obtain ⟨b, hb⟩ : ∃ b, B[sn]? = some b := ⟨_, List.getElem?_eq_getElem (by have := hE.1; have := H2.out.2.1; omega)⟩
    obtain ⟨ab, rfl, yb⟩ := s3 sn _ (bools_at hb)
    have i0 : (sn : Int) < (m : Int) := by omega
    have i1 : sn < m := by omega
    have hbm : b = true ↔ Mt S r 0 S.length := by
      rw [← H2.out.2.1, ← hE.2 sn, hb]
      simp
    have H3 := hid (And.intro hbm k3)
    clear hbm k3 hE hb s3 hm
    go_wp2_with fail
    go_ret2
    refine ⟨⟨b, rfl, ?_⟩, (H1.out.2.nil H2.out.2.2.1).nil H3.out.2⟩
    unfold WholeP
    rw [HR.out]
    show b = true ↔ _
    rw [← H2.out.1]
    exact H3.out.1
set_option maxRecDepth 100000 in
set_option maxHeartbeats 12800000 in
theorem findd_any (w : World) (re s : ByteArray) (hp : ∀ W, Calls Try.prog 12 #[.string re] W (ParseP re W)) (hv : okS s) (hs : s.size ≤ 1000) :
    Calls Try.prog 16 #[.string re, .string s] w fun e w' => (∃ p q : Int, e = .returned (.tuple #[.int .i64 p, .int .i64 q, .int .i64 (codeR re : Int)]) ∧ (codeR re ≠ 0 → p = 0 ∧ q = 0) ∧ ∀ r, reR re = some r → FoundR (cps s) r p q) ∧ Kp [] w w' := by
  have q := hp w
  unfold ParseP at q
  obtain ⟨cd, hcd⟩ : ∃ c, c = codeR re := ⟨_, rfl⟩
  rw [← hcd] at q ⊢
  have qr := fun W => runes_any W s hv (by omega)
  have HCD := hid hcd
  clear hp hcd
  go_enter Try.func16, Try.ntmps16
  go_wp2_with fail
  (with_reducible refine q.mono ?_)
  clear q
  rintro e w1 ⟨⟨A, n, c, rfl, hpat⟩, k1⟩
  have H1 := hid (And.intro hpat k1)
  clear hpat k1
  cases hr : reR re with
  | none =>
    have hc3 := code_none hr
    rw [← HCD.out] at hc3
    have HR := hid hr
    clear hr qr
    rcases hc3 with rfl | rfl
    all_goals go_wp2_with fail
    · exact bodyPost_ret (v := .tuple #[.int .i64 0, .int .i64 0, .int .i64 3]) (by simp [results, Try.results16, go_sem]) rfl ⟨⟨0, 0, rfl, fun _ => ⟨rfl, rfl⟩, fun r h => by rw [HR.out] at h; cases h⟩, H1.out.2⟩
    · exact bodyPost_ret (v := .tuple #[.int .i64 0, .int .i64 0, .int .i64 32]) (by simp [results, Try.results16, go_sem]) rfl ⟨⟨0, 0, rfl, fun _ => ⟨rfl, rfl⟩, fun r h => by rw [HR.out] at h; cases h⟩, H1.out.2⟩
  | some r =>
    have hc0 : cd = 0 := HCD.out.trans (code_some hr)
    subst hc0
    have hpt := H1.out.1 r hr
    have HR : Hid (∀ r', reR re = some r' → r' = r) := hid (fun r' h => by rw [hr] at h; injection h with h; exact h.symm)
    have HC0 : Hid (codeR re = 0) := hid HCD.out.symm
    clear hr HCD
    simp only [show ((0 : Nat) : Int) = 0 from rfl]
    go_wp2_with fail
    (with_reducible refine (qr w1).mono ?_)
    clear qr
    rintro e w2 ⟨v, rfl, hown, hnew⟩
    obtain ⟨A2, c2, rfl, hsp, hc2, -, -⟩ := hown.shape
    obtain ⟨S, hS⟩ : ∃ S, S = cps s := ⟨_, rfl⟩
    have hS' : cpsL s.data.toList = S := hS.symm
    rw [hS'] at hsp hc2 ⊢
    obtain ⟨sn, hsn⟩ : ∃ k, k = S.length := ⟨_, rfl⟩
    rw [← hsn] at hc2 ⊢
    have hs40 : sn ≤ 1000 := by have := cps_len s.data.toList; rw [hS'] at this; have h2 : s.data.toList.length = s.size := rfl; omega
    obtain ⟨m, hm⟩ : ∃ m, m = sn + 1 := ⟨_, rfl⟩
    have H2 := hid (And.intro hS (And.intro hsn (And.intro hnew.kp (And.intro hm (And.intro (hpt.kept hnew.kp) hsp)))))
    have hmn : m ≤ 1001 := by omega
    clear hS hS' hsp hown hnew hpt hsn hm
    go_wp2_with fail
    go_loopg [10] m (fun gg v10 wx => Kp [] w2 wx ∧ ∃ i : Nat, v10 = .int .i64 (i : Int) ∧ i + gg = m ∧ ∀ i' j, i' < i → ¬ Mt S r i' j)
    case atStart => exact ⟨Kp.refl _ _, 0, rfl, by omega, fun i' j h => by omega⟩
    case round =>
      obtain ⟨kx, i, rfl, hig, hno⟩ := hrel
      have HX := hid (And.intro kx hno)
      clear kx hno
      obtain ⟨G, hG⟩ : ∃ G, G = gk := ⟨_, rfl⟩
      have HG := hid hG
      clear hG
      by_cases hi : i ≤ sn
      · have b0 : decide ((i : Int) ≤ (sn : Int)) = true := decide_eq_true (by omega)
        have b1 : (i : Int) ≤ (sn : Int) := by omega
        have b2 : decide (i ≤ sn) = true := decide_eq_true hi
        have iw : IntKind.i64.wrap ((i : Int) + 1) = (i : Int) + 1 := IntWalk.i64_in _ (by omega)
        have q := endsd_any wr (.slice A n c) r (H2.out.2.2.2.2.1.kept HX.out.1) A2 c2 sn m i S (H2.out.2.2.2.2.2.kept HX.out.1) H2.out.2.1 hs40 H2.out.2.2.2.1 hi
        go_wp2_with fail
        (with_reducible refine q.mono ?_)
        clear q
        rintro e w3 ⟨⟨A3, c3, B, rfl, hc3, s3, hE⟩, k3⟩
        have H3 := hid (And.intro s3 (And.intro hE (HX.out.1.nil k3)))
        clear s3 hE k3
        go_wp2_with fail
        go_loopg [12] m (fun gg v12 wx => wx = w3 ∧ ∃ z : Int, v12 = .int .i64 z ∧ (i : Int) - 1 ≤ z ∧ z ≤ (sn : Int) ∧ z + 1 - (i : Int) ≤ (gg : Int) ∧ ∀ j : Nat, z < (j : Int) → ¬ Mt S r i j)
        case atStart =>
          refine ⟨rfl, (sn : Int), rfl, by omega, by omega, by have := H2.out.2.2.2.1; omega, fun j hj hm => ?_⟩
          have := mt_top hm (by have := H2.out.2.1; omega)
          have := H2.out.2.1
          omega
        case round =>
          obtain ⟨hw, z, rfl, hz1, hz2, hzg, hnj⟩ := hrel
          have hw2 := hw.symm
          subst hw2
          have HN := hid hnj
          clear hw hnj
          by_cases hz : (i : Int) ≤ z
          · obtain ⟨k, rfl⟩ : ∃ k : Nat, z = (k : Int) := ⟨z.toNat, by omega⟩
            obtain ⟨b, hb⟩ : ∃ b, B[k]? = some b := ⟨_, List.getElem?_eq_getElem (by have := H3.out.2.1.1; have := H2.out.2.1; omega)⟩
            obtain ⟨ab, rfl, yb⟩ := H3.out.1 k _ (bools_at hb)
            have j0 : decide ((i : Int) ≤ (k : Int)) = true := decide_eq_true hz
            have j1 : decide (i ≤ k) = true := decide_eq_true (by omega)
            have hmn2 := H2.out.2.2.2.1
            have j2 : (k : Int) < (m : Int) := by omega
            have j3 : k < m := by omega
            have iw2 : IntKind.i64.wrap ((k : Int) - 1) = (k : Int) - 1 := IntWalk.i64_in _ (by omega)
            have HB := hid hb
            clear hb hmn2
            cases b with
            | true =>
              have hmt : Mt S r i k := (H3.out.2.1.2 k).1 HB.out
              have HMT := hid hmt
              clear hmt
              go_wp2_with fail
              refine bodyPost_ret (v := .tuple #[.int .i64 (i : Int), .int .i64 (k : Int), .int .i64 0]) (by simp [results, Try.results16, go_sem]) rfl ⟨⟨(i : Int), (k : Int), rfl, fun h => absurd rfl h, fun r' hr' => ?_⟩, (H1.out.2.nil H2.out.2.2.1).nil H3.out.2.2⟩
              rw [HR.out r' hr', ← H2.out.1]
              refine .inr ⟨i, k, rfl, rfl, by have := H2.out.2.1; omega, HMT.out, HX.out.2, fun j hj => ?_⟩
              rcases Nat.lt_or_ge k j with h | h
              · exact absurd hj (HN.out j (by omega))
              · exact h
            | false =>
              have hst : ∀ j : Nat, (k : Int) - 1 < (j : Int) → ¬ Mt S r i j := fun j hj hm => by
                rcases Nat.lt_or_ge k j with h | h
                · exact HN.out j (by omega) hm
                · obtain rfl : j = k := by omega
                  have := (H3.out.2.1.2 j).2 hm
                  rw [HB.out] at this
                  cases this
              have HST := hid hst
              clear hst
              go_wp2_with fail
              go_roundg (gk - 1)
              case measure => omega
              case rel => exact ⟨rfl, (k : Int) - 1, rfl, by omega, by omega, by omega, HST.out⟩
          · have j0 : decide ((i : Int) ≤ z) = false := decide_eq_false hz
            go_wp2_with fail
            go_roundg (G - 1)
            case measure => have := HG.out; have := H2.out.2.2.2.1; omega
            case rel =>
              refine ⟨H3.out.2.2, i + 1, rfl, by have := HG.out; have := H2.out.2.2.2.1; omega, fun i' j hi' hm => ?_⟩
              rcases Nat.lt_or_ge i' i with h | h
              · exact HX.out.2 i' j h hm
              · obtain rfl : i' = i := by omega
                have := mt_le hm
                exact HN.out j (by omega) hm
      · have b0 : decide ((i : Int) ≤ (sn : Int)) = false := decide_eq_false (by omega)
        have b1 : ¬ (i : Int) ≤ (sn : Int) := by omega
        have b2 : decide (i ≤ sn) = false := decide_eq_false hi
        go_wp2_with fail
        refine bodyPost_ret (v := .tuple #[.int .i64 (-1), .int .i64 (-1), .int .i64 0]) (by simp [results, Try.results16, go_sem]) rfl ⟨⟨-1, -1, rfl, fun r' hr' => ?_⟩, (H1.out.2.nil H2.out.2.2.1).nil HX.out.1⟩
        rw [HR.out r' hr', ← H2.out.1]
        exact .inl ⟨rfl, rfl, fun i' j hi' => HX.out.2 i' j (by have := H2.out.2.1; omega)⟩
end Go.Proofs.Ytaaikjedagnjbaa

