/- Div of layer 2. -/
import Derived.Test.YtampgimmodomoaaDoorDPlaces
import Derived.Test.YtampgimmodomoaaDoorDRounded
namespace Go.Proofs.YtampgimmodomoaaDoor
open Go Go.RowKit Go.Lib

theorem kp_iter1 (w : World) (g : Nat) (s : ByteArray) (p : Nat) : Kp [g] w (w.iterAt g s p) :=
  ⟨rfl, rfl, rfl, by rw [iterAt_size]; exact Nat.le_refl _, fun b _ hS => iterAt_other w g b s p (by simpa using hS)⟩
theorem DivQ.iter {w0 w : World} {gd gl : Nat} {ob : Option Nat} {T y x : Nat} {O : List UInt8} (h : DivQ w0 w gd gl ob T y x O) {k : Nat} {s : ByteArray} {p : Nat} (hit : w.heap[k]? = some (.stringIter s p)) (hk : w0.heap.size ≤ k) (p' : Nat) : DivQ w0 (w.iterAt k s p') gd gl ob T y x O := by
  obtain ⟨gb, A, c, h1, h2, h3, h4, h5, h6, h7, h8, h9, h10⟩ := h
  have ne : ∀ {g : Nat} {t : TypeId} {cs : List Value}, Cells w g t cs → g ≠ k := by
    intro g t cs hc e
    subst e
    unfold Cells at hc
    rw [hit] at hc
    cases hc
  have hob : (Value.slice A O.length c).ownBlock ≠ some k := by
    intro e
    rcases h4.2 with ⟨h, _⟩ | ⟨g', cap, cur, h, _, hg, _⟩
    · rw [h] at e; simp [Value.ownBlock] at e
    · rw [h] at e
      have : g' = k := by simpa [Value.ownBlock] using e
      subst this
      rw [hit] at hg
      cases hg
  exact ⟨gb, A, c, h1.iter (ne h1) s p', h2.iter (ne h2) s p', h3.iter (ne h3) s p', h4.keep (kp_iter1 w k s p') (fun g hg => by simp; intro e; exact hob (by rw [hg, e])),
    ⟨kp_iter h5.kp hk s p', h5.blk⟩, h6, h7, h8, h9, h10⟩
theorem DivQ.cell0 {w0 w : World} {gd gl : Nat} {ob : Option Nat} {T y x : Nat} {O : List UInt8} (h : DivQ w0 w gd gl ob T y x O) : w.cell? ⟨gd, 0, none⟩ = some (.slice (some ⟨gl, 0, none⟩) T T) := by
  obtain ⟨gb, A, c, h1, _⟩ := h
  exact h1.cell 0
theorem DivQ.left {w0 w : World} {gd gl : Nat} {ob : Option Nat} {T y x : Nat} {O : List UInt8} (h : DivQ w0 w gd gl ob T y x O) : Cells w gl 111 (i8s (digN T x)) := by
  obtain ⟨gb, A, c, h1, h2, _⟩ := h
  exact h2
theorem DivQ.lt {w0 w : World} {gd gl : Nat} {ob : Option Nat} {T y x : Nat} {O : List UInt8} (h : DivQ w0 w gd gl ob T y x O) : gd < w.heap.size ∧ gl < w.heap.size := by
  obtain ⟨gb, A, c, h1, h2, _⟩ := h
  exact ⟨h1.lt, h2.lt⟩
theorem DivQ.out {w0 w : World} {gd gl : Nat} {ob : Option Nat} {T y x : Nat} {O : List UInt8} (h : DivQ w0 w gd gl ob T y x O) : ∃ A c, w.cell? ⟨gd, 2, none⟩ = some (.slice A O.length c) ∧ Span w A (u8s O) := by
  obtain ⟨gb, A, c, h1, h2, h3, h4, _⟩ := h
  obtain ⟨A', c', hA', hsp, -, -, -⟩ := h4.shape
  injection hA' with hA' _ hc'
  subst hA' hc'
  exact ⟨A, c, h1.cell 2, hsp⟩
theorem kp_room3 {w w1 : World} (k : Kp [] w w1) {g : Nat} (hg : w.heap.size ≤ g) (a b c : Value) : Kp [] w (((w1.setCell ⟨g, 0, none⟩ a).setCell ⟨g, 1, none⟩ b).setCell ⟨g, 2, none⟩ c) :=
  ((k.setCell (p := ⟨g, 0, none⟩) (fun h => by simp at h; omega) a).setCell (p := ⟨g, 1, none⟩) (fun h => by simp at h; omega) b).setCell (p := ⟨g, 2, none⟩) (fun h => by simp at h; omega) c
/-- What a decimal is, letter by letter. -/
theorem dec_letters {d : Dc} (h : Ok d) : ∃ D : List UInt8, D = dtxt d.n ∧ Digs D ∧ D.length ≤ 60 ∧ 0 < D.length ∧ val D = d.n ∧ (D = [48] ↔ d.n = 0) := by
  refine ⟨_, rfl, digs_dtxt _, length_dtxt_le (k := 60) h.1 (by decide), length_dtxt _, val_dtxt _, ?_⟩
  constructor
  · intro e
    have := val_dtxt d.n
    rw [e] at this
    exact this.symm
  · intro e; rw [e]; rfl
theorem div_zero_any (w : World) (a b : Dc) (hb0 : b.n = 0) :
    Calls Tryd.prog 37 #[.agg #[.bool a.neg, .string ⟨(dtxt a.n).toArray⟩, .int .i64 (a.s : Int)], .agg #[.bool b.neg, .string ⟨(dtxt b.n).toArray⟩, .int .i64 (b.s : Int)]] w fun e w' => e = .returned (.tuple #[.agg #[.bool false, .string ⟨#[]⟩, .int .i64 0], .int .i64 5]) ∧ Kp [] w w' := by
  have hB : dtxt b.n = [48] := by rw [hb0]; rfl
  rw [hB]
  obtain ⟨A, hA⟩ : ∃ A, A = dtxt a.n := ⟨_, rfl⟩
  rw [← hA]
  clear hA hB hb0
  have HK := hid ((((Kp.refl [] w).alloc (.cells #[.bool a.neg, .string ⟨A.toArray⟩, .int .i64 (a.s : Int)] 23)).alloc (.cells #[.bool b.neg, .string ⟨#[48]⟩, .int .i64 (b.s : Int)] 23)).alloc (.cells #[.bool false, .string ⟨#[]⟩, .int .i64 0] 23))
  go_enter Tryd.func37, Tryd.ntmps37
  go_wp2_with fail
  exact bodyPost_ret (v := .tuple #[.agg #[.bool false, .string ⟨#[]⟩, .int .i64 0], .int .i64 5]) (by simp [results, Tryd.results37, go_sem]) rfl ⟨rfl, HK.out⟩
set_option maxRecDepth 100000 in
set_option maxHeartbeats 12800000 in
theorem div_any (w : World) (a b : Dc) (ha : Ok a) (hb : Ok b) (hb0 : b.n ≠ 0) :
    Calls Tryd.prog 37 #[.agg #[.bool a.neg, .string ⟨(dtxt a.n).toArray⟩, .int .i64 (a.s : Int)], .agg #[.bool b.neg, .string ⟨(dtxt b.n).toArray⟩, .int .i64 (b.s : Int)]] w (MadePost w (divD a b)) := by
  obtain ⟨A, hA, dA, lA, lA0, vA, -⟩ := dec_letters ha
  obtain ⟨B, hB, dB, lB, lB0, vB, hB48⟩ := dec_letters hb
  have hsa := ha.2.1
  have hsb := hb.2.1
  have hbB : (B == [48]) = false := by rw [beq_eq_false_iff_ne]; exact fun e => hb0 (hB48.1 e)
  obtain ⟨R, hR⟩ : ∃ R, R = divD a b := ⟨_, rfl⟩
  have hRD : R = scD (a.neg != b.neg) (rndK (quoV a b) (quoM a b)) ((a.s : Int) - b.s + quoJ a.n b.n - rndT (quoV a b)) := hR
  rw [← hR, ← hA, ← hB]
  unfold quoV quoM at hRD
  rw [← vA, ← vB] at hRD
  obtain ⟨y, hy⟩ : ∃ y, y = val B := ⟨_, rfl⟩
  rw [← hy] at hRD
  have hy0 : 0 < y := by omega
  obtain ⟨T, hT⟩ : ∃ T, T = B.length + 1 := ⟨_, rfl⟩
  have hyT : y < 10 ^ (T - 1) := by rw [hT, Nat.add_sub_cancel, hy]; exact val_lt B dB
  have hy60 : y < 10 ^ 60 := by rw [hy, vB]; exact hb.1
  obtain ⟨na, hna⟩ : ∃ x, x = a.neg := ⟨_, rfl⟩
  obtain ⟨nb, hnb⟩ : ∃ x, x = b.neg := ⟨_, rfl⟩
  obtain ⟨sa, hsaD⟩ : ∃ x, x = a.s := ⟨_, rfl⟩
  obtain ⟨sb, hsbD⟩ : ∃ x, x = b.s := ⟨_, rfl⟩
  rw [← hna, ← hnb, ← hsaD, ← hsbD] at hRD ⊢
  rw [← hsaD] at hsa
  rw [← hsbD] at hsb
  have qd := fun W => divides_any W B dB (by omega)
  rw [← hT, ← hy] at qd
  have qx := fun W0 W gd gl ob x O c hc hO hx h => next_any W0 W gd gl ob T y x O c hc (by omega) (by omega) hO hyT hx h
  have HR := hid hRD
  have HA := hid (And.intro dA (And.intro hy0 (And.intro hyT hy60)))
  have Hqx := hid qx
  have T9 : T ≤ 61 := by omega
  have hAs : (⟨A.toArray⟩ : ByteArray).size = A.length := size_mk _
  have hT0 : 0 < T := by omega
  clear hA hB dA dB vA vB hB48 hR hRD hy hy0 hT hyT hna hnb hsaD hsbD qx hy60
  have w1 : IntKind.i64.wrap ((sa : Int) - (sb : Int)) = (sa : Int) - (sb : Int) := IntWalk.i64_in _ (by omega)
  go_enter Tryd.func37, Tryd.ntmps37
  go_wp2_with fail
  obtain ⟨W0, hW0⟩ : ∃ W0, W0 = (((w.alloc (.cells #[.bool na, .string ⟨A.toArray⟩, .int .i64 (sa : Int)] 23)).alloc (.cells #[.bool nb, .string ⟨B.toArray⟩, .int .i64 (sb : Int)] 23)).alloc (.cells #[.bool false, .string ⟨#[]⟩, .int .i64 0] 23)) := ⟨_, rfl⟩
  have hK0 : Kp [] w W0 := by rw [hW0]; exact (((Kp.refl _ _).alloc _).alloc _).alloc _
  have hC0 : Cells W0 w.heap.size 23 [.bool na, .string ⟨A.toArray⟩, .int .i64 (sa : Int)] := by rw [hW0]; exact ((Cells.fresh w 23 _).alloc _).alloc _
  have hC1 : Cells W0 (w.heap.size + 1) 23 [.bool nb, .string ⟨B.toArray⟩, .int .i64 (sb : Int)] := by rw [hW0]; exact (Cells.fresh1 w _ 23 _).alloc _
  have hC2 : Room (w.heap.size + 1 + 1) W0 := by
    rw [hW0]
    have := Cells.fresh1 (w.alloc (.cells #[.bool na, .string ⟨A.toArray⟩, .int .i64 (sa : Int)] 23)) (.cells #[.bool nb, .string ⟨B.toArray⟩, .int .i64 (sb : Int)] 23) 23 [.bool false, .string ⟨#[]⟩, .int .i64 0]
    exact ⟨_, by simpa using this, rfl⟩
  rw [← hW0]
  have H0 := hid (And.intro hK0 (And.intro hC0 (And.intro hC1 hC2)))
  clear hK0 hC0 hC1 hC2 hW0
  (with_reducible refine (qd _).mono ?_)
  rintro e w1 ⟨gd, gl, rfl, hQ⟩
  obtain ⟨hgd, hgl⟩ := hQ.lt
  have a1 : w1.cell? ⟨w.heap.size, 1, none⟩ = _ := (H0.out.2.1.keep hQ.kp (by simp)).cell 1
  simp only [List.getElem?_cons_zero, List.getElem?_cons_succ] at a1
  have HQ := hid hQ
  have hs1 : W0.heap.size ≤ w1.heap.size := hQ.kp.size
  clear hQ qd
  go_wp2_with fail
  clear a1
  go_loopw [] (fun wr => ∃ (pos x : Nat) (O : List UInt8) (ob : Option Nat), wr.heap[w1.heap.size]? = some (.stringIter ⟨A.toArray⟩ pos) ∧ DivQ W0 wr gd gl ob T y x O ∧ LongI y (A.take pos) O x ∧ pos ≤ A.length ∧ ob ≠ some w1.heap.size ∧ w1.heap.size < wr.heap.size) (fun wr => A.length - wr.iterPos w1.heap.size)
  case atStart => exact ⟨0, 0, [], none, World.iter_heap w1 _ 0, HQ.out.kept ((Kp.refl _ _).alloc _), by rw [List.take_zero]; exact LongI.start HA.out.2.1, Nat.zero_le _, nofun, by show w1.heap.size < (w1.alloc _).heap.size; rw [World.size_alloc]; omega⟩
  case round =>
    obtain ⟨pos, x, O, ob, hit, hQ, hL, hpos, hob, hsz⟩ := hrel
    by_cases hp : pos < A.length
    · obtain ⟨d1, d2, d3⟩ := dec_dig HA.out.1 hp
      have hnx : ∀ ty, (Instr.next (.pointer (some ⟨w1.heap.size, 0, none⟩)) true ty).run Tryd.prog wr = _ := fun ty => Lib.run_next_any_at wr w1.heap.size ⟨A.toArray⟩ pos ty hit (by rw [hAs]; exact hp)
      rw [d1] at hnx
      have hh1 := Lib.iterAt_heap wr w1.heap.size ⟨A.toArray⟩ pos (pos + 1) hit
      have hQ3 := hQ.iter hit hs1 (pos + 1)
      have hsz3 : w1.heap.size < (wr.iterAt w1.heap.size ⟨A.toArray⟩ (pos + 1)).heap.size := by rw [iterAt_size]; exact hsz
      obtain ⟨W3, hW3⟩ : ∃ W3, W3 = wr.iterAt w1.heap.size ⟨A.toArray⟩ (pos + 1) := ⟨_, rfl⟩
      simp only [← hW3] at hnx hh1 hQ3 hsz3
      have htk := List.take_append_getElem hp
      obtain ⟨c, hc⟩ : ∃ c, c = A[pos] := ⟨_, rfl⟩
      have hget := byteAt A pos c.toNat hp (by rw [hc])
      rw [← hc] at htk hnx d2 d3
      have hcd : Dig c := ⟨d2, d3⟩
      obtain ⟨hL2, _, _⟩ := hL.next hcd
      rw [htk] at hL2
      have hOl := hL.2.1
      rw [List.length_take] at hOl
      have qn := Hqx.out W0 W3 gd gl ob x O c hcd (by omega) hL.2.2.2 hQ3
      have a1 : W3.cell? ⟨w.heap.size, 1, none⟩ = _ := (H0.out.2.1.keep hQ3.kp (by simp)).cell 1
      simp only [List.getElem?_cons_zero, List.getElem?_cons_succ] at a1
      obtain ⟨m, hm⟩ : ∃ m, m = c.toNat := ⟨_, rfl⟩
      rw [← hm] at hget hnx d2 d3
      have hxm : Hid (∀ W, W = W3 → Calls Tryd.prog 70 #[.pointer (some ⟨gd, 0, none⟩), .int .u8 (m : Int)] W fun e w' => e = .returned (.tuple #[]) ∧ ∃ ob', DivQ W0 w' gd gl ob' T y ((x * 10 + (c.toNat - 48)) % y) (O ++ [dg ((x * 10 + (c.toNat - 48)) / y)]) ∧ Kp (gd :: gl :: ob.toList) W3 w' ∧ (ob' = ob ∨ ∃ n, ob' = some n ∧ W3.heap.size ≤ n)) := hid (fun W hW => by rw [hW, hm]; exact qn)
      have HH := hid (And.intro hL2 (And.intro hh1 (And.intro hob (And.intro hsz3 hit))))
      have i0 : (0 : Int) ≤ (pos : Int) := by omega
      have i1 : (pos : Int) < (A.length : Int) := by omega
      clear qn hL2 hh1 hob hsz3 hit hQ hQ3 hL hOl htk hc hm d1 hcd hW3 hsz
      go_wp2_with fail
      (with_reducible refine (hxm.out _ rfl).mono ?_)
      rintro e w5 ⟨rfl, ob', hQ5, hk5, hob5⟩
      have hit5 : w5.heap[w1.heap.size]? = some (.stringIter ⟨A.toArray⟩ (pos + 1)) := (hk5.block _ HH.out.2.2.2.1 (by
        intro hm
        rcases List.mem_cons.1 hm with h | hm
        · omega
        · rcases List.mem_cons.1 hm with h | hm
          · omega
          · exact HH.out.2.2.1 (by simpa using hm))).trans HH.out.2.1
      have hob6 : ob' ≠ some w1.heap.size := by
        rcases hob5 with h | ⟨n, h, hn⟩
        · rw [h]; exact HH.out.2.2.1
        · rw [h]; intro e; injection e with e; have := HH.out.2.2.2.1; omega
      have hsz5 : w1.heap.size < w5.heap.size := Nat.lt_of_lt_of_le HH.out.2.2.2.1 hk5.size
      have H5 := hid (And.intro hit5 (And.intro hQ5 (And.intro hob6 hsz5)))
      clear hit5 hQ5 hob6 hsz5 hk5 hob5
      go_wp2_with fail
      go_roundw
      case rel => exact ⟨pos + 1, _, _, ob', H5.out.1, H5.out.2.1, HH.out.1, by omega, H5.out.2.2.1, H5.out.2.2.2⟩
      case measure =>
        simp only [World.iterPos, H5.out.1, HH.out.2.2.2.2]
        omega
    · have hnx : ∀ ty, (Instr.next (.pointer (some ⟨w1.heap.size, 0, none⟩)) true ty).run Tryd.prog wr = _ := fun ty => Lib.run_next_end_at wr w1.heap.size ⟨A.toArray⟩ pos ty hit (by rw [hAs]; exact hp)
      rw [List.take_of_length_le (by omega)] at hL
      have a2 : wr.cell? ⟨w.heap.size, 2, none⟩ = _ := (H0.out.2.1.keep hQ.kp (by simp)).cell 2
      have b2 : wr.cell? ⟨w.heap.size + 1, 2, none⟩ = _ := (H0.out.2.2.1.keep hQ.kp (by simp)).cell 2
      simp only [List.getElem?_cons_zero, List.getElem?_cons_succ] at a2 b2
      have HQ2 := hid (And.intro hQ hL)
      clear hit hQ hL hob hsz
      go_wp2_with fail
      clear a2 b2 hnx
      go_loopw [8] (fun v8 wz => ∃ (j x : Nat) (O : List UInt8) (ob : Option Nat), v8 = .int .i64 ((sa : Int) - (sb : Int) + (j : Int)) ∧ DivQ W0 wz gd gl ob T y x O ∧ LongI y (A ++ List.replicate j 48) O x ∧ (∀ i, i < j → ¬ stopJ (val A) y i) ∧ j ≤ 94) (fun v8 _ => (300 - intOf v8).toNat)
      case atStart => exact ⟨0, x, O, ob, by go_num, HQ2.out.1, by rw [List.replicate_zero, List.append_nil]; exact HQ2.out.2, fun i hi => by omega, by omega⟩
      case round =>
        obtain ⟨j, x, O, ob, rfl, hQ, hL, hns, hj⟩ := hrel
        obtain ⟨hst, hv, hx⟩ := hL.stop
        have hOl : O.length ≤ 200 := by rw [hL.2.1, List.length_append, List.length_replicate]; omega
        have hO := hL.1
        have hx60 : x < 10 ^ T := Nat.lt_of_lt_of_le (Nat.lt_trans hL.2.2.2 HA.out.2.2.1) (Nat.pow_le_pow_right (by decide) (by omega))
        have qn := fun W h => none_any W gl T x (by omega) hx60 h
        have qp := places_any W0 wr gd T y x O hO (by omega) hQ.s
        have hdi := length_dstr_iff (n := val O) (k := 34)
        have c0 := hQ.cell0
        obtain ⟨z0, hz0⟩ : ∃ z, z = decide (x = 0) := ⟨_, rfl⟩
        rw [← hz0] at qn
        have qn1 := qn wr hQ.left
        obtain ⟨l, hl⟩ : ∃ l, l = (dstr (val O)).length := ⟨_, rfl⟩
        rw [← hl] at qp hdi
        by_cases hstop : stopJ (val A) y j
        · have hq := quoJ_is hstop (by omega) hns
          have hex : z0 = true ∨ (z0 = false ∧ decide ((l : Int) ≤ 34) = false) := by
            rcases hst.1 hstop with h | h
            · exact .inl (by rw [hz0, decide_eq_true h])
            · by_cases h0 : x = 0
              · exact .inl (by rw [hz0, decide_eq_true h0])
              · refine .inr ⟨by rw [hz0, decide_eq_false h0], decide_eq_false (fun h2 => ?_)⟩
                have := hdi.1 (by omega)
                omega
          -- what comes behind the loop
          have qr := fun W => rounded_any W O hO (by omega) (!z0)
          obtain ⟨A2, c2, hs0, hs3⟩ := hQ.out
          obtain ⟨N2, hN2⟩ : ∃ N, O.length = N := ⟨_, rfl⟩
          rw [hN2] at hs0
          have HN2 := hid hN2
          have hs1 := c0
          have hs2 := hQ.left
          have hkz := hQ.kp
          have hval : R = scD (na != nb) (rndK (val O) (!z0)) ((sa : Int) - (sb : Int) + (j : Int) - (rndT (val O) : Nat)) := by
            have h := HR.out
            rw [hq, ← hv, ← hx] at h
            rw [h, hz0]
            congr 2
            by_cases h0 : x = 0
            · rw [decide_eq_true h0, decide_eq_false (fun h => h h0)]; rfl
            · rw [decide_eq_false h0, decide_eq_true h0]; rfl
          obtain ⟨rt, hrt⟩ : ∃ r, r = rndT (val O) := ⟨_, rfl⟩
          have hrt9 : rt ≤ 200 := by
            rw [hrt]
            unfold rndT
            split
            · omega
            · rw [← hl]
              have := length_dstr_le (val_lt O hO)
              rw [← hl] at this
              omega
          have qk := fun W h => (qn W h).mono fun e w' h2 => (⟨h2.1, by rw [h2.2]; exact Kp.refl _ _⟩ : e = .returned (.bool z0) ∧ Kp [] W w')
          have HV := hid (And.intro hval (And.intro hkz hrt))
          have HQz := hid hQ
          clear hval hkz hrt hst hv hx hns hstop hq hdi hl hz0 hO hL hx60 hQ qn hN2
          rcases hex with rfl | ⟨rfl, b34⟩
          · go_wp2_with fail
            (with_reducible refine (qn1).mono ?_)
            rintro e w5 ⟨rfl, rfl⟩
            clear qn1 qp
            simp only [Bool.not_true] at qr HV
            go_wp2_with fail
            refine lin_start (fun w' => w'.cell? ⟨gd, 2, none⟩ = some (.slice A2 N2 c2) ∧ w'.cell? ⟨gd, 0, none⟩ = some (.slice (some ⟨gl, 0, none⟩) T T) ∧ Cells w' gl 111 (i8s (digN T x)) ∧ Span w' A2 (u8s O)) ((Stays.cell _ _).and ((Stays.cell _ _).and ((Stays.cells _ _ _).and (Stays.span _ _)))) (by kernel_rfl) ⟨hs0, hs1, hs2, hs3⟩ (fun hSS hS => ?_)
            refine lin_val (i := 0) (v := ?_) rfl (by kernel_rfl) (by kernel_rfl) (by kernel_rfl) (fun _ _ _ h => h) hSS hS rfl (fun w hSw => ?_) ?_
            rotate_left
            · obtain ⟨q0, q1, q2, q3⟩ := hSw; have htx := run_text (P := Tryd.prog) (src := 32) (e := 5) (dst := 9) Tryd.underlying32 Tryd.underlying5 Tryd.underlying9 q3 N2 c2 HN2.out; go_simp; first | done | with_reducible rfl
            simp only [Act.put, List.setIfInBounds_toArray, List.set_cons_zero, List.set_cons_succ]
            refine lin_val (i := 1) (v := ?_) rfl (by kernel_rfl) (by kernel_rfl) (by kernel_rfl) (fun _ _ _ h => h) hSS hS rfl (fun w hSw => ?_) ?_
            rotate_left
            · obtain ⟨q0, q1, q2, q3⟩ := hSw; have htx := run_text (P := Tryd.prog) (src := 32) (e := 5) (dst := 9) Tryd.underlying32 Tryd.underlying5 Tryd.underlying9 q3 N2 c2 HN2.out; go_simp; first | done | with_reducible rfl
            simp only [Act.put, List.setIfInBounds_toArray, List.set_cons_zero, List.set_cons_succ]
            refine lin_val (i := 2) (v := ?_) rfl (by kernel_rfl) (by kernel_rfl) (by kernel_rfl) (fun _ _ _ h => h) hSS hS rfl (fun w hSw => ?_) ?_
            rotate_left
            · obtain ⟨q0, q1, q2, q3⟩ := hSw; have htx := run_text (P := Tryd.prog) (src := 32) (e := 5) (dst := 9) Tryd.underlying32 Tryd.underlying5 Tryd.underlying9 q3 N2 c2 HN2.out; go_simp; first | done | with_reducible rfl
            simp only [Act.put, List.setIfInBounds_toArray, List.set_cons_zero, List.set_cons_succ]
            refine lin_val (i := 3) (v := ?_) rfl (by kernel_rfl) (by kernel_rfl) (by kernel_rfl) (fun _ _ _ h => h) hSS hS rfl (fun w hSw => ?_) ?_
            rotate_left
            · obtain ⟨q0, q1, q2, q3⟩ := hSw; have htx := run_text (P := Tryd.prog) (src := 32) (e := 5) (dst := 9) Tryd.underlying32 Tryd.underlying5 Tryd.underlying9 q3 N2 c2 HN2.out; go_simp; first | done | with_reducible rfl
            simp only [Act.put, List.setIfInBounds_toArray, List.set_cons_zero, List.set_cons_succ]
            refine lin_val (i := 4) (v := ?_) rfl (by kernel_rfl) (by kernel_rfl) (by kernel_rfl) (fun _ _ _ h => h) hSS hS rfl (fun w hSw => ?_) ?_
            rotate_left
            · obtain ⟨q0, q1, q2, q3⟩ := hSw; have htx := run_text (P := Tryd.prog) (src := 32) (e := 5) (dst := 9) Tryd.underlying32 Tryd.underlying5 Tryd.underlying9 q3 N2 c2 HN2.out; go_simp; first | done | with_reducible rfl
            simp only [Act.put, List.setIfInBounds_toArray, List.set_cons_zero, List.set_cons_succ]
            refine lin_val (i := 5) (v := ?_) rfl (by kernel_rfl) (by kernel_rfl) (by kernel_rfl) (fun _ _ _ h => h) hSS hS rfl (fun w hSw => ?_) ?_
            rotate_left
            · obtain ⟨q0, q1, q2, q3⟩ := hSw; have htx := run_text (P := Tryd.prog) (src := 32) (e := 5) (dst := 9) Tryd.underlying32 Tryd.underlying5 Tryd.underlying9 q3 N2 c2 HN2.out; go_simp; first | done | with_reducible rfl
            simp only [Act.put, List.setIfInBounds_toArray, List.set_cons_zero, List.set_cons_succ]
            refine lin_val (i := 6) (v := ?_) rfl (by kernel_rfl) (by kernel_rfl) (by kernel_rfl) (fun _ _ _ h => h) hSS hS rfl (fun w hSw => ?_) ?_
            rotate_left
            · obtain ⟨q0, q1, q2, q3⟩ := hSw; have htx := run_text (P := Tryd.prog) (src := 32) (e := 5) (dst := 9) Tryd.underlying32 Tryd.underlying5 Tryd.underlying9 q3 N2 c2 HN2.out; go_simp; first | done | with_reducible rfl
            simp only [Act.put, List.setIfInBounds_toArray, List.set_cons_zero, List.set_cons_succ]
            refine lin_val (i := 7) (v := ?_) rfl (by kernel_rfl) (by kernel_rfl) (by kernel_rfl) (fun _ _ _ h => h) hSS hS rfl (fun w hSw => ?_) ?_
            rotate_left
            · obtain ⟨q0, q1, q2, q3⟩ := hSw; have htx := run_text (P := Tryd.prog) (src := 32) (e := 5) (dst := 9) Tryd.underlying32 Tryd.underlying5 Tryd.underlying9 q3 N2 c2 HN2.out; go_simp; first | done | with_reducible rfl
            simp only [Act.put, List.setIfInBounds_toArray, List.set_cons_zero, List.set_cons_succ]
            refine lin_val (i := 8) (v := ?_) rfl (by kernel_rfl) (by kernel_rfl) (by kernel_rfl) (fun _ _ _ h => h) hSS hS rfl (fun w hSw => ?_) ?_
            rotate_left
            · obtain ⟨q0, q1, q2, q3⟩ := hSw; have htx := run_text (P := Tryd.prog) (src := 32) (e := 5) (dst := 9) Tryd.underlying32 Tryd.underlying5 Tryd.underlying9 q3 N2 c2 HN2.out; go_simp; first | done | with_reducible rfl
            simp only [Act.put, List.setIfInBounds_toArray, List.set_cons_zero, List.set_cons_succ]
            refine lin_call (i := 9) rfl (by kernel_rfl) (by kernel_rfl) (by kernel_rfl) (fun _ _ _ h => h) hSS hS rfl (fun w hw => qk w hw.2.2.1) (fun w hSw => ?_) ?_
            · obtain ⟨q0, q1, q2, q3⟩ := hSw; go_simp
            simp only [Act.put, List.setIfInBounds_toArray, List.set_cons_zero, List.set_cons_succ]
            refine lin_val (i := 10) (v := ?_) rfl (by kernel_rfl) (by kernel_rfl) (by kernel_rfl) (fun _ _ _ h => h) hSS hS rfl (fun w hSw => ?_) ?_
            rotate_left
            · obtain ⟨q0, q1, q2, q3⟩ := hSw; have htx := run_text (P := Tryd.prog) (src := 32) (e := 5) (dst := 9) Tryd.underlying32 Tryd.underlying5 Tryd.underlying9 q3 N2 c2 HN2.out; go_simp; first | done | with_reducible rfl
            simp only [Act.put, List.setIfInBounds_toArray, List.set_cons_zero, List.set_cons_succ]
            refine lin_step (i := 11) (by kernel_rfl) rfl (fun wa ka K hK => ?_)
            go_simp
            (with_reducible refine (qr _).mono ?_)
            rintro e w7 ⟨KD, rfl, hKd, hKv, hKl, k7⟩
            refine hK.out _ _ (hSS _ _ hS (ka.nil k7)) (fun hS1 => ?_)
            have kall := ka.nil k7
            clear hK K hS ka k7
            try simp only [Act.put, List.setIfInBounds_toArray, List.set_cons_zero, List.set_cons_succ]
            refine lin_val (i := 12) (v := ?_) rfl (by kernel_rfl) (by kernel_rfl) (by kernel_rfl) (fun _ _ _ h => h) hSS hS1 rfl (fun w hSw => ?_) ?_
            rotate_left
            · go_simp; first | done | with_reducible rfl
            simp only [Act.put, List.setIfInBounds_toArray, List.set_cons_zero, List.set_cons_succ]
            refine lin_val (i := 13) (v := ?_) rfl (by kernel_rfl) (by kernel_rfl) (by kernel_rfl) (fun _ _ _ h => h) hSS hS1 rfl (fun w hSw => ?_) ?_
            rotate_left
            · go_simp; first | done | with_reducible rfl
            simp only [Act.put, List.setIfInBounds_toArray, List.set_cons_zero, List.set_cons_succ]
            refine lin_val (i := 14) (v := ?_) rfl (by kernel_rfl) (by kernel_rfl) (by kernel_rfl) (fun _ _ _ h => h) hSS hS1 rfl (fun w hSw => ?_) ?_
            rotate_left
            · go_simp; first | done | with_reducible rfl
            simp only [Act.put, List.setIfInBounds_toArray, List.set_cons_zero, List.set_cons_succ]
            refine lin_val (i := 15) (v := ?_) rfl (by kernel_rfl) (by kernel_rfl) (by kernel_rfl) (fun _ _ _ h => h) hSS hS1 rfl (fun w hSw => ?_) ?_
            rotate_left
            · go_simp; first | done | with_reducible rfl
            simp only [Act.put, List.setIfInBounds_toArray, List.set_cons_zero, List.set_cons_succ]
            refine lin_val (i := 16) (v := ?_) rfl (by kernel_rfl) (by kernel_rfl) (by kernel_rfl) (fun _ _ _ h => h) hSS hS1 rfl (fun w hSw => ?_) ?_
            rotate_left
            · go_simp; first | done | with_reducible rfl
            simp only [Act.put, List.setIfInBounds_toArray, List.set_cons_zero, List.set_cons_succ]
            refine lin_done (by kernel_rfl) (fun wn kn => ?_) _
            clear hS1 hSS
            have KN : Kp [] W0 wn := ((HV.out.2.1.drew).nil kall).nil kn
            have a0 : wn.cell? ⟨w.heap.size, 0, none⟩ = _ := (H0.out.2.1.keep KN (by simp)).cell 0
            have b0 : wn.cell? ⟨w.heap.size + 1, 0, none⟩ = _ := (H0.out.2.2.1.keep KN (by simp)).cell 0
            simp only [List.getElem?_cons_zero] at a0 b0
            obtain ⟨sc, hsc⟩ : ∃ sc : Int, sc = (sa : Int) - (sb : Int) + (j : Int) - (rt : Int) := ⟨_, rfl⟩
            have w2 : IntKind.i64.wrap ((sa : Int) - (sb : Int) + (j : Int) - ((rndT (val O) : Nat) : Int)) = sc := by rw [← HV.out.2.2, IntWalk.i64_in _ (by omega)]; exact hsc.symm
            have qs := fun W => (scaled_any W (na != nb) KD hKd (by omega) sc (by omega) (by omega)).mono fun e w' h => (⟨by
              have h2 := h.1
              rw [hKv, hsc, HV.out.2.2, ← HV.out.1, resV_is] at h2
              exact h2, h.2⟩ : e = .returned (.tuple #[.agg #[.bool (oN R), .string ⟨(oL R).toArray⟩, .int .i64 (oS R)], .int .i64 (oE R)]) ∧ Kp [] W w')
            simp only [bne] at qs
            have HKN := hid KN
            clear hKd hKv hKl KN kall kn hs0 hs1 hs2 hs3 hsc qr
            go_wp2_with fail
            (with_reducible refine (qs _).mono ?_)
            rintro e w9 ⟨rfl, k9⟩
            have hk9 := HKN.out.nil k9
            obtain ⟨_, _, _, c0, c1, c2, f0, f1, f2⟩ := (H0.out.2.2.2.kept hk9).cells
            have HK9 := hid (H0.out.1.nil hk9)
            clear k9 hk9 qs
            go_wp2_with fail
            exact bodyPost_ret (v := .tuple #[.agg #[.bool (oN R), .string ⟨(oL R).toArray⟩, .int .i64 (oS R)], .int .i64 (oE R)]) (by simp [results, Tryd.results37, go_sem, c0, c1, c2]) rfl ⟨by rw [resV_is], kp_room3 HK9.out (by omega) _ _ _⟩
          · go_wp2_with fail
            (with_reducible refine (qn1).mono ?_)
            rintro e w5 ⟨rfl, rfl⟩
            go_wp2_with fail
            (with_reducible refine (qp).mono ?_)
            rintro e w5 ⟨rfl, rfl⟩
            clear qn1 qp
            simp only [Bool.not_false] at qr HV
            go_wp2_with fail
            refine lin_start (fun w' => w'.cell? ⟨gd, 2, none⟩ = some (.slice A2 N2 c2) ∧ w'.cell? ⟨gd, 0, none⟩ = some (.slice (some ⟨gl, 0, none⟩) T T) ∧ Cells w' gl 111 (i8s (digN T x)) ∧ Span w' A2 (u8s O)) ((Stays.cell _ _).and ((Stays.cell _ _).and ((Stays.cells _ _ _).and (Stays.span _ _)))) (by kernel_rfl) ⟨hs0, hs1, hs2, hs3⟩ (fun hSS hS => ?_)
            refine lin_val (i := 0) (v := ?_) rfl (by kernel_rfl) (by kernel_rfl) (by kernel_rfl) (fun _ _ _ h => h) hSS hS rfl (fun w hSw => ?_) ?_
            rotate_left
            · obtain ⟨q0, q1, q2, q3⟩ := hSw; have htx := run_text (P := Tryd.prog) (src := 32) (e := 5) (dst := 9) Tryd.underlying32 Tryd.underlying5 Tryd.underlying9 q3 N2 c2 HN2.out; go_simp; first | done | with_reducible rfl
            simp only [Act.put, List.setIfInBounds_toArray, List.set_cons_zero, List.set_cons_succ]
            refine lin_val (i := 1) (v := ?_) rfl (by kernel_rfl) (by kernel_rfl) (by kernel_rfl) (fun _ _ _ h => h) hSS hS rfl (fun w hSw => ?_) ?_
            rotate_left
            · obtain ⟨q0, q1, q2, q3⟩ := hSw; have htx := run_text (P := Tryd.prog) (src := 32) (e := 5) (dst := 9) Tryd.underlying32 Tryd.underlying5 Tryd.underlying9 q3 N2 c2 HN2.out; go_simp; first | done | with_reducible rfl
            simp only [Act.put, List.setIfInBounds_toArray, List.set_cons_zero, List.set_cons_succ]
            refine lin_val (i := 2) (v := ?_) rfl (by kernel_rfl) (by kernel_rfl) (by kernel_rfl) (fun _ _ _ h => h) hSS hS rfl (fun w hSw => ?_) ?_
            rotate_left
            · obtain ⟨q0, q1, q2, q3⟩ := hSw; have htx := run_text (P := Tryd.prog) (src := 32) (e := 5) (dst := 9) Tryd.underlying32 Tryd.underlying5 Tryd.underlying9 q3 N2 c2 HN2.out; go_simp; first | done | with_reducible rfl
            simp only [Act.put, List.setIfInBounds_toArray, List.set_cons_zero, List.set_cons_succ]
            refine lin_val (i := 3) (v := ?_) rfl (by kernel_rfl) (by kernel_rfl) (by kernel_rfl) (fun _ _ _ h => h) hSS hS rfl (fun w hSw => ?_) ?_
            rotate_left
            · obtain ⟨q0, q1, q2, q3⟩ := hSw; have htx := run_text (P := Tryd.prog) (src := 32) (e := 5) (dst := 9) Tryd.underlying32 Tryd.underlying5 Tryd.underlying9 q3 N2 c2 HN2.out; go_simp; first | done | with_reducible rfl
            simp only [Act.put, List.setIfInBounds_toArray, List.set_cons_zero, List.set_cons_succ]
            refine lin_val (i := 4) (v := ?_) rfl (by kernel_rfl) (by kernel_rfl) (by kernel_rfl) (fun _ _ _ h => h) hSS hS rfl (fun w hSw => ?_) ?_
            rotate_left
            · obtain ⟨q0, q1, q2, q3⟩ := hSw; have htx := run_text (P := Tryd.prog) (src := 32) (e := 5) (dst := 9) Tryd.underlying32 Tryd.underlying5 Tryd.underlying9 q3 N2 c2 HN2.out; go_simp; first | done | with_reducible rfl
            simp only [Act.put, List.setIfInBounds_toArray, List.set_cons_zero, List.set_cons_succ]
            refine lin_val (i := 5) (v := ?_) rfl (by kernel_rfl) (by kernel_rfl) (by kernel_rfl) (fun _ _ _ h => h) hSS hS rfl (fun w hSw => ?_) ?_
            rotate_left
            · obtain ⟨q0, q1, q2, q3⟩ := hSw; have htx := run_text (P := Tryd.prog) (src := 32) (e := 5) (dst := 9) Tryd.underlying32 Tryd.underlying5 Tryd.underlying9 q3 N2 c2 HN2.out; go_simp; first | done | with_reducible rfl
            simp only [Act.put, List.setIfInBounds_toArray, List.set_cons_zero, List.set_cons_succ]
            refine lin_val (i := 6) (v := ?_) rfl (by kernel_rfl) (by kernel_rfl) (by kernel_rfl) (fun _ _ _ h => h) hSS hS rfl (fun w hSw => ?_) ?_
            rotate_left
            · obtain ⟨q0, q1, q2, q3⟩ := hSw; have htx := run_text (P := Tryd.prog) (src := 32) (e := 5) (dst := 9) Tryd.underlying32 Tryd.underlying5 Tryd.underlying9 q3 N2 c2 HN2.out; go_simp; first | done | with_reducible rfl
            simp only [Act.put, List.setIfInBounds_toArray, List.set_cons_zero, List.set_cons_succ]
            refine lin_val (i := 7) (v := ?_) rfl (by kernel_rfl) (by kernel_rfl) (by kernel_rfl) (fun _ _ _ h => h) hSS hS rfl (fun w hSw => ?_) ?_
            rotate_left
            · obtain ⟨q0, q1, q2, q3⟩ := hSw; have htx := run_text (P := Tryd.prog) (src := 32) (e := 5) (dst := 9) Tryd.underlying32 Tryd.underlying5 Tryd.underlying9 q3 N2 c2 HN2.out; go_simp; first | done | with_reducible rfl
            simp only [Act.put, List.setIfInBounds_toArray, List.set_cons_zero, List.set_cons_succ]
            refine lin_val (i := 8) (v := ?_) rfl (by kernel_rfl) (by kernel_rfl) (by kernel_rfl) (fun _ _ _ h => h) hSS hS rfl (fun w hSw => ?_) ?_
            rotate_left
            · obtain ⟨q0, q1, q2, q3⟩ := hSw; have htx := run_text (P := Tryd.prog) (src := 32) (e := 5) (dst := 9) Tryd.underlying32 Tryd.underlying5 Tryd.underlying9 q3 N2 c2 HN2.out; go_simp; first | done | with_reducible rfl
            simp only [Act.put, List.setIfInBounds_toArray, List.set_cons_zero, List.set_cons_succ]
            refine lin_call (i := 9) rfl (by kernel_rfl) (by kernel_rfl) (by kernel_rfl) (fun _ _ _ h => h) hSS hS rfl (fun w hw => qk w hw.2.2.1) (fun w hSw => ?_) ?_
            · obtain ⟨q0, q1, q2, q3⟩ := hSw; go_simp
            simp only [Act.put, List.setIfInBounds_toArray, List.set_cons_zero, List.set_cons_succ]
            refine lin_val (i := 10) (v := ?_) rfl (by kernel_rfl) (by kernel_rfl) (by kernel_rfl) (fun _ _ _ h => h) hSS hS rfl (fun w hSw => ?_) ?_
            rotate_left
            · obtain ⟨q0, q1, q2, q3⟩ := hSw; have htx := run_text (P := Tryd.prog) (src := 32) (e := 5) (dst := 9) Tryd.underlying32 Tryd.underlying5 Tryd.underlying9 q3 N2 c2 HN2.out; go_simp; first | done | with_reducible rfl
            simp only [Act.put, List.setIfInBounds_toArray, List.set_cons_zero, List.set_cons_succ]
            refine lin_step (i := 11) (by kernel_rfl) rfl (fun wa ka K hK => ?_)
            go_simp
            (with_reducible refine (qr _).mono ?_)
            rintro e w7 ⟨KD, rfl, hKd, hKv, hKl, k7⟩
            refine hK.out _ _ (hSS _ _ hS (ka.nil k7)) (fun hS1 => ?_)
            have kall := ka.nil k7
            clear hK K hS ka k7
            try simp only [Act.put, List.setIfInBounds_toArray, List.set_cons_zero, List.set_cons_succ]
            refine lin_val (i := 12) (v := ?_) rfl (by kernel_rfl) (by kernel_rfl) (by kernel_rfl) (fun _ _ _ h => h) hSS hS1 rfl (fun w hSw => ?_) ?_
            rotate_left
            · go_simp; first | done | with_reducible rfl
            simp only [Act.put, List.setIfInBounds_toArray, List.set_cons_zero, List.set_cons_succ]
            refine lin_val (i := 13) (v := ?_) rfl (by kernel_rfl) (by kernel_rfl) (by kernel_rfl) (fun _ _ _ h => h) hSS hS1 rfl (fun w hSw => ?_) ?_
            rotate_left
            · go_simp; first | done | with_reducible rfl
            simp only [Act.put, List.setIfInBounds_toArray, List.set_cons_zero, List.set_cons_succ]
            refine lin_val (i := 14) (v := ?_) rfl (by kernel_rfl) (by kernel_rfl) (by kernel_rfl) (fun _ _ _ h => h) hSS hS1 rfl (fun w hSw => ?_) ?_
            rotate_left
            · go_simp; first | done | with_reducible rfl
            simp only [Act.put, List.setIfInBounds_toArray, List.set_cons_zero, List.set_cons_succ]
            refine lin_val (i := 15) (v := ?_) rfl (by kernel_rfl) (by kernel_rfl) (by kernel_rfl) (fun _ _ _ h => h) hSS hS1 rfl (fun w hSw => ?_) ?_
            rotate_left
            · go_simp; first | done | with_reducible rfl
            simp only [Act.put, List.setIfInBounds_toArray, List.set_cons_zero, List.set_cons_succ]
            refine lin_val (i := 16) (v := ?_) rfl (by kernel_rfl) (by kernel_rfl) (by kernel_rfl) (fun _ _ _ h => h) hSS hS1 rfl (fun w hSw => ?_) ?_
            rotate_left
            · go_simp; first | done | with_reducible rfl
            simp only [Act.put, List.setIfInBounds_toArray, List.set_cons_zero, List.set_cons_succ]
            refine lin_done (by kernel_rfl) (fun wn kn => ?_) _
            clear hS1 hSS
            have KN : Kp [] W0 wn := ((HV.out.2.1.drew).nil kall).nil kn
            have a0 : wn.cell? ⟨w.heap.size, 0, none⟩ = _ := (H0.out.2.1.keep KN (by simp)).cell 0
            have b0 : wn.cell? ⟨w.heap.size + 1, 0, none⟩ = _ := (H0.out.2.2.1.keep KN (by simp)).cell 0
            simp only [List.getElem?_cons_zero] at a0 b0
            obtain ⟨sc, hsc⟩ : ∃ sc : Int, sc = (sa : Int) - (sb : Int) + (j : Int) - (rt : Int) := ⟨_, rfl⟩
            have w2 : IntKind.i64.wrap ((sa : Int) - (sb : Int) + (j : Int) - ((rndT (val O) : Nat) : Int)) = sc := by rw [← HV.out.2.2, IntWalk.i64_in _ (by omega)]; exact hsc.symm
            have qs := fun W => (scaled_any W (na != nb) KD hKd (by omega) sc (by omega) (by omega)).mono fun e w' h => (⟨by
              have h2 := h.1
              rw [hKv, hsc, HV.out.2.2, ← HV.out.1, resV_is] at h2
              exact h2, h.2⟩ : e = .returned (.tuple #[.agg #[.bool (oN R), .string ⟨(oL R).toArray⟩, .int .i64 (oS R)], .int .i64 (oE R)]) ∧ Kp [] W w')
            simp only [bne] at qs
            have HKN := hid KN
            clear hKd hKv hKl KN kall kn hs0 hs1 hs2 hs3 hsc qr
            go_wp2_with fail
            (with_reducible refine (qs _).mono ?_)
            rintro e w9 ⟨rfl, k9⟩
            have hk9 := HKN.out.nil k9
            obtain ⟨_, _, _, c0, c1, c2, f0, f1, f2⟩ := (H0.out.2.2.2.kept hk9).cells
            have HK9 := hid (H0.out.1.nil hk9)
            clear k9 hk9 qs
            go_wp2_with fail
            exact bodyPost_ret (v := .tuple #[.agg #[.bool (oN R), .string ⟨(oL R).toArray⟩, .int .i64 (oS R)], .int .i64 (oE R)]) (by simp [results, Tryd.results37, go_sem, c0, c1, c2]) rfl ⟨by rw [resV_is], kp_room3 HK9.out (by omega) _ _ _⟩
        · have hgo : z0 = false ∧ decide ((l : Int) ≤ 34) = true := by
            have h1 : ¬ (x = 0 ∨ 10 ^ 34 ≤ val O) := fun h => hstop (hst.2 h)
            refine ⟨by rw [hz0]; exact decide_eq_false (fun h => h1 (.inl h)), decide_eq_true ?_⟩
            have := hdi.2 (Nat.lt_of_not_le (fun h => h1 (.inr h)))
            omega
          obtain ⟨rfl, b34⟩ := hgo
          have hj94 := (go_bound HA.out.2.2.2 HA.out.2.1 hstop).2
          have h48 : Dig 48 := by decide
          obtain ⟨hL2, _, _⟩ := hL.next h48
          rw [List.append_assoc, ← List.replicate_succ'] at hL2
          have qx := Hqx.out W0 wr gd gl ob x O 48 h48 (by omega) hL.2.2.2 hQ
          have e48 : ((48 : UInt8).toNat : Int) = 48 := rfl
          rw [e48] at qx
          have HH := hid (And.intro hL2 (And.intro hns hstop))
          clear hst hv hx hns hstop hdi hl hz0 hO hL hx60 hQ qn hL2 h48 e48
          go_wp2_with fail
          (with_reducible refine (qn1).mono ?_)
          rintro e w5 ⟨rfl, rfl⟩
          go_wp2_with fail
          (with_reducible refine (qp).mono ?_)
          rintro e w5 ⟨rfl, rfl⟩
          clear qn1 qp
          go_wp2_with fail
          (with_reducible refine (qx).mono ?_)
          rintro e w6 ⟨rfl, ob', hQ6, -, -⟩
          have HQ6 := hid hQ6
          clear hQ6 qx
          go_wp2_with fail
          go_roundw
          case rel => exact ⟨j + 1, _, _, ob', by go_num, HQ6.out, HH.out.1, fun i hi => by
            rcases Nat.lt_or_ge i j with h | h
            · exact HH.out.2.1 i h
            · rw [show i = j by omega]; exact HH.out.2.2, by omega⟩
          case measure => simp [intOf]; omega
end Go.Proofs.YtampgimmodomoaaDoor
