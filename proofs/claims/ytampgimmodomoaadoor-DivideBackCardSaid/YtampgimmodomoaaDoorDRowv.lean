/- Rows of digits of layer 2: rowOf, fits, none walked. -/
import Derived.Test.YtampgimmodomoaaDoorDPlain
import Derived.Test.YtampgimmodomoaaDoorDVals
import Derived.Test.YtampgimmodomoaaDoorDGround
import Derived.Lib.OthersKept
import Derived.Lib.ValidLaws
namespace Go.Proofs.YtampgimmodomoaaDoor
open Go Go.RowKit Go.Lib

theorem dec_dig {D : List UInt8} (hD : Digs D) {pos : Nat} (h : pos < D.length) : Utf8.decode ⟨D.toArray⟩ pos = (D[pos].toNat, 1) ∧ 48 ≤ D[pos].toNat ∧ D[pos].toNat ≤ 57 := by
  have hd := hD _ (List.getElem_mem h)
  have e := decodeL_drop ⟨D.toArray⟩ pos
  have e2 : (⟨D.toArray⟩ : ByteArray).data.toList = D := rfl
  rw [e2, List.drop_eq_getElem_cons h] at e
  unfold Dig at hd
  rw [← e, decodeL_ascii _ _ (by omega)]
  exact ⟨rfl, hd⟩
theorem byteAt (L : List UInt8) (k m : Nat) (hk : k < L.length) (hm : m = (L[k]'hk).toNat) : ∀ g : k < (⟨L.toArray⟩ : ByteArray).size, ((⟨L.toArray⟩ : ByteArray)[k]'g).toNat = m := fun g => by rw [hm]; rfl
theorem infoI8 : (Tryd.prog.info? 111).map (fun i => (i.zero, i.size, i.bytes)) = some (some (.int .i8 0), 1, 1) := by kernel_rfl
theorem sizeI8 : (Tryd.prog.info? 111).map (·.size) = some 1 := by kernel_rfl
/-- A digit as a small number. -/
def i8 (c : UInt8) : Value := .int .i8 ((c.toNat - 48 : Nat) : Int)
def i8s (l : List UInt8) : List Value := l.map i8
theorem length_i8s (l : List UInt8) : (i8s l).length = l.length := by simp [i8s]
theorem i8s_append (l m : List UInt8) : i8s (l ++ m) = i8s l ++ i8s m := by simp [i8s]
theorem i8s_set (l : List UInt8) (p : Nat) (c : UInt8) : i8s (l.set p c) = (i8s l).set p (i8 c) := by simp [i8s, List.map_set]
theorem i8s_drop (l : List UInt8) (n : Nat) : i8s (l.drop n) = (i8s l).drop n := by simp [i8s]
theorem i8s_one (l : List UInt8) : ∀ u ∈ i8s l, u.oneCell' = true := by
  intro u hu
  obtain ⟨c, _, rfl⟩ := List.mem_map.1 hu
  rfl
theorem zeros_i8s (n : Nat) : List.replicate n (Value.int .i8 0) = i8s (List.replicate n 48) := by simp [i8s, i8]
theorem i8s_get (l : List UInt8) (j : Nat) (h : j < l.length) : (i8s l)[j]? = some (.int .i8 ((l[j].toNat - 48 : Nat) : Int)) := by simp [i8s, i8, h]
theorem kp_iter {S : List Nat} {w0 w : World} (k : Kp S w0 w) {g : Nat} (hg : w0.heap.size ≤ g) (s : ByteArray) (p : Nat) : Kp S w0 (w.iterAt g s p) :=
  ⟨k.os, k.tape, k.output, by rw [iterAt_size]; exact k.size, fun b hb hS => (iterAt_other w g b s p (by omega)).trans (k.block b hb hS)⟩
theorem Cells.iter {w : World} {g : Nat} {t : TypeId} {cs : List Value} (h : Cells w g t cs) {b : Nat} (hb : g ≠ b) (s : ByteArray) (p : Nat) : Cells (w.iterAt b s p) g t cs := (iterAt_other w b g s p hb).trans h
/-- Digits laid into a row, k of them so far. -/
def rowM (z : Nat) (D : List UInt8) (k : Nat) : List UInt8 := List.replicate z 48 ++ (D.take k ++ List.replicate (D.length - k) 48)
theorem rowM_start (z : Nat) (D : List UInt8) : rowM z D 0 = List.replicate (z + D.length) 48 := by
  unfold rowM
  rw [List.take_zero, List.nil_append, Nat.sub_zero, List.replicate_append_replicate]
theorem rowM_end (z : Nat) {D : List UInt8} (hD : Digs D) : rowM z D D.length = digN (z + D.length) (val D) := by
  unfold rowM
  rw [List.take_length, Nat.sub_self]
  have := digN_val (z + D.length) (List.replicate z 48 ++ D) ((Digs.zeros z).append hD) (by simp)
  rw [val_pad] at this
  rw [this]
  simp
theorem length_rowM (z : Nat) (D : List UInt8) (k : Nat) (hk : k ≤ D.length) : (rowM z D k).length = z + D.length := by
  unfold rowM
  simp
  omega
theorem rowM_set (z : Nat) (D : List UInt8) (k : Nat) (hk : k < D.length) : (rowM z D k).set (z + k) D[k] = rowM z D (k + 1) := by
  unfold rowM
  have e : D.length - k = D.length - (k + 1) + 1 := by omega
  rw [List.set_append_right _ _ (by simp), List.length_replicate, Nat.add_sub_cancel_left, List.set_append_right _ _ (by rw [List.length_take]; omega), List.length_take, Nat.min_eq_left (by omega), Nat.sub_self, e, List.replicate_succ, ← List.take_append_getElem hk, List.append_assoc]
  rfl
set_option maxRecDepth 100000 in
set_option maxHeartbeats 3200000 in
theorem rowOf_any (w : World) (D : List UInt8) (hD : Digs D) (z n : Nat) (hn : n = z + D.length) (h9 : n ≤ 100000) :
    Calls Tryd.prog 98 #[.string ⟨D.toArray⟩, .int .i64 (n : Int)] w fun e w' => ∃ g, e = .returned (.slice (some ⟨g, 0, none⟩) n n) ∧ w.heap.size ≤ g ∧ Cells w' g 111 (i8s (digN n (val D))) ∧ Kp [] w w' := by
  have hDs : (⟨D.toArray⟩ : ByteArray).size = D.length := size_mk _
  have Hd := hid hD
  have hend := rowM_end z hD
  have hst := rowM_start z D
  rw [← hn] at hend hst
  have Hn := hid (And.intro hend hst)
  have Hn0 := hid hn
  clear hD hend hst hn
  go_enter Tryd.func98, Tryd.ntmps98
  go_wp2_with (refine wpList_make1 rfl _ _ 80 rfl 111 (.int .i8 0) 1 Tryd.underlying80 infoI8 rfl .i64 .i64 (n : Int) (n : Int) n rfl rfl rfl rfl (by omega) (by omega) ?_)
  intro w1 Z hZ hg hk
  have hc0 : Cells w1 w.heap.size 111 (i8s (rowM z D 0)) := by rw [Hn.out.2, ← zeros_i8s, ← hZ.out]; exact hg
  have hsz : w.heap.size < w1.heap.size := hg.lt
  have H0 := hid (And.intro hc0 hk)
  clear hc0 hk hg hZ
  go_wp2_with fail
  go_loopw [] (fun wr => ∃ pos : Nat, wr.heap[w1.heap.size]? = some (.stringIter ⟨D.toArray⟩ pos) ∧ Kp [] w wr ∧ Cells wr w.heap.size 111 (i8s (rowM z D pos)) ∧ pos ≤ D.length) (fun wr => D.length - wr.iterPos w1.heap.size)
  case atStart => exact ⟨0, World.iter_heap w1 _ 0, H0.out.2.alloc _, H0.out.1.alloc _, Nat.zero_le _⟩
  case round =>
    obtain ⟨pos, hit, hkp, hc, hpos⟩ := hrel
    have hn := Hn0.out
    by_cases hp : pos < D.length
    · obtain ⟨d1, d2, d3⟩ := dec_dig Hd.out hp
      have hnx : ∀ ty, (Instr.next (.pointer (some ⟨w1.heap.size, 0, none⟩)) true ty).run Tryd.prog wr = _ := fun ty => Lib.run_next_any_at wr w1.heap.size ⟨D.toArray⟩ pos ty hit (by rw [hDs]; exact hp)
      rw [d1] at hnx
      have hset := rowM_set z D pos hp
      obtain ⟨c, hcD⟩ : ∃ c, c = D[pos] := ⟨_, rfl⟩
      have hget := byteAt D pos c.toNat hp (by rw [hcD])
      rw [← hcD] at hset hnx d2 d3
      obtain ⟨m, hm⟩ : ∃ m, m = c.toNat := ⟨_, rfl⟩
      rw [← hm] at hget hnx d2 d3
      have hh1 := Lib.iterAt_heap wr w1.heap.size ⟨D.toArray⟩ pos (pos + 1) hit
      have hk3 := kp_iter hkp (g := w1.heap.size) (by omega) ⟨D.toArray⟩ (pos + 1)
      have hc3 := hc.iter (b := w1.heap.size) (by omega) ⟨D.toArray⟩ (pos + 1)
      obtain ⟨W3, hW3⟩ : ∃ W3, W3 = wr.iterAt w1.heap.size ⟨D.toArray⟩ (pos + 1) := ⟨_, rfl⟩
      simp only [← hW3] at hnx hh1 hk3 hc3
      obtain ⟨p, hpz⟩ : ∃ p, p = z + pos := ⟨_, rfl⟩
      rw [← hpz] at hset
      have epz : (n : Int) - (D.length : Int) + (pos : Int) = (p : Int) := by omega
      have hpn : p < n := by omega
      have i0 : (0 : Int) ≤ (pos : Int) := by omega
      have i1 : (pos : Int) < (D.length : Int) := by omega
      have i2 : (0 : Int) ≤ (p : Int) := by omega
      have i3 : (p : Int) < (n : Int) := by omega
      have i4 : IntKind.i64.wrap ((n : Int) - (D.length : Int)) = (n : Int) - (D.length : Int) := IntWalk.i64_in _ (by omega)
      have i5 : IntKind.i64.wrap ((n : Int) - (D.length : Int) + (pos : Int)) = (p : Int) := by rw [IntWalk.i64_in _ (by omega)]; exact epz
      have hcp := hc3.cell p
      obtain ⟨old, hold⟩ : ∃ u, (i8s (rowM z D pos))[p]? = some u := ⟨_, List.getElem?_eq_getElem (by rw [length_i8s, length_rowM _ _ _ hpos]; omega)⟩
      rw [hold] at hcp
      have hfp := hc3.free p
      have hput := hc3.put p (.int .i8 ((m - 48 : Nat) : Int))
      have hnew : (i8s (rowM z D pos)).set p (.int .i8 ((m - 48 : Nat) : Int)) = i8s (rowM z D (pos + 1)) := by rw [← hset, i8s_set]; unfold i8; rw [← hm]
      rw [hnew] at hput
      have hk4 := hk3.setCell (p := ⟨w.heap.size, p, none⟩) (fun h => by simp at h) (.int .i8 ((m - 48 : Nat) : Int))
      obtain ⟨x, hx⟩ : ∃ x, x = m - 48 := ⟨_, rfl⟩
      rw [← hx] at hput hk4
      have hx9 : x ≤ 9 := by omega
      have u1 : IntKind.u8.wrap ((m : Int) - 48) = (x : Int) := by rw [show (m : Int) - 48 = (x : Int) by omega]; exact IntWalk.u8_in _ (by omega)
      have u2 : IntKind.i8.wrap (x : Int) = (x : Int) := IntWalk.i8_in _ (by omega)
      have hit4 : (W3.setCell ⟨w.heap.size, p, none⟩ (.int .i8 (x : Int))).heap[w1.heap.size]? = some (.stringIter ⟨D.toArray⟩ (pos + 1)) := (Below.heap_setCell W3 _ _ _ (by show w1.heap.size ≠ w.heap.size; omega)).trans hh1
      have HP := hid (And.intro hput (And.intro hk4 (And.intro hit4 hit)))
      clear hput hk4 hit4 hit hnew hset hold hh1 hk3 hc3 hkp hc d1 hW3 hx hm hcD hpz hn
      go_wp2_with fail
      go_roundw
      case rel => exact ⟨pos + 1, HP.out.2.2.1, HP.out.2.1, HP.out.1, by omega⟩
      case measure =>
        simp only [World.iterPos, HP.out.2.2.1, HP.out.2.2.2]
        omega
    · have hnx : ∀ ty, (Instr.next (.pointer (some ⟨w1.heap.size, 0, none⟩)) true ty).run Tryd.prog wr = _ := fun ty => Lib.run_next_end_at wr w1.heap.size ⟨D.toArray⟩ pos ty hit (by rw [hDs]; exact hp)
      have hpl : pos = D.length := by omega
      rw [hpl, Hn.out.1] at hc
      have HC := hid (And.intro hc hkp)
      clear hit hc hkp hn hpl
      go_wp2_with fail
      go_ret
      exact ⟨w.heap.size, rfl, Nat.le_refl _, HC.out.1, HC.out.2⟩
theorem i8_dg {n : Nat} (h : n < 10) : i8 (dg n) = .int .i8 (n : Int) := by
  unfold i8
  rw [dg_toNat, Nat.mod_eq_of_lt h, Nat.add_sub_cancel_left]
theorem less_set (T j : Nat) (s : List UInt8) (hj : j < T) (c : UInt8) : (List.replicate (T - j) 48 ++ s).set (T - 1 - j) c = List.replicate (T - (j + 1)) 48 ++ c :: s := by
  have e : T - j = (T - 1 - j) + 1 := by omega
  have e2 : T - (j + 1) = T - 1 - j := by omega
  rw [e, e2, List.replicate_succ', List.append_assoc, List.set_append_right _ _ (by simp), List.length_replicate, Nat.sub_self]
  rfl
theorem MinusR.row {X Y s : List UInt8} {T p j b n b2 : Nat} (dX : Digs X) (dY : Digs Y) (lX : X.length = T) (lY : Y.length = T) (hp : p + 1 + j = T) (h : MinusR X Y s b j) (h1 : b2 ≤ 1) (h2 : n < 10)
    (h3 : n + ((Y[p]'(by omega)).toNat - 48) + b = ((X[p]'(by omega)).toNat - 48) + 10 * b2) : MinusR X Y (dg n :: s) b2 (j + 1) := by
  have ei : X.length - 1 - j = p := by omega
  have r1 := dig_range (dX _ (List.getElem_mem (show p < X.length by omega)))
  have r2 := dig_range (dY _ (List.getElem_mem (show p < Y.length by omega)))
  refine MinusR.next dX dY (by omega) h (by omega) h1 h2 ?_
  simp only [ei]
  omega
theorem splice_all {α : Type} (A B : List α) (h : A.length = B.length) : splice A 0 B = B := by
  unfold splice
  rw [List.take_zero, List.nil_append, Nat.zero_add, List.drop_of_length_le (by omega), List.append_nil]
set_option maxRecDepth 100000 in
set_option maxHeartbeats 6400000 in
theorem fits_any (w : World) (gl gb T x y : Nat) (h9 : T ≤ 100000) (hx : x < 10 ^ T) (hy : y < 10 ^ T) (hl : Cells w gl 111 (i8s (digN T x))) (hb : Cells w gb 111 (i8s (digN T y))) :
    Calls Tryd.prog 99 #[.slice (some ⟨gl, 0, none⟩) T T, .slice (some ⟨gb, 0, none⟩) T T] w fun e w' => e = .returned (.bool (decide (y ≤ x))) ∧ Cells w' gl 111 (i8s (digN T (if y ≤ x then x - y else x))) ∧ Kp [gl] w w' := by
  obtain ⟨bo, hbo⟩ : ∃ bo, bo = decide (y ≤ x) := ⟨_, rfl⟩
  obtain ⟨R, hR⟩ : ∃ R, R = digN T (if y ≤ x then x - y else x) := ⟨_, rfl⟩
  rw [← hbo, ← hR]
  have HB := hid (And.intro (show y ≤ x → bo = true ∧ R = digN T (x - y) from fun h => ⟨by rw [hbo, decide_eq_true h], by rw [hR, if_pos h]⟩) (show ¬ y ≤ x → bo = false ∧ R = digN T x from fun h => ⟨by rw [hbo, decide_eq_false h], by rw [hR, if_neg h]⟩))
  clear hbo hR
  have hst := MinusR.start (digN T x) (digN T y) (by rw [length_digN, length_digN])
  have hto := fun b s => take_off (T := T) (x := x) (y := y) (b := b) (s := s) hx hy
  have dX := digs_digN T x
  have dY := digs_digN T y
  have lX := length_digN T x
  have lY := length_digN T y
  have HL := hid (And.intro hl hb)
  obtain ⟨X, hX⟩ : ∃ X, X = digN T x := ⟨_, rfl⟩
  obtain ⟨Y, hY⟩ : ∃ Y, Y = digN T y := ⟨_, rfl⟩
  simp only [← hX, ← hY] at hst hto dX dY lX lY HL
  have HX := hid hX
  have Hto := hid hto
  have Hst := hid hst
  have HD := hid (And.intro dX (And.intro dY (And.intro lX lY)))
  clear hX hY hto hst dX dY lX lY hl hb hx hy
  go_enter Tryd.func99, Tryd.ntmps99
  go_wp2_with (refine wpList_make1 rfl _ _ 80 rfl 111 (.int .i8 0) 1 Tryd.underlying80 infoI8 rfl .i64 .i64 (T : Int) (T : Int) T rfl rfl rfl rfl (by omega) (by omega) ?_)
  intro w1 Z hZ hg hk
  have hc0 : Cells w1 w.heap.size 111 (i8s (List.replicate (T - 0) 48 ++ [])) := by rw [Nat.sub_zero, List.append_nil, ← zeros_i8s, ← hZ.out]; exact hg
  have H0 := hid (And.intro hc0 hk)
  clear hc0 hk hg hZ
  go_wp2_with fail
  go_loopw [6, 7] (fun v6 v7 wr => Kp [] w wr ∧ ∃ (j b : Nat) (s : List UInt8), v6 = .int .i8 (b : Int) ∧ v7 = .int .i64 ((T : Int) - 1 - (j : Int)) ∧ j ≤ T ∧ b ≤ 1 ∧ MinusR X Y s b j ∧ Cells wr w.heap.size 111 (i8s (List.replicate (T - j) 48 ++ s))) (fun _ v7 _ => (intOf v7 + 1).toNat)
  case atStart => exact ⟨H0.out.2, 0, 0, [], rfl, by go_num, Nat.zero_le _, by omega, Hst.out, H0.out.1⟩
  case round =>
    obtain ⟨hkp, j, b, s, rfl, rfl, hjT, hb1, hM, hc⟩ := hrel
    by_cases hj : j < T
    · obtain ⟨p, hp⟩ : ∃ p, p = T - 1 - j := ⟨_, rfl⟩
      have epi : (T : Int) - 1 - (j : Int) = (p : Int) := by omega
      have hpT : p < T := by omega
      have hpX : p < X.length := by rw [HD.out.2.2.1]; exact hpT
      have hpY : p < Y.length := by rw [HD.out.2.2.2]; exact hpT
      have c1 := (HL.out.1.keep hkp (by simp)).cell p
      have c2 := (HL.out.2.keep hkp (by simp)).cell p
      rw [i8s_get X p hpX] at c1
      rw [i8s_get Y p hpY] at c2
      have r1 := dig_range (HD.out.1 _ (List.getElem_mem hpX))
      have r2 := dig_range (HD.out.2.1 _ (List.getElem_mem hpY))
      have hstep : ∀ n b2 : Nat, b2 ≤ 1 → n < 10 → n + (Y[p].toNat - 48) + b = (X[p].toNat - 48) + 10 * b2 → MinusR X Y (dg n :: s) b2 (j + 1) := by
        intro n b2 h1 h2 h3
        exact hM.row HD.out.1 HD.out.2.1 HD.out.2.2.1 HD.out.2.2.2 (by omega) h1 h2 h3
      have hcd := hc.drew
      have hput : ∀ n : Nat, n < 10 → Cells (wr.drew.setCell ⟨w.heap.size, p, none⟩ (.int .i8 (n : Int))) w.heap.size 111 (i8s (List.replicate (T - (j + 1)) 48 ++ dg n :: s)) := by
        intro n hn
        have h1 := hcd.put p (.int .i8 (n : Int))
        have h2 := less_set T j s hj (dg n)
        rw [← hp] at h2
        rw [← h2, i8s_set, i8_dg hn]
        exact h1
      have hcp := hcd.cell p
      obtain ⟨old, hold⟩ : ∃ u, (i8s (List.replicate (T - j) 48 ++ s))[p]? = some u := ⟨_, List.getElem?_eq_getElem (by rw [length_i8s, List.length_append, List.length_replicate]; omega)⟩
      rw [hold] at hcp
      have hfp := hcd.free p
      have hks : ∀ n : Nat, Kp [] w (wr.drew.setCell ⟨w.heap.size, p, none⟩ (.int .i8 (n : Int))) := fun n => hkp.drew.setCell (p := ⟨w.heap.size, p, none⟩) (fun h => by simp at h) _
      obtain ⟨d1, hd1⟩ : ∃ d, d = X[p].toNat - 48 := ⟨_, rfl⟩
      obtain ⟨d2, hd2⟩ : ∃ d, d = Y[p].toNat - 48 := ⟨_, rfl⟩
      have m1 : d1 ≤ 9 := by omega
      have m2 : d2 ≤ 9 := by omega
      rw [← hd1] at c1
      rw [← hd2] at c2
      simp only [← hd1, ← hd2] at hstep
      have HQ := hid (And.intro hstep (And.intro hput hks))
      clear hstep hput hks hd1 hd2 r1 r2 hold hM hc hcd hkp hp
      by_cases hlt : d2 + b ≤ d1
      · obtain ⟨n, hn⟩ : ∃ n, n = d1 - d2 - b := ⟨_, rfl⟩
        have s1 : IntKind.i8.wrap ((d1 : Int) - (d2 : Int)) = (d1 : Int) - (d2 : Int) := IntWalk.i8_in _ (by omega)
        have s2 : IntKind.i8.wrap ((d1 : Int) - (d2 : Int) - (b : Int)) = (n : Int) := by rw [IntWalk.i8_in _ (by omega)]; omega
        have n9 : n < 10 := by omega
        have HN := hid (show n + d2 + b = d1 + 10 * 0 by omega)
        clear hlt hn
        go_wp2_with fail
        go_region
        go_wp2_with fail
        go_roundw
        case rel => exact ⟨HQ.out.2.2 n, j + 1, 0, dg n :: s, rfl, by go_num, by omega, by omega, HQ.out.1 n 0 (by omega) n9 HN.out, HQ.out.2.1 n n9⟩
        case measure => simp [intOf]; omega
      · obtain ⟨n, hn⟩ : ∃ n, n = d1 + 10 - d2 - b := ⟨_, rfl⟩
        obtain ⟨z, hz⟩ : ∃ z : Int, z = (d1 : Int) - (d2 : Int) - (b : Int) := ⟨_, rfl⟩
        have s1 : IntKind.i8.wrap ((d1 : Int) - (d2 : Int)) = (d1 : Int) - (d2 : Int) := IntWalk.i8_in _ (by omega)
        have s2 : IntKind.i8.wrap ((d1 : Int) - (d2 : Int) - (b : Int)) = z := by rw [IntWalk.i8_in _ (by omega)]; omega
        have z0 : decide (z < 0) = true := decide_eq_true (by omega)
        have s3 : IntKind.i8.wrap (z + 10) = (n : Int) := by rw [IntWalk.i8_in _ (by omega)]; omega
        have n9 : n < 10 := by omega
        have HN := hid (show n + d2 + b = d1 + 10 * 1 by omega)
        clear hlt hn hz
        go_wp2_with fail
        go_region
        go_wp2_with fail
        go_roundw
        case rel => exact ⟨HQ.out.2.2 n, j + 1, 1, dg n :: s, rfl, by go_num, by omega, by omega, HQ.out.1 n 1 (by omega) n9 HN.out, HQ.out.2.1 n n9⟩
        case measure => simp [intOf]; omega
    · have hjE : j = T := by omega
      subst hjE
      have e7 : (j : Int) - 1 - (j : Int) = -1 := by omega
      rw [e7]
      rw [Nat.sub_self, List.replicate_zero, List.nil_append] at hc
      have hsl : s.length = j := hM.2.1
      have hl2 := HL.out.1.keep hkp (by simp)
      rcases Hto.out b s hM with ⟨rfl, h1, h2⟩ | ⟨rfl, h1⟩
      · have HE := hid (And.intro h1 (And.intro h2 hkp))
        have hsp := Span.of_cells hc
        clear hM hc h2 h1 hkp
        go_wp2_with (with_reducible (refine wpList_copy1 (o := ⟨some 42, _, _, _, _, _⟩) rfl _ _ 80 80 rfl 111 Tryd.underlying80 sizeI8 _ _ _ _ _ _ rfl rfl gl 0 _ 111 hl2 (i8s s) j (by rw [length_i8s]; exact hsl) (Nat.min_self j).symm (fun _ => rfl) hsp ?_ (i8s_one _) ?_))
        · rw [length_i8s, HD.out.2.2.1]; omega
        intro w2 hg2 hk2
        have hE2 := hg2.out
        rw [splice_all _ _ (by rw [length_i8s, length_i8s, HD.out.2.2.1, hsl]), HE.out.2.1] at hE2
        have HF := hid (And.intro hE2 (And.intro ((HE.out.2.2.mono (T := [gl]) (by simp)).trans hk2 (fun z hz _ => hz)) HE.out.1))
        clear hE2 hk2 hg2 hl2 hsp
        go_wp2_with fail
        go_ret
        obtain ⟨e1, e2⟩ := HB.out.1 HF.out.2.2
        exact ⟨by rw [e1]; rfl, by rw [e2]; exact HF.out.1, HF.out.2.1⟩
      · have HE := hid (And.intro (show ¬ y ≤ x by omega) hkp)
        have HF := hid hl2
        clear hM hc h1 hkp hl2
        go_wp2_with fail
        go_ret
        obtain ⟨e1, e2⟩ := HB.out.2 HE.out.1
        exact ⟨by rw [e1]; rfl, by rw [e2, ← HX.out]; exact HF.out, HE.out.2.mono (by simp)⟩
set_option maxRecDepth 100000 in
set_option maxHeartbeats 3200000 in
/-- Whether a row is nought. -/
theorem none_any (w : World) (gl T x : Nat) (h9 : T ≤ 100000) (hx : x < 10 ^ T) (hl : Cells w gl 111 (i8s (digN T x))) :
    Calls Tryd.prog 71 #[.slice (some ⟨gl, 0, none⟩) T T] w fun e w' => e = .returned (.bool (decide (x = 0))) ∧ w' = w := by
  obtain ⟨bo, hbo⟩ : ∃ bo, bo = decide (x = 0) := ⟨_, rfl⟩
  rw [← hbo]
  have HB := hid (And.intro (show x = 0 → bo = true from fun h => by rw [hbo, decide_eq_true h]) (show x ≠ 0 → bo = false from fun h => by rw [hbo, decide_eq_false h]))
  clear hbo
  have hv := val_digN T x
  rw [Nat.mod_eq_of_lt hx] at hv
  have lX := length_digN T x
  have dX := digs_digN T x
  obtain ⟨X, hX⟩ : ∃ X, X = digN T x := ⟨_, rfl⟩
  rw [← hX] at hv lX hl dX
  have HL := hid hl
  have Hv := hid (And.intro hv (And.intro lX dX))
  clear hX hv hl lX hx dX
  go_enter Tryd.func71, Tryd.ntmps71
  go_wp2_with fail
  go_loopw [7] (fun v wr => wr = w ∧ ∃ k : Nat, v = .int .i64 (k : Int) ∧ k ≤ T ∧ val (X.take k) = 0) (fun v _ => T - (intOf v).toNat)
  case atStart => exact ⟨rfl, 0, rfl, Nat.zero_le _, rfl⟩
  case round =>
    obtain ⟨hwr, k, rfl, hk, h0⟩ := hrel
    have hwr2 := hwr.symm
    subst hwr2
    by_cases hlt : k < T
    · have hkX : k < X.length := by rw [Hv.out.2.1]; exact hlt
      have c1 := HL.out.cell k
      rw [i8s_get X k hkX] at c1
      have r1 := dig_range (Hv.out.2.2 _ (List.getElem_mem hkX))
      have hvs := val_take_succ X k hkX
      rw [h0, Nat.zero_mul, Nat.zero_add] at hvs
      have hvx := val_append (X.take (k + 1)) (X.drop (k + 1))
      rw [List.take_append_drop, hvs, Hv.out.1] at hvx
      obtain ⟨d, hd⟩ : ∃ d, d = X[k].toNat - 48 := ⟨_, rfl⟩
      rw [← hd] at c1 hvs hvx
      by_cases hd0 : d = 0
      · have HS := hid (show val (X.take (k + 1)) = 0 by omega)
        rw [hd0] at c1
        clear hvx hvs hd r1 h0 hd0
        go_wp2_with fail
        go_roundw
        case rel => exact ⟨trivial, k + 1, by go_num, by omega, HS.out⟩
        case measure => simp [intOf]; omega
      · have hp := n10 (X.drop (k + 1)).length
        have hx0 : x ≠ 0 := by
          have : 1 * 10 ^ (X.drop (k + 1)).length ≤ d * 10 ^ (X.drop (k + 1)).length := Nat.mul_le_mul_right _ (by omega)
          omega
        have HS := hid hx0
        have b1 : ((d : Int) != 0) = true := by rw [bne_iff_ne]; omega
        clear hvx hvs hd r1 h0 hd0 hp hx0
        go_wp2_with fail
        go_ret
        exact ⟨by rw [HB.out.2 HS.out]; rfl, rfl⟩
    · have hkT : k = T := by omega
      rw [List.take_of_length_le (by rw [Hv.out.2.1]; omega), Hv.out.1] at h0
      have HS := hid h0
      clear h0 hkT
      go_wp2_with fail
      go_ret
      exact ⟨by rw [HB.out.1 HS.out]; rfl, rfl⟩
end Go.Proofs.YtampgimmodomoaaDoor
