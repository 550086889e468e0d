/- places and rest of layer 2. -/
import Derived.Test.YtampgimmodomoaaDoorDDivision
import Derived.Test.YtampgimmodomoaaDoorDBld
import Derived.Test.YtampgimmodomoaaDoorDScaled
namespace Go.Proofs.YtampgimmodomoaaDoor
open Go Go.RowKit Go.Lib

set_option maxRecDepth 100000 in
set_option maxHeartbeats 3200000 in
theorem places_any (w0 w : World) (gd T y x : Nat) (O : List UInt8) (hO : Digs O) (hl : O.length ≤ 100000) (h : DivS w0 w gd T y x O) :
    Calls Tryd.prog 72 #[.pointer (some ⟨gd, 0, none⟩)] w fun e w' => e = .returned (.int .i64 ((dstr (val O)).length : Int)) ∧ w' = w := by
  obtain ⟨gl, ob, gb, A, c, h1, h2, h3, h4, h5, h6⟩ := h
  obtain ⟨A', c', hA', hsp, -, -, -⟩ := h4.shape
  injection hA' with hA' _ hc'
  subst hA' hc'
  have htx := run_text (P := Tryd.prog) (src := 32) (e := 5) (dst := 9) Tryd.underlying32 Tryd.underlying5 Tryd.underlying9 hsp O.length c rfl
  have c2 := h1.cell 2
  simp only [List.getElem?_cons_zero, List.getElem?_cons_succ] at c2
  have qt := fun W => trim0 O hO W
  have hdl : (dstr (val O)).length ≤ 100000 := Nat.le_trans (length_dstr_le (val_lt O hO)) hl
  obtain ⟨Q, hQ⟩ : ∃ Q, Q = dstr (val O) := ⟨_, rfl⟩
  rw [← hQ] at qt hdl ⊢
  have hQs : (⟨Q.toArray⟩ : ByteArray).size = Q.length := size_mk _
  clear hQ hO h1 h2 h3 h4 h5 h6 hsp
  go_enter Tryd.func72, Tryd.ntmps72
  go_wp2_with fail
  (with_reducible refine (qt _).mono ?_)
  rintro e w1 ⟨rfl, rfl⟩
  clear qt
  go_wp2_with fail
  go_ret
  exact ⟨rfl, rfl⟩
set_option maxRecDepth 100000 in
set_option maxHeartbeats 6400000 in
theorem rest_any (w : World) (gd gl T x : Nat) (h9 : T ≤ 100000) (h1 : w.cell? ⟨gd, 0, none⟩ = some (.slice (some ⟨gl, 0, none⟩) T T)) (h2 : Cells w gl 111 (i8s (digN T x))) :
    Calls Tryd.prog 82 #[.pointer (some ⟨gd, 0, none⟩)] w fun e w' => e = .returned (.string ⟨(digN T x).toArray⟩) ∧ Kp [] w w' := by
  have c0 := ((Kp.refl [] w).alloc (.cells #[.pointer none, .slice none 0 0] 101)).cell h1 (by simp)
  have lX := length_digN T x
  have dX := digs_digN T x
  obtain ⟨X, hX⟩ : ∃ X, X = digN T x := ⟨_, rfl⟩
  rw [← hX] at h2 lX dX ⊢
  have HX := hid (And.intro h2 (And.intro lX dX))
  clear hX h1 h2 lX dX
  go_enter Tryd.func82, Tryd.ntmps82
  go_wp2_with fail
  clear c0
  go_loopw [11] (fun v wr => ∃ k : Nat, v = .int .i64 (k : Int) ∧ k ≤ T ∧ Bld wr w.heap.size w.heap.size (X.take k) ∧ Below w.heap.size w wr) (fun v _ => T - (intOf v).toNat)
  case atStart => exact ⟨0, rfl, Nat.zero_le _, Bld.fresh w, (Kp.refl [] w).alloc _ |>.below⟩
  case round =>
    obtain ⟨k, rfl, hk, hb, hbl⟩ := hrel
    have hkp := Kp.of_below hbl
    have hsz := hkp.size
    by_cases hlt : k < T
    · have hkX : k < X.length := by rw [HX.out.2.1]; exact hlt
      have c1 := (HX.out.1.keep hkp (by simp)).cell k
      rw [i8s_get X k hkX] at c1
      have r1 := dig_range (HX.out.2.2 _ (List.getElem_mem hkX))
      have htk := List.take_append_getElem hkX
      obtain ⟨ch, hch⟩ : ∃ ch, ch = X[k] := ⟨_, rfl⟩
      rw [← hch] at c1 r1 htk
      obtain ⟨d, hd⟩ : ∃ d, d = ch.toNat - 48 := ⟨_, rfl⟩
      rw [← hd] at c1
      have hd9 : d ≤ 9 := by omega
      have u1 : IntKind.i8.wrap (48 + (d : Int)) = 48 + (d : Int) := IntWalk.i8_in _ (by omega)
      have u2 : IntKind.u8.wrap (48 + (d : Int)) = 48 + (d : Int) := IntWalk.u8_in _ (by omega)
      have qw := wbyte_any wr w.heap.size w.heap.size (X.take k) ch (48 + (d : Int)) (by omega) hb (by rw [List.length_take]; omega) hsz
      rw [htk] at qw
      have HB := hid hbl
      clear hb hbl hkp hch hd r1 htk hsz
      go_wp2_with fail
      (with_reducible refine qw.mono ?_)
      rintro e w1 ⟨rfl, hb1, hbl1, -⟩
      have HB1 := hid (And.intro hb1 (HB.out.trans hbl1))
      clear hb1 hbl1 qw
      go_wp2_with fail
      go_roundw
      case rel => exact ⟨k + 1, by go_num, by omega, HB1.out.1, HB1.out.2⟩
      case measure => simp [intOf]; omega
    · have hkT : k = T := by omega
      rw [List.take_of_length_le (by rw [HX.out.2.1]; omega)] at hb
      have qs := bstr_any wr w.heap.size w.heap.size X hb hsz
      have HB := hid hbl
      clear hb hbl hkp hkT hsz
      go_wp2_with fail
      (with_reducible refine qs.mono ?_)
      rintro e w1 ⟨rfl, hbl1⟩
      have HB1 := hid (Kp.of_below (HB.out.trans hbl1))
      clear hbl1 qs
      go_wp2_with fail
      go_ret
      exact ⟨rfl, HB1.out⟩
end Go.Proofs.YtampgimmodomoaaDoor
