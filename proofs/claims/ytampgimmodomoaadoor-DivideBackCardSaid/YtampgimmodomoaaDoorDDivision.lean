/- Long division of layer 2: divides, next, places, rest walked. -/
import Derived.Test.YtampgimmodomoaaDoorDRowv
import Derived.Test.YtampgimmodomoaaDoorDGround
import Derived.Test.YtampgimmodomoaaDoorDVals
import Derived.StillTailTactics
import Derived.Deep.RegionWith
import Derived.Deep.OwnRows
namespace Go.Proofs.YtampgimmodomoaaDoor
open Go Go.RowKit Go.Lib

/-- A division under way, made since w0: what is left is x, by y, T digits wide; the digits of the quotient so far O. -/
def DivQ (w0 w : World) (gd gl : Nat) (ob : Option Nat) (T y x : Nat) (O : List UInt8) : Prop :=
  ∃ (gb : Nat) (A : Option Addr) (c : Nat), Cells w gd 82 [.slice (some ⟨gl, 0, none⟩) T T, .slice (some ⟨gb, 0, none⟩) T T, .slice A O.length c] ∧
    Cells w gl 111 (i8s (digN T x)) ∧ Cells w gb 111 (i8s (digN T y)) ∧ Own w 5 (.slice A O.length c) O.length (u8s O) ∧ New w0 w (.slice A O.length c) ∧
    gl ≠ gb ∧ w0.heap.size ≤ gd ∧ w0.heap.size ≤ gl ∧ w0.heap.size ≤ gb ∧ (Value.slice A O.length c).ownBlock = ob
def DivS (w0 w : World) (gd T y x : Nat) (O : List UInt8) : Prop := ∃ gl ob, DivQ w0 w gd gl ob T y x O
theorem DivQ.s {w0 w : World} {gd gl : Nat} {ob : Option Nat} {T y x : Nat} {O : List UInt8} (h : DivQ w0 w gd gl ob T y x O) : DivS w0 w gd T y x O := ⟨gl, ob, h⟩
theorem DivQ.kept {w0 w w' : World} {gd gl : Nat} {ob : Option Nat} {T y x : Nat} {O : List UInt8} (h : DivQ w0 w gd gl ob T y x O) (k : Kp [] w w') : DivQ w0 w' gd gl ob T y x O := by
  obtain ⟨gb, A, c, h1, h2, h3, h4, h5, h6⟩ := h
  exact ⟨gb, A, c, h1.keep k (by simp), h2.keep k (by simp), h3.keep k (by simp), h4.kept k, h5.kept k, h6⟩
theorem DivQ.kp {w0 w : World} {gd gl : Nat} {ob : Option Nat} {T y x : Nat} {O : List UInt8} (h : DivQ w0 w gd gl ob T y x O) : Kp [] w0 w := by
  obtain ⟨gb, A, c, h1, h2, h3, h4, h5, h6⟩ := h
  exact h5.kp
theorem made_zeros (w w' : World) (T : Nat) (hw : w' = w.alloc (.cells (madeCells #[.int .i8 0] T) 111)) : Cells w' w.heap.size 111 (i8s (digN T 0)) := by
  subst hw
  have he : madeCells #[Value.int .i8 0] T = (i8s (digN T 0)).toArray := Array.toList_inj.1 (by rw [toList_madeCells_one, digN_zeros, ← zeros_i8s])
  rw [he]
  exact Cells.fresh _ _ _
set_option maxRecDepth 100000 in
set_option maxHeartbeats 6400000 in
theorem divides_any (w : World) (D : List UInt8) (hD : Digs D) (h9 : D.length ≤ 10000) :
    Calls Tryd.prog 69 #[.string ⟨D.toArray⟩] w fun e w' => ∃ gd gl, e = .returned (.pointer (some ⟨gd, 0, none⟩)) ∧ DivQ w w' gd gl none (D.length + 1) (val D) 0 [] := by
  have hDs : (⟨D.toArray⟩ : ByteArray).size = D.length := size_mk _
  obtain ⟨T, hT⟩ : ∃ T, T = D.length + 1 := ⟨_, rfl⟩
  have qr := fun W => rowOf_any W D hD 1 T (by omega) (by omega)
  have hTi : (D.length : Int) + 1 = (T : Int) := by omega
  have hmk := run_make_row' (P := Tryd.prog) 80 111 (.int .i8 0) 1 Tryd.underlying80 infoI8 rfl .i64 .i64 T (by omega) (by omega)
  rw [← hT]
  have HT := hid hT
  clear hT
  go_enter Tryd.func69, Tryd.ntmps69
  go_wp2_with fail
  go_region_with (first
    | (go_at_call 98; refine (qr _).mono ?_; rintro e w3 ⟨g, rfl, hg, hc, k3⟩))
  all_goals go_wp2_with fail
  all_goals go_ret
  · have hz := made_zeros w.drew _ T rfl
    have k0 : Kp [] w (w.drew.alloc (.cells (madeCells #[.int .i8 0] T) 111)) := (Kp.refl [] w).drew.alloc _
    have kk := (k0.nil k3).alloc (.cells #[.slice (some ⟨w.heap.size, 0, none⟩) T T, .slice (some ⟨g, 0, none⟩) T T, .slice none 0 0] 82)
    have hg1 : w.heap.size < g := by simp at hg; omega
    refine ⟨w3.heap.size, w.heap.size, rfl, g, none, 0, Cells.fresh w3 82 _, (hz.keep k3 (by simp)).alloc _, hc.alloc _, Own.nil _ _, New.nil kk, by omega, ?_, Nat.le_refl _, by omega, rfl⟩
    exact Nat.le_trans k0.size k3.size
  · have hz := made_zeros w3 _ T rfl
    have k0 : Kp [] w w3 := (Kp.refl [] w).drew.nil k3
    have hg1 : w.heap.size ≤ g := hg
    have hgl := hc.lt
    have kk := (k0.alloc (.cells (madeCells #[.int .i8 0] T) 111)).alloc (.cells #[.slice (some ⟨w3.heap.size, 0, none⟩) T T, .slice (some ⟨g, 0, none⟩) T T, .slice none 0 0] 82)
    have hcf := Cells.fresh (w3.alloc (.cells (madeCells #[.int .i8 0] T) 111)) 82 [.slice (some ⟨w3.heap.size, 0, none⟩) T T, .slice (some ⟨g, 0, none⟩) T T, .slice none 0 0]
    have hsz : (w3.alloc (.cells (madeCells #[.int .i8 0] T) 111)).heap.size = w3.heap.size + 1 := by simp
    rw [hsz] at hcf
    have := k0.size
    exact ⟨w3.heap.size + 1, w3.heap.size, rfl, g, none, 0, hcf, hz.alloc _, (hc.alloc _).alloc _, Own.nil _ _, New.nil kk, by omega, by omega, by omega, hg1, rfl⟩
theorem shift_set (L : List UInt8) (T : Nat) (hL : L.length = T) (hT : 0 < T) (c : UInt8) : (splice (i8s L) 0 (i8s (L.drop 1))).set (T - 1) (i8 c) = i8s (L.drop 1 ++ [c]) := by
  unfold splice
  rw [List.take_zero, List.nil_append, Nat.zero_add, length_i8s, List.length_drop, ← i8s_drop, hL, ← i8s_append, ← i8s_set]
  congr 1
  rw [List.set_append_right _ _ (by rw [List.length_drop]; omega), List.length_drop, hL, Nat.sub_self]
  have : L.drop (T - 1) = [L[T - 1]'(by omega)] := by
    rw [List.drop_eq_getElem_cons (by omega), List.drop_of_length_le (by omega)]
  rw [this]
  rfl
set_option maxRecDepth 100000 in
set_option maxHeartbeats 12800000 in
/-- A digit brought down. -/
theorem next_any (w0 w : World) (gd gl : Nat) (ob : Option Nat) (T y x : Nat) (O : List UInt8) (c : UInt8) (hc : Dig c) (hT : 0 < T) (h9 : T ≤ 100000) (hO : O.length ≤ 100000) (hy : y < 10 ^ (T - 1)) (hx : x < y) (h : DivQ w0 w gd gl ob T y x O) :
    Calls Tryd.prog 70 #[.pointer (some ⟨gd, 0, none⟩), .int .u8 (c.toNat : Int)] w fun e w' => e = .returned (.tuple #[]) ∧ ∃ ob', DivQ w0 w' gd gl ob' T y ((x * 10 + (c.toNat - 48)) % y) (O ++ [dg ((x * 10 + (c.toNat - 48)) / y)]) ∧ Kp (gd :: gl :: ob.toList) w w' ∧ (ob' = ob ∨ ∃ n, ob' = some n ∧ w.heap.size ≤ n) := by
  obtain ⟨gb, A, cp, h1, h2, h3, h4, h5, h6, h7, h8, h10, hob⟩ := h
  have Hob := hid hob
  clear hob
  have hsh := digN_shift (T := T) (x := x) hT (by omega) hc
  have hp10 : 10 ^ T = 10 ^ (T - 1) * 10 := by rw [← Nat.pow_succ]; congr 1; omega
  have hc2 := hc
  unfold Dig at hc2
  obtain ⟨X, hX⟩ : ∃ X, X = x * 10 + (c.toNat - 48) := ⟨_, rfl⟩
  have hXT : X < 10 ^ T := by rw [hX, hp10]; omega
  have hX10 : X < 10 * y := by rw [hX]; omega
  have hyT : y < 10 ^ T := by rw [hp10]; omega
  rw [← hX] at hsh ⊢
  obtain ⟨L, hL⟩ : ∃ L, L = digN T x := ⟨_, rfl⟩
  have lL : L.length = T := by rw [hL]; exact length_digN T x
  rw [← hL] at hsh h2
  have hst := shift_set L T lL hT c
  rw [← hsh] at hst
  obtain ⟨m, hm⟩ : ∃ m, m = c.toNat := ⟨_, rfl⟩
  obtain ⟨d, hd⟩ : ∃ d, d = m - 48 := ⟨_, rfl⟩
  have hi8 : i8 c = .int .i8 (d : Int) := by unfold i8; rw [← hm, ← hd]
  rw [hi8] at hst
  rw [← hm] at hc2 ⊢
  have hd9 : d ≤ 9 := by omega
  have u1 : IntKind.u8.wrap ((m : Int) - 48) = (d : Int) := by rw [show (m : Int) - 48 = (d : Int) by omega]; exact IntWalk.u8_in _ (by omega)
  have u2 : IntKind.i8.wrap (d : Int) = (d : Int) := IntWalk.i8_in _ (by omega)
  obtain ⟨t, ht⟩ : ∃ t, t = T - 1 := ⟨_, rfl⟩
  have et : (T : Int) - 1 = (t : Int) := by omega
  have htT : t < T := by omega
  have hT1 : (1 : Int) ≤ (T : Int) := by omega
  have ht0 : (0 : Int) ≤ (t : Int) := by omega
  have htT2 : (t : Int) < (T : Int) := by omega
  have etw : IntKind.i64.wrap (t : Int) = (t : Int) := IntWalk.i64_in _ (by omega)
  have hT2 : 1 ≤ T := by omega
  rw [← ht] at hst
  have HX := hid (And.intro hXT (And.intro hX10 (And.intro hyT (And.intro hst (And.intro lL (And.intro h7 (And.intro h8 h10)))))))
  have n1 : gd ≠ gl := h1.ne h2 (by decide)
  have n2 : gd ≠ gb := h1.ne h3 (by decide)
  have hcut := (Span.of_cells h2).cut 1 (cap := T) (by rw [length_i8s, lL]; exact Nat.le_refl _)
  rw [← i8s_drop] at hcut
  have c0 := h1.cell 0
  simp only [List.getElem?_cons_zero] at c0
  have H1 := hid (And.intro h1 (And.intro h2 (And.intro h3 (And.intro h4 h5))))
  clear hX hX10 hXT hyT hp10 hsh hst hL hm hd hi8 hc hx hy h1 h2 h3 h4 h5 h7 h8 h10 ht
  go_enter Tryd.func70, Tryd.ntmps70
  go_wp2_with fail
  go_still_tail 9, (by kernel_rfl)
  change wpList _ _ _ _ _ w.drew
  obtain ⟨wd, hwd⟩ : ∃ wd, wd = w.drew := ⟨_, rfl⟩
  have h2d : Cells wd gl 111 (i8s L) := by rw [hwd]; exact H1.out.2.1
  have hcutd : Span wd (cutA (some ⟨gl, 0, none⟩) 1 T 1) (i8s (L.drop 1)) := by rw [hwd]; exact hcut
  rw [← hwd]
  have Hwd := hid hwd
  clear hwd hcut
  refine wpList_copy1 rfl _ _ 80 80 rfl 111 Tryd.underlying80 sizeI8 _ _ _ _ _ _ rfl rfl gl 0 _ 111 h2d (i8s (L.drop 1)) t (by rw [length_i8s, List.length_drop]; have := HX.out.2.2.2.2.1; omega) (by show t = min (T - 1) T; omega) (fun _ => rfl) hcutd ?_ (i8s_one _) ?_
  · rw [length_i8s, HX.out.2.2.2.2.1]; omega
  intro w2 hg2 hk2
  have hk20 : Kp [gl] w w2 := by rw [Hwd.out] at hk2; exact ((Kp.refl [gl] w).drew).trans hk2 (fun z hz _ => hz)
  have d1 := H1.out.1.keep hk20 (by simp; exact n1)
  have d3 := H1.out.2.2.1.keep hk20 (by simp; exact h6.symm)
  have c20 : w2.cell? ⟨gd, 0, none⟩ = _ := d1.cell 0
  simp only [List.getElem?_cons_zero] at c20
  have hput := hg2.out.drew.put t (.int .i8 (d : Int))
  rw [HX.out.2.2.2.1] at hput
  have hlen : (splice (i8s L) 0 (i8s (L.drop 1))).length = T := by
    rw [length_splice _ _ _ (by rw [length_i8s, length_i8s, List.length_drop]; omega), length_i8s, lL]
  obtain ⟨old, hold⟩ : ∃ u, (splice (i8s L) 0 (i8s (L.drop 1)))[t]? = some u := ⟨_, List.getElem?_eq_getElem (by rw [hlen]; exact htT)⟩
  have hcp : w2.drew.cell? ⟨gl, t, none⟩ = _ := hg2.out.cell t
  rw [hold] at hcp
  have hfp : w2.drew.frozen? ⟨gl, t, none⟩ = false := hg2.out.free t
  have hk3 := hk20.drew.setCell (p := ⟨gl, t, none⟩) (fun _ => by simp) (.int .i8 (d : Int))
  have HW := hid (And.intro hput hk3)
  clear hput hk3 hk20 hk2 hg2 hold hlen d1 d3 h2d hcutd lL
  go_wp2_with fail
  go_still_tail 14, (by kernel_rfl)
  change wpList _ _ _ _ _ w2.drew
  obtain ⟨w3, hw3⟩ : ∃ w3, w3 = w2.drew := ⟨_, rfl⟩
  rw [← hw3] at hcp hfp HW ⊢
  have Hw3 := hid hw3
  clear hw3
  go_wp2_with fail
  clear c20 hcp hfp u1 u2 hc2 htT htT2 hT1 ht0 et etw hT2 c0
  obtain ⟨W, hW⟩ : ∃ W, W = w3.setCell ⟨gl, t, none⟩ (.int .i8 (d : Int)) := ⟨_, rfl⟩
  rw [← hW] at HW ⊢
  clear hW
  go_loopw [4] (fun v4 wr => ∃ q : Nat, v4 = .int .u8 ((48 + q : Nat) : Int) ∧ q ≤ 9 ∧ q * y ≤ X ∧ Cells wr gl 111 (i8s (digN T (X - q * y))) ∧ Kp [gl] w wr) (fun v4 _ => (58 - intOf v4).toNat)
  case atStart => exact ⟨0, rfl, Nat.zero_le _, by omega, by rw [Nat.zero_mul, Nat.sub_zero]; exact HW.out.1, HW.out.2⟩
  case round =>
    obtain ⟨q, rfl, hq9, hqy, hcl, hkp⟩ := hrel
    have d1 := (H1.out.1.keep hkp (by simp; exact n1)).drew
    have d3 := (H1.out.2.2.1.keep hkp (by simp; exact h6.symm)).drew
    obtain ⟨wq, hwq⟩ : ∃ wq, wq = wr.drew := ⟨_, rfl⟩
    have hfit := fits_any wq gl gb T (X - q * y) y h9 (by have := HX.out.1; omega) HX.out.2.2.1 (by rw [hwq]; exact hcl) (by rw [hwq]; exact d3)
    have c0 : wr.cell? ⟨gd, 0, none⟩ = _ := d1.cell 0
    have c1 : wr.cell? ⟨gd, 1, none⟩ = _ := d1.cell 1
    simp only [List.getElem?_cons_zero, List.getElem?_cons_succ] at c0 c1
    have hkq : Kp [gl] w wq := by rw [hwq]; exact hkp.drew
    obtain ⟨bo, hbo⟩ : ∃ bo, bo = decide (y ≤ X - q * y) := ⟨_, rfl⟩
    obtain ⟨R, hR⟩ : ∃ R, R = digN T (if y ≤ X - q * y then X - q * y - y else X - q * y) := ⟨_, rfl⟩
    rw [← hbo, ← hR] at hfit
    have HF := hid (And.intro hbo (And.intro hR (And.intro hkq hqy)))
    have Hwq := hid hwq
    clear hbo hR hkq hcl hkp d1 d3 hwq hqy
    go_wp2_with fail
    go_still_tail 8, (by kernel_rfl)
    change wpList _ _ _ _ _ wr.drew
    rw [← Hwq.out]
    go_wp2_with fail
    (with_reducible refine hfit.mono ?_)
    rintro e w4 ⟨rfl, hc4, k4⟩
    have hk4 : Kp [gl] w w4 := HF.out.2.2.1.trans k4 (fun z hz _ => hz)
    cases bo with
    | true =>
      have hle : y ≤ X - q * y := of_decide_eq_true HF.out.1.symm
      have e1 : (q + 1) * y = q * y + y := by rw [Nat.add_mul, Nat.one_mul]
      have hqy := HF.out.2.2.2
      have h10 := HX.out.2.1
      have hq8 : q + 1 ≤ 9 := by
        rcases Nat.lt_or_ge 9 (q + 1) with h | h
        · exfalso
          have : 10 * y ≤ (q + 1) * y := Nat.mul_le_mul_right _ h
          omega
        · exact h
      have hR := HF.out.2.1
      rw [if_pos hle, show X - q * y - y = X - (q + 1) * y by omega] at hR
      rw [hR] at hc4
      have HQ := hid (And.intro hc4 (And.intro hk4 (show (q + 1) * y ≤ X by omega)))
      have u3 : IntKind.u8.wrap (((48 + q : Nat) : Int) + 1) = ((48 + (q + 1) : Nat) : Int) := by rw [IntWalk.u8_in _ (by omega)]; omega
      clear hle e1 hqy h10 hR hc4 hk4 k4 hfit
      go_wp2_with fail
      go_roundw
      case rel => exact ⟨q + 1, rfl, hq8, HQ.out.2.2, HQ.out.1, HQ.out.2.1⟩
      case measure => simp [intOf]; omega
    | false =>
      have hle : ¬ y ≤ X - q * y := of_decide_eq_false HF.out.1.symm
      have hR := HF.out.2.1
      rw [if_neg hle] at hR
      rw [hR] at hc4
      have hy0 : 0 < y := by omega
      have hqy := HF.out.2.2.2
      have hdiv : X / y = q := by
        refine Nat.div_eq_of_lt_le hqy ?_
        rw [Nat.add_mul, Nat.one_mul]
        omega
      have hmod : X % y = X - q * y := by
        have := Nat.div_add_mod X y
        rw [hdiv, Nat.mul_comm] at this
        omega
      have hbd : ∀ z, (Value.slice A O.length cp).ownBlock = some z → z ≠ gl := fun z hz e => H1.out.2.2.2.1.ne_cells H1.out.2.1 (by decide) (by rw [hz, e])
      have hbg : (Value.slice A O.length cp).ownBlock ≠ some gd := H1.out.2.2.2.1.ne_cells H1.out.1 (by decide)
      have hbb : (Value.slice A O.length cp).ownBlock ≠ some gb := H1.out.2.2.2.1.ne_cells H1.out.2.2.1 (by decide)
      have hbl : (Value.slice A O.length cp).ownBlock ≠ some gl := H1.out.2.2.2.1.ne_cells H1.out.2.1 (by decide)
      have ho4 : Own w4 5 (.slice A O.length cp) O.length (u8s O) := H1.out.2.2.2.1.keep hk4 (fun g hg => by simp; exact hbd g hg)
      have d1 := H1.out.1.keep hk4 (by simp; exact n1)
      have d3 := H1.out.2.2.1.keep hk4 (by simp; exact h6.symm)
      have c2 : w4.cell? ⟨gd, 2, none⟩ = _ := d1.cell 2
      simp only [List.getElem?_cons_zero, List.getElem?_cons_succ] at c2
      have hn4 : New w0 w4 (.slice A O.length cp) := ⟨H1.out.2.2.2.2.kp.trans hk4 (fun z hz hl => by rw [List.mem_singleton.1 hz] at hl; have := HX.out.2.2.2.2.2.2.1; omega), H1.out.2.2.2.2.blk⟩
      have hval : Value.int .u8 (48 + (q : Int)) = u8 (dg (X / y)) := by
        rw [hdiv]
        unfold u8
        rw [dg_toNat, Nat.mod_eq_of_lt (by omega)]
        congr 1
      have Hk4 := hid hk4
      have HG := hid (And.intro d1 (And.intro d3 (And.intro hc4 (And.intro hn4 (And.intro hmod (And.intro hdiv (And.intro hval (And.intro hbg (And.intro hbb hbl)))))))))
      have Ho := hid ho4
      clear hle hR hc4 hk4 k4 hfit hy0 hqy hdiv hmod hbd hbg hbb hbl ho4 d1 d3 hn4 hval c0 c1 Hwq HF
      have hq1 : ∀ u ∈ [Value.int .u8 ((48 + q : Nat) : Int)], u.oneCell' = true := by
        intro u hu
        rw [List.mem_singleton.1 hu]
        rfl
      go_wp2_with (at_builtin; go_must (refine wpList_append1 rfl _ _ 32 rfl 5 (.int .u8 0) 1 Tryd.underlying32 infoByte rfl _ _ _ rfl (Ho.out.kept ((Kp.refl _ _).alloc _)) _ 1 1 [.int .u8 ((48 + q : Nat) : Int)] rfl (Span.of_new _ _ _ _) rfl hq1 ?_ ?_ ?_))
      · omega
      · omega
      intro v1 w5 ho5 hk5 hb5
      obtain ⟨A', c', rfl, -⟩ := ho5.shape
      obtain ⟨v1, hv1⟩ : ∃ v1, v1 = Value.slice A' (O.length + 1) c' := ⟨_, rfl⟩
      rw [← hv1] at ho5 hb5
      have hk5' : Kp (Value.slice A O.length cp).ownBlock.toList w4 w5 := ((Kp.refl _ _).alloc _).trans hk5 (fun z hz _ => hz)
      have e1 := HG.out.1.keep hk5' (by simpa using HG.out.2.2.2.2.2.2.2.1)
      have e3 := HG.out.2.1.keep hk5' (by simpa using HG.out.2.2.2.2.2.2.2.2.1)
      have e2 := HG.out.2.2.1.keep hk5' (by simpa using HG.out.2.2.2.2.2.2.2.2.2)
      have hn5 := HG.out.2.2.2.1.append (v' := v1) (N := w4.heap.size + 1) hk5' hb5 (by omega)
      have f2 := e1.free 2
      have c5 : w5.cell? ⟨gd, 2, none⟩ = _ := e1.cell 2
      simp only [List.getElem?_cons_zero, List.getElem?_cons_succ] at c5
      have p1 := e1.put 2 v1
      have p2 := e2.other (p := ⟨gd, 2, none⟩) (by simp; exact n1.symm) v1
      have p3 := e3.other (p := ⟨gd, 2, none⟩) (by simp; exact n2.symm) v1
      have hvb : v1.ownBlock ≠ some gd := ho5.ne_cells e1 (by decide)
      have hks : Kp [gd] w5 (w5.setCell ⟨gd, 2, none⟩ v1) := (Kp.refl [gd] w5).setCell (fun _ => by simp) v1
      have p4 := ho5.keep hks (fun g hg => by simp; intro e; exact hvb (by rw [hg, e]))
      have hn6 : New w0 (w5.setCell ⟨gd, 2, none⟩ v1) v1 := ⟨hn5.kp.setCell (p := ⟨gd, 2, none⟩) (fun h => by have := HX.out.2.2.2.2.2.1; simp at h; omega) v1, hn5.blk⟩
      have hkS : Kp (gd :: gl :: ob.toList) w (w5.setCell ⟨gd, 2, none⟩ v1) := by
        have ka := (Hk4.out.mono (T := gd :: gl :: ob.toList) (by simp)).trans hk5' (by intro z hz _; rw [Hob.out] at hz; simp [hz])
        exact ka.trans hks (by simp)
      have hobs : v1.ownBlock = ob ∨ ∃ n, v1.ownBlock = some n ∧ w.heap.size ≤ n := by
        rcases hb5 with h | h
        · exact .inl (h.trans Hob.out)
        · exact .inr ⟨_, h, by have := Hk4.out.size; omega⟩
      have HY := hid (And.intro hkS hobs)
      clear hkS hobs
      rw [hv1] at p1 p2 p3 p4 hn6 HY
      have HZ := hid (And.intro p1 (And.intro p2 (And.intro p3 (And.intro p4 hn6))))
      clear p1 p2 p3 p4 hn6 hv1 hks hvb hn5 e1 e2 e3 hk5' hk5 hb5 ho5
      go_wp2_with fail
      go_end0
      refine ⟨rfl, _, ⟨gb, A', c', ?_, ?_, HZ.out.2.2.1, ?_, ?_, h6, HX.out.2.2.2.2.2.1, HX.out.2.2.2.2.2.2.1, HX.out.2.2.2.2.2.2.2, ?_⟩, HY.out.1, HY.out.2⟩
      · rw [List.length_append, List.length_singleton]
        exact HZ.out.1
      · rw [HG.out.2.2.2.2.1]
        exact HZ.out.2.1
      · rw [List.length_append, List.length_singleton, u8s_append, show u8s [dg (X / y)] = [u8 (dg (X / y))] from rfl, ← HG.out.2.2.2.2.2.2.1]
        exact HZ.out.2.2.2.1
      · rw [List.length_append, List.length_singleton]
        exact HZ.out.2.2.2.2
      · rw [List.length_append, List.length_singleton]
end Go.Proofs.YtampgimmodomoaaDoor
