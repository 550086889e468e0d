/- The document's answer for layer 2: Mod. -/
import Derived.Test.YtampgimmodomoaaDoorDQSmall
import Derived.Test.YtampgimmodomoaaDoorDDiv
import Derived.Test.YtampgimmodomoaaDoorDRAdd
namespace Go.Proofs.YtampgimmodomoaaDoor
open Go Go.RowKit Go.Lib

theorem qmod_zero (w : World) (a b : Dc) (hb0 : b.n = 0) :
    Calls Tryd.prog 40 #[.agg #[.bool a.neg, .string ⟨(dtxt a.n).toArray⟩, .int .i64 (a.s : Int)], .agg #[.bool b.neg, .string ⟨(dtxt b.n).toArray⟩, .int .i64 (b.s : Int)]] w fun e w' => e = .returned (.tuple #[.agg #[.bool false, .string ⟨#[]⟩, .int .i64 0], .int .i64 5]) ∧ Kp [] w w' := by
  have hB : dtxt b.n = [48] := by rw [hb0]; rfl
  rw [hB]
  obtain ⟨A, hA⟩ : ∃ A, A = dtxt a.n := ⟨_, rfl⟩
  rw [← hA]
  clear hA hB hb0
  have HK := hid ((((Kp.refl [] w).alloc (.cells #[.bool a.neg, .string ⟨A.toArray⟩, .int .i64 (a.s : Int)] 23)).alloc (.cells #[.bool b.neg, .string ⟨#[48]⟩, .int .i64 (b.s : Int)] 23)).alloc (.cells #[.bool false, .string ⟨#[]⟩, .int .i64 0] 23))
  go_enter Tryd.func40, Tryd.ntmps40
  go_wp2_with fail
  exact bodyPost_ret (v := .tuple #[.agg #[.bool false, .string ⟨#[]⟩, .int .i64 0], .int .i64 5]) (by simp [results, Tryd.results40, go_sem]) rfl ⟨rfl, HK.out⟩
theorem drop_first {L : List UInt8} (hL : Digs L) : L.drop (L.length - (dstr (val L)).length) = dstr (val L) := by
  rw [← dropZeros L hL]
  exact (List.suffix_iff_eq_drop.1 (List.dropWhile_suffix _)).symm
set_option maxRecDepth 100000 in
set_option maxHeartbeats 12800000 in
theorem qmod_any (w : World) (a b : Dc) (ha : Ok a) (hb : Ok b) (hb0 : b.n ≠ 0) :
    Calls Tryd.prog 40 #[.agg #[.bool a.neg, .string ⟨(dtxt a.n).toArray⟩, .int .i64 (a.s : Int)], .agg #[.bool b.neg, .string ⟨(dtxt b.n).toArray⟩, .int .i64 (b.s : Int)]] w (MadePost w (modD a b)) := by
  obtain ⟨X, Y, S, N, hS, hS60, hN, lX, lY, dX, dY, vX, vY, qA⟩ := al_facts ha hb
  obtain ⟨B, hB, dB, lB, lB0, vB, hB48⟩ := dec_letters hb
  have hbB : (B == [48]) = false := by rw [beq_eq_false_iff_ne]; exact fun e => hb0 (hB48.1 e)
  obtain ⟨R0, hR⟩ : ∃ R, R = modD a b := ⟨_, rfl⟩
  have hRD : R0 = norm a.neg (val X % val Y) S := by
    rw [hR, mod_scale, ← hS, vX, vY]
    rfl
  have hy0 : 0 < val Y := by rw [vY]; exact Nat.mul_pos (Nat.pos_of_ne_zero hb0) (n10 _)
  have hYs : (⟨Y.toArray⟩ : ByteArray).size = Y.length := size_mk _
  have hdl : (dstr (val Y)).length ≤ Y.length := length_dstr_le (val_lt Y dY)
  have qf := fun W => qfirst_any W Y dY (by omega)
  obtain ⟨f, hf⟩ : ∃ f, f = Y.length - (dstr (val Y)).length := ⟨_, rfl⟩
  have hx1 := extract_mk Y f Y.length
  rw [List.take_length, hf, drop_first dY, ← hf] at hx1
  rw [← hf] at qf
  obtain ⟨Z, hZ⟩ : ∃ Z, Z = dstr (val Y) := ⟨_, rfl⟩
  have dZ : Digs Z := by rw [hZ]; exact digs_dstr _
  have vZ : val Z = val Y := by rw [hZ]; exact val_dstr _
  rw [← hZ] at hx1 hdl
  have ql := fun W => qlong_any W X Z dX dZ (by omega) (by omega) (by omega)
  rw [vZ] at ql
  rw [← hR]
  rw [← hB] at qA ⊢
  obtain ⟨A, hA⟩ : ∃ A, A = dtxt a.n := ⟨_, rfl⟩
  obtain ⟨na, hna⟩ : ∃ x, x = a.neg := ⟨_, rfl⟩
  rw [← hA, ← hna] at qA ⊢
  rw [← hna] at hRD
  have hfY : (f : Int) ≤ (Y.length : Int) := by omega
  have hf0 : (0 : Int) ≤ (f : Int) := by omega
  have HR := hid (And.intro hRD hy0)
  have hlZ : Z.length ≤ 1000 := by omega
  clear hA hna hR hRD hB dB lB lB0 vB hB48 hZ dZ vZ vX vY hf hdl hS dX dY hy0 lX lY
  go_enter Tryd.func40, Tryd.ntmps40
  go_wp2_with fail
  obtain ⟨W0, hW0⟩ : ∃ W0, W0 = (((w.alloc (.cells #[.bool na, .string ⟨A.toArray⟩, .int .i64 (a.s : Int)] 23)).alloc (.cells #[.bool b.neg, .string ⟨B.toArray⟩, .int .i64 (b.s : Int)] 23)).alloc (.cells #[.bool false, .string ⟨#[]⟩, .int .i64 0] 23)) := ⟨_, rfl⟩
  have hK0 : Kp [] w W0 := by rw [hW0]; exact (((Kp.refl _ _).alloc _).alloc _).alloc _
  have hC0 : Cells W0 w.heap.size 23 [.bool na, .string ⟨A.toArray⟩, .int .i64 (a.s : Int)] := by rw [hW0]; exact ((Cells.fresh w 23 _).alloc _).alloc _
  have hC2 : Room (w.heap.size + 1 + 1) W0 := by
    rw [hW0]
    have := Cells.fresh1 (w.alloc (.cells #[.bool na, .string ⟨A.toArray⟩, .int .i64 (a.s : Int)] 23)) (.cells #[.bool b.neg, .string ⟨B.toArray⟩, .int .i64 (b.s : Int)] 23) 23 [.bool false, .string ⟨#[]⟩, .int .i64 0]
    exact ⟨_, by simpa using this, rfl⟩
  rw [← hW0]
  have H0 := hid (And.intro hK0 (And.intro hC0 hC2))
  clear hK0 hC0 hC2 hW0
  (with_reducible refine (qA _).mono ?_)
  rintro e w1 ⟨rfl, k1⟩
  have K1 := hid k1
  clear k1 qA
  go_wp2_with fail
  (with_reducible refine (qf _).mono ?_)
  rintro e w2 ⟨rfl, rfl⟩
  clear qf
  go_wp2_with fail
  (with_reducible refine (ql _).mono ?_)
  rintro e w3 ⟨O, R, x, rfl, hL, dR, vR, lR, k3⟩
  have hk3 := K1.out.nil k3
  have a0 : w3.cell? ⟨w.heap.size, 0, none⟩ = _ := (H0.out.2.1.keep hk3 (by simp)).cell 0
  simp only [List.getElem?_cons_zero] at a0
  have hval : R0 = norm na (val R) S := by rw [vR, hL.is.2]; exact HR.out.1
  have qn := fun W => (rnorm_any W na R dR (by omega) S (by omega)).mono fun e w' h => (⟨by
    have h2 := h.1
    rw [← hval, resV_is] at h2
    exact h2, h.2⟩ : e = .returned (.tuple #[.agg #[.bool (oN R0), .string ⟨(oL R0).toArray⟩, .int .i64 (oS R0)], .int .i64 (oE R0)]) ∧ Kp [] W w')
  have HK3 := hid hk3
  clear k3 hk3 ql hL dR vR lR hval hx1
  go_wp2_with fail
  (with_reducible refine (qn _).mono ?_)
  rintro e w9 ⟨rfl, k9⟩
  have hk9 := HK3.out.nil k9
  obtain ⟨_, _, _, c0, c1, c2, f0, f1, f2⟩ := (H0.out.2.2.kept hk9).cells
  have HK9 := hid (H0.out.1.nil hk9)
  clear k9 hk9 qn a0
  go_wp2_with fail
  exact bodyPost_ret (v := .tuple #[.agg #[.bool (oN R0), .string ⟨(oL R0).toArray⟩, .int .i64 (oS R0)], .int .i64 (oE R0)]) (by simp [results, Tryd.results40, go_sem, c0, c1, c2]) rfl ⟨by rw [resV_is], kp_room3 HK9.out (by omega) _ _ _⟩
end Go.Proofs.YtampgimmodomoaaDoor
