/- The document's answer for layer 1: a whole number. -/
import Derived.Test.YtampgimmodomoaaDoorDRPlus
import Derived.Test.YtampgimmodomoaaDoorDReads
import Derived.Test.YtampgimmodomoaaDoorDSym
namespace Go.Proofs.YtampgimmodomoaaDoor
open Go Go.RowKit Go.Lib

set_option maxRecDepth 100000 in
set_option maxHeartbeats 6400000 in
theorem rint_any (w : World) (n : Int) (hn : -9223372036854775808 ≤ n ∧ n ≤ 9223372036854775807) :
    Calls Tryd.prog 34 #[.int .i64 n] w fun e w' => e = .returned (.agg #[.bool (intD n).neg, .string ⟨(dtxt (intD n).n).toArray⟩, .int .i64 ((intD n).s : Int)]) ∧ Kp [] w w' := by
  obtain ⟨U, hU⟩ : ∃ U, U = n.natAbs := ⟨_, rfl⟩
  have hUl : U < 10 ^ 20 := by
    have : U ≤ 9223372036854775808 := by omega
    exact Nat.lt_of_le_of_lt this (by decide)
  have hlen := length_dstr_le hUl
  have hnm : norm (decide (n < 0)) (val (dstr U)) 0 = some (intD n) := by
    rw [val_dstr, hU]
    exact norm_int (by unfold topN; rw [← hU]; exact Nat.lt_trans hUl (by decide))
  have hmade : ∀ W, Calls Tryd.prog 62 #[.bool (decide (n < 0)), .string ⟨(dstr U).toArray⟩, .int .i64 0] W fun e w' => e = .returned (.tuple #[.agg #[.bool (intD n).neg, .string ⟨(dtxt (intD n).n).toArray⟩, .int .i64 ((intD n).s : Int)], .int .i64 0]) ∧ Kp [] W w' := fun W => by
    have h := rnorm_any W (decide (n < 0)) (dstr U) (digs_dstr U) (by omega) 0 (by omega)
    rw [hnm] at h
    exact h
  obtain ⟨I, hI⟩ : ∃ I, I = intD n := ⟨_, rfl⟩
  rw [← hI]
  simp only [← hI] at hmade
  have hU2 : U ≤ 9223372036854775808 := by omega
  have HR := hid (Room.fresh w (.bool false) (.string ⟨#[]⟩) (.int .i64 0))
  have HK := hid ((Kp.refl [] w).alloc (.cells #[.bool false, .string ⟨#[]⟩, .int .i64 0] 23))
  have Hmade := hid hmade
  have Hlen := hid hlen
  clear hmade hI hlen hUl hnm
  rcases Int.lt_or_le n 0 with hneg | hneg
  · rw [decide_eq_true hneg] at Hmade
    have e1 : -(n + 1) + 1 = (U : Int) := by omega
    have E1 := hid e1
    clear hU e1
    go_enter Tryd.func34, Tryd.ntmps34
    go_wp2_with fail
    rw [E1.out]
    obtain ⟨w0, hw0⟩ : ∃ w0, w0 = w.alloc (.cells #[.bool false, .string ⟨#[]⟩, .int .i64 0] 23) := ⟨_, rfl⟩
    rw [← hw0] at HR HK ⊢
    clear hw0
    go_loopw [4, 3] (fun vs vu wr => Kp [] w0 wr ∧ ∃ (s : List UInt8) (u : Nat), vs = .string ⟨s.toArray⟩ ∧ vu = .int .u64 (u : Int) ∧ dstr U = dstr u ++ s ∧ u ≤ U) (fun _ vu _ => (intOf vu).toNat)
    case atStart => exact ⟨Kp.refl _ _, [], U, rfl, rfl, by simp, Nat.le_refl _⟩
    case round =>
      obtain ⟨kr, s, u, rfl, rfl, hs, hu⟩ := hrel
      have hls : s.length ≤ 20 := by
        have h1 := congrArg List.length hs
        rw [List.length_append] at h1
        have h2 := Hlen.out
        omega
      rcases Nat.eq_zero_or_pos u with hu0 | hu0
      · subst hu0
        have hsU : s = dstr U := by rw [hs, show dstr 0 = [] by rfl, List.nil_append]
        have hm := Hmade.out
        rw [← hsU] at hm
        have Kr := hid kr
        clear hs hsU kr
        go_wp2_with fail
        (with_reducible refine (hm _).mono ?_)
        rintro e w3 ⟨rfl, k3⟩
        obtain ⟨K3, d0, d1, d2⟩ := k3.loc (.bool I.neg) (.string ⟨(dtxt I.n).toArray⟩) (.int .i64 (I.s : Int))
        obtain ⟨x0, x1, x2, c0, c1, c2, f0, f1, f2⟩ := ((HR.out.kept Kr.out).kept K3).cells
        have HKK := hid ((HK.out.nil Kr.out).nil K3)
        clear k3 K3 hm
        go_wp2_with fail
        exact bodyPost_ret (v := .agg #[.bool I.neg, .string ⟨(dtxt I.n).toArray⟩, .int .i64 (I.s : Int)]) (by simp [results, Tryd.results34, go_sem, c0, c1, c2]) rfl ⟨rfl, kp_room HKK.out _ _ _⟩
      · have htx := fun W => one_text u W
        have hput := fun W => dig_put u s (by omega) W
        have hst : dstr U = dstr (u / 10) ++ (dg u :: s) := by rw [hs, dstr_step (by omega)]; simp
        have HS := hid hst
        clear hs hst
        go_wp2_with fail
        go_roundw
        case rel => exact ⟨kr.alloc _, dg u :: s, u / 10, rfl, by go_num, HS.out, by omega⟩
        case measure => simp [intOf]; omega
  · have hnU : n = (U : Int) := by omega
    rw [decide_eq_false (by omega)] at Hmade
    subst hnU
    have hdn : decide ((U : Int) < 0) = false := decide_eq_false (by omega)
    clear hU hneg
    go_enter Tryd.func34, Tryd.ntmps34
    go_wp2_with fail
    obtain ⟨w0, hw0⟩ : ∃ w0, w0 = w.alloc (.cells #[.bool false, .string ⟨#[]⟩, .int .i64 0] 23) := ⟨_, rfl⟩
    rw [← hw0] at HR HK ⊢
    clear hw0
    go_loopw [4, 3] (fun vs vu wr => Kp [] w0 wr ∧ ∃ (s : List UInt8) (u : Nat), vs = .string ⟨s.toArray⟩ ∧ vu = .int .u64 (u : Int) ∧ dstr U = dstr u ++ s ∧ u ≤ U) (fun _ vu _ => (intOf vu).toNat)
    case atStart => exact ⟨Kp.refl _ _, [], U, rfl, rfl, by simp, Nat.le_refl _⟩
    case round =>
      obtain ⟨kr, s, u, rfl, rfl, hs, hu⟩ := hrel
      have hls : s.length ≤ 20 := by
        have h1 := congrArg List.length hs
        rw [List.length_append] at h1
        have h2 := Hlen.out
        omega
      rcases Nat.eq_zero_or_pos u with hu0 | hu0
      · subst hu0
        have hsU : s = dstr U := by rw [hs, show dstr 0 = [] by rfl, List.nil_append]
        have hm := Hmade.out
        rw [← hsU] at hm
        have Kr := hid kr
        clear hs hsU kr
        go_wp2_with fail
        (with_reducible refine (hm _).mono ?_)
        rintro e w3 ⟨rfl, k3⟩
        obtain ⟨K3, d0, d1, d2⟩ := k3.loc (.bool I.neg) (.string ⟨(dtxt I.n).toArray⟩) (.int .i64 (I.s : Int))
        obtain ⟨x0, x1, x2, c0, c1, c2, f0, f1, f2⟩ := ((HR.out.kept Kr.out).kept K3).cells
        have HKK := hid ((HK.out.nil Kr.out).nil K3)
        clear k3 K3 hm
        go_wp2_with fail
        exact bodyPost_ret (v := .agg #[.bool I.neg, .string ⟨(dtxt I.n).toArray⟩, .int .i64 (I.s : Int)]) (by simp [results, Tryd.results34, go_sem, c0, c1, c2]) rfl ⟨rfl, kp_room HKK.out _ _ _⟩
      · have htx := fun W => one_text u W
        have hput := fun W => dig_put u s (by omega) W
        have hst : dstr U = dstr (u / 10) ++ (dg u :: s) := by rw [hs, dstr_step (by omega)]; simp
        have HS := hid hst
        clear hs hst
        go_wp2_with fail
        go_roundw
        case rel => exact ⟨kr.alloc _, dg u :: s, u / 10, rfl, by go_num, HS.out, by omega⟩
        case measure => simp [intOf]; omega
end Go.Proofs.YtampgimmodomoaaDoor
