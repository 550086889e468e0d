/- Int of layer 1. -/
import Derived.Test.YtampgimmodomoaaDoorDRev
import Derived.Test.YtampgimmodomoaaDoorDArith
namespace Go.Proofs.YtampgimmodomoaaDoor
open Go Go.RowKit Go.Lib

/-- Its digits so far, the last one first. -/
def IntI (U u : Nat) (L : List UInt8) : Prop := u ≤ U ∧ dstr U = dstr u ++ L.reverse ∧ L.length ≤ 20
theorem IntI.start {U : Nat} : IntI U U [] := ⟨Nat.le_refl _, by simp, by simp⟩
theorem IntI.next {U u : Nat} {L : List UInt8} (hU : (dstr U).length ≤ 20) (h : IntI U u L) (hu : u ≠ 0) : IntI U (u / 10) (L ++ [dg u]) := by
  obtain ⟨h1, h2, _⟩ := h
  have e : dstr U = dstr (u / 10) ++ (L ++ [dg u]).reverse := by
    rw [h2, dstr_step hu, List.reverse_append]
    simp
  refine ⟨Nat.le_trans (Nat.div_le_self _ _) h1, e, ?_⟩
  have := congrArg List.length e
  rw [List.length_append, List.length_reverse] at this
  omega
theorem IntI.done {U : Nat} {L : List UInt8} (h : IntI U 0 L) : L.reverse = dstr U := h.2.1.symm
theorem dg_int (u : Nat) : Value.int .u8 (48 + (u : Int) % 10) = u8 (dg u) := by
  unfold u8
  rw [dg_toNat]
  congr 1
theorem dg_cell (u : Nat) : [Value.int .u8 (48 + (u : Int) % 10)] = u8s [dg u] := by
  rw [dg_int]
  rfl
theorem one_dg (u : Nat) : ∀ x ∈ [Value.int .u8 (48 + (u : Int) % 10)], x.oneCell' = true := by
  intro x hx
  rw [List.mem_singleton.1 hx]
  rfl
set_option maxRecDepth 100000 in
set_option maxHeartbeats 6400000 in
theorem int_any (w : World) (n : Int) (hn : -9223372036854775808 ≤ n ∧ n ≤ 9223372036854775807) :
    Calls Tryd.prog 33 #[.int .i64 n] w fun e w' => e = .returned (.agg #[.bool (intD n).neg, .string ⟨(dtxt (intD n).n).toArray⟩, .int .i64 0]) ∧ Kp [] w w' := by
  obtain ⟨U, hU⟩ : ∃ U, U = n.natAbs := ⟨_, rfl⟩
  have hUl : U < 10 ^ 20 := by
    have : U ≤ 9223372036854775808 := by omega
    exact Nat.lt_of_le_of_lt this (by decide)
  have hlen := length_dstr_le hUl
  have hnm : norm (decide (n < 0)) (val (dstr U)) 0 = some (intD n) := by
    rw [val_dstr, hU]
    exact norm_int (by unfold topN; rw [← hU]; exact Nat.lt_trans hUl (by decide))
  have hmade := fun W => made_some_sure (digs_dstr U) (by omega) (S := 0) (by omega) hnm W
  obtain ⟨I, hI⟩ : ∃ I, I = intD n := ⟨_, rfl⟩
  have hIs : I.s = 0 := by rw [hI]; rfl
  rw [← hI] at hmade ⊢
  rw [hIs] at hmade
  have Hmade := hid hmade
  have Hlen := hid hlen
  have hU2 : U ≤ 9223372036854775808 := by omega
  have hroom := Room.fresh w (.bool false) (.string ⟨#[]⟩) (.int .i64 0)
  have hw1 := (Kp.refl [] w).alloc (.cells #[.bool false, .string ⟨#[]⟩, .int .i64 0] 23)
  have hsz1 : (w.alloc (.cells #[.bool false, .string ⟨#[]⟩, .int .i64 0] 23)).heap.size = w.heap.size + 1 := by simp
  have HW := hid (And.intro hroom (And.intro hw1 hsz1))
  clear hmade hI hIs hlen hUl hnm hroom hw1 hsz1
  rcases Int.lt_or_le n 0 with hneg | hneg
  · have e1 : (IntKind.u64).wrap n = n + 18446744073709551616 := by unfold IntKind.wrap; simp [IntKind.bits, IntKind.signed]; omega
    have e2 : (IntKind.u64).wrap (-(n + 18446744073709551616)) = (U : Int) := by unfold IntKind.wrap; simp [IntKind.bits, IntKind.signed]; omega
    rw [decide_eq_true hneg] at Hmade
    clear hU
    go_enter Tryd.func33, Tryd.ntmps33
    go_wp2_with fail
    clear e1 e2
    obtain ⟨w0, hw0⟩ : ∃ w0, w0 = w.alloc (.cells #[.bool false, .string ⟨#[]⟩, .int .i64 0] 23) := ⟨_, rfl⟩
    rw [← hw0] at HW ⊢
    clear hw0
    go_loopw [4, 3] (fun vd vu wr => New w0 wr vd ∧ ∃ (L : List UInt8) (u : Nat), vu = .int .u64 (u : Int) ∧ IntI U u L ∧ Own wr 5 vd L.length (u8s L)) (fun _ vu _ => (intOf vu).toNat)
    case atStart => exact ⟨New.nil (Kp.refl _ _), [], U, rfl, IntI.start, Own.nil _ _⟩
    case round =>
      obtain ⟨hnew, L, u, rfl, hI, ho⟩ := hrel
      rcases Nat.eq_zero_or_pos u with hu0 | hu0
      · subst hu0
        have hLr := hI.done
        have hL20 := hI.2.2
        obtain ⟨A, c, rfl, -⟩ := ho.shape
        have hrev := reverse_any wr A L.length c L rfl (by omega) ho
        have HN := hid (And.intro hnew hLr)
        clear hI ho hnew hLr
        go_wp2_with fail
        refine hrev.mono ?_
        rintro e w2 ⟨rfl, ho2, k2⟩
        rw [HN.out.2] at ho2
        obtain ⟨A', c', hA', hsp, -, -, -⟩ := ho2.shape
        injection hA' with hA' _ hc'
        subst hA' hc'
        have htx := run_text (P := Tryd.prog) (src := 32) (e := 5) (dst := 9) Tryd.underlying32 Tryd.underlying5 Tryd.underlying9 hsp L.length c (by rw [← HN.out.2, List.length_reverse])
        have hK2 := (HN.out.1.step k2 HN.out.1.blk).kp
        have HK2 := hid hK2
        clear ho2 k2 hsp hK2 hrev
        go_wp2_with fail
        refine (Hmade.out _).mono ?_
        rintro e w3 ⟨rfl, k3⟩
        have hR3 := (HW.out.1.kept HK2.out).kept k3
        obtain ⟨x0, x1, x2, c0, c1, c2, f0, f1, f2⟩ := (hR3.kept ((Kp.refl [] w3).alloc (.cells #[.bool I.neg, .string ⟨(dtxt I.n).toArray⟩, .int .i64 0] 23))).cells
        have hKK := ((HW.out.2.1.nil HK2.out).nil k3).alloc (.cells #[.bool I.neg, .string ⟨(dtxt I.n).toArray⟩, .int .i64 0] 23)
        have HKK := hid hKK
        clear k3 hR3 hKK
        go_wp2_with fail
        exact bodyPost_ret (v := .agg #[.bool I.neg, .string ⟨(dtxt I.n).toArray⟩, .int .i64 0]) (by simp [results, Tryd.results33, go_sem, c0, c1, c2]) rfl ⟨rfl, kp_room HKK.out _ _ _⟩
      · have hI2 := hI.next Hlen.out (by omega)
        have hL20 := hI.2.2
        have huU := hI.1
        have HI := hid (And.intro hI2 hnew)
        have Ho := hid ho
        clear hI hI2 hnew ho
        go_wp2_with (at_builtin; go_must (refine wpList_append1 rfl _ _ 32 rfl 5 (.int .u8 0) 1 Tryd.underlying32 infoByte rfl _ _ _ rfl (Ho.out.kept ((Kp.refl _ _).alloc _)) _ 1 1 [.int .u8 (48 + (u : Int) % 10)] rfl (Span.of_new _ _ _ _) rfl (one_dg u) ?_ ?_ ?_))
        · omega
        · omega
        intro v1 w1 ho1 hk1 hb1
        rw [dg_cell, ← u8s_append] at ho1
        have HQ := hid (And.intro ho1 (And.intro hk1 hb1))
        clear ho1 hk1 hb1
        go_wp2_with fail
        go_roundw
        case rel =>
          refine ⟨(HI.out.2.kept ((Kp.refl _ _).alloc _)).append HQ.out.2.1 HQ.out.2.2 (by simp), L ++ [dg u], u / 10, by go_num, HI.out.1, ?_⟩
          rw [List.length_append]
          exact HQ.out.1
        case measure => simp [intOf]; omega
  · have hnU : n = (U : Int) := by omega
    rw [decide_eq_false (by omega)] at Hmade
    subst hnU
    clear hU hneg
    go_enter Tryd.func33, Tryd.ntmps33
    go_wp2_with fail
    obtain ⟨w0, hw0⟩ : ∃ w0, w0 = w.alloc (.cells #[.bool false, .string ⟨#[]⟩, .int .i64 0] 23) := ⟨_, rfl⟩
    rw [← hw0] at HW ⊢
    clear hw0
    go_loopw [4, 3] (fun vd vu wr => New w0 wr vd ∧ ∃ (L : List UInt8) (u : Nat), vu = .int .u64 (u : Int) ∧ IntI U u L ∧ Own wr 5 vd L.length (u8s L)) (fun _ vu _ => (intOf vu).toNat)
    case atStart => exact ⟨New.nil (Kp.refl _ _), [], U, rfl, IntI.start, Own.nil _ _⟩
    case round =>
      obtain ⟨hnew, L, u, rfl, hI, ho⟩ := hrel
      rcases Nat.eq_zero_or_pos u with hu0 | hu0
      · subst hu0
        have hLr := hI.done
        have hL20 := hI.2.2
        obtain ⟨A, c, rfl, -⟩ := ho.shape
        have hrev := reverse_any wr A L.length c L rfl (by omega) ho
        have HN := hid (And.intro hnew hLr)
        clear hI ho hnew hLr
        go_wp2_with fail
        refine hrev.mono ?_
        rintro e w2 ⟨rfl, ho2, k2⟩
        rw [HN.out.2] at ho2
        obtain ⟨A', c', hA', hsp, -, -, -⟩ := ho2.shape
        injection hA' with hA' _ hc'
        subst hA' hc'
        have htx := run_text (P := Tryd.prog) (src := 32) (e := 5) (dst := 9) Tryd.underlying32 Tryd.underlying5 Tryd.underlying9 hsp L.length c (by rw [← HN.out.2, List.length_reverse])
        have hK2 := (HN.out.1.step k2 HN.out.1.blk).kp
        have HK2 := hid hK2
        clear ho2 k2 hsp hK2 hrev
        go_wp2_with fail
        refine (Hmade.out _).mono ?_
        rintro e w3 ⟨rfl, k3⟩
        have hR3 := (HW.out.1.kept HK2.out).kept k3
        obtain ⟨x0, x1, x2, c0, c1, c2, f0, f1, f2⟩ := (hR3.kept ((Kp.refl [] w3).alloc (.cells #[.bool I.neg, .string ⟨(dtxt I.n).toArray⟩, .int .i64 0] 23))).cells
        have hKK := ((HW.out.2.1.nil HK2.out).nil k3).alloc (.cells #[.bool I.neg, .string ⟨(dtxt I.n).toArray⟩, .int .i64 0] 23)
        have HKK := hid hKK
        clear k3 hR3 hKK
        go_wp2_with fail
        exact bodyPost_ret (v := .agg #[.bool I.neg, .string ⟨(dtxt I.n).toArray⟩, .int .i64 0]) (by simp [results, Tryd.results33, go_sem, c0, c1, c2]) rfl ⟨rfl, kp_room HKK.out _ _ _⟩
      · have hI2 := hI.next Hlen.out (by omega)
        have hL20 := hI.2.2
        have huU := hI.1
        have HI := hid (And.intro hI2 hnew)
        have Ho := hid ho
        clear hI hI2 hnew ho
        go_wp2_with (at_builtin; go_must (refine wpList_append1 rfl _ _ 32 rfl 5 (.int .u8 0) 1 Tryd.underlying32 infoByte rfl _ _ _ rfl (Ho.out.kept ((Kp.refl _ _).alloc _)) _ 1 1 [.int .u8 (48 + (u : Int) % 10)] rfl (Span.of_new _ _ _ _) rfl (one_dg u) ?_ ?_ ?_))
        · omega
        · omega
        intro v1 w1 ho1 hk1 hb1
        rw [dg_cell, ← u8s_append] at ho1
        have HQ := hid (And.intro ho1 (And.intro hk1 hb1))
        clear ho1 hk1 hb1
        go_wp2_with fail
        go_roundw
        case rel =>
          refine ⟨(HI.out.2.kept ((Kp.refl _ _).alloc _)).append HQ.out.2.1 HQ.out.2.2 (by simp), L ++ [dg u], u / 10, by go_num, HI.out.1, ?_⟩
          rw [List.length_append]
          exact HQ.out.1
        case measure => simp [intOf]; omega
end Go.Proofs.YtampgimmodomoaaDoor
