/- The document's answer for layer 1: turned, differences. -/
import Derived.Test.YtampgimmodomoaaDoorDRAdd
import Derived.Test.YtampgimmodomoaaDoorDSym
import Derived.Test.YtampgimmodomoaaDoorDSub
namespace Go.Proofs.YtampgimmodomoaaDoor
open Go Go.RowKit Go.Lib

theorem radd_sym {a b : Dc} (ha : Ok a) (hb : Ok b) : Gives 25 #[.agg #[.bool a.neg, .string ⟨(dtxt a.n).toArray⟩, .int .i64 (a.s : Int)], .agg #[.bool b.neg, .string ⟨(dtxt b.n).toArray⟩, .int .i64 (b.s : Int)]] (addD a b) := fun W => (radd_any W a b ha hb).mono fun e w' ⟨h1, h2⟩ => ⟨by rw [h1, resV_is], h2⟩
set_option maxRecDepth 100000 in
set_option maxHeartbeats 3200000 in
theorem rturn_raw (w : World) (n : Bool) (D : List UInt8) (s : Int) :
    Calls Tryd.prog 44 #[.agg #[.bool n, .string ⟨D.toArray⟩, .int .i64 s]] w fun e w' => e = .returned (.agg #[.bool (if D = [48] then n else !n), .string ⟨D.toArray⟩, .int .i64 s]) ∧ Kp [] w w' := by
  by_cases hD : D = [48]
  · subst hD
    go_enter Tryd.func44, Tryd.ntmps44
    go_wp2_with fail
    exact bodyPost_ret (v := .agg #[.bool n, .string ⟨#[48]⟩, .int .i64 s]) (by simp [results, Tryd.results44, go_sem]) rfl ⟨rfl, ((Kp.refl [] w).alloc _).alloc _⟩
  · have hb : (D == [48]) = false := beq_eq_false_iff_ne.2 hD
    rw [if_neg hD]
    clear hD
    go_enter Tryd.func44, Tryd.ntmps44
    go_wp2_with fail
    exact bodyPost_ret (v := .agg #[.bool (!n), .string ⟨D.toArray⟩, .int .i64 s]) (by simp [results, Tryd.results44, go_sem]) rfl ⟨rfl, ((Kp.refl [] w).alloc _).alloc _⟩
theorem dtxt_zero {n : Nat} : dtxt n = [48] ↔ n = 0 := ⟨fun h => dtxt_inj (b := 0) h, fun h => by rw [h]; rfl⟩
theorem rturn_any (w : World) (d : Dc) : Calls Tryd.prog 44 #[.agg #[.bool d.neg, .string ⟨(dtxt d.n).toArray⟩, .int .i64 (d.s : Int)]] w fun e w' => e = .returned (.agg #[.bool (turn d).neg, .string ⟨(dtxt (turn d).n).toArray⟩, .int .i64 ((turn d).s : Int)]) ∧ Kp [] w w' := by
  refine (rturn_raw w d.neg (dtxt d.n) d.s).mono fun e w' ⟨h1, h2⟩ => ⟨?_, h2⟩
  rw [h1]
  unfold turn
  by_cases h : d.n = 0
  · rw [if_pos h, if_pos (dtxt_zero.2 h)]
  · rw [if_neg h, if_neg (fun e => h (dtxt_zero.1 e))]
theorem sub_code (a b : Dc) : addD a (turn b) = subD a b := (sub_turn a b).symm
set_option maxRecDepth 100000 in
set_option maxHeartbeats 6400000 in
theorem rsub_any (w : World) (a b : Dc) (ha : Ok a) (hb : Ok b) :
    Calls Tryd.prog 27 #[.agg #[.bool a.neg, .string ⟨(dtxt a.n).toArray⟩, .int .i64 (a.s : Int)], .agg #[.bool b.neg, .string ⟨(dtxt b.n).toArray⟩, .int .i64 (b.s : Int)]] w (DecPost w (subD a b)) := by
  have hT := fun W => rturn_any W b
  have hA := radd_sym ha (ok_turn hb)
  rw [sub_code] at hA
  obtain ⟨O, hO⟩ : ∃ O, O = subD a b := ⟨_, rfl⟩
  rw [← hO] at hA ⊢
  obtain ⟨t, ht⟩ : ∃ t, t = turn b := ⟨_, rfl⟩
  rw [← ht] at hA
  simp only [← ht] at hT
  have hroom := three_fresh w a.neg b.neg (.string ⟨(dtxt a.n).toArray⟩) (.int .i64 (a.s : Int)) (.string ⟨(dtxt b.n).toArray⟩) (.int .i64 (b.s : Int)) (.bool false) (.string ⟨#[]⟩) (.int .i64 0)
  have hcA : Cells (((w.alloc (.cells #[.bool a.neg, .string ⟨(dtxt a.n).toArray⟩, .int .i64 (a.s : Int)] 23)).alloc (.cells #[.bool b.neg, .string ⟨(dtxt b.n).toArray⟩, .int .i64 (b.s : Int)] 23)).alloc (.cells #[.bool false, .string ⟨#[]⟩, .int .i64 0] 23)) w.heap.size 23 [.bool a.neg, .string ⟨(dtxt a.n).toArray⟩, .int .i64 (a.s : Int)] := ((Cells.fresh w 23 _).alloc _).alloc _
  have hcB : Cells (((w.alloc (.cells #[.bool a.neg, .string ⟨(dtxt a.n).toArray⟩, .int .i64 (a.s : Int)] 23)).alloc (.cells #[.bool b.neg, .string ⟨(dtxt b.n).toArray⟩, .int .i64 (b.s : Int)] 23)).alloc (.cells #[.bool false, .string ⟨#[]⟩, .int .i64 0] 23)) (w.heap.size + 1) 23 [.bool b.neg, .string ⟨(dtxt b.n).toArray⟩, .int .i64 (b.s : Int)] := by
    have := (Cells.fresh (w.alloc (.cells #[.bool a.neg, .string ⟨(dtxt a.n).toArray⟩, .int .i64 (a.s : Int)] 23)) 23 [.bool b.neg, .string ⟨(dtxt b.n).toArray⟩, .int .i64 (b.s : Int)]).alloc (.cells #[.bool false, .string ⟨#[]⟩, .int .i64 0] 23)
    simpa using this
  have hKw : Kp [] w (((w.alloc (.cells #[.bool a.neg, .string ⟨(dtxt a.n).toArray⟩, .int .i64 (a.s : Int)] 23)).alloc (.cells #[.bool b.neg, .string ⟨(dtxt b.n).toArray⟩, .int .i64 (b.s : Int)] 23)).alloc (.cells #[.bool false, .string ⟨#[]⟩, .int .i64 0] 23)) := (((Kp.refl [] w).alloc _).alloc _).alloc _
  have HA := hid hcA
  have HB := hid hcB
  have HR := hid hroom.2
  have HK := hid hKw
  clear hO ht ha hb hroom hcA hcB hKw
  go_enter Tryd.func27, Tryd.ntmps27
  go_wp2_with fail
  have z0 : _ = some (Value.bool a.neg) := HA.out.cell 0
  have z1 : _ = some (Value.string ⟨(dtxt a.n).toArray⟩) := HA.out.cell 1
  have z2 : _ = some (Value.int .i64 (a.s : Int)) := HA.out.cell 2
  have y0 : _ = some (Value.bool b.neg) := HB.out.cell 0
  have y1 : _ = some (Value.string ⟨(dtxt b.n).toArray⟩) := HB.out.cell 1
  have y2 : _ = some (Value.int .i64 (b.s : Int)) := HB.out.cell 2
  refine lin_start (fun w' => w'.cell? ⟨w.heap.size, 0, none⟩ = some (Value.bool a.neg) ∧ w'.cell? ⟨w.heap.size, 1, none⟩ = some (Value.string ⟨(dtxt a.n).toArray⟩) ∧ w'.cell? ⟨w.heap.size, 2, none⟩ = some (Value.int .i64 (a.s : Int)) ∧ w'.cell? ⟨w.heap.size + 1, 0, none⟩ = some (Value.bool b.neg) ∧ w'.cell? ⟨w.heap.size + 1, 1, none⟩ = some (Value.string ⟨(dtxt b.n).toArray⟩) ∧ w'.cell? ⟨w.heap.size + 1, 2, none⟩ = some (Value.int .i64 (b.s : Int))) ((Stays.cell _ _).and ((Stays.cell _ _).and ((Stays.cell _ _).and ((Stays.cell _ _).and ((Stays.cell _ _).and ((Stays.cell _ _))))))) (by kernel_rfl) ⟨z0, z1, z2, y0, y1, y2⟩ (fun hSS hS => ?_)
  refine lin_val (i := 0) (v := ?_) rfl (by kernel_rfl) (by kernel_rfl) (by kernel_rfl) (fun _ _ _ h => h) hSS hS rfl (fun w hSw => ?_) ?_
  rotate_left
  · obtain ⟨q0, q1, q2, q3, q4, q5⟩ := hSw; go_simp; first | done | with_reducible rfl
  simp only [Act.put, List.setIfInBounds_toArray, List.set_cons_zero, List.set_cons_succ]
  refine lin_val (i := 1) (v := ?_) rfl (by kernel_rfl) (by kernel_rfl) (by kernel_rfl) (fun _ _ _ h => h) hSS hS rfl (fun w hSw => ?_) ?_
  rotate_left
  · obtain ⟨q0, q1, q2, q3, q4, q5⟩ := hSw; go_simp; first | done | with_reducible rfl
  simp only [Act.put, List.setIfInBounds_toArray, List.set_cons_zero, List.set_cons_succ]
  refine lin_call (i := 2) rfl (by kernel_rfl) (by kernel_rfl) (by kernel_rfl) (fun _ _ _ h => h) hSS hS rfl (fun w _ => hT w) (fun w hSw => ?_) ?_
  · obtain ⟨q0, q1, q2, q3, q4, q5⟩ := hSw; go_simp
  simp only [Act.put, List.setIfInBounds_toArray, List.set_cons_zero, List.set_cons_succ]
  refine lin_call (i := 3) rfl (by kernel_rfl) (by kernel_rfl) (by kernel_rfl) (fun _ _ _ h => h) hSS hS rfl (fun w _ => hA w) (fun w hSw => ?_) ?_
  · obtain ⟨q0, q1, q2, q3, q4, q5⟩ := hSw; go_simp
  simp only [Act.put, List.setIfInBounds_toArray, List.set_cons_zero, List.set_cons_succ]
  refine lin_val (i := 4) (v := ?_) rfl (by kernel_rfl) (by kernel_rfl) (by kernel_rfl) (fun _ _ _ h => h) hSS hS rfl (fun w hSw => ?_) ?_
  rotate_left
  · obtain ⟨q0, q1, q2, q3, q4, q5⟩ := hSw; go_simp; first | done | with_reducible rfl
  simp only [Act.put, List.setIfInBounds_toArray, List.set_cons_zero, List.set_cons_succ]
  refine lin_val (i := 5) (v := ?_) rfl (by kernel_rfl) (by kernel_rfl) (by kernel_rfl) (fun _ _ _ h => h) hSS hS rfl (fun w hSw => ?_) ?_
  rotate_left
  · obtain ⟨q0, q1, q2, q3, q4, q5⟩ := hSw; go_simp; first | done | with_reducible rfl
  simp only [Act.put, List.setIfInBounds_toArray, List.set_cons_zero, List.set_cons_succ]
  refine lin_step (i := 6) (by kernel_rfl) rfl (fun wb kb K hK => ?_)
  have R := (HR.out.kept (Kp.refl [] _).drew).kept kb
  obtain ⟨_, _, _, c0, c1, c2, f0, f1, f2⟩ := R.cells
  go_simp
  clear c0 c1 c2 f0 f1 f2
  obtain ⟨kd, x0, x1, x2⟩ := R.done ((HK.out.drew).nil kb) (by omega) (.bool (oN O)) (.string ⟨(oL O).toArray⟩) (.int .i64 (oS O))
  refine hK.out _ _ ?_ (fun hS1 => ?_)
  · obtain ⟨q0, q1, q2, q3, q4, q5⟩ := hSS _ _ hS kb; exact ⟨far_room _ _ _ q0 (by simp <;> omega), far_room _ _ _ q1 (by simp <;> omega), far_room _ _ _ q2 (by simp <;> omega), far_room _ _ _ q3 (by simp <;> omega), far_room _ _ _ q4 (by simp <;> omega), far_room _ _ _ q5 (by simp <;> omega)⟩
  clear hK K hS R kb
  try simp only [Act.put, List.setIfInBounds_toArray, List.set_cons_zero, List.set_cons_succ]
  refine lin_val (i := 7) (v := ?_) rfl (by kernel_rfl) (by kernel_rfl) (by kernel_rfl) (fun _ _ _ h => h) hSS hS1 rfl (fun w hSw => ?_) ?_
  rotate_left
  · go_simp; first | done | with_reducible rfl
  try simp only [Act.put, List.setIfInBounds_toArray, List.set_cons_zero, List.set_cons_succ]
  refine lin_done (by kernel_rfl) (fun wn kn => ?_) _
  replace x0 := kn.cell x0 (by simp)
  replace x1 := kn.cell x1 (by simp)
  replace x2 := kn.cell x2 (by simp)
  clear hS1 hSS
  go_wp2_with fail
  exact bodyPost_ret (v := .tuple #[.agg #[.bool (oN O), .string ⟨(oL O).toArray⟩, .int .i64 (oS O)], .int .i64 (oE O)]) (by simp [results, Tryd.results27, go_sem, x0, x1, x2]) rfl ⟨by rw [resV_is], kd.nil kn⟩
end Go.Proofs.YtampgimmodomoaaDoor
