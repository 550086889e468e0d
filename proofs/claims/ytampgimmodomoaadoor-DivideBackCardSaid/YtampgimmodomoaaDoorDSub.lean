/- Sub of layer 1. -/
import Derived.Test.YtampgimmodomoaaDoorDAdd
namespace Go.Proofs.YtampgimmodomoaaDoor
open Go Go.RowKit Go.Lib

theorem dtxt_ne {n : Nat} (h : n ≠ 0) : dtxt n ≠ [48] := fun e => h (dtxt_inj (b := 0) e)
/-- What Add hands back, told in full. -/
theorem add_form (w : World) (a b : Dc) (ha : Ok a) (hb : Ok b) : Calls Tryd.prog 24 #[.agg #[.bool a.neg, .string ⟨(dtxt a.n).toArray⟩, .int .i64 (a.s : Int)], .agg #[.bool b.neg, .string ⟨(dtxt b.n).toArray⟩, .int .i64 (b.s : Int)]] w fun e w' => Kp [] w w' ∧
    ((addD a b = none ∧ e = .returned (.tuple #[.agg #[.bool false, .string ⟨#[]⟩, .int .i64 0], .int .i64 3])) ∨ ∃ d, addD a b = some d ∧ e = .returned (.tuple #[.agg #[.bool d.neg, .string ⟨(dtxt d.n).toArray⟩, .int .i64 (d.s : Int)], .int .i64 0])) := by
  refine (add_any w a b ha hb).mono fun e w' ⟨h1, h2⟩ => ⟨h2, ?_⟩
  rcases h : addD a b with _ | d
  · rw [h] at h1
    exact .inl ⟨rfl, h1⟩
  · rw [h] at h1
    exact .inr ⟨d, rfl, h1⟩
set_option maxRecDepth 100000 in
set_option maxHeartbeats 6400000 in
theorem sub_any (w : World) (a b : Dc) (ha : Ok a) (hb : Ok b) :
    Calls Tryd.prog 26 #[.agg #[.bool a.neg, .string ⟨(dtxt a.n).toArray⟩, .int .i64 (a.s : Int)], .agg #[.bool b.neg, .string ⟨(dtxt b.n).toArray⟩, .int .i64 (b.s : Int)]] w (DecPost w (subD a b)) := by
  have hT := turn_code hb
  have qA := fun W => add_form W a (turn b) ha (ok_turn hb)
  obtain ⟨_, t2, t3⟩ := z_turn b
  rw [sub_turn]
  rw [t2, t3] at qA
  have hz := hb.2.2.1
  obtain ⟨O, hO⟩ : ∃ O, O = addD a (turn b) := ⟨_, rfl⟩
  simp only [← hO] at qA ⊢
  obtain ⟨m, hm⟩ : ∃ m, m = (turn b).neg := ⟨_, rfl⟩
  rw [← hm] at hT
  simp only [← hm] at qA
  have hne := fun h => dtxt_ne (n := b.n) h
  have heq : b.n = 0 → dtxt b.n = [48] := fun h => by rw [h]; rfl
  obtain ⟨D2, hD2⟩ : ∃ D2, D2 = dtxt b.n := ⟨_, rfl⟩
  obtain ⟨D1, hD1⟩ : ∃ D1, D1 = dtxt a.n := ⟨_, rfl⟩
  obtain ⟨n1, hn1⟩ : ∃ n1, n1 = a.neg := ⟨_, rfl⟩
  obtain ⟨n2, hn2⟩ : ∃ n2, n2 = b.neg := ⟨_, rfl⟩
  obtain ⟨s1, hs1⟩ : ∃ s1, s1 = a.s := ⟨_, rfl⟩
  obtain ⟨s2, hs2⟩ : ∃ s2, s2 = b.s := ⟨_, rfl⟩
  simp only [← hD1, ← hD2, ← hn1, ← hn2, ← hs1, ← hs2] at qA hne heq hT ⊢
  have hroom := fun c1 => three_fresh w n1 c1 (.string ⟨D1.toArray⟩) (.int .i64 (s1 : Int)) (.string ⟨D2.toArray⟩) (.int .i64 (s2 : Int)) (.bool false) (.string ⟨#[]⟩) (.int .i64 0)
  have Hroom := hid hroom
  rcases (show (n2 = true ∧ m = false) ∨ (n2 = false ∧ D2 = [48] ∧ m = false) ∨ (n2 = false ∧ D2 ≠ [48] ∧ m = true) from by
    by_cases h0 : b.n = 0
    · have h1 := (hz h0).2
      rw [← hn2] at h1
      exact .inr (.inl ⟨h1, heq h0, by rw [hT, h1, decide_eq_false (fun h => h h0)]; rfl⟩)
    · cases h1 : n2 with
      | true => exact .inl ⟨rfl, by rw [hT, h1]; rfl⟩
      | false => exact .inr (.inr ⟨rfl, hne h0, by rw [hT, h1, decide_eq_true h0]; rfl⟩)) with ⟨h1, h2⟩ | ⟨h1, h3, h2⟩ | ⟨h1, h3, h2⟩
  all_goals
    clear hT hz hne heq hO hm hD1 hn1 hn2 hs1 hs2 t2 t3 hroom ha hb
    subst h1 h2
    try subst h3
    try clear hD2
    try have f3 : (D2 == [48]) = false := beq_eq_false_iff_ne.2 h3
    go_enter Tryd.func26, Tryd.ntmps26
    go_wp2_with fail
    refine (qA _).mono ?_
    rintro e w1 ⟨k1, ⟨hn, rfl⟩ | ⟨d, hn, rfl⟩⟩
    · obtain ⟨-, x0, x1, x2, c0, c1, c2, f0, f1, f2⟩ := (show _ ∧ _ from ⟨trivial, ((Hroom.out _).kept k1).2.cells⟩)
      have KK := ((((Kp.refl [] w).alloc _).alloc _).alloc _).nil k1
      have HK := hid KK
      have HN := hid hn
      clear KK k1 hn
      go_wp2_with fail
      exact bodyPost_ret (v := .tuple #[.agg #[.bool false, .string ⟨#[]⟩, .int .i64 0], .int .i64 3]) (by simp [results, Tryd.results26, go_sem, c0, c1, c2]) rfl (dec_big (kp_room2 HK.out _ _ _) HN.out)
    · obtain ⟨-, x0, x1, x2, c0, c1, c2, f0, f1, f2⟩ := (show _ ∧ _ from ⟨trivial, ((Hroom.out _).kept k1).2.cells⟩)
      have KK := ((((Kp.refl [] w).alloc _).alloc _).alloc _).nil k1
      have HK := hid KK
      have HN := hid hn
      clear KK k1 hn
      go_wp2_with fail
      exact bodyPost_ret (v := .tuple #[.agg #[.bool d.neg, .string ⟨(dtxt d.n).toArray⟩, .int .i64 (d.s : Int)], .int .i64 0]) (by simp [results, Tryd.results26, go_sem, c0, c1, c2]) rfl (dec_dec (kp_room2 HK.out _ _ _) HN.out)
end Go.Proofs.YtampgimmodomoaaDoor
