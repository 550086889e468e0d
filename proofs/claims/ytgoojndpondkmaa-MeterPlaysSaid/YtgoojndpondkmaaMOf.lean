/- Of. -/
import Derived.Test.YtgoojndpondkmaaMNote
namespace Go.Proofs.Ytgoojndpondkmaa
open Go Go.RowKit

theorem load64q (w : World) (q g o : Nat) (x : Int) (hc : w.cell? ⟨g, o, none⟩ = some (.int .i64 x)) : Calls Try.prog 19 #[.pointer (some ⟨g, o, none⟩)] (w.drewN q) fun e w' => e = .returned (.int .i64 x) ∧ w' = w.drewN q :=
  (load64 (w.drewN q) g o x hc).mono fun _ _ h => ⟨h.1, h.2.symm⟩
def OfPost (w : World) (a : Nat) (gs : List Nat) (ds : List Dl) (k : Int) (e : Ending) (w' : World) : Prop :=
  ∃ d, d = ofD ds k ∧ e = .returned (.tuple #[.int .i64 d.c, .int .i64 d.t, .int .i64 d.m]) ∧ ∃ gs', MAt w' a gs' ds ∧ Kp [a] w w' ∧ ∀ g ∈ gs', g ∈ gs ∨ w.heap.size ≤ g
set_option maxHeartbeats 800000 in
theorem of_any (w : World) (a : Nat) (gs : List Nat) (ds : List Dl) (k : Int) (h : MAt w a gs ds) (hn : ds.length ≤ 32) :
    Calls Try.prog 12 #[.pointer (some ⟨a, 0, none⟩), .int .i64 k] w (OfPost w a gs ds k) := by
  by_cases hin : k < 0 ∨ (ds.length : Int) ≤ k
  · have he : ofD ds k = Dl.zero := by rw [ofD, if_pos hin]
    have HE := hid he
    clear he
    obtain ⟨m, hm⟩ : ∃ m, m = ds.length := ⟨_, rfl⟩
    have hin' : k < 0 ∨ (0 ≤ k ∧ (m : Int) ≤ k) := by omega
    have Hm := hid hm
    clear hin hm
    go_enter Try.func12, Try.ntmps12
    go_wp2_with fail
    refine (all_any w a gs ds h hn).mono ?_
    rintro e w1 ⟨A, c, gs', rfl, hM, hk1, hg1⟩
    rw [← Hm.out]
    have HM := hid hM
    clear hM
    rcases hin' with h1 | ⟨h1, h2⟩
    all_goals
      go_wp2_with fail
      go_ret3
      exact ⟨Dl.zero, HE.out.symm, rfl, gs', HM.out.at_, hk1, hg1⟩
  · obtain ⟨K, rfl⟩ := Int.eq_ofNat_of_zero_le (show 0 ≤ k by omega)
    have hK : K < ds.length := by omega
    have he : ofD ds (K : Int) = ds.getD K Dl.zero := by rw [ofD, if_neg hin, Int.toNat_natCast]
    obtain ⟨x, hx⟩ : ∃ x, x = ds.getD K Dl.zero := ⟨_, rfl⟩
    rw [← hx] at he
    have HE := hid he
    have Hx := hid hx
    clear he hx hin
    obtain ⟨m, hm⟩ : ∃ m, m = ds.length := ⟨_, rfl⟩
    have hKm : K < m := by omega
    have hmn : m ≤ 32 := by omega
    have Hm := hid hm
    clear hm hK
    go_enter Try.func12, Try.ntmps12
    go_wp2_with fail
    refine (all_any w a gs ds h hn).mono ?_
    rintro e w1 ⟨A, c, gs', rfl, hM, hk1, hg1⟩
    rw [← Hm.out] at hM ⊢
    obtain ⟨q, g, rfl, hgi, hgm, hq, hc⟩ := made_at hM Hm.out hKm
    rw [← Hx.out] at hc
    have t0 := hc.cell 0
    have t1 := hc.cell 1
    have t2 := hc.cell 2
    simp only [Dl.cells, List.getElem?_cons_zero, List.getElem?_cons_succ] at t0 t1 t2
    have HM := hid (And.intro hM hgi)
    clear hM hgi hn
    go_wp2_with fail
    go_quiet ((first
      | (go_at_call 19; with_reducible exact Calls.quiet_of_same (load64q w1 _ g 0 x.c t0))
      | (go_at_call 19; with_reducible exact Calls.quiet_of_same (load64q w1 _ g 1 x.t t1))
      | (go_at_call 19; with_reducible exact Calls.quiet_of_same (load64q w1 _ g 2 x.m t2))))
    go_wp2_with fail
    go_ret3
    exact ⟨x, HE.out.symm, rfl, gs', HM.out.1.at_.kept ((Kp.refl [] _).drewN _), hk1.drewN _, hg1⟩
end Go.Proofs.Ytgoojndpondkmaa
