/- Sub of layer 1. -/
import Derived.Test.YtampgimmodomoaaGreatDoorDAdd
namespace Go.Proofs.YtampgimmodomoaaGreatDoor
open Go Go.RowKit Go.Lib

theorem dtxt_ne {n : Nat} (h : n ≠ 0) : dtxt n ≠ [48] := fun e => h (dtxt_inj (b := 0) e)
/-- What Add hands back, told in full. -/
theorem add_form (w : World) (a b : Dc) (ha : Ok a) (hb : Ok b) : Calls Tryz.prog 35 #[.agg #[.bool a.neg, .string ⟨(dtxt a.n).toArray⟩, .int .i64 (a.s : Int)], .agg #[.bool b.neg, .string ⟨(dtxt b.n).toArray⟩, .int .i64 (b.s : Int)]] w fun e w' => Kp [] w w' ∧
    ((addD a b = none ∧ e = .returned (.tuple #[.agg #[.bool false, .string ⟨#[]⟩, .int .i64 0], .int .i64 3])) ∨ ∃ d, addD a b = some d ∧ e = .returned (.tuple #[.agg #[.bool d.neg, .string ⟨(dtxt d.n).toArray⟩, .int .i64 (d.s : Int)], .int .i64 0])) := by
  refine (add_any w a b ha hb).mono fun e w' ⟨h1, h2⟩ => ⟨h2, ?_⟩
  rcases h : addD a b with _ | d
  · rw [h] at h1
    exact .inl ⟨rfl, h1⟩
  · rw [h] at h1
    exact .inr ⟨d, rfl, h1⟩
end Go.Proofs.YtampgimmodomoaaGreatDoor
