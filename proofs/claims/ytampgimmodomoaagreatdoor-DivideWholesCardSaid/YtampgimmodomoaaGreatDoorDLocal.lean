/- Layer 1: what the laws lean on: whole numbers, May and Sub told in full, a local that was filled. -/
import Derived.Test.YtampgimmodomoaaGreatDoorDShown
import Derived.Test.YtampgimmodomoaaGreatDoorDMay
import Derived.Test.YtampgimmodomoaaGreatDoorDInt
import Derived.Test.YtampgimmodomoaaGreatDoorDCmpD
import Derived.Test.YtampgimmodomoaaGreatDoorDOpenDec
import Derived.Test.YtampgimmodomoaaGreatDoorDSub
import Derived.Test.YtampgimmodomoaaGreatDoorDGround
namespace Go.Proofs.YtampgimmodomoaaGreatDoor
open Go Go.RowKit Go.Lib

theorem ok_i64 {n : Int} (hn : -9223372036854775808 ≤ n ∧ n ≤ 9223372036854775807) : Ok (intD n) := ok_int (by
  have : n.natAbs ≤ 9223372036854775808 := by omega
  exact Nat.lt_of_le_of_lt this (by unfold topN; decide))
theorem int_form (w : World) (n : Int) (hn : -9223372036854775808 ≤ n ∧ n ≤ 9223372036854775807) :
    Calls Tryz.prog 22 #[.int .i64 n] w fun e w' => e = .returned (.agg #[.bool (intD n).neg, .string ⟨(dtxt (intD n).n).toArray⟩, .int .i64 ((intD n).s : Int)]) ∧ Kp [] w w' := int_any w n hn
/-- A decimal that may be, as it came in. -/
theorem RawD.is {r : RawD} (h : mayL r.neg r.l r.s = true) : ∃ d, Ok d ∧ r = ⟨d.neg, dtxt d.n, (d.s : Int)⟩ := by
  obtain ⟨d, hd, e1, e2, e3⟩ := (may_iff _ _ _).1 h
  refine ⟨d, hd, ?_⟩
  obtain ⟨a, b, c⟩ := r
  dsimp only at e1 e2 e3
  rw [e1, e2, e3]
/-- None times a tenth: some decimal. -/
theorem mul_void (w : World) : Calls Tryz.prog 23 #[.agg #[.bool false, .string ⟨#[]⟩, .int .i64 0], .agg #[.bool false, .string ⟨#[49]⟩, .int .i64 1]] w fun e w' => e = .returned (.tuple #[.agg #[.bool false, .string ⟨#[48]⟩, .int .i64 0], .int .i64 0]) ∧ Kp [] w w' := by
  have h := mul_gen w false false [] [49] 0 1 (by decide) (by decide) (by decide) (by decide) (by decide) (by decide)
  exact h.mono fun e w' ⟨h1, h2⟩ => ⟨h1, h2⟩
/-- Room that was filled. -/
theorem Room.done {w W : World} {g : Nat} (h : Room g W) (k : Kp [] w W) (hg : w.heap.size ≤ g) (a b c : Value) :
    Kp [] w (((W.setCell ⟨g, 0, none⟩ a).setCell ⟨g, 1, none⟩ b).setCell ⟨g, 2, none⟩ c) ∧ (((W.setCell ⟨g, 0, none⟩ a).setCell ⟨g, 1, none⟩ b).setCell ⟨g, 2, none⟩ c).cell? ⟨g, 0, none⟩ = some a ∧
      (((W.setCell ⟨g, 0, none⟩ a).setCell ⟨g, 1, none⟩ b).setCell ⟨g, 2, none⟩ c).cell? ⟨g, 1, none⟩ = some b ∧ (((W.setCell ⟨g, 0, none⟩ a).setCell ⟨g, 1, none⟩ b).setCell ⟨g, 2, none⟩ c).cell? ⟨g, 2, none⟩ = some c := by
  obtain ⟨cs, hc, hl⟩ := h
  match cs, hl with
  | [p, q, r], _ =>
    have h1 := ((hc.put 0 a).put 1 b).put 2 c
    exact ⟨((k.setCell (p := ⟨g, 0, none⟩) (fun h => by simp at h; omega) a).setCell (p := ⟨g, 1, none⟩) (fun h => by simp at h; omega) b).setCell (p := ⟨g, 2, none⟩) (fun h => by simp at h; omega) c, h1.cell 0, h1.cell 1, h1.cell 2⟩
end Go.Proofs.YtampgimmodomoaaGreatDoor
