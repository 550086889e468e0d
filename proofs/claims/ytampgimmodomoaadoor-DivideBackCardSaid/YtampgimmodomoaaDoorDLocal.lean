/- Layer 1: what the laws lean on: whole numbers, May and Sub told in full, a local that was filled. -/
import Derived.Test.YtampgimmodomoaaDoorDShown
import Derived.Test.YtampgimmodomoaaDoorDMay
import Derived.Test.YtampgimmodomoaaDoorDInt
import Derived.Test.YtampgimmodomoaaDoorDCmpD
import Derived.Test.YtampgimmodomoaaDoorDOpenDec
import Derived.Test.YtampgimmodomoaaDoorDSub
import Derived.Test.YtampgimmodomoaaDoorDGround
namespace Go.Proofs.YtampgimmodomoaaDoor
open Go Go.RowKit Go.Lib

theorem ok_i64 {n : Int} (hn : -9223372036854775808 ≤ n ∧ n ≤ 9223372036854775807) : Ok (intD n) := ok_int (by
  have : n.natAbs ≤ 9223372036854775808 := by omega
  exact Nat.lt_of_le_of_lt this (by unfold topN; decide))
theorem int_form (w : World) (n : Int) (hn : -9223372036854775808 ≤ n ∧ n ≤ 9223372036854775807) :
    Calls Tryd.prog 33 #[.int .i64 n] w fun e w' => e = .returned (.agg #[.bool (intD n).neg, .string ⟨(dtxt (intD n).n).toArray⟩, .int .i64 ((intD n).s : Int)]) ∧ Kp [] w w' := int_any w n hn
theorem may_ok {d : Dc} (hd : Ok d) (w : World) : Calls Tryd.prog 19 #[.agg #[.bool d.neg, .string ⟨(dtxt d.n).toArray⟩, .int .i64 (d.s : Int)]] w fun e w' => e = .returned (.bool true) ∧ Kp [] w w' := by
  have h := may_any w d.neg (dtxt d.n) (d.s : Int) (by have := length_dtxt_le (k := 60) hd.1 (by decide); omega) (by have := hd.2.1; omega)
  rw [(may_iff _ _ _).2 ⟨d, hd, rfl, rfl, rfl⟩] at h
  exact h
theorem may_not {r : RawD} (hr : r.ok) (h : mayL r.neg r.l r.s = false) (w : World) : Calls Tryd.prog 19 #[.agg #[.bool r.neg, .string ⟨r.l.toArray⟩, .int .i64 r.s]] w fun e w' => e = .returned (.bool false) ∧ Kp [] w w' := by
  have h2 := may_any w r.neg r.l r.s hr.1 hr.2
  rw [h] at h2
  exact h2
theorem may_yes {r : RawD} (hr : r.ok) (h : mayL r.neg r.l r.s = true) (w : World) : Calls Tryd.prog 19 #[.agg #[.bool r.neg, .string ⟨r.l.toArray⟩, .int .i64 r.s]] w fun e w' => e = .returned (.bool true) ∧ Kp [] w w' := by
  have h2 := may_any w r.neg r.l r.s hr.1 hr.2
  rw [h] at h2
  exact h2
/-- A decimal that may be, as it came in. -/
theorem RawD.is {r : RawD} (h : mayL r.neg r.l r.s = true) : ∃ d, Ok d ∧ r = ⟨d.neg, dtxt d.n, (d.s : Int)⟩ := by
  obtain ⟨d, hd, e1, e2, e3⟩ := (may_iff _ _ _).1 h
  refine ⟨d, hd, ?_⟩
  obtain ⟨a, b, c⟩ := r
  dsimp only at e1 e2 e3
  rw [e1, e2, e3]
theorem sub_sure {a b d : Dc} (ha : Ok a) (hb : Ok b) (h : subD a b = some d) (w : World) : Calls Tryd.prog 26 #[.agg #[.bool a.neg, .string ⟨(dtxt a.n).toArray⟩, .int .i64 (a.s : Int)], .agg #[.bool b.neg, .string ⟨(dtxt b.n).toArray⟩, .int .i64 (b.s : Int)]] w fun e w' => e = .returned (.tuple #[.agg #[.bool d.neg, .string ⟨(dtxt d.n).toArray⟩, .int .i64 (d.s : Int)], .int .i64 0]) ∧ Kp [] w w' := by
  refine (sub_any w a b ha hb).mono fun e w' ⟨h1, h2⟩ => ⟨?_, h2⟩
  rw [h] at h1
  exact h1
theorem sub_none {a b : Dc} (ha : Ok a) (hb : Ok b) (h : subD a b = none) (w : World) : Calls Tryd.prog 26 #[.agg #[.bool a.neg, .string ⟨(dtxt a.n).toArray⟩, .int .i64 (a.s : Int)], .agg #[.bool b.neg, .string ⟨(dtxt b.n).toArray⟩, .int .i64 (b.s : Int)]] w fun e w' => e = .returned (.tuple #[.agg #[.bool false, .string ⟨#[]⟩, .int .i64 0], .int .i64 3]) ∧ Kp [] w w' := by
  refine (sub_any w a b ha hb).mono fun e w' ⟨h1, h2⟩ => ⟨?_, h2⟩
  rw [h] at h1
  exact h1
/-- None times a tenth: some decimal. -/
theorem mul_void (w : World) : Calls Tryd.prog 22 #[.agg #[.bool false, .string ⟨#[]⟩, .int .i64 0], .agg #[.bool false, .string ⟨#[49]⟩, .int .i64 1]] w fun e w' => e = .returned (.tuple #[.agg #[.bool false, .string ⟨#[48]⟩, .int .i64 0], .int .i64 0]) ∧ Kp [] w w' := by
  have h := mul_gen w false false [] [49] 0 1 (by decide) (by decide) (by decide) (by decide) (by decide) (by decide)
  exact h.mono fun e w' ⟨h1, h2⟩ => ⟨h1, h2⟩
/-- Room that was filled. -/
theorem Room.done {w W : World} {g : Nat} (h : Room g W) (k : Kp [] w W) (hg : w.heap.size ≤ g) (a b c : Value) :
    Kp [] w (((W.setCell ⟨g, 0, none⟩ a).setCell ⟨g, 1, none⟩ b).setCell ⟨g, 2, none⟩ c) ∧ (((W.setCell ⟨g, 0, none⟩ a).setCell ⟨g, 1, none⟩ b).setCell ⟨g, 2, none⟩ c).cell? ⟨g, 0, none⟩ = some a ∧
      (((W.setCell ⟨g, 0, none⟩ a).setCell ⟨g, 1, none⟩ b).setCell ⟨g, 2, none⟩ c).cell? ⟨g, 1, none⟩ = some b ∧ (((W.setCell ⟨g, 0, none⟩ a).setCell ⟨g, 1, none⟩ b).setCell ⟨g, 2, none⟩ c).cell? ⟨g, 2, none⟩ = some c := by
  obtain ⟨cs, hc, hl⟩ := h
  match cs, hl with
  | [p, q, r], _ =>
    have h1 := ((hc.put 0 a).put 1 b).put 2 c
    exact ⟨((k.setCell (p := ⟨g, 0, none⟩) (fun h => by simp at h; omega) a).setCell (p := ⟨g, 1, none⟩) (fun h => by simp at h; omega) b).setCell (p := ⟨g, 2, none⟩) (fun h => by simp at h; omega) c, h1.cell 0, h1.cell 1, h1.cell 2⟩
end Go.Proofs.YtampgimmodomoaaDoor
