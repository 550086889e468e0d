/- Layer 1's examples answer true; a text of at most 200 bytes; contracts told in full. -/
import Derived.Test.YtampgimmodomoaaGreatDoorDParse
import Derived.Test.YtampgimmodomoaaGreatDoorDPrint
import Derived.Test.YtampgimmodomoaaGreatDoorDAdd
import Derived.Test.YtampgimmodomoaaGreatDoorDMul
namespace Go.Proofs.YtampgimmodomoaaGreatDoor
open Go Go.RowKit Go.Lib

/-- What Mul hands back, told in full. -/
theorem mul_form (w : World) (a b : Dc) (ha : Ok a) (hb : Ok b) : Calls Tryz.prog 23 #[.agg #[.bool a.neg, .string ⟨(dtxt a.n).toArray⟩, .int .i64 (a.s : Int)], .agg #[.bool b.neg, .string ⟨(dtxt b.n).toArray⟩, .int .i64 (b.s : Int)]] w fun e w' => Kp [] w w' ∧
    ((mulD a b = none ∧ e = .returned (.tuple #[.agg #[.bool false, .string ⟨#[]⟩, .int .i64 0], .int .i64 3])) ∨ ∃ d, mulD a b = some d ∧ e = .returned (.tuple #[.agg #[.bool d.neg, .string ⟨(dtxt d.n).toArray⟩, .int .i64 (d.s : Int)], .int .i64 0])) := by
  refine (mul_any w a b ha hb).mono fun e w' ⟨h1, h2⟩ => ⟨h2, ?_⟩
  rcases h : mulD a b with _ | d
  · rw [h] at h1
    exact .inl ⟨rfl, h1⟩
  · rw [h] at h1
    exact .inr ⟨d, rfl, h1⟩
theorem add_sure {a b d : Dc} (ha : Ok a) (hb : Ok b) (h : addD a b = some d) (w : World) : Calls Tryz.prog 35 #[.agg #[.bool a.neg, .string ⟨(dtxt a.n).toArray⟩, .int .i64 (a.s : Int)], .agg #[.bool b.neg, .string ⟨(dtxt b.n).toArray⟩, .int .i64 (b.s : Int)]] w fun e w' => e = .returned (.tuple #[.agg #[.bool d.neg, .string ⟨(dtxt d.n).toArray⟩, .int .i64 (d.s : Int)], .int .i64 0]) ∧ Kp [] w w' := by
  refine (add_any w a b ha hb).mono fun e w' ⟨h1, h2⟩ => ⟨?_, h2⟩
  rw [h] at h1
  exact h1
theorem add_none {a b : Dc} (ha : Ok a) (hb : Ok b) (h : addD a b = none) (w : World) : Calls Tryz.prog 35 #[.agg #[.bool a.neg, .string ⟨(dtxt a.n).toArray⟩, .int .i64 (a.s : Int)], .agg #[.bool b.neg, .string ⟨(dtxt b.n).toArray⟩, .int .i64 (b.s : Int)]] w fun e w' => e = .returned (.tuple #[.agg #[.bool false, .string ⟨#[]⟩, .int .i64 0], .int .i64 3]) ∧ Kp [] w w' := by
  refine (add_any w a b ha hb).mono fun e w' ⟨h1, h2⟩ => ⟨?_, h2⟩
  rw [h] at h1
  exact h1
theorem mul_sure {a b d : Dc} (ha : Ok a) (hb : Ok b) (h : mulD a b = some d) (w : World) : Calls Tryz.prog 23 #[.agg #[.bool a.neg, .string ⟨(dtxt a.n).toArray⟩, .int .i64 (a.s : Int)], .agg #[.bool b.neg, .string ⟨(dtxt b.n).toArray⟩, .int .i64 (b.s : Int)]] w fun e w' => e = .returned (.tuple #[.agg #[.bool d.neg, .string ⟨(dtxt d.n).toArray⟩, .int .i64 (d.s : Int)], .int .i64 0]) ∧ Kp [] w w' := by
  refine (mul_any w a b ha hb).mono fun e w' ⟨h1, h2⟩ => ⟨?_, h2⟩
  rw [h] at h1
  exact h1
theorem mul_none {a b : Dc} (ha : Ok a) (hb : Ok b) (h : mulD a b = none) (w : World) : Calls Tryz.prog 23 #[.agg #[.bool a.neg, .string ⟨(dtxt a.n).toArray⟩, .int .i64 (a.s : Int)], .agg #[.bool b.neg, .string ⟨(dtxt b.n).toArray⟩, .int .i64 (b.s : Int)]] w fun e w' => e = .returned (.tuple #[.agg #[.bool false, .string ⟨#[]⟩, .int .i64 0], .int .i64 3]) ∧ Kp [] w w' := by
  refine (mul_any w a b ha hb).mono fun e w' ⟨h1, h2⟩ => ⟨?_, h2⟩
  rw [h] at h1
  exact h1
theorem parse_sure {l : List UInt8} (hl : l.length ≤ 100000) {d : Dc} (h : parseL l = some (some d)) (w : World) : Calls Tryz.prog 41 #[.string ⟨l.toArray⟩] w fun e w' => e = .returned (.tuple #[.agg #[.bool d.neg, .string ⟨(dtxt d.n).toArray⟩, .int .i64 (d.s : Int)], .int .i64 0]) ∧ Kp [] w w' := by
  refine (parse_any w l hl).mono fun e w' ⟨h1, h2⟩ => ⟨?_, h2⟩
  rw [h] at h1
  exact h1
theorem parse_big {l : List UInt8} (hl : l.length ≤ 100000) (h : parseL l = some none) (w : World) : Calls Tryz.prog 41 #[.string ⟨l.toArray⟩] w fun e w' => e = .returned (.tuple #[.agg #[.bool false, .string ⟨#[]⟩, .int .i64 0], .int .i64 3]) ∧ Kp [] w w' := by
  refine (parse_any w l hl).mono fun e w' ⟨h1, h2⟩ => ⟨?_, h2⟩
  rw [h] at h1
  exact h1
theorem parse_bad {l : List UInt8} (hl : l.length ≤ 100000) (h : parseL l = none) (w : World) : Calls Tryz.prog 41 #[.string ⟨l.toArray⟩] w fun e w' => e = .returned (.tuple #[.agg #[.bool false, .string ⟨#[]⟩, .int .i64 0], .int .i64 4]) ∧ Kp [] w w' := by
  refine (parse_any w l hl).mono fun e w' ⟨h1, h2⟩ => ⟨?_, h2⟩
  rw [h] at h1
  exact h1
theorem print_ok {d : Dc} (hd : Ok d) (w : World) : Calls Tryz.prog 39 #[.agg #[.bool d.neg, .string ⟨(dtxt d.n).toArray⟩, .int .i64 (d.s : Int)]] w fun e w' => e = .returned (.string ⟨(printL d).toArray⟩) ∧ Kp [] w w' :=
  print_any w d (by have := length_dtxt_le (k := 60) hd.1 (by decide); omega) (by have := hd.2.1; omega)
/-- A local of the type api.Dec, just made: where it lies, what it is. -/
theorem Kp.loc {S : List Nat} {w w1 : World} (k : Kp S w w1) (a b c : Value) : Kp S w (w1.alloc (.cells #[a, b, c] 23)) ∧ (w1.alloc (.cells #[a, b, c] 23)).cell? ⟨w1.heap.size, 0, none⟩ = some a ∧ (w1.alloc (.cells #[a, b, c] 23)).cell? ⟨w1.heap.size, 1, none⟩ = some b ∧ (w1.alloc (.cells #[a, b, c] 23)).cell? ⟨w1.heap.size, 2, none⟩ = some c := by
  have C := Cells.fresh w1 23 [a, b, c]
  exact ⟨k.alloc _, C.cell 0, C.cell 1, C.cell 2⟩
def YesPost (w : World) (e : Ending) (w' : World) : Prop := e = .returned (.bool true) ∧ Kp [] w w'
theorem ok15 : Ok ⟨false, 15, 0⟩ := ⟨by decide, by decide, by decide, by decide⟩
theorem okA : Ok ⟨false, 1, 1⟩ := ⟨by decide, by decide, by decide, by decide⟩
theorem okB : Ok ⟨false, 2, 1⟩ := ⟨by decide, by decide, by decide, by decide⟩
theorem okC : Ok ⟨true, 5, 1⟩ := ⟨by decide, by decide, by decide, by decide⟩
theorem okE : Ok ⟨false, 4, 0⟩ := ⟨by decide, by decide, by decide, by decide⟩
theorem ok3 : Ok ⟨false, 3, 1⟩ := ⟨by decide, by decide, by decide, by decide⟩
theorem ok2 : Ok ⟨true, 2, 0⟩ := ⟨by decide, by decide, by decide, by decide⟩
/-- At most so many bytes of a text. -/
def fewL (l : List UInt8) : List UInt8 := if 200 < l.length then l.take 200 else l
theorem fewL_len (l : List UInt8) : (fewL l).length ≤ 200 := by
  unfold fewL
  split
  · rw [List.length_take]; omega
  · omega
end Go.Proofs.YtampgimmodomoaaGreatDoor
