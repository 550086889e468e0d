/- Layer 1's examples answer true; a text of at most 200 bytes; contracts told in full. -/
import Derived.Test.YtampgimmodomoaaDoorDParse
import Derived.Test.YtampgimmodomoaaDoorDPrint
import Derived.Test.YtampgimmodomoaaDoorDAdd
import Derived.Test.YtampgimmodomoaaDoorDMul
namespace Go.Proofs.YtampgimmodomoaaDoor
open Go Go.RowKit Go.Lib

/-- What Mul hands back, told in full. -/
theorem mul_form (w : World) (a b : Dc) (ha : Ok a) (hb : Ok b) : Calls Tryd.prog 22 #[.agg #[.bool a.neg, .string ⟨(dtxt a.n).toArray⟩, .int .i64 (a.s : Int)], .agg #[.bool b.neg, .string ⟨(dtxt b.n).toArray⟩, .int .i64 (b.s : Int)]] w fun e w' => Kp [] w w' ∧
    ((mulD a b = none ∧ e = .returned (.tuple #[.agg #[.bool false, .string ⟨#[]⟩, .int .i64 0], .int .i64 3])) ∨ ∃ d, mulD a b = some d ∧ e = .returned (.tuple #[.agg #[.bool d.neg, .string ⟨(dtxt d.n).toArray⟩, .int .i64 (d.s : Int)], .int .i64 0])) := by
  refine (mul_any w a b ha hb).mono fun e w' ⟨h1, h2⟩ => ⟨h2, ?_⟩
  rcases h : mulD a b with _ | d
  · rw [h] at h1
    exact .inl ⟨rfl, h1⟩
  · rw [h] at h1
    exact .inr ⟨d, rfl, h1⟩
theorem add_sure {a b d : Dc} (ha : Ok a) (hb : Ok b) (h : addD a b = some d) (w : World) : Calls Tryd.prog 24 #[.agg #[.bool a.neg, .string ⟨(dtxt a.n).toArray⟩, .int .i64 (a.s : Int)], .agg #[.bool b.neg, .string ⟨(dtxt b.n).toArray⟩, .int .i64 (b.s : Int)]] w fun e w' => e = .returned (.tuple #[.agg #[.bool d.neg, .string ⟨(dtxt d.n).toArray⟩, .int .i64 (d.s : Int)], .int .i64 0]) ∧ Kp [] w w' := by
  refine (add_any w a b ha hb).mono fun e w' ⟨h1, h2⟩ => ⟨?_, h2⟩
  rw [h] at h1
  exact h1
theorem add_none {a b : Dc} (ha : Ok a) (hb : Ok b) (h : addD a b = none) (w : World) : Calls Tryd.prog 24 #[.agg #[.bool a.neg, .string ⟨(dtxt a.n).toArray⟩, .int .i64 (a.s : Int)], .agg #[.bool b.neg, .string ⟨(dtxt b.n).toArray⟩, .int .i64 (b.s : Int)]] w fun e w' => e = .returned (.tuple #[.agg #[.bool false, .string ⟨#[]⟩, .int .i64 0], .int .i64 3]) ∧ Kp [] w w' := by
  refine (add_any w a b ha hb).mono fun e w' ⟨h1, h2⟩ => ⟨?_, h2⟩
  rw [h] at h1
  exact h1
theorem mul_sure {a b d : Dc} (ha : Ok a) (hb : Ok b) (h : mulD a b = some d) (w : World) : Calls Tryd.prog 22 #[.agg #[.bool a.neg, .string ⟨(dtxt a.n).toArray⟩, .int .i64 (a.s : Int)], .agg #[.bool b.neg, .string ⟨(dtxt b.n).toArray⟩, .int .i64 (b.s : Int)]] w fun e w' => e = .returned (.tuple #[.agg #[.bool d.neg, .string ⟨(dtxt d.n).toArray⟩, .int .i64 (d.s : Int)], .int .i64 0]) ∧ Kp [] w w' := by
  refine (mul_any w a b ha hb).mono fun e w' ⟨h1, h2⟩ => ⟨?_, h2⟩
  rw [h] at h1
  exact h1
theorem mul_none {a b : Dc} (ha : Ok a) (hb : Ok b) (h : mulD a b = none) (w : World) : Calls Tryd.prog 22 #[.agg #[.bool a.neg, .string ⟨(dtxt a.n).toArray⟩, .int .i64 (a.s : Int)], .agg #[.bool b.neg, .string ⟨(dtxt b.n).toArray⟩, .int .i64 (b.s : Int)]] w fun e w' => e = .returned (.tuple #[.agg #[.bool false, .string ⟨#[]⟩, .int .i64 0], .int .i64 3]) ∧ Kp [] w w' := by
  refine (mul_any w a b ha hb).mono fun e w' ⟨h1, h2⟩ => ⟨?_, h2⟩
  rw [h] at h1
  exact h1
theorem parse_sure {l : List UInt8} (hl : l.length ≤ 100000) {d : Dc} (h : parseL l = some (some d)) (w : World) : Calls Tryd.prog 20 #[.string ⟨l.toArray⟩] w fun e w' => e = .returned (.tuple #[.agg #[.bool d.neg, .string ⟨(dtxt d.n).toArray⟩, .int .i64 (d.s : Int)], .int .i64 0]) ∧ Kp [] w w' := by
  refine (parse_any w l hl).mono fun e w' ⟨h1, h2⟩ => ⟨?_, h2⟩
  rw [h] at h1
  exact h1
theorem parse_big {l : List UInt8} (hl : l.length ≤ 100000) (h : parseL l = some none) (w : World) : Calls Tryd.prog 20 #[.string ⟨l.toArray⟩] w fun e w' => e = .returned (.tuple #[.agg #[.bool false, .string ⟨#[]⟩, .int .i64 0], .int .i64 3]) ∧ Kp [] w w' := by
  refine (parse_any w l hl).mono fun e w' ⟨h1, h2⟩ => ⟨?_, h2⟩
  rw [h] at h1
  exact h1
theorem parse_bad {l : List UInt8} (hl : l.length ≤ 100000) (h : parseL l = none) (w : World) : Calls Tryd.prog 20 #[.string ⟨l.toArray⟩] w fun e w' => e = .returned (.tuple #[.agg #[.bool false, .string ⟨#[]⟩, .int .i64 0], .int .i64 4]) ∧ Kp [] w w' := by
  refine (parse_any w l hl).mono fun e w' ⟨h1, h2⟩ => ⟨?_, h2⟩
  rw [h] at h1
  exact h1
theorem print_ok {d : Dc} (hd : Ok d) (w : World) : Calls Tryd.prog 21 #[.agg #[.bool d.neg, .string ⟨(dtxt d.n).toArray⟩, .int .i64 (d.s : Int)]] w fun e w' => e = .returned (.string ⟨(printL d).toArray⟩) ∧ Kp [] w w' :=
  print_any w d (by have := length_dtxt_le (k := 60) hd.1 (by decide); omega) (by have := hd.2.1; omega)
/-- A local of the type api.Dec, just made: where it lies, what it is. -/
theorem Kp.loc {S : List Nat} {w w1 : World} (k : Kp S w w1) (a b c : Value) : Kp S w (w1.alloc (.cells #[a, b, c] 23)) ∧ (w1.alloc (.cells #[a, b, c] 23)).cell? ⟨w1.heap.size, 0, none⟩ = some a ∧ (w1.alloc (.cells #[a, b, c] 23)).cell? ⟨w1.heap.size, 1, none⟩ = some b ∧ (w1.alloc (.cells #[a, b, c] 23)).cell? ⟨w1.heap.size, 2, none⟩ = some c := by
  have C := Cells.fresh w1 23 [a, b, c]
  exact ⟨k.alloc _, C.cell 0, C.cell 1, C.cell 2⟩
def YesPost (w : World) (e : Ending) (w' : World) : Prop := e = .returned (.bool true) ∧ Kp [] w w'
theorem ok15 : Ok ⟨false, 15, 0⟩ := ⟨by decide, by decide, by decide, by decide⟩
theorem okA : Ok ⟨false, 1, 1⟩ := ⟨by decide, by decide, by decide, by decide⟩
theorem okB : Ok ⟨false, 2, 1⟩ := ⟨by decide, by decide, by decide, by decide⟩
theorem okC : Ok ⟨true, 5, 1⟩ := ⟨by decide, by decide, by decide, by decide⟩
theorem okE : Ok ⟨false, 4, 0⟩ := ⟨by decide, by decide, by decide, by decide⟩
theorem ok3 : Ok ⟨false, 3, 1⟩ := ⟨by decide, by decide, by decide, by decide⟩
theorem ok2 : Ok ⟨true, 2, 0⟩ := ⟨by decide, by decide, by decide, by decide⟩
set_option maxRecDepth 100000 in
set_option maxHeartbeats 3200000 in
theorem shown_any (w : World) : Calls Tryd.prog 17 #[] w (YesPost w) := by
  have h1 := parse_bad (l := [45, 48, 49]) (by decide) (by kernel_rfl)
  have h2 := parse_sure (l := [49, 46, 53, 48, 101, 49]) (by decide) (d := ⟨false, 15, 0⟩) (by kernel_rfl)
  have h3 := add_sure okA okB (d := ⟨false, 3, 1⟩) (by kernel_rfl)
  have h4 := mul_sure okC okE (d := ⟨true, 2, 0⟩) (by kernel_rfl)
  have h5 := fun W => print_ok ok15 W
  have h6 := fun W => print_ok ok3 W
  have h7 := fun W => print_ok ok2 W
  have e5 : printL ⟨false, 15, 0⟩ = [49, 53] := by kernel_rfl
  have e6 : printL ⟨false, 3, 1⟩ = [48, 46, 51] := by kernel_rfl
  have e7 : printL ⟨true, 2, 0⟩ = [45, 50] := by kernel_rfl
  rw [e5] at h5
  rw [e6] at h6
  rw [e7] at h7
  have d1 : dtxt 1 = [49] := by kernel_rfl
  have d2 : dtxt 2 = [50] := by kernel_rfl
  have d3 : dtxt 3 = [51] := by kernel_rfl
  have d4 : dtxt 4 = [52] := by kernel_rfl
  have d5 : dtxt 5 = [53] := by kernel_rfl
  have d15 : dtxt 15 = [49, 53] := by kernel_rfl
  simp only [d1, d2, d3, d4, d5, d15] at h2 h3 h4 h5 h6 h7
  clear d1 d2 d3 d4 d5 d15 e5 e6 e7
  go_enter Tryd.func17, Tryd.ntmps17
  go_wp2_with fail
  refine (h1 _).mono ?_
  rintro e w1 ⟨rfl, k1⟩
  go_wp2_with fail
  refine (h2 _).mono ?_
  rintro e w2 ⟨rfl, k2⟩
  obtain ⟨K2, x20, x21, x22⟩ := k2.loc (.bool false) (.string ⟨#[49, 53]⟩) (.int .i64 0)
  go_wp2_with fail
  refine (h3 _).mono ?_
  rintro e w3 ⟨rfl, k3⟩
  obtain ⟨K3, x30, x31, x32⟩ := k3.loc (.bool false) (.string ⟨#[51]⟩) (.int .i64 1)
  replace x20 := K3.cell x20 (by simp)
  replace x21 := K3.cell x21 (by simp)
  replace x22 := K3.cell x22 (by simp)
  go_wp2_with fail
  refine (h4 _).mono ?_
  rintro e w4 ⟨rfl, k4⟩
  obtain ⟨K4, x40, x41, x42⟩ := k4.loc (.bool true) (.string ⟨#[50]⟩) (.int .i64 0)
  replace x20 := K4.cell x20 (by simp)
  replace x21 := K4.cell x21 (by simp)
  replace x22 := K4.cell x22 (by simp)
  replace x30 := K4.cell x30 (by simp)
  replace x31 := K4.cell x31 (by simp)
  replace x32 := K4.cell x32 (by simp)
  go_wp2_with fail
  refine (h5 _).mono ?_
  rintro e w5 ⟨rfl, k5⟩
  replace x30 := k5.cell x30 (by simp)
  replace x31 := k5.cell x31 (by simp)
  replace x32 := k5.cell x32 (by simp)
  replace x40 := k5.cell x40 (by simp)
  replace x41 := k5.cell x41 (by simp)
  replace x42 := k5.cell x42 (by simp)
  go_wp2_with fail
  refine (h6 _).mono ?_
  rintro e w6 ⟨rfl, k6⟩
  replace x40 := k6.cell x40 (by simp)
  replace x41 := k6.cell x41 (by simp)
  replace x42 := k6.cell x42 (by simp)
  go_wp2_with fail
  refine (h7 _).mono ?_
  rintro e w7 ⟨rfl, k7⟩
  go_wp2_with fail
  go_ret
  exact ⟨rfl, ((((((k1.alloc (.cells #[.bool false, .string ⟨#[]⟩, .int .i64 0] 23)).nil K2).nil K3).nil K4).nil k5).nil k6).nil k7⟩
/-- At most so many bytes of a text. -/
def fewL (l : List UInt8) : List UInt8 := if 200 < l.length then l.take 200 else l
theorem fewL_len (l : List UInt8) : (fewL l).length ≤ 200 := by
  unfold fewL
  split
  · rw [List.length_take]; omega
  · omega
theorem few_any (w : World) (l : List UInt8) (hs : l.length ≤ 9223372036854775807) : Calls Tryd.prog 18 #[.string ⟨l.toArray⟩] w fun e w' => e = .returned (.string ⟨(fewL l).toArray⟩) ∧ w' = w := by
  have hsz : (⟨l.toArray⟩ : ByteArray).size = l.length := size_mk l
  by_cases h : 200 < l.length
  · have hf := hid (show fewL l = l.take 200 from if_pos h)
    have hx := extract_mk l 0 200
    rw [List.drop_zero] at hx
    go_enter Tryd.func18, Tryd.ntmps18
    go_wp2_with fail
    go_ret
    exact ⟨by rw [hf.out]; rfl, rfl⟩
  · have hf := hid (show fewL l = l from if_neg h)
    go_enter Tryd.func18, Tryd.ntmps18
    go_wp2_with fail
    go_ret
    exact ⟨by rw [hf.out]; rfl, rfl⟩
end Go.Proofs.YtampgimmodomoaaDoor
