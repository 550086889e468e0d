/- Room for a result of layer 1; noughts in a row. -/
import Derived.Test.YtgjffkblhhkjmaaDoorDMade
namespace Go.Proofs.YtgjffkblhhkjmaaDoor
open Go Go.RowKit Go.Lib

theorem repeat_zeros (n : Nat) : Lib.repeatL [48] n = List.replicate n 48 := by
  induction n with
  | zero => rfl
  | succ n ih => rw [List.replicate_succ, ← ih]; rfl
theorem repeat_any (w : World) (n : Nat) (hn : n ≤ 1000000) : Calls Tryd.prog 78 #[.string ⟨#[48]⟩, .int .i64 (n : Int)] w fun e w' => e = .returned (.string ⟨(List.replicate n 48).toArray⟩) ∧ Kp [] w w' := by
  have h := Tryd.strings_Repeat ⟨#[48]⟩ n w (by omega) (by show 1 * n ≤ _; omega)
  have e : Lib.repeatL (⟨#[48]⟩ : ByteArray).data.toList n = List.replicate n 48 := repeat_zeros n
  rw [e] at h
  exact h.mono fun e w' ⟨h1, h2⟩ => ⟨h1, Kp.of_below h2⟩
/-- What stands where the result will lie. -/
def Room (g : Nat) (w : World) : Prop := ∃ cs, Cells w g 47 cs ∧ cs.length = 3
theorem Room.kept {g : Nat} {w w' : World} (h : Room g w) (k : Kp [] w w') : Room g w' := by
  obtain ⟨cs, h1, h2⟩ := h
  exact ⟨cs, h1.keep k (by simp), h2⟩
theorem Room.cells {g : Nat} {w : World} (h : Room g w) : ∃ a b c, w.cell? ⟨g, 0, none⟩ = some a ∧ w.cell? ⟨g, 1, none⟩ = some b ∧ w.cell? ⟨g, 2, none⟩ = some c ∧ w.frozen? ⟨g, 0, none⟩ = false ∧ w.frozen? ⟨g, 1, none⟩ = false ∧ w.frozen? ⟨g, 2, none⟩ = false := by
  obtain ⟨cs, h1, h2⟩ := h
  match cs, h2 with
  | [a, b, c], _ => exact ⟨a, b, c, h1.cell 0, h1.cell 1, h1.cell 2, h1.free 0, h1.free 1, h1.free 2⟩
theorem Room.fresh (w : World) (a b c : Value) : Room w.heap.size (w.alloc (.cells #[a, b, c] 47)) := ⟨[a, b, c], Cells.fresh w 47 [a, b, c], rfl⟩
theorem kp_room {w w1 : World} (k : Kp [] w w1) (a b c : Value) : Kp [] w (((w1.setCell ⟨w.heap.size, 0, none⟩ a).setCell ⟨w.heap.size, 1, none⟩ b).setCell ⟨w.heap.size, 2, none⟩ c) :=
  ((k.setCell (p := ⟨w.heap.size, 0, none⟩) (fun h => by simp at h) a).setCell (p := ⟨w.heap.size, 1, none⟩) (fun h => by simp at h) b).setCell (p := ⟨w.heap.size, 2, none⟩) (fun h => by simp at h) c
theorem made_form (w : World) (neg : Bool) (l : List UInt8) (hl : Digs l) (hs : l.length ≤ 1000000) (S : Nat) (hS : S ≤ 1000000) :
    Calls Tryd.prog 79 #[.bool neg, .string ⟨l.toArray⟩, .int .i64 (S : Int)] w fun e w' => Kp [] w w' ∧ ((norm neg (val l) S = none ∧ e = .returned (.tuple #[.agg #[.bool false, .string ⟨#[]⟩, .int .i64 0], .int .i64 3])) ∨
      ∃ d, norm neg (val l) S = some d ∧ e = .returned (.tuple #[.agg #[.bool d.neg, .string ⟨(dtxt d.n).toArray⟩, .int .i64 (d.s : Int)], .int .i64 0])) := by
  refine (made_any w neg l hl hs S hS).mono fun e w' ⟨h1, h2⟩ => ⟨h2, ?_⟩
  rcases h : norm neg (val l) S with _ | d
  · rw [h] at h1
    exact .inl ⟨rfl, h1⟩
  · rw [h] at h1
    exact .inr ⟨d, rfl, h1⟩
end Go.Proofs.YtgjffkblhhkjmaaDoor
