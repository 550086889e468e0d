/- Layer 10: a token in memory; what the function for one token gives. -/
import Derived.Test.YtgjffkblhhkjmaaDoorLSign
import Derived.Test.YtgjffkblhhkjmaaDoorQUnquote
import Derived.Test.YtgjffkblhhkjmaaDoorDParse
namespace Go.Proofs.YtgjffkblhhkjmaaDoor
open Go Go.RowKit Go.Lib

def tN (o : Option Dc) : Bool := match o with | some d => d.neg | none => false
def tL (o : Option Dc) : Txt := match o with | some d => dtxt d.n | none => []
def tS (o : Option Dc) : Int := match o with | some d => (d.s : Int) | none => 0
/-- A token's six cells. -/
def tokC (k a : Int) (x : Txt) (n : Bool) (l : Txt) (z : Int) : List Value := [.int .i64 k, .int .i64 a, .string ⟨x.toArray⟩, .bool n, .string ⟨l.toArray⟩, .int .i64 z]
def OneIs (s : Txt) (k : Int) (x : Txt) (n : Bool) (l : Txt) (z N : Int) : Prop :=
  (tokL s = none ∧ N = 0) ∨ ∃ K d M, tokL s = some (K, x, d, M) ∧ k = (K : Int) ∧ N = (M : Int) ∧ n = tN d ∧ l = tL d ∧ z = tS d
def OnePost (w : World) (s : Txt) (e : Ending) (w' : World) : Prop := ∃ k x n l z N, e = .returned (.tuple #[.agg (tokC k 0 x n l z).toArray, .int .i64 N]) ∧ OneIs s k x n l z N ∧ Kp [] w w'
theorem kp_tok {w w1 : World} {g : Nat} (hg : w.heap.size ≤ g) (i : Nat) (v : Value) (k : Kp [] w w1) : Kp [] w (w1.setCell ⟨g, i, none⟩ v) := k.setCell (fun h => absurd h (Nat.not_lt.2 hg)) v
theorem tok_fresh (w : World) : Cells (w.alloc (.cells #[.int .i64 0, .int .i64 0, .string ⟨#[]⟩, .bool false, .string ⟨#[]⟩, .int .i64 0] 49)) w.heap.size 49 (tokC 0 0 [] false [] 0) := Cells.fresh w 49 (tokC 0 0 [] false [] 0)
theorem tok_cells {w : World} {g : Nat} {k a : Int} {x : Txt} {n : Bool} {l : Txt} {z : Int} (h : Cells w g 49 (tokC k a x n l z)) :
    (w.cell? ⟨g, 0, none⟩ = some (.int .i64 k) ∧ w.cell? ⟨g, 1, none⟩ = some (.int .i64 a) ∧ w.cell? ⟨g, 2, none⟩ = some (.string ⟨x.toArray⟩) ∧ w.cell? ⟨g, 3, none⟩ = some (.bool n) ∧ w.cell? ⟨g, 4, none⟩ = some (.string ⟨l.toArray⟩) ∧ w.cell? ⟨g, 5, none⟩ = some (.int .i64 z)) ∧
    (w.frozen? ⟨g, 0, none⟩ = false ∧ w.frozen? ⟨g, 1, none⟩ = false ∧ w.frozen? ⟨g, 2, none⟩ = false ∧ w.frozen? ⟨g, 3, none⟩ = false ∧ w.frozen? ⟨g, 4, none⟩ = false ∧ w.frozen? ⟨g, 5, none⟩ = false) :=
  ⟨⟨h.cell 0, h.cell 1, h.cell 2, h.cell 3, h.cell 4, h.cell 5⟩, ⟨h.free 0, h.free 1, h.free 2, h.free 3, h.free 4, h.free 5⟩⟩
theorem has_quo (L : Txt) : Lib.hasPrefix L [34] = headIs 34 L := by
  cases L with
  | nil => rfl
  | cons c t => show (34 == c && true) = (c == 34); rw [Bool.and_true, Bool.eq_iff_iff, beq_iff_eq, beq_iff_eq]; exact eq_comm
theorem span_pos (p : UInt8 → Bool) (c : UInt8) (t : Txt) : decide (0 < ((c :: t).takeWhile p).length) = p c := by
  rw [List.takeWhile_cons]
  cases p c <;> simp
end Go.Proofs.YtgjffkblhhkjmaaDoor
