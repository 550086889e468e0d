/- Base of sums and products of layer 1: room for results, contracts said of numbers. -/
import Derived.Test.YtampgimmodomoaaDoorDVals
import Derived.Test.YtampgimmodomoaaDoorDReads
import Derived.Test.YtampgimmodomoaaDoorDPlain
namespace Go.Proofs.YtampgimmodomoaaDoor
open Go Go.RowKit Go.Lib

theorem made_none_sure {neg : Bool} {l : List UInt8} (hl : Digs l) (hs : l.length ≤ 1000000) {S : Nat} (hS : S ≤ 1000000) (h : norm neg (val l) S = none) (w : World) :
    Calls Tryd.prog 52 #[.bool neg, .string ⟨l.toArray⟩, .int .i64 (S : Int)] w fun e w' => e = .returned (.tuple #[.agg #[.bool false, .string ⟨#[]⟩, .int .i64 0], .int .i64 3]) ∧ Kp [] w w' := by
  refine (made_any w neg l hl hs S hS).mono fun e w' ⟨h1, h2⟩ => ⟨?_, h2⟩
  rw [h] at h1
  exact h1
theorem made_some_sure {neg : Bool} {l : List UInt8} (hl : Digs l) (hs : l.length ≤ 1000000) {S : Nat} (hS : S ≤ 1000000) {d : Dc} (h : norm neg (val l) S = some d) (w : World) :
    Calls Tryd.prog 52 #[.bool neg, .string ⟨l.toArray⟩, .int .i64 (S : Int)] w fun e w' => e = .returned (.tuple #[.agg #[.bool d.neg, .string ⟨(dtxt d.n).toArray⟩, .int .i64 (d.s : Int)], .int .i64 0]) ∧ Kp [] w w' := by
  refine (made_any w neg l hl hs S hS).mono fun e w' ⟨h1, h2⟩ => ⟨?_, h2⟩
  rw [h] at h1
  exact h1
/-- plus, minus, cmp, digits, of numbers. -/
theorem plusN (w : World) (A B : Option Addr) (c d a b : Nat) (ha : NatA w A c a) (hb : NatA w B d b) (h1 : limLen a ≤ 10000) (h2 : limLen b ≤ 10000) : Calls Tryd.prog 58 #[.slice A (limLen a) c, .slice B (limLen b) d] w (NatPost w (a + b)) := by
  have h := plus_any w A B c d _ _ (limLen a) (limLen b) rfl rfl ha hb (lims_limbs a) (lims_limbs b) h1 h2
  rw [lval_limbs, lval_limbs] at h
  exact h
theorem limLen_le {a b : Nat} (h : b ≤ a) : limLen b ≤ limLen a := by
  rcases Nat.lt_or_ge (limLen a) (limLen b) with h1 | h1
  · have := limbs_mono h1; omega
  · exact h1
theorem minusN (w : World) (A B : Option Addr) (c d a b : Nat) (ha : NatA w A c a) (hb : NatA w B d b) (h1 : limLen a ≤ 10000) (hle : b ≤ a) : Calls Tryd.prog 60 #[.slice A (limLen a) c, .slice B (limLen b) d] w (NatPost w (a - b)) := by
  have h := minus_any w A B c d _ _ (limLen a) (limLen b) rfl rfl ha hb (lims_limbs a) (lims_limbs b) h1 (limLen_le hle) (by rw [lval_limbs, lval_limbs]; exact hle)
  rw [lval_limbs, lval_limbs] at h
  exact h
theorem digitsN (w : World) (A : Option Addr) (c a : Nat) (ha : NatA w A c a) (h1 : limLen a ≤ 10000) : Calls Tryd.prog 55 #[.slice A (limLen a) c] w fun e w' => e = .returned (.string ⟨(digN (limLen a * 9) a).toArray⟩) ∧ Kp [] w w' := by
  have h := digits_any w A c _ (limLen a) rfl ha (lims_limbs a) h1
  rw [lval_limbs] at h
  exact h
def DecPost (w : World) (o : Option Dc) (e : Ending) (w' : World) : Prop := e = .returned (resV o 3) ∧ Kp [] w w'
theorem dec_big {w w' : World} (k : Kp [] w w') {o : Option Dc} (h : o = none) : DecPost w o (.returned (.tuple #[.agg #[.bool false, .string ⟨#[]⟩, .int .i64 0], .int .i64 3])) w' := by subst h; exact ⟨rfl, k⟩
theorem dec_dec {w w' : World} (k : Kp [] w w') {o : Option Dc} {d : Dc} (h : o = some d) : DecPost w o (.returned (.tuple #[.agg #[.bool d.neg, .string ⟨(dtxt d.n).toArray⟩, .int .i64 (d.s : Int)], .int .i64 0])) w' := by subst h; exact ⟨rfl, k⟩
/-- What lies in the memory of a sum: both numbers, and room. -/
def Three (g : Nat) (n1 n2 : Bool) (w : World) : Prop := (w.cell? ⟨g, 0, none⟩ = some (.bool n1) ∧ w.cell? ⟨g + 1, 0, none⟩ = some (.bool n2)) ∧ Room (g + 1 + 1) w
theorem Three.kept {g : Nat} {n1 n2 : Bool} {w w' : World} (h : Three g n1 n2 w) (k : Kp [] w w') : Three g n1 n2 w' := ⟨⟨k.cell h.1.1 (by simp), k.cell h.1.2 (by simp)⟩, h.2.kept k⟩
theorem three_fresh (w : World) (n1 n2 : Bool) (c1 c2 c3 c4 c5 c6 c7 : Value) : Three w.heap.size n1 n2 (((w.alloc (.cells #[.bool n1, c1, c2] 23)).alloc (.cells #[.bool n2, c3, c4] 23)).alloc (.cells #[c5, c6, c7] 23)) := by
  have h0 := ((Cells.fresh w 23 [.bool n1, c1, c2]).alloc (.cells #[.bool n2, c3, c4] 23)).alloc (.cells #[c5, c6, c7] 23)
  have h1 := (Cells.fresh1 w (.cells #[.bool n1, c1, c2] 23) 23 [.bool n2, c3, c4]).alloc (.cells #[c5, c6, c7] 23)
  have h2 := Cells.fresh1 (w.alloc (.cells #[.bool n1, c1, c2] 23)) (.cells #[.bool n2, c3, c4] 23) 23 [c5, c6, c7]
  have e : (w.alloc (.cells #[.bool n1, c1, c2] 23)).heap.size = w.heap.size + 1 := by simp
  rw [e] at h2
  exact ⟨⟨h0.cell 0, h1.cell 0⟩, ⟨_, h2, rfl⟩⟩
theorem far_room {w : World} {g : Nat} (a b c : Value) {p : Addr} {v : Value} (h : w.cell? p = some v) (hp : p.block ≠ g) : (((w.setCell ⟨g, 0, none⟩ a).setCell ⟨g, 1, none⟩ b).setCell ⟨g, 2, none⟩ c).cell? p = some v :=
  ((((Kp.refl [g] w).setCell (p := ⟨g, 0, none⟩) (fun _ => by simp) a).setCell (p := ⟨g, 1, none⟩) (fun _ => by simp) b).setCell (p := ⟨g, 2, none⟩) (fun _ => by simp) c).cell h (by simpa using hp)
theorem far0 {w : World} {g : Nat} {a b c v : Value} (h : w.cell? ⟨g, 0, none⟩ = some v) : (((w.setCell ⟨g + 1 + 1, 0, none⟩ a).setCell ⟨g + 1 + 1, 1, none⟩ b).setCell ⟨g + 1 + 1, 2, none⟩ c).cell? ⟨g, 0, none⟩ = some v := far_room a b c h (by simp; omega)
theorem far1 {w : World} {g : Nat} {a b c v : Value} (h : w.cell? ⟨g + 1, 0, none⟩ = some v) : (((w.setCell ⟨g + 1 + 1, 0, none⟩ a).setCell ⟨g + 1 + 1, 1, none⟩ b).setCell ⟨g + 1 + 1, 2, none⟩ c).cell? ⟨g + 1, 0, none⟩ = some v := far_room a b c h (by simp)
theorem kp_room2 {w w1 : World} (k : Kp [] w w1) (a b c : Value) : Kp [] w (((w1.setCell ⟨w.heap.size + 1 + 1, 0, none⟩ a).setCell ⟨w.heap.size + 1 + 1, 1, none⟩ b).setCell ⟨w.heap.size + 1 + 1, 2, none⟩ c) :=
  ((k.setCell (p := ⟨w.heap.size + 1 + 1, 0, none⟩) (fun h => by simp at h; omega) a).setCell (p := ⟨w.heap.size + 1 + 1, 1, none⟩) (fun h => by simp at h; omega) b).setCell (p := ⟨w.heap.size + 1 + 1, 2, none⟩) (fun h => by simp at h; omega) c
end Go.Proofs.YtampgimmodomoaaDoor
