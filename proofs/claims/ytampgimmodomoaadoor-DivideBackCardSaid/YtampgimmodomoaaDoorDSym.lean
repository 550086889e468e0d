/- Layer 1: results by letters, whether refused or not. -/
import Derived.Test.YtampgimmodomoaaDoorDLocal
namespace Go.Proofs.YtampgimmodomoaaDoor
open Go Go.RowKit Go.Lib

/-- What a result is, cell by cell. -/
def oN : Option Dc → Bool | some d => d.neg | none => false
def oL : Option Dc → List UInt8 | some d => dtxt d.n | none => []
def oS : Option Dc → Int | some d => (d.s : Int) | none => 0
def oE : Option Dc → Int | some _ => 0 | none => 3
theorem oE_or (o : Option Dc) : oE o = 0 ∨ oE o = 3 := by cases o <;> simp [oE]
theorem resV_is (o : Option Dc) : resV o 3 = .tuple #[.agg #[.bool (oN o), .string ⟨(oL o).toArray⟩, .int .i64 (oS o)], .int .i64 (oE o)] := by cases o <;> rfl
/-- A call that hands back what O is. -/
def Gives (f : Nat) (args : Array Value) (O : Option Dc) : Prop := ∀ W, Calls Tryd.prog f args W fun e w' => e = .returned (.tuple #[.agg #[.bool (oN O), .string ⟨(oL O).toArray⟩, .int .i64 (oS O)], .int .i64 (oE O)]) ∧ Kp [] W w'
theorem Gives.some {f : Nat} {args : Array Value} {d : Dc} (h : Gives f args (some d)) (W : World) : Calls Tryd.prog f args W fun e w' => e = .returned (.tuple #[.agg #[.bool d.neg, .string ⟨(dtxt d.n).toArray⟩, .int .i64 (d.s : Int)], .int .i64 0]) ∧ Kp [] W w' := h W
theorem none_or (O : Option Dc) : O = none ∨ ∃ d, O = some d := by cases O <;> simp
theorem some_of {O : Option Dc} {d : Dc} (h : O = some d) : d.neg = oN O ∧ dtxt d.n = oL O ∧ (d.s : Int) = oS O := by subst h; exact ⟨rfl, rfl, rfl⟩
theorem some_err {O : Option Dc} {d : Dc} (h : O = some d) : (oE O == 0) = true ∧ (oE O != 0) = false ∧ oE O = 0 := by subst h; exact ⟨rfl, rfl, rfl⟩
theorem none_err {O : Option Dc} (h : O = none) : (oE O == 0) = false ∧ (oE O != 0) = true ∧ oE O = 3 := by subst h; exact ⟨rfl, rfl, rfl⟩
theorem add_sym {a b : Dc} (ha : Ok a) (hb : Ok b) : Gives 24 #[.agg #[.bool a.neg, .string ⟨(dtxt a.n).toArray⟩, .int .i64 (a.s : Int)], .agg #[.bool b.neg, .string ⟨(dtxt b.n).toArray⟩, .int .i64 (b.s : Int)]] (addD a b) := fun W => (add_any W a b ha hb).mono fun e w' ⟨h1, h2⟩ => ⟨by rw [h1, resV_is], h2⟩
theorem sub_sym {a b : Dc} (ha : Ok a) (hb : Ok b) : Gives 26 #[.agg #[.bool a.neg, .string ⟨(dtxt a.n).toArray⟩, .int .i64 (a.s : Int)], .agg #[.bool b.neg, .string ⟨(dtxt b.n).toArray⟩, .int .i64 (b.s : Int)]] (subD a b) := fun W => (sub_any W a b ha hb).mono fun e w' ⟨h1, h2⟩ => ⟨by rw [h1, resV_is], h2⟩
theorem mul_sym {a b : Dc} (ha : Ok a) (hb : Ok b) : Gives 22 #[.agg #[.bool a.neg, .string ⟨(dtxt a.n).toArray⟩, .int .i64 (a.s : Int)], .agg #[.bool b.neg, .string ⟨(dtxt b.n).toArray⟩, .int .i64 (b.s : Int)]] (mulD a b) := fun W => (mul_any W a b ha hb).mono fun e w' ⟨h1, h2⟩ => ⟨by rw [h1, resV_is], h2⟩
end Go.Proofs.YtampgimmodomoaaDoor
