/- Values of layer 1: decimals, limbs; trim and limb walked. -/
import Derived.Test.YtgjffkblhhkjmaaDoorChecked
import Derived.Test.YtgjffkblhhkjmaaDoorCut
import Derived.Test.YtgjffkblhhkjmaaDoorDDigs
import Derived.Deep.Cut
namespace Go.Proofs.YtgjffkblhhkjmaaDoor
open Go Go.RowKit

def decG (neg : Bool) (l : List UInt8) (s : Int) : Value := .agg #[.bool neg, .string ⟨l.toArray⟩, .int .i64 s]
def decV (d : Dc) : Value := decG d.neg (dtxt d.n) d.s
def noneV : Value := decG false [] 0
/-- A decimal and no error, or none and the error e. -/
def resV (o : Option Dc) (e : Int) : Value := match o with | some d => .tuple #[decV d, .int .i64 0] | none => .tuple #[noneV, .int .i64 e]
def u64 (x : Nat) : Value := .int .u64 (x : Int)
def u64s (l : List Nat) : List Value := l.map u64
theorem length_u64s (l : List Nat) : (u64s l).length = l.length := by simp [u64s]
theorem u64s_append (l m : List Nat) : u64s (l ++ m) = u64s l ++ u64s m := by simp [u64s]
theorem u64s_one (l : List Nat) : ∀ u ∈ u64s l, u.oneCell' = true := by
  intro u hu
  obtain ⟨c, _, rfl⟩ := List.mem_map.1 hu
  rfl
theorem u64s_take (l : List Nat) (n : Nat) : u64s (l.take n) = (u64s l).take n := by simp [u64s]
theorem infoU64 : (Tryd.prog.info? 23).map (fun i => (i.zero, i.size, i.bytes)) = some (some (.int .u64 0), 1, 8) := by kernel_rfl
/-- A slice that reads as limbs. -/
def LimA (w : World) (A : Option Addr) (c : Nat) (l : List Nat) : Prop := Span w A (u64s l) ∧ l.length ≤ c ∧ c ≤ 9223372036854775807
theorem LimA.kept {w w' : World} {A : Option Addr} {c : Nat} {l : List Nat} (h : LimA w A c l) (k : Kp [] w w') : LimA w' A c l := ⟨h.1.kept k, h.2⟩
theorem LimA.take {w : World} {A : Option Addr} {c : Nat} {l : List Nat} (h : LimA w A c l) (k : Nat) : LimA w A c (l.take k) := ⟨by rw [u64s_take]; exact h.1.take k, by have := h.2.1; rw [List.length_take]; omega, h.2.2⟩
theorem LimA.get {w : World} {A : Option Addr} {c : Nat} {l : List Nat} (h : LimA w A c l) {j : Nat} (hj : j < l.length) : ∃ ad, A = some ad ∧ w.cell? (ad.add j) = some (.int .u64 (l[j] : Int)) := by
  obtain ⟨ad, e, hc⟩ := h.1.get (j := j) (by rw [length_u64s]; exact hj)
  refine ⟨ad, e, ?_⟩
  rw [hc]
  simp [u64s, u64]
/-- Limbs of a number in a slice of just their length. -/
def NatA (w : World) (A : Option Addr) (c n : Nat) : Prop := LimA w A c (limbs n)
def limLen (n : Nat) : Nat := (limbs n).length
theorem trim_end (l : List Nat) (hl : Lims l) (k : Nat) (hk : k ≤ l.length) (hv : lval (l.take k) = lval l) (h0 : k = 0 ∨ lim l (k - 1) ≠ 0) : limbs (lval l) = l.take k := by
  rw [← hv]
  refine limbs_lval _ (hl.take k) ?_
  intro m e
  have h1 := congrArg List.length e
  rw [List.length_take, List.length_append, List.length_singleton] at h1
  rcases h0 with h0 | h0
  · omega
  · apply h0
    have h2 : (l.take k)[k - 1]? = (m ++ [0])[k - 1]? := by rw [e]
    rw [List.getElem?_take, if_pos (by omega), List.getElem?_append_right (by omega)] at h2
    have e2 : k - 1 - m.length = 0 := by omega
    rw [e2] at h2
    unfold lim
    rw [List.getD_eq_getElem?_getD, h2]
    rfl
theorem trim_step (l : List Nat) (k : Nat) (h : lim l k = 0) : lval (l.take k) = lval (l.take (k + 1)) := by
  rw [lval_take_succ, h, Nat.mul_zero]
  rfl
theorem lim_get {l : List Nat} {k : Nat} (h : k < l.length) : l[k] = lim l k := by
  unfold lim
  rw [List.getD_eq_getElem?_getD, List.getElem?_eq_getElem h]
  rfl
def sLen (v : Value) : Nat := match v with | .slice _ n _ => n | _ => 0
end Go.Proofs.YtgjffkblhhkjmaaDoor
