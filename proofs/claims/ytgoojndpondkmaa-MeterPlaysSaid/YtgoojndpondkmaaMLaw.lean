/- Plain: what a meter holds, and what is noted of it. -/
import Derived.Test.YtgoojndpondkmaaLaws
namespace Go.Proofs.Ytgoojndpondkmaa
open Go Go.RowKit

/-- A dial: how often, how much, the most. -/
structure Dl where
  c : Int
  t : Int
  m : Int
def Dl.zero : Dl := ⟨0, 0, 0⟩
def Dl.add (d : Dl) (c t m : Int) : Dl := ⟨d.c + c, d.t + t, max d.m m⟩
def Dl.cells (d : Dl) : List Value := [.int .i64 d.c, .int .i64 d.t, .int .i64 d.m]
/-- A dial that may be: at most B were noted. -/
def Dl.ok (B : Int) (d : Dl) : Prop := 0 ≤ d.c ∧ d.c ≤ B ∧ 0 ≤ d.m ∧ d.m ≤ d.t ∧ d.t ≤ 1099511627776
def kindsOf (k : Int) : Nat := (min (max k 0) 32).toNat
theorem kindsOf_le (k : Int) : kindsOf k ≤ 32 := by unfold kindsOf; omega
/-- What Note says. -/
def noteE (ds : List Dl) (k n : Int) : Int := if k < 0 ∨ (ds.length : Int) ≤ k ∨ n < 0 then 1 else if 1099511627776 - (ds.getD k.toNat Dl.zero).t < n then 3 else 0
/-- What Note leaves. -/
def noteD (ds : List Dl) (k n : Int) : List Dl := if noteE ds k n = 0 then ds.set k.toNat ((ds.getD k.toNat Dl.zero).add 1 n n) else ds
def ofD (ds : List Dl) (k : Int) : Dl := if k < 0 ∨ (ds.length : Int) ≤ k then Dl.zero else ds.getD k.toNat Dl.zero
theorem length_noteD (ds : List Dl) (k n : Int) : (noteD ds k n).length = ds.length := by
  unfold noteD
  split <;> simp
theorem ok_zero (B : Int) (h : 0 ≤ B) : Dl.zero.ok B := by simp [Dl.ok, Dl.zero]; omega
theorem Dl.ok.mono {B C : Int} {d : Dl} (h : d.ok B) (hb : B ≤ C) : d.ok C := by unfold Dl.ok at h ⊢; omega
theorem noteE_ok {ds : List Dl} {k n : Int} (h : noteE ds k n = 0) : 0 ≤ k ∧ k.toNat < ds.length ∧ 0 ≤ n ∧ (ds.getD k.toNat Dl.zero).t + n ≤ 1099511627776 := by
  unfold noteE at h
  split at h
  · omega
  · split at h
    · omega
    · omega
theorem ok_noteD {ds : List Dl} {k n B : Int} (h : ∀ d ∈ ds, d.ok B) : ∀ d ∈ noteD ds k n, d.ok (B + 1) := by
  unfold noteD
  split
  · rename_i h0
    obtain ⟨h1, h2, h3, h4⟩ := noteE_ok h0
    intro d hd
    rcases List.mem_or_eq_of_mem_set hd with hd | rfl
    · exact (h d hd).mono (by omega)
    · have hx := h (ds.getD k.toNat Dl.zero) (by rw [List.getD_eq_getElem?_getD, List.getElem?_eq_getElem h2]; exact List.getElem_mem h2)
      unfold Dl.ok Dl.add at *
      simp only
      omega
  · exact fun d hd => (h d hd).mono (by omega)
theorem ok_replicate (n : Nat) (B : Int) (h : 0 ≤ B) : ∀ d ∈ List.replicate n Dl.zero, d.ok B := fun d hd => by
  rw [List.eq_of_mem_replicate hd]
  exact ok_zero B h
theorem ok_ofD {ds : List Dl} {k B : Int} (hB : 0 ≤ B) (h : ∀ d ∈ ds, d.ok B) : (ofD ds k).ok B := by
  unfold ofD
  split
  · exact ok_zero B hB
  · rename_i hk
    exact h _ (by rw [List.getD_eq_getElem?_getD, List.getElem?_eq_getElem (by omega : k.toNat < ds.length)]; exact List.getElem_mem _)
end Go.Proofs.Ytgoojndpondkmaa
