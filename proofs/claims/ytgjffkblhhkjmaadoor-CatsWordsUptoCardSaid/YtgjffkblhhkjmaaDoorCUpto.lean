/- What the bound of an upto statement gives: no text among what is read is longer. -/
import Derived.Test.YtgjffkblhhkjmaaDoorRows
namespace Go.Proofs.YtgjffkblhhkjmaaDoor
open Go

theorem bulk_part {H : Type} {d : DataW H} : ∀ {l : List (DataW H)}, d ∈ l → Rows.uptoBulk d ≤ Rows.uptoBulkAll l
  | [], h => by cases h
  | x :: r, h => by
    simp only [Rows.uptoBulkAll]
    rcases List.mem_cons.1 h with e | e
    · subst e; omega
    · have := bulk_part e; omega
theorem upto_str {H : Type} {l : List (DataW H)} (hk : Rows.uptoSmall H l = true) {s : ByteArray} (h : DataW.lit (.string s.data.toList) ∈ l) : s.size ≤ 1048576 := by
  have h1 := bulk_part h
  have h2 : Rows.uptoBulkAll l ≤ 1048576 := of_decide_eq_true hk
  simp only [Rows.uptoBulk] at h1
  have h3 : s.data.toList.length = s.size := by rw [Array.length_toList]; rfl
  omega
end Go.Proofs.YtgjffkblhhkjmaaDoor
