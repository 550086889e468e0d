/- Plain: how long a decimal's text is. No program in sight. -/
import Derived.Test.YtgjffkblhhkjmaaDoorDText
namespace Go.Proofs.YtgjffkblhhkjmaaDoor

theorem pad_len {d : Dc} (h : Ok d) : (padL d).length ≤ 61 := by
  have h1 := length_dtxt_le (k := 60) h.1 (by decide)
  have h2 := h.2.1
  unfold padL
  rw [List.length_append, List.length_replicate]
  omega
theorem print_len {d : Dc} (h : Ok d) : (printL d).length ≤ 63 := by
  have h1 := pad_len h
  unfold printL bareL
  rw [List.length_append]
  have h2 : (if d.neg then [45] else ([] : List UInt8)).length ≤ 1 := by split <;> simp
  have h3 : (if d.s = 0 then padL d else (padL d).take ((padL d).length - d.s) ++ 46 :: (padL d).drop ((padL d).length - d.s)).length ≤ 62 := by
    split
    · omega
    · rw [List.length_append, List.length_cons, List.length_take, List.length_drop]; omega
  omega
end Go.Proofs.YtgjffkblhhkjmaaDoor
