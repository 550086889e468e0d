/- A reader while its machine is written. -/
import Derived.Test.YtaaikjedagnjbaaGSingle
import Derived.Test.YtaaikjedagnjbaaGMany
import Derived.Test.YtaaikjedagnjbaaGFns
namespace Go.Proofs.Ytaaikjedagnjbaa
open Go Go.RowKit Go.Lib

/-- Only the machine's blocks were written: the reader is as it was. -/
theorem RdAt.under {w w' : World} {rb mb d : Nat} {N E : Nat → Prop} {L : List Nat} {bad : Bool} (h : RdAt w rb mb N L d bad) (k : Kq E w w') (hr : ¬ E rb) (hN : ∀ x, N x → ¬ E x) : RdAt w' rb mb N L d bad := by
  obtain ⟨A, c, hc, hs, h1, h2, h3⟩ := h.ex
  obtain ⟨S, hS, kp⟩ := k
  exact ⟨A, c, hc.keep kp (fun hm => hr (hS rb hm)), hs.keep kp (fun ad e hm => hN _ (h3 ad e).1 (hS _ hm)), h1, h2, h3⟩
theorem RdAt.kq {w w' : World} {rb mb d : Nat} {N : Nat → Prop} {L : List Nat} {bad : Bool} (h : RdAt w rb mb N L d bad) {S : List Nat} (k : Kp S w w') (hr : rb ∉ S) (hN : ∀ x, N x → x ∉ S) : RdAt w' rb mb N L d bad := by
  obtain ⟨A, c, hc, hs, h1, h2, h3⟩ := h.ex
  exact ⟨A, c, hc.keep k hr, hs.keep k (fun ad e hm => hN _ (h3 ad e).1 hm), h1, h2, h3⟩
end Go.Proofs.Ytaaikjedagnjbaa
