/- The document's example at the head of layer 16's statements: it answers true. -/
import Derived.Test.YtgoojndpondkmaaMMerge
namespace Go.Proofs.Ytgoojndpondkmaa
open Go Go.RowKit

def YesPost (w : World) (e : Ending) (w' : World) : Prop := e = .returned (.bool true) ∧ Kp [] w w'
theorem kp_new {w w1 w2 : World} {a : Nat} {gs : List Nat} (k1 : Kp [] w w1) (k2 : Kp (a :: gs) w1 w2) (ha : w.heap.size ≤ a) (hg : ∀ g ∈ gs, w.heap.size ≤ g) : Kp [] w w2 := k1.trans k2 (by
  intro y hy hl
  rcases List.mem_cons.1 hy with rfl | hy
  · omega
  · have := hg y hy
    omega)
set_option maxHeartbeats 800000 in
theorem mshown_any (w : World) : Calls Try.prog 6 #[] w (YesPost w) := by
  go_enter Try.func6, Try.ntmps6
  go_wp2_with fail
  refine (mnew_any w 1).mono ?_
  rintro e w1 ⟨rfl, hM1, hk1⟩
  have e1 : List.replicate (kindsOf 1) Dl.zero = [⟨0, 0, 0⟩] := by rfl
  rw [e1] at hM1
  clear e1
  have s1 := hk1.size
  go_wp2_with fail
  refine (note_any w1 w.heap.size [] [⟨0, 0, 0⟩] 0 3 0 hM1 (by decide) (by simp [Dl.ok]) (by omega) (by omega)).mono ?_
  rintro e w2 ⟨rfl, gs2, hM2, hk2, hg2⟩
  have kw2 := kp_new hk1 hk2 (Nat.le_refl _) (by simp)
  have n2 : ∀ g ∈ gs2, w.heap.size ≤ g := fun g hg => by rcases hg2 g hg with h | h; cases h; omega
  have e1 : noteE [⟨0, 0, 0⟩] 0 3 = 0 := by decide
  have e2 : noteD [⟨0, 0, 0⟩] 0 3 = [⟨1, 3, 3⟩] := by rfl
  rw [e1]
  rw [e2] at hM2
  clear e1 e2
  go_wp2_with fail
  refine (note_any w2 w.heap.size gs2 [⟨1, 3, 3⟩] 0 2 1 hM2 (by decide) (by simp [Dl.ok]) (by omega) (by omega)).mono ?_
  rintro e w3 ⟨rfl, gs3, hM3, hk3, hg3⟩
  have kw3 := kp_new kw2 hk3 (Nat.le_refl _) n2
  have n3 : ∀ g ∈ gs3, w.heap.size ≤ g := fun g hg => by
    rcases hg3 g hg with h | h
    · exact n2 g h
    · have := kw2.size; omega
  have e1 : noteE [⟨1, 3, 3⟩] 0 2 = 0 := by decide
  have e2 : noteD [⟨1, 3, 3⟩] 0 2 = [⟨2, 5, 3⟩] := by rfl
  rw [e1]
  rw [e2] at hM3
  clear e1 e2
  go_wp2_with fail
  refine (of_any w3 w.heap.size gs3 [⟨2, 5, 3⟩] 0 hM3 (by decide)).mono ?_
  rintro e w4 ⟨d, hd, rfl, gs4, hM4, hk4, hg4⟩
  have e1 : d = ⟨2, 5, 3⟩ := hd.trans (by rfl)
  subst e1
  clear hd
  have kw4 := kp_new kw3 hk4 (Nat.le_refl _) (by simp)
  have n4 : ∀ g ∈ gs4, w.heap.size ≤ g := fun g hg => by
    rcases hg4 g hg with h | h
    · exact n3 g h
    · have := kw3.size; omega
  go_wp2_with fail
  refine (note_any w4 w.heap.size gs4 [⟨2, 5, 3⟩] 1 1 2 hM4 (by decide) (by simp [Dl.ok]) (by omega) (by omega)).mono ?_
  rintro e w5 ⟨rfl, gs5, hM5, hk5, hg5⟩
  have kw5 := kp_new kw4 hk5 (Nat.le_refl _) n4
  have e1 : noteE [⟨2, 5, 3⟩] 1 1 = 1 := by decide
  rw [e1]
  clear e1
  go_wp2_with fail
  go_ret
  exact ⟨rfl, kw5⟩
end Go.Proofs.Ytgoojndpondkmaa
