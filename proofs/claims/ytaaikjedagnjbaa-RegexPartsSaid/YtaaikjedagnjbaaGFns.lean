/- The closures that a state takes: one rune, a class. -/
import Derived.Test.YtaaikjedagnjbaaGClass
namespace Go.Proofs.Ytaaikjedagnjbaa
open Go Go.RowKit Go.Lib

theorem Kq.cell {E : Nat → Prop} {w w1 : World} (h : Kq E w w1) {b o : Nat} {v : Value} (hc : w.cell? ⟨b, o, none⟩ = some v) (hb : ¬ E b) : w1.cell? ⟨b, o, none⟩ = some v := by
  obtain ⟨S, hS, k⟩ := h.block hb
  exact k.cell hc hS
set_option maxRecDepth 100000 in
set_option maxHeartbeats 6400000 in
theorem one1_fn (w : World) (O : Nat → Prop) (b x : Nat) (hb : w.cell? ⟨b, 0, none⟩ = some (.int .i32 (x : Int))) (hO : ¬ O b) (hlt : b < w.heap.size) :
    FnT w O (.func (.func 75) #[] #[.pointer (some ⟨b, 0, none⟩)]) (fun c => decide (c = x)) := by
  refine ⟨75, #[.pointer (some ⟨b, 0, none⟩)], rfl, enters_of Try.func75 (by kernel_rfl) (by kernel_rfl), fun W hK c hc => ?_⟩
  have y0 := hK.cell hb (fun h => by rcases h with h | h; exact hO h; omega)
  obtain ⟨t, ht⟩ : ∃ t, t = decide (c = x) := ⟨_, rfl⟩
  have e : ((c : Int) == (x : Int)) = t := by
    rw [ht, Bool.eq_iff_iff, beq_iff_eq, decide_eq_true_eq]
    omega
  show Calls Try.prog 75 #[.int .i32 (c : Int), .pointer (some ⟨b, 0, none⟩)] W fun e w' => e = .returned (.bool (decide (c = x))) ∧ Kp [] W w'
  rw [← ht]
  clear hK hb hO hlt ht
  have HT := hid e
  clear e
  go_enter Try.func75, Try.ntmps75
  go_wp2_with fail
  go_ret
  exact ⟨by rw [← HT.out]; rfl, Kp.refl _ _⟩
set_option maxRecDepth 100000 in
set_option maxHeartbeats 6400000 in
theorem slash1_fn (w : World) (O : Nat → Prop) (b g n c0 : Nat) (l : List (Nat × Nat)) (hb : w.cell? ⟨b, 0, none⟩ = some (.slice (some ⟨g, 0, none⟩) n c0)) (hO : ¬ O b) (hlt : b < w.heap.size)
    (hs : SpansAt w (.slice (some ⟨g, 0, none⟩) n c0) l) (hg : ¬ O g) (hl : l.length ≤ 1000000) :
    FnT w O (.func (.func 73) #[] #[.pointer (some ⟨b, 0, none⟩)]) (inR l) := by
  have hgl : g < w.heap.size := OwnN.lt hs g rfl
  refine ⟨73, #[.pointer (some ⟨b, 0, none⟩)], rfl, enters_of Try.func73 (by kernel_rfl) (by kernel_rfl), fun W hK c hc => ?_⟩
  have y0 := hK.cell hb (fun h => by rcases h with h | h; exact hO h; omega)
  obtain ⟨S, hS, k⟩ := hK.block (g := g) (fun h => by rcases h with h | h; exact hg h; omega)
  have hs2 : SpansAt W (.slice (some ⟨g, 0, none⟩) n c0) l := OwnN.keep hs k (fun g' h => by injection h with h; subst h; exact hS)
  have q := in_any W _ l hs2 hl (c : Int)
  rw [inI_nat] at q
  obtain ⟨t, ht⟩ : ∃ t, t = inR l c := ⟨_, rfl⟩
  rw [← ht] at q ⊢
  clear hK hb hO hlt hs hg hgl hS k hs2 ht
  show Calls Try.prog 73 #[.int .i32 (c : Int), .pointer (some ⟨b, 0, none⟩)] W fun e w' => e = .returned (.bool t) ∧ Kp [] W w'
  go_enter Try.func73, Try.ntmps73
  go_wp2_with fail
  (with_reducible refine q.mono ?_)
  clear q
  rintro e w2 ⟨rfl, hk⟩
  have HK := hid hk
  clear hk y0
  go_wp2_with fail
  go_ret
  exact ⟨rfl, HK.out⟩
set_option maxRecDepth 100000 in
theorem dot_fn (w : World) (O : Nat → Prop) : FnT w O (.func (.func 58) #[] #[]) (fun c => decide (c ≠ 10)) := by
  refine ⟨58, #[], rfl, enters_of Try.func58 (by kernel_rfl) (by kernel_rfl), fun W _ c _ => ?_⟩
  obtain ⟨t, ht⟩ : ∃ t, t = decide (c ≠ 10) := ⟨_, rfl⟩
  have e : ((c : Int) != 10) = t := by
    rw [ht, Bool.eq_iff_iff, bne_iff_ne, decide_eq_true_eq]
    omega
  show Calls Try.prog 58 #[.int .i32 (c : Int)] W fun e w' => e = .returned (.bool (decide (c ≠ 10))) ∧ Kp [] W w'
  rw [← ht]
  have HT := hid e
  clear e ht
  go_enter Try.func58, Try.ntmps58
  go_wp2_with fail
  go_ret
  exact ⟨by rw [← HT.out]; rfl, Kp.refl _ _⟩
set_option maxRecDepth 100000 in
theorem bol_fn (w : World) (O : Nat → Prop) : FnW w O (.func (.func 60) #[] #[]) (fun i _ => decide (i = 0)) := by
  refine ⟨60, #[], rfl, enters_of Try.func60 (by kernel_rfl) (by kernel_rfl), fun W _ i n _ _ => ?_⟩
  obtain ⟨t, ht⟩ : ∃ t, t = decide (i = 0) := ⟨_, rfl⟩
  have e : ((i : Int) == 0) = t := by
    rw [ht, Bool.eq_iff_iff, beq_iff_eq, decide_eq_true_eq]
    omega
  show Calls Try.prog 60 #[.int .i64 (i : Int), .int .i64 (n : Int)] W fun e w' => e = .returned (.bool (decide (i = 0))) ∧ Kp [] W w'
  rw [← ht]
  have HT := hid e
  clear e ht
  go_enter Try.func60, Try.ntmps60
  go_wp2_with fail
  go_ret
  exact ⟨by rw [← HT.out]; rfl, Kp.refl _ _⟩
set_option maxRecDepth 100000 in
theorem eol_fn (w : World) (O : Nat → Prop) : FnW w O (.func (.func 61) #[] #[]) (fun i n => decide (i = n)) := by
  refine ⟨61, #[], rfl, enters_of Try.func61 (by kernel_rfl) (by kernel_rfl), fun W _ i n _ _ => ?_⟩
  obtain ⟨t, ht⟩ : ∃ t, t = decide (i = n) := ⟨_, rfl⟩
  have e : ((i : Int) == (n : Int)) = t := by
    rw [ht, Bool.eq_iff_iff, beq_iff_eq, decide_eq_true_eq]
    omega
  show Calls Try.prog 61 #[.int .i64 (i : Int), .int .i64 (n : Int)] W fun e w' => e = .returned (.bool (decide (i = n))) ∧ Kp [] W w'
  rw [← ht]
  have HT := hid e
  clear e ht
  go_enter Try.func61, Try.ntmps61
  go_wp2_with fail
  go_ret
  exact ⟨by rw [← HT.out]; rfl, Kp.refl _ _⟩
end Go.Proofs.Ytaaikjedagnjbaa
