/- The closure of items. -/
import Derived.Test.YtaaikjedagnjbaaRG
import Derived.Test.YtaaikjedagnjbaaGLin
namespace Go.Proofs.Ytaaikjedagnjbaa
open Go Go.RowKit Go.Lib

set_option maxRecDepth 100000 in
set_option maxHeartbeats 6400000 in
theorem items1_fn (w : World) (O : Nat → Prop) (b b' : Nat) (v : Value) (nt : Bool) (l : List (Nat × Nat)) (hb : w.cell? ⟨b, 0, none⟩ = some v) (hO : ¬ O b) (hlt : b < w.heap.size) (hb' : w.cell? ⟨b', 0, none⟩ = some (.bool nt)) (hO' : ¬ O b') (hlt' : b' < w.heap.size)
    (hs : SpansAt w v l) (hg : ∀ g, v.ownBlock = some g → ¬ O g) (hl : l.length ≤ 1000000) :
    FnT w O (.func (.func 71) #[] #[.pointer (some ⟨b, 0, none⟩), .pointer (some ⟨b', 0, none⟩)]) (fun c => inR l c != nt) := by
  refine ⟨71, #[.pointer (some ⟨b, 0, none⟩), .pointer (some ⟨b', 0, none⟩)], rfl, enters_of Try.func71 (by kernel_rfl) (by kernel_rfl), fun W hK c hc => ?_⟩
  have y0 := hK.cell hb (fun h => by rcases h with h | h; exact hO h; omega)
  have y1 := hK.cell hb' (fun h => by rcases h with h | h; exact hO' h; omega)
  obtain ⟨S, hS, k⟩ := hK
  have hs2 : SpansAt W v l := OwnN.keep hs k (fun g' e hm => by
    rcases hS g' hm with h | h
    · exact hg g' e h
    · have := OwnN.lt hs g' e; omega)
  have q : ∀ W', Kp [] W W' → Calls Try.prog 72 #[v, .int .i32 (c : Int)] W' fun e w' => e = .returned (.bool (inR l c)) ∧ Kp [] W' w' := fun W' hk => by
    have q := in_any W' _ l (OwnN.kept hs2 hk) hl (c : Int)
    rw [inI_nat] at q
    exact q
  obtain ⟨t, ht⟩ : ∃ t, t = inR l c := ⟨_, rfl⟩
  show Calls Try.prog 71 #[.int .i32 (c : Int), .pointer (some ⟨b, 0, none⟩), .pointer (some ⟨b', 0, none⟩)] W fun e w' => e = .returned (.bool (inR l c != nt)) ∧ Kp [] W w'
  rw [← ht] at q ⊢
  clear hb hO hlt hs hg hS k hs2 ht hb' hO' hlt'
  have HQ := hid q
  clear q
  go_enter Try.func71, Try.ntmps71
  go_upto_region 1 with fail
  refine lin_start (fun W' => Kp [] W W') (Stays.kp _ _) (by kernel_rfl) (Kp.refl _ _).drew (fun hSS hS => ?_)
  refine lin_val (i := 0) (v := ?_) rfl (by kernel_rfl) (by kernel_rfl) (by kernel_rfl) (by kernel_rfl) (fun _ _ _ h => h) hSS hS rfl (fun W' hSw => ?_) ?_
  rotate_left
  · have y0 := hSw.cell y0 (by simp); go_simp; first | done | with_reducible rfl
  try simp only [Act.put, List.setIfInBounds_toArray, List.set_cons_zero, List.set_cons_succ]
  refine lin_val (i := 1) (v := ?_) rfl (by kernel_rfl) (by kernel_rfl) (by kernel_rfl) (by kernel_rfl) (fun _ _ _ h => h) hSS hS rfl (fun W' hSw => ?_) ?_
  rotate_left
  · go_simp; first | done | with_reducible rfl
  try simp only [Act.put, List.setIfInBounds_toArray, List.set_cons_zero, List.set_cons_succ]
  refine lin_call (i := 2) (v := .bool t) (f := 72) (args := _) rfl (by kernel_rfl) (by kernel_rfl) (by kernel_rfl) (by kernel_rfl) (fun _ _ _ h => h) hSS hS rfl (fun W' hSw => HQ.out W' hSw) (fun W' hSw => ?_) ?_
  · go_simp
  try simp only [Act.put, List.setIfInBounds_toArray, List.set_cons_zero, List.set_cons_succ]
  refine lin_val (i := 3) (v := ?_) rfl (by kernel_rfl) (by kernel_rfl) (by kernel_rfl) (by kernel_rfl) (fun _ _ _ h => h) hSS hS rfl (fun W' hSw => ?_) ?_
  rotate_left
  · have y1 := hSw.cell y1 (by simp); go_simp; first | done | with_reducible rfl
  try simp only [Act.put, List.setIfInBounds_toArray, List.set_cons_zero, List.set_cons_succ]
  refine lin_val (i := 4) (v := ?_) rfl (by kernel_rfl) (by kernel_rfl) (by kernel_rfl) (by kernel_rfl) (fun _ _ _ h => h) hSS hS rfl (fun W' hSw => ?_) ?_
  rotate_left
  · go_simp; first | done | with_reducible rfl
  try simp only [Act.put, List.setIfInBounds_toArray, List.set_cons_zero, List.set_cons_succ]
  refine lin_last (i := 5) (by kernel_rfl) rfl (by kernel_rfl) (fun w9 k9 K hK => ?_)
  have HK := hid ((Kp.refl [] W).drew.nil k9)
  clear k9
  go_simp
  refine hK.out _ _ ?_
  clear hK K
  go_wp2_with fail
  go_ret
  exact ⟨rfl, HK.out⟩
end Go.Proofs.Ytaaikjedagnjbaa
