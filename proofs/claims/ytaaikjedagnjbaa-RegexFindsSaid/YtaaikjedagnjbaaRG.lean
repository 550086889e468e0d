/- The closures that a state takes: one rune, a class. -/
import Derived.Test.YtaaikjedagnjbaaGClass
import Derived.Test.YtaaikjedagnjbaaGSingle
import Derived.Test.YtaaikjedagnjbaaGMany
namespace Go.Proofs.Ytaaikjedagnjbaa
open Go Go.RowKit Go.Lib

theorem Kq.cell {E : Nat → Prop} {w w1 : World} (h : Kq E w w1) {b o : Nat} {v : Value} (hc : w.cell? ⟨b, o, none⟩ = some v) (hb : ¬ E b) : w1.cell? ⟨b, o, none⟩ = some v := by
  obtain ⟨S, hS, k⟩ := h.block hb
  exact k.cell hc hS
set_option maxRecDepth 100000 in
set_option maxHeartbeats 6400000 in
theorem one1_fn (w : World) (O : Nat → Prop) (b x : Nat) (hb : w.cell? ⟨b, 0, none⟩ = some (.int .i32 (x : Int))) (hO : ¬ O b) (hlt : b < w.heap.size) :
    FnT w O (.func (.func 75) #[] #[.pointer (some ⟨b, 0, none⟩)]) (fun c => decide (c = x)) := by
  refine ⟨75, #[.pointer (some ⟨b, 0, none⟩)], rfl, enters_of Try.func75 (by kernel_rfl) (by kernel_rfl), fun W hK c hc => ?_⟩
  have y0 := hK.cell hb (fun h => by rcases h with h | h; exact hO h; omega)
  obtain ⟨t, ht⟩ : ∃ t, t = decide (c = x) := ⟨_, rfl⟩
  have e : ((c : Int) == (x : Int)) = t := by
    rw [ht, Bool.eq_iff_iff, beq_iff_eq, decide_eq_true_eq]
    omega
  show Calls Try.prog 75 #[.int .i32 (c : Int), .pointer (some ⟨b, 0, none⟩)] W fun e w' => e = .returned (.bool (decide (c = x))) ∧ Kp [] W w'
  rw [← ht]
  clear hK hb hO hlt ht
  have HT := hid e
  clear e
  go_enter Try.func75, Try.ntmps75
  go_wp2_with fail
  go_ret
  exact ⟨by rw [← HT.out]; rfl, Kp.refl _ _⟩
set_option maxRecDepth 100000 in
set_option maxHeartbeats 6400000 in
theorem slash1_fn (w : World) (O : Nat → Prop) (b g n c0 : Nat) (l : List (Nat × Nat)) (hb : w.cell? ⟨b, 0, none⟩ = some (.slice (some ⟨g, 0, none⟩) n c0)) (hO : ¬ O b) (hlt : b < w.heap.size)
    (hs : SpansAt w (.slice (some ⟨g, 0, none⟩) n c0) l) (hg : ¬ O g) (hl : l.length ≤ 1000000) :
    FnT w O (.func (.func 73) #[] #[.pointer (some ⟨b, 0, none⟩)]) (inR l) := by
  have hgl : g < w.heap.size := OwnN.lt hs g rfl
  refine ⟨73, #[.pointer (some ⟨b, 0, none⟩)], rfl, enters_of Try.func73 (by kernel_rfl) (by kernel_rfl), fun W hK c hc => ?_⟩
  have y0 := hK.cell hb (fun h => by rcases h with h | h; exact hO h; omega)
  obtain ⟨S, hS, k⟩ := hK.block (g := g) (fun h => by rcases h with h | h; exact hg h; omega)
  have hs2 : SpansAt W (.slice (some ⟨g, 0, none⟩) n c0) l := OwnN.keep hs k (fun g' h => by injection h with h; subst h; exact hS)
  have q := in_any W _ l hs2 hl (c : Int)
  rw [inI_nat] at q
  obtain ⟨t, ht⟩ : ∃ t, t = inR l c := ⟨_, rfl⟩
  rw [← ht] at q ⊢
  clear hK hb hO hlt hs hg hgl hS k hs2 ht
  show Calls Try.prog 73 #[.int .i32 (c : Int), .pointer (some ⟨b, 0, none⟩)] W fun e w' => e = .returned (.bool t) ∧ Kp [] W w'
  go_enter Try.func73, Try.ntmps73
  go_wp2_with fail
  (with_reducible refine q.mono ?_)
  clear q
  rintro e w2 ⟨rfl, hk⟩
  have HK := hid hk
  clear hk y0
  go_wp2_with fail
  go_ret
  exact ⟨rfl, HK.out⟩
set_option maxRecDepth 100000 in
theorem dot_fn (w : World) (O : Nat → Prop) : FnT w O (.func (.func 58) #[] #[]) (fun c => decide (c ≠ 10)) := by
  refine ⟨58, #[], rfl, enters_of Try.func58 (by kernel_rfl) (by kernel_rfl), fun W _ c _ => ?_⟩
  obtain ⟨t, ht⟩ : ∃ t, t = decide (c ≠ 10) := ⟨_, rfl⟩
  have e : ((c : Int) != 10) = t := by
    rw [ht, Bool.eq_iff_iff, bne_iff_ne, decide_eq_true_eq]
    omega
  show Calls Try.prog 58 #[.int .i32 (c : Int)] W fun e w' => e = .returned (.bool (decide (c ≠ 10))) ∧ Kp [] W w'
  rw [← ht]
  have HT := hid e
  clear e ht
  go_enter Try.func58, Try.ntmps58
  go_wp2_with fail
  go_ret
  exact ⟨by rw [← HT.out]; rfl, Kp.refl _ _⟩
set_option maxRecDepth 100000 in
theorem bol_fn (w : World) (O : Nat → Prop) : FnW w O (.func (.func 60) #[] #[]) (fun i _ => decide (i = 0)) := by
  refine ⟨60, #[], rfl, enters_of Try.func60 (by kernel_rfl) (by kernel_rfl), fun W _ i n _ _ => ?_⟩
  obtain ⟨t, ht⟩ : ∃ t, t = decide (i = 0) := ⟨_, rfl⟩
  have e : ((i : Int) == 0) = t := by
    rw [ht, Bool.eq_iff_iff, beq_iff_eq, decide_eq_true_eq]
    omega
  show Calls Try.prog 60 #[.int .i64 (i : Int), .int .i64 (n : Int)] W fun e w' => e = .returned (.bool (decide (i = 0))) ∧ Kp [] W w'
  rw [← ht]
  have HT := hid e
  clear e ht
  go_enter Try.func60, Try.ntmps60
  go_wp2_with fail
  go_ret
  exact ⟨by rw [← HT.out]; rfl, Kp.refl _ _⟩
set_option maxRecDepth 100000 in
theorem eol_fn (w : World) (O : Nat → Prop) : FnW w O (.func (.func 61) #[] #[]) (fun i n => decide (i = n)) := by
  refine ⟨61, #[], rfl, enters_of Try.func61 (by kernel_rfl) (by kernel_rfl), fun W _ i n _ _ => ?_⟩
  obtain ⟨t, ht⟩ : ∃ t, t = decide (i = n) := ⟨_, rfl⟩
  have e : ((i : Int) == (n : Int)) = t := by
    rw [ht, Bool.eq_iff_iff, beq_iff_eq, decide_eq_true_eq]
    omega
  show Calls Try.prog 61 #[.int .i64 (i : Int), .int .i64 (n : Int)] W fun e w' => e = .returned (.bool (decide (i = n))) ∧ Kp [] W w'
  rw [← ht]
  have HT := hid e
  clear e ht
  go_enter Try.func61, Try.ntmps61
  go_wp2_with fail
  go_ret
  exact ⟨by rw [← HT.out]; rfl, Kp.refl _ _⟩
end Go.Proofs.Ytaaikjedagnjbaa

/- A reader while its machine is written. -/
namespace Go.Proofs.Ytaaikjedagnjbaa
open Go Go.RowKit Go.Lib

/-- Only the machine's blocks were written: the reader is as it was. -/
theorem RdAt.under {w w' : World} {rb mb d : Nat} {N E : Nat → Prop} {L : List Nat} {bad : Bool} (h : RdAt w rb mb N L d bad) (k : Kq E w w') (hr : ¬ E rb) (hN : ∀ x, N x → ¬ E x) : RdAt w' rb mb N L d bad := by
  obtain ⟨A, c, hc, hs, h1, h2, h3⟩ := h.ex
  obtain ⟨S, hS, kp⟩ := k
  exact ⟨A, c, hc.keep kp (fun hm => hr (hS rb hm)), hs.keep kp (fun ad e hm => hN _ (h3 ad e).1 (hS _ hm)), h1, h2, h3⟩
theorem RdAt.kq {w w' : World} {rb mb d : Nat} {N : Nat → Prop} {L : List Nat} {bad : Bool} (h : RdAt w rb mb N L d bad) {S : List Nat} (k : Kp S w w') (hr : rb ∉ S) (hN : ∀ x, N x → x ∉ S) : RdAt w' rb mb N L d bad := by
  obtain ⟨A, c, hc, hs, h1, h2, h3⟩ := h.ex
  exact ⟨A, c, hc.keep k hr, hs.keep k (fun ad e hm => hN _ (h3 ad e).1 hm), h1, h2, h3⟩
end Go.Proofs.Ytaaikjedagnjbaa

/- The reader's one. -/
namespace Go.Proofs.Ytaaikjedagnjbaa
open Go Go.RowKit Go.Lib

set_option maxRecDepth 100000 in
set_option maxHeartbeats 6400000 in
theorem one_any (w : World) (rb mb : Nat) (N E R : Nat → Prop) (M : List St) (L : List Nat) (d : Nat) (bad : Bool) (h : MachAt w mb E R M) (hM : M.length ≤ 900000) (hR : ∀ x, R x → x < w.heap.size) (hrd : RdAt w rb mb N L d bad) (x : Nat) :
    Calls Try.prog 63 #[.pointer (some ⟨rb, 0, none⟩), .int .i32 (x : Int)] w fun e w' => e = .returned (.agg #[.int .i64 ((M.length + 1 : Nat) : Int), .int .i64 (M.length : Int)]) ∧ ∃ E', MachAt w' mb E' R (M ++ [⟨none, none, []⟩, { (⟨none, none, [M.length]⟩ : St) with tk := some fun c => decide (c = x) }]) ∧ Grew w E w' E' := by
  have hmf : ∀ (fn : Fn) (first cap : Array Value) (w : World), (Instr.makeFunc fn first cap).run Try.prog w = .ok (.func fn first cap) w := fun _ _ _ _ => rfl
  obtain ⟨w2, hw2⟩ : ∃ w2, w2 = (w.alloc (.cells #[.int .i32 (x : Int)] 21)).alloc (.cells #[.int .i64 0, .int .i64 0] 50) := ⟨_, rfl⟩
  have k2 : Kp [] w w2 := by rw [hw2]; exact ((Kp.refl _ _).alloc _).alloc _
  have s2 : w2.heap.size = w.heap.size + 2 := by rw [hw2]; simp
  have hb2 : Cells w2 w.heap.size 21 [.int .i32 (x : Int)] := by rw [hw2]; exact (Cells.fresh w 21 _).alloc _
  have hc2 : Cells w2 (w.heap.size + 1) 50 [.int .i64 0, .int .i64 0] := by rw [hw2]; exact Cells.fresh1 w _ 50 _
  obtain ⟨gb, hgb⟩ : ∃ g, g = w.heap.size := ⟨_, rfl⟩
  obtain ⟨gc, hgc⟩ : ∃ g, g = w.heap.size + 1 := ⟨_, rfl⟩
  have h1 : MachAt w2 mb E (fun x => R x ∨ x = gc) M := h.move (Kq.of k2) hR (fun x hx => by
    rcases hx with hx | hx
    · exact .inl hx
    · exact .inr (by omega))
  have hR1 : ∀ x, (R x ∨ x = gc) → x < w2.heap.size := fun x hx => by
    rcases hx with hx | hx
    · have := hR x hx; omega
    · omega
  have hgE : ¬ E gc := fun hh => absurd (h.lt _ hh) (by omega)
  have hbO : ¬ (E gb ∨ (R gb ∨ gb = gc)) := fun hh => by
    rcases hh with hh | hh | hh
    · exact absurd (h.lt _ hh) (by omega)
    · exact absurd (hR _ hh) (by omega)
    · omega
  rw [← hgb] at hb2
  rw [← hgc] at hc2
  have hf := one1_fn w2 (fun x => E x ∨ (R x ∨ x = gc)) gb x (hb2.cell 0) hbO (by omega)
  have q := mrune_any w2 mb E _ M h1 hM hR1 _ _ hf
  obtain ⟨n, hn⟩ : ∃ n, n = M.length := ⟨_, rfl⟩
  rw [← hn] at q ⊢
  obtain ⟨A, c, hcr, -, -, -, -⟩ := (hrd.kept k2).ex
  have r0 := hcr.cell 0
  simp only [List.getElem?_cons_zero] at r0
  have hgw : w.heap.size ≤ gc := by omega
  have HM := hid (And.intro hR1 (And.intro hgw (And.intro k2 (And.intro hc2 (And.intro hgE hn)))))
  have HW2 := hid hw2
  have HGB := hid hgb
  have HGC := hid hgc
  clear h h1 hM hR hrd hf hbO hgE hR1 hb2 hc2 s2 k2 hw2 hcr hgw hn
  go_enter Try.func63, Try.ntmps63
  go_upto_region 1 with fail
  rw [← HW2.out]
  try rw [← HGC.out]
  try rw [← HGB.out]
  clear HW2 HGC HGB hgb hgc
  go_wp2_with fail
  (with_reducible refine q.mono ?_)
  clear q
  rintro e w3 ⟨rfl, E1, m1, g1⟩
  have hc3 := g1.kq.cells HM.out.2.2.2.1 HM.out.2.2.2.2.1
  obtain ⟨w4, hw4⟩ : ∃ w4, w4 = (w3.setCell ⟨gc, 0, none⟩ (.int .i64 ((n : Int) + 1))).setCell ⟨gc, 1, none⟩ (.int .i64 (n : Int)) := ⟨_, rfl⟩
  have k4 : Kp [gc] w3 w4 := by rw [hw4]; exact ((Kp.refl _ _).setCell (fun _ => by simp) _).setCell (fun _ => by simp) _
  have c4 : Cells w4 gc 50 [.int .i64 ((n : Int) + 1), .int .i64 (n : Int)] := by rw [hw4]; exact (hc3.put 0 _).put 1 _
  have hR3 : ∀ x, (R x ∨ x = gc) → x < w3.heap.size := fun x hx => Nat.lt_of_lt_of_le (HM.out.1 x hx) g1.kq.size
  have m4 : MachAt w4 mb E1 R _ := (m1.move ⟨[gc], fun x hx => .inr (List.mem_singleton.1 hx), k4⟩ hR3 (fun x hx => .inl hx)).move (Kq.refl _ _) (fun x hx => Nat.lt_of_lt_of_le (hR3 x hx) k4.size) (fun x hx => .inl (.inl hx))
  have g4 : Grew w E w4 E1 := by
    have g0 := Grew.after HM.out.2.2.1 g1
    obtain ⟨S, hS, kk⟩ := g0.kq
    exact ⟨g0.own, S, hS, kk.fresh k4 HM.out.2.1⟩
  have HE := hid (And.intro m4 g4)
  have HC4 := hid c4
  have HY := hid hw4
  have y0 := hc3.cell 0
  have y1 := hc3.cell 1
  have f0 := hc3.free 0
  have f1 := hc3.free 1
  simp only [List.getElem?_cons_zero, List.getElem?_cons_succ] at y0 y1
  clear m4 g4 c4 k4 hw4 hc3 hR3 m1 g1 r0
  go_wp2_with fail
  rw [← HY.out]
  exact bodyPost_ret (results_cell_row rfl _ _ gc 50 _ _ _ rfl HC4.out Try.underlying50 rfl (by kernel_rfl)) rfl ⟨rfl, E1, HE.out⟩
end Go.Proofs.Ytaaikjedagnjbaa

