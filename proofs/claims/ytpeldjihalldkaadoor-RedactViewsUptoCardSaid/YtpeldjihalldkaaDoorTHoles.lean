/- Holes. -/
import Derived.Test.YtpeldjihalldkaaDoorTWalk2
namespace Go.Proofs.YtpeldjihalldkaaDoor
open Go Go.RowKit Go.Lib

/-- Places in memory: a slice of them, to read. -/
def PlacesV (w : World) (v : Value) (l : List (List Stp)) : Prop := ∃ vs, Own w 40 v l.length vs ∧ ∀ (i : Nat) s p, vs[i]? = some s → l[i]? = some p → StepsAt w (fun _ => True) s p
theorem PlacesV.kept {w w' : World} {v : Value} {l : List (List Stp)} (h : PlacesV w v l) (k : Kp [] w w') : PlacesV w' v l := by
  obtain ⟨vs, h1, h2⟩ := h
  exact ⟨vs, h1.kept k, fun i s p hs hp => (h2 i s p hs hp).kept k⟩
set_option maxRecDepth 100000 in
set_option maxHeartbeats 6400000 in
theorem holes_any {w : World} {v : Vl} {cs : List Value} (h : Rep w v cs) (hf : FineV v) (hz : sizeV v ≤ 1000000) (W : World) (hK : Kp [] w W) (cl : Nat) (hcl : cl < 18446744073709551616) :
    Calls Tryd.prog 14 #[.agg cs.toArray, .int .u64 (cl : Int)] W fun e w' => ∃ vp, e = .returned vp ∧ PlacesV w' vp (holesL cl [] v) ∧ Kp [] W w' := by
  have qw := walk_any h hf
  obtain ⟨ak, am, an, ad, az, ax, aA, ank, ack, aB, anb, acb, aco, e1⟩ := h.isV
  rw [e1] at qw ⊢
  obtain ⟨L, hL⟩ : ∃ L, L = holesL cl [] v := ⟨_, rfl⟩
  rw [← hL]
  obtain ⟨W2, hW2⟩ : ∃ W2, W2 = (W.alloc (.cells #[.int .i64 ak, .int .u64 am, .bool an, .string ad, .int .i64 az, .string ax, .slice aA ank ack, .slice aB anb acb, .int .i64 aco] 31)).alloc (.cells #[.slice none 0 0] 34) := ⟨_, rfl⟩
  have hk2 : Kp [] W W2 := by rw [hW2]; exact ((Kp.refl _ _).alloc _).alloc _
  have hcb : Cells W2 (W.heap.size + 1) 34 [.slice none 0 0] := by rw [hW2]; exact Cells.fresh1 W _ 34 _
  have hled : Led W2 (W.heap.size + 1) none [] := ⟨.slice none 0 0, [], hcb, rfl, by simp, Own.nil _ _, fun i s p hs _ => by cases hs⟩
  have hws := hK.size
  have q := qw W2 (W.heap.size + 1) none [] (.slice none 0 0) [] cl (hK.nil hk2) (by omega) (by simp) hled (StepsAt.nil _ _) (by simpa using hz) (by simpa using hz) hcl
  rw [← hL] at q
  have hmf : ∀ (fn : Fn) (first cap : Array Value) (w : World), (Instr.makeFunc fn first cap).run Tryd.prog w = .ok (.func fn first cap) w := fun _ _ _ _ => rfl
  have HW2 := hid hW2
  have HK2 := hid hk2
  clear h hf hz hK hcl qw e1 hL hW2 hk2 hcb hled hws
  go_enter Tryd.func14, Tryd.ntmps14
  go_wp2_with fail
  try rw [← HW2.out]
  (with_reducible refine q.mono ?_)
  rintro e w3 ⟨rfl, G', hl, k3, lt3⟩
  obtain ⟨vp, vs, hc, -, -, ho, hst⟩ := hl.ex
  have x0 := hc.cell 0
  simp only [List.getElem?_cons_zero] at x0
  have hkE : Kp [] W w3 := HK2.out.trans k3 (fun x hx hlt => by
    rcases List.mem_cons.1 hx with e | e
    · omega
    · cases e)
  have HE := hid (And.intro hkE (And.intro ho hst))
  clear hkE ho hst hc hl k3 lt3 q
  go_wp2_with fail
  go_ret
  exact ⟨vp, rfl, ⟨vs, by simpa using HE.out.2.1, fun i s p hs hp => (HE.out.2.2 i s p hs (by simpa using hp)).mono (fun _ _ _ => True.intro)⟩, HE.out.1⟩
end Go.Proofs.YtpeldjihalldkaaDoor
