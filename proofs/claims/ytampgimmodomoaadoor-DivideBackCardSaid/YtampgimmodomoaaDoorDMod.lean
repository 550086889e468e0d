/- Mod of layer 2. -/
import Derived.Test.YtampgimmodomoaaDoorDDiv
import Derived.Test.YtampgimmodomoaaDoorDRSub
namespace Go.Proofs.YtampgimmodomoaaDoor
open Go Go.RowKit Go.Lib

theorem far_cells {w : World} {g r : Nat} {t : TypeId} {cs : List Value} (a b c : Value) (h : Cells w g t cs) (hne : g ≠ r) : Cells (((w.setCell ⟨r, 0, none⟩ a).setCell ⟨r, 1, none⟩ b).setCell ⟨r, 2, none⟩ c) g t cs :=
  ((h.other (p := ⟨r, 0, none⟩) hne a).other (p := ⟨r, 1, none⟩) hne b).other (p := ⟨r, 2, none⟩) hne c
set_option maxRecDepth 100000 in
set_option maxHeartbeats 3200000 in
theorem mclos_any (w : World) (neg : Bool) (D : List UInt8) (hl : D.length ≤ 1000) (s S b : Nat) (hs : s ≤ S) (hS : S ≤ 1000) (hc : w.cell? ⟨b, 0, none⟩ = some (.int .i64 (S : Int))) :
    Calls Tryd.prog 81 #[.agg #[.bool neg, .string ⟨D.toArray⟩, .int .i64 (s : Int)], .pointer (some ⟨b, 0, none⟩)] w fun e w' => e = .returned (.string ⟨(D ++ List.replicate (S - s) 48).toArray⟩) ∧ Kp [] w w' := by
  obtain ⟨n, hn⟩ : ∃ n, n = S - s := ⟨_, rfl⟩
  rw [← hn]
  have hw : IntKind.i64.wrap ((S : Int) - (s : Int)) = (n : Int) := by rw [IntWalk.i64_in _ (by omega)]; omega
  have qR := fun X => repeat_any X n (by omega)
  have hadd := fun X => run_add_text (P := Tryd.prog) D (List.replicate n 48) (D ++ List.replicate n 48) rfl (by rw [List.length_replicate]; omega) X
  obtain ⟨Z, hZ⟩ : ∃ Z : List UInt8, Z = List.replicate n 48 := ⟨_, rfl⟩
  simp only [← hZ] at qR hadd ⊢
  obtain ⟨J, hJ⟩ : ∃ J, J = D ++ Z := ⟨_, rfl⟩
  simp only [← hJ] at hadd ⊢
  have hC := Cells.fresh w 23 [.bool neg, .string ⟨D.toArray⟩, .int .i64 (s : Int)]
  have x1 : _ = some (Value.string ⟨D.toArray⟩) := hC.cell 1
  have x2 : _ = some (Value.int .i64 (s : Int)) := hC.cell 2
  have k0 := (Kp.refl [] w).alloc (.cells #[.bool neg, .string ⟨D.toArray⟩, .int .i64 (s : Int)] 23)
  have x3 := k0.cell hc (by simp)
  have HK := hid k0
  clear hn hZ hJ hl hs hS hC k0 hc
  go_enter Tryd.func81, Tryd.ntmps81
  go_wp2_with fail
  refine lin_start (fun w' => w'.cell? ⟨w.heap.size, 1, none⟩ = some (Value.string ⟨D.toArray⟩) ∧ w'.cell? ⟨w.heap.size, 2, none⟩ = some (Value.int .i64 (s : Int)) ∧ w'.cell? ⟨b, 0, none⟩ = some (Value.int .i64 (S : Int))) ((Stays.cell _ _).and ((Stays.cell _ _).and ((Stays.cell _ _)))) (by kernel_rfl) ⟨x1, x2, x3⟩ (fun hSS hS => ?_)
  refine lin_val (i := 0) (v := ?_) rfl (by kernel_rfl) (by kernel_rfl) (by kernel_rfl) (fun _ _ _ h => h) hSS hS rfl (fun w hSw => ?_) ?_
  rotate_left
  · obtain ⟨q0, q1, q2⟩ := hSw; go_simp; first | done | with_reducible rfl
  simp only [Act.put, List.setIfInBounds_toArray, List.set_cons_zero, List.set_cons_succ]
  refine lin_val (i := 1) (v := ?_) rfl (by kernel_rfl) (by kernel_rfl) (by kernel_rfl) (fun _ _ _ h => h) hSS hS rfl (fun w hSw => ?_) ?_
  rotate_left
  · obtain ⟨q0, q1, q2⟩ := hSw; go_simp; first | done | with_reducible rfl
  simp only [Act.put, List.setIfInBounds_toArray, List.set_cons_zero, List.set_cons_succ]
  refine lin_val (i := 2) (v := ?_) rfl (by kernel_rfl) (by kernel_rfl) (by kernel_rfl) (fun _ _ _ h => h) hSS hS rfl (fun w hSw => ?_) ?_
  rotate_left
  · obtain ⟨q0, q1, q2⟩ := hSw; go_simp; first | done | with_reducible rfl
  simp only [Act.put, List.setIfInBounds_toArray, List.set_cons_zero, List.set_cons_succ]
  refine lin_val (i := 3) (v := ?_) rfl (by kernel_rfl) (by kernel_rfl) (by kernel_rfl) (fun _ _ _ h => h) hSS hS rfl (fun w hSw => ?_) ?_
  rotate_left
  · obtain ⟨q0, q1, q2⟩ := hSw; go_simp; first | done | with_reducible rfl
  simp only [Act.put, List.setIfInBounds_toArray, List.set_cons_zero, List.set_cons_succ]
  refine lin_val (i := 4) (v := ?_) rfl (by kernel_rfl) (by kernel_rfl) (by kernel_rfl) (fun _ _ _ h => h) hSS hS rfl (fun w hSw => ?_) ?_
  rotate_left
  · obtain ⟨q0, q1, q2⟩ := hSw; go_simp; first | done | with_reducible rfl
  simp only [Act.put, List.setIfInBounds_toArray, List.set_cons_zero, List.set_cons_succ]
  refine lin_val (i := 5) (v := ?_) rfl (by kernel_rfl) (by kernel_rfl) (by kernel_rfl) (fun _ _ _ h => h) hSS hS rfl (fun w hSw => ?_) ?_
  rotate_left
  · obtain ⟨q0, q1, q2⟩ := hSw; go_simp; first | done | with_reducible rfl
  simp only [Act.put, List.setIfInBounds_toArray, List.set_cons_zero, List.set_cons_succ]
  refine lin_call (i := 6) rfl (by kernel_rfl) (by kernel_rfl) (by kernel_rfl) (fun _ _ _ h => h) hSS hS rfl (fun w _ => qR w) (fun w hSw => ?_) ?_
  · obtain ⟨q0, q1, q2⟩ := hSw; go_simp
  simp only [Act.put, List.setIfInBounds_toArray, List.set_cons_zero, List.set_cons_succ]
  refine lin_val (i := 7) (v := ?_) rfl (by kernel_rfl) (by kernel_rfl) (by kernel_rfl) (fun _ _ _ h => h) hSS hS rfl (fun w hSw => ?_) ?_
  rotate_left
  · obtain ⟨q0, q1, q2⟩ := hSw; go_simp; first | done | with_reducible rfl
  simp only [Act.put, List.setIfInBounds_toArray, List.set_cons_zero, List.set_cons_succ]
  refine lin_val (i := 8) (v := ?_) rfl (by kernel_rfl) (by kernel_rfl) (by kernel_rfl) (fun _ _ _ h => h) hSS hS rfl (fun w hSw => ?_) ?_
  rotate_left
  · obtain ⟨q0, q1, q2⟩ := hSw; go_simp; first | done | with_reducible rfl
  simp only [Act.put, List.setIfInBounds_toArray, List.set_cons_zero, List.set_cons_succ]
  refine lin_done (by kernel_rfl) (fun wn kn => ?_) _
  clear hS hSS
  go_wp2_with fail
  go_ret
  exact ⟨rfl, (HK.out.drew).nil kn⟩
theorem mod_zero_any (w : World) (a b : Dc) (hb0 : b.n = 0) :
    Calls Tryd.prog 39 #[.agg #[.bool a.neg, .string ⟨(dtxt a.n).toArray⟩, .int .i64 (a.s : Int)], .agg #[.bool b.neg, .string ⟨(dtxt b.n).toArray⟩, .int .i64 (b.s : Int)]] w fun e w' => e = .returned (.tuple #[.agg #[.bool false, .string ⟨#[]⟩, .int .i64 0], .int .i64 5]) ∧ Kp [] w w' := by
  have hB : dtxt b.n = [48] := by rw [hb0]; rfl
  rw [hB]
  obtain ⟨A, hA⟩ : ∃ A, A = dtxt a.n := ⟨_, rfl⟩
  rw [← hA]
  clear hA hB hb0
  have HK := hid ((((Kp.refl [] w).alloc (.cells #[.bool a.neg, .string ⟨A.toArray⟩, .int .i64 (a.s : Int)] 23)).alloc (.cells #[.bool b.neg, .string ⟨#[48]⟩, .int .i64 (b.s : Int)] 23)).alloc (.cells #[.bool false, .string ⟨#[]⟩, .int .i64 0] 23))
  go_enter Tryd.func39, Tryd.ntmps39
  go_wp2_with fail
  exact bodyPost_ret (v := .tuple #[.agg #[.bool false, .string ⟨#[]⟩, .int .i64 0], .int .i64 5]) (by simp [results, Tryd.results39, go_sem]) rfl ⟨rfl, HK.out⟩
set_option maxRecDepth 100000 in
set_option maxHeartbeats 12800000 in
theorem mod_any (w : World) (a b : Dc) (ha : Ok a) (hb : Ok b) (hb0 : b.n ≠ 0) :
    Calls Tryd.prog 39 #[.agg #[.bool a.neg, .string ⟨(dtxt a.n).toArray⟩, .int .i64 (a.s : Int)], .agg #[.bool b.neg, .string ⟨(dtxt b.n).toArray⟩, .int .i64 (b.s : Int)]] w (MadePost w (modD a b)) := by
  obtain ⟨A, hA, dA, lA, lA0, vA, -⟩ := dec_letters ha
  obtain ⟨B, hB, dB, lB, lB0, vB, hB48⟩ := dec_letters hb
  have hsa := ha.2.1
  have hsb := hb.2.1
  have hbB : (B == [48]) = false := by rw [beq_eq_false_iff_ne]; exact fun e => hb0 (hB48.1 e)
  obtain ⟨R0, hR⟩ : ∃ R, R = modD a b := ⟨_, rfl⟩
  have hRD := hR.trans (mod_scale a b)
  rw [← hR, ← hA, ← hB]
  obtain ⟨S, hS⟩ : ∃ S, S = max a.s b.s := ⟨_, rfl⟩
  obtain ⟨na, hna⟩ : ∃ x, x = a.neg := ⟨_, rfl⟩
  obtain ⟨nb, hnb⟩ : ∃ x, x = b.neg := ⟨_, rfl⟩
  obtain ⟨sa, hsaD⟩ : ∃ x, x = a.s := ⟨_, rfl⟩
  obtain ⟨sb, hsbD⟩ : ∃ x, x = b.s := ⟨_, rfl⟩
  rw [← hS, ← hna, ← hsaD, ← hsbD] at hRD
  rw [← hna, ← hnb, ← hsaD, ← hsbD]
  rw [← hsaD] at hsa hS
  rw [← hsbD] at hsb hS
  obtain ⟨AD, hAD⟩ : ∃ D, D = A ++ List.replicate (S - sa) 48 := ⟨_, rfl⟩
  obtain ⟨BD, hBD⟩ : ∃ D, D = B ++ List.replicate (S - sb) 48 := ⟨_, rfl⟩
  have vAD : val AD = a.n * 10 ^ (S - sa) := by rw [hAD, val_zeros_end, vA]
  have vBD : val BD = b.n * 10 ^ (S - sb) := by rw [hBD, val_zeros_end, vB]
  rw [← vAD, ← vBD] at hRD
  have dAD : Digs AD := by rw [hAD]; exact dA.append (Digs.zeros _)
  have dBD : Digs BD := by rw [hBD]; exact dB.append (Digs.zeros _)
  have lAD : AD.length ≤ 120 := by rw [hAD, List.length_append, List.length_replicate]; omega
  have lBD : BD.length ≤ 120 := by rw [hBD, List.length_append, List.length_replicate]; omega
  have hy0 : 0 < val BD := by rw [vBD]; exact Nat.mul_pos (Nat.pos_of_ne_zero hb0) (n10 _)
  have qa := fun W b hc => mclos_any W na A (by omega) sa S b (by omega) (by omega) hc
  have qb := fun W b hc => mclos_any W nb B (by omega) sb S b (by omega) (by omega) hc
  simp only [← hAD] at qa
  simp only [← hBD] at qb
  obtain ⟨y, hy⟩ : ∃ y, y = val BD := ⟨_, rfl⟩
  rw [← hy] at hRD hy0
  obtain ⟨T, hT⟩ : ∃ T, T = BD.length + 1 := ⟨_, rfl⟩
  have hyT : y < 10 ^ (T - 1) := by rw [hT, Nat.add_sub_cancel, hy]; exact val_lt BD dBD
  have qd := fun W => divides_any W BD dBD (by omega)
  rw [← hT, ← hy] at qd
  have T9 : T ≤ 121 := by omega
  have hT0 : 0 < T := by omega
  have Hqx := hid (fun W0 W gd gl ob x O c hc hO hx h => next_any W0 W gd gl ob T y x O c hc hT0 (by omega) hO hyT hx h)
  have HR := hid hRD
  have HA := hid (And.intro dAD (And.intro hy0 (And.intro hyT lAD)))
  have hmx : max (sa : Int) (sb : Int) = (S : Int) := by omega
  have hS9 : S ≤ 60 := by omega
  obtain ⟨N, hN⟩ : ∃ N, N = AD.length := ⟨_, rfl⟩
  have hcv := fun W => conv_bytes W AD N hN
  have HN := hid hN
  have hN9 : N ≤ 120 := by rw [hN]; exact lAD
  have hmf : ∀ (fn : Fn) (first cap : Array Value) (w : World), (Instr.makeFunc fn first cap).run Tryd.prog w = .ok (.func fn first cap) w := fun _ _ _ _ => rfl
  clear hA hB dA dB vA vB hB48 hR hRD hy hy0 hT hyT hna hnb hsaD hsbD vAD vBD dAD dBD lAD lBD hAD hBD hN hS
  go_enter Tryd.func39, Tryd.ntmps39
  go_wp2_with fail
  obtain ⟨W0, hW0⟩ : ∃ W0, W0 = ((((w.alloc (.cells #[.bool na, .string ⟨A.toArray⟩, .int .i64 (sa : Int)] 23)).alloc (.cells #[.bool nb, .string ⟨B.toArray⟩, .int .i64 (sb : Int)] 23)).alloc (.cells #[.bool false, .string ⟨#[]⟩, .int .i64 0] 23)).alloc (.cells #[.int .i64 (S : Int)] 3)) := ⟨_, rfl⟩
  have hK0 : Kp [] w W0 := by rw [hW0]; exact ((((Kp.refl _ _).alloc _).alloc _).alloc _).alloc _
  have hC0 : Cells W0 w.heap.size 23 [.bool na, .string ⟨A.toArray⟩, .int .i64 (sa : Int)] := by rw [hW0]; exact (((Cells.fresh w 23 _).alloc _).alloc _).alloc _
  have hC1 : Cells W0 (w.heap.size + 1) 23 [.bool nb, .string ⟨B.toArray⟩, .int .i64 (sb : Int)] := by rw [hW0]; exact ((Cells.fresh1 w _ 23 _).alloc _).alloc _
  have hC2 : Room (w.heap.size + 1 + 1) W0 := by
    rw [hW0]
    have := (Cells.fresh1 (w.alloc (.cells #[.bool na, .string ⟨A.toArray⟩, .int .i64 (sa : Int)] 23)) (.cells #[.bool nb, .string ⟨B.toArray⟩, .int .i64 (sb : Int)] 23) 23 [.bool false, .string ⟨#[]⟩, .int .i64 0]).alloc (.cells #[.int .i64 (S : Int)] 3)
    exact ⟨_, by simpa using this, rfl⟩
  have hC3 : Cells W0 (w.heap.size + 1 + 1 + 1) 3 [.int .i64 (S : Int)] := by
    rw [hW0]
    have := Cells.fresh1 ((w.alloc (.cells #[.bool na, .string ⟨A.toArray⟩, .int .i64 (sa : Int)] 23)).alloc (.cells #[.bool nb, .string ⟨B.toArray⟩, .int .i64 (sb : Int)] 23)) (.cells #[.bool false, .string ⟨#[]⟩, .int .i64 0] 23) 3 [.int .i64 (S : Int)]
    simpa using this
  rw [← hW0]
  have c3 : W0.cell? ⟨w.heap.size + 1 + 1 + 1, 0, none⟩ = some (.int .i64 (S : Int)) := hC3.cell 0
  have H0 := hid (And.intro hK0 (And.intro hC0 (And.intro hC1 (And.intro hC2 hC3))))
  have hqb := qb W0 _ c3
  clear hK0 hC0 hC1 hC2 hC3 hW0 qb c3
  (with_reducible refine (hqb).mono ?_)
  rintro e w1 ⟨rfl, k1⟩
  have K1 := hid k1
  clear hqb k1
  go_wp2_with fail
  (with_reducible refine (qd _).mono ?_)
  rintro e w2 ⟨gd, gl, rfl, hQ⟩
  have hk2 := K1.out.nil hQ.kp
  have c0 := H0.out.2.1.keep hk2 (by simp)
  have a0 : w2.cell? ⟨w.heap.size, 0, none⟩ = _ := c0.cell 0
  have a1 : w2.cell? ⟨w.heap.size, 1, none⟩ = _ := c0.cell 1
  have a2 : w2.cell? ⟨w.heap.size, 2, none⟩ = _ := c0.cell 2
  simp only [List.getElem?_cons_zero, List.getElem?_cons_succ] at a0 a1 a2
  have c3 : w2.cell? ⟨w.heap.size + 1 + 1 + 1, 0, none⟩ = some (.int .i64 (S : Int)) := (H0.out.2.2.2.2.keep hk2 (by simp)).cell 0
  have hqa := qa w2 _ c3
  have HQ := hid hQ
  clear qd qa c0 hk2 c3 hQ
  go_wp2_with fail
  (with_reducible refine (hqa).mono ?_)
  rintro e w3 ⟨rfl, k3⟩
  have hQ3 := HQ.out.kept (k3.nil (kp_bytes w3 ⟨AD.toArray⟩))
  have hcell : ∀ j (h : j < AD.length), (bytesWorld w3 5 ⟨AD.toArray⟩).cell? ⟨w3.heap.size, j, none⟩ = some (.int .u8 (AD[j].toNat : Int)) := fun j h => bytes_cell w3 AD j h
  obtain ⟨W4, hW4⟩ : ∃ W4, W4 = bytesWorld w3 5 ⟨AD.toArray⟩ := ⟨_, rfl⟩
  have hlt4 : w3.heap.size < W4.heap.size := by rw [hW4, bytesWorld_size]; omega
  rw [← hW4] at hQ3
  simp only [← hW4] at hcell
  have hcv3 : (convert 9 32 (.string ⟨AD.toArray⟩)).run Tryd.prog w3 = .ok (.slice (some ⟨w3.heap.size, 0, none⟩) N (grownCap w3 N 0 5)) W4 := by rw [hW4]; exact hcv w3
  obtain ⟨gB, hgB⟩ : ∃ g, g = w3.heap.size := ⟨_, rfl⟩
  obtain ⟨cap, hcap⟩ : ∃ c, c = grownCap w3 N 0 5 := ⟨_, rfl⟩
  rw [← hgB, ← hcap] at hcv3
  rw [← hgB] at hcell hlt4
  obtain ⟨hgd, hgl⟩ := HQ.out.lt
  have hsz : w2.heap.size ≤ gB := by rw [hgB]; exact k3.size
  have H4 := hid (And.intro hQ3 hcell)
  clear hqa k3 hQ3 hcell hW4 hgB hcap hcv a0 a1 a2
  go_wp2_with fail
  clear hcv3
  go_loopw [30] (fun v wr => ∃ (k x : Nat) (O : List UInt8) (ob : Option Nat), v = .int .i64 (k : Int) ∧ k ≤ N ∧ DivQ w1 wr gd gl ob T y x O ∧ LongI y (AD.take k) O x ∧ ob ≠ some gB ∧ gB < wr.heap.size ∧ ∀ j (h : j < AD.length), wr.cell? ⟨gB, j, none⟩ = some (.int .u8 (AD[j].toNat : Int))) (fun v _ => N - (intOf v).toNat)
  case atStart => exact ⟨0, 0, [], none, rfl, Nat.zero_le _, H4.out.1, by rw [List.take_zero]; exact LongI.start HA.out.2.1, nofun, hlt4, H4.out.2⟩
  case round =>
    obtain ⟨k, x, O, ob, rfl, hk, hQ, hL, hob, hsz4, hcl⟩ := hrel
    by_cases hlt : k < N
    · have hkA : k < AD.length := by rw [← HN.out]; exact hlt
      have hc := hcl k hkA
      have htk := List.take_append_getElem hkA
      have hcd : Dig AD[k] := HA.out.1 _ (List.getElem_mem hkA)
      obtain ⟨c, hcD⟩ : ∃ c, c = AD[k] := ⟨_, rfl⟩
      rw [← hcD] at hc htk hcd
      obtain ⟨hL2, _, _⟩ := hL.next hcd
      rw [htk] at hL2
      have hOl := hL.2.1
      rw [List.length_take] at hOl
      have qn := Hqx.out w1 wr gd gl ob x O c hcd (by have := HA.out.2.2.2; omega) hL.2.2.2 hQ
      have hcd2 := hcd
      unfold Dig at hcd2
      obtain ⟨m, hm⟩ : ∃ m, m = c.toNat := ⟨_, rfl⟩
      rw [← hm] at hc hcd2
      have hxm : Hid (∀ W, W = wr → Calls Tryd.prog 70 #[.pointer (some ⟨gd, 0, none⟩), .int .u8 (m : Int)] W fun e w' => e = .returned (.tuple #[]) ∧ ∃ ob', DivQ w1 w' gd gl ob' T y ((x * 10 + (c.toNat - 48)) % y) (O ++ [dg ((x * 10 + (c.toNat - 48)) / y)]) ∧ Kp (gd :: gl :: ob.toList) wr w' ∧ (ob' = ob ∨ ∃ n, ob' = some n ∧ wr.heap.size ≤ n)) := hid (fun W hW => by rw [hW, hm]; exact qn)
      have HH := hid (And.intro hL2 (And.intro hob (And.intro hsz4 hcl)))
      clear qn hL2 hob hsz4 hcl hQ hL hOl htk hcD hm hcd
      go_wp2_with fail
      (with_reducible refine (hxm.out _ rfl).mono ?_)
      rintro e w5 ⟨rfl, ob', hQ5, hk5, hob5⟩
      have hcl5 : ∀ j (h : j < AD.length), w5.cell? ⟨gB, j, none⟩ = some (.int .u8 (AD[j].toNat : Int)) := fun j h => hk5.cell (HH.out.2.2.2 j h) (by
        intro hm
        rcases List.mem_cons.1 hm with h | hm
        · simp at h; omega
        · rcases List.mem_cons.1 hm with h | hm
          · simp at h; omega
          · exact HH.out.2.1 (by simpa using hm))
      have hob6 : ob' ≠ some gB := by
        rcases hob5 with h | ⟨n, h, hn⟩
        · rw [h]; exact HH.out.2.1
        · rw [h]; intro e; injection e with e; have := HH.out.2.2.1; omega
      have H5 := hid (And.intro hQ5 (And.intro hob6 (And.intro (Nat.lt_of_lt_of_le HH.out.2.2.1 hk5.size) hcl5)))
      clear hQ5 hob6 hcl5 hk5 hob5
      go_wp2_with fail
      go_roundw
      case rel => exact ⟨k + 1, _, _, ob', by go_num, by omega, H5.out.1, HH.out.1, H5.out.2.1, H5.out.2.2.1, H5.out.2.2.2⟩
      case measure => simp [intOf]; omega
    · rw [List.take_of_length_le (by rw [← HN.out]; omega)] at hL
      obtain ⟨-, hx⟩ := hL.is
      have hxT : x < 10 ^ T := Nat.lt_of_lt_of_le (Nat.lt_trans hL.2.2.2 HA.out.2.2.1) (Nat.pow_le_pow_right (by decide) (by omega))
      have hv : val (digN T x) = x := by rw [val_digN, Nat.mod_eq_of_lt hxT]
      have hRx : R0 = norm na x S := by rw [hx]; exact HR.out
      have qs := fun W => (scaled_any W na (digN T x) (digs_digN T x) (by rw [length_digN]; omega) (S : Int) (by omega) (by omega)).mono fun e w' h => (⟨by
        have h2 := h.1
        rw [hv] at h2
        have e3 : scD na x (S : Int) = R0 := by rw [hRx]; unfold scD; rw [if_neg (by omega), Int.toNat_natCast]
        rw [e3, resV_is] at h2
        exact h2, h.2⟩ : e = .returned (.tuple #[.agg #[.bool (oN R0), .string ⟨(oL R0).toArray⟩, .int .i64 (oS R0)], .int .i64 (oE R0)]) ∧ Kp [] W w')
      have qrest := fun W h1 h2 => rest_any W gd gl T x (by omega) h1 h2
      obtain ⟨X, hX⟩ : ∃ X, X = digN T x := ⟨_, rfl⟩
      have l0 := hQ.left
      simp only [← hX] at qs qrest l0
      have d0 := hQ.cell0
      have hkz := K1.out.nil hQ.kp
      have a0 : wr.cell? ⟨w.heap.size, 0, none⟩ = _ := (H0.out.2.1.keep hkz (by simp)).cell 0
      have s0 : wr.cell? ⟨w.heap.size + 1 + 1 + 1, 0, none⟩ = some (.int .i64 (S : Int)) := (H0.out.2.2.2.2.keep hkz (by simp)).cell 0
      simp only [List.getElem?_cons_zero] at a0
      have HRm := hid (H0.out.2.2.2.1.kept hkz)
      have HKz := hid (H0.out.1.nil hkz)
      obtain ⟨rs, hrs, -⟩ := H0.out.2.2.2.1
      have hrs2 := hrs.lt
      have Hfar := hid (show w.heap.size + 1 + 1 < gd ∧ w.heap.size + 1 + 1 < gl by
        obtain ⟨gb2, A2, c2, -, -, -, -, -, -, h1, h2, -⟩ := hQ
        have := K1.out.size
        exact ⟨by omega, by omega⟩)
      clear hX hv hRx hxT hx hL hQ hkz hob hsz4 hcl hrs hrs2
      go_wp2_with fail
      refine lin_start (fun w' => w'.cell? ⟨w.heap.size, 0, none⟩ = some (Value.bool na) ∧ w'.cell? ⟨w.heap.size + 1 + 1 + 1, 0, none⟩ = some (Value.int .i64 (S : Int)) ∧ w'.cell? ⟨gd, 0, none⟩ = some (.slice (some ⟨gl, 0, none⟩) T T) ∧ Cells w' gl 111 (i8s X)) ((Stays.cell _ _).and ((Stays.cell _ _).and ((Stays.cell _ _).and (Stays.cells _ _ _)))) (by kernel_rfl) ⟨a0, s0, d0, l0⟩ (fun hSS hS => ?_)
      refine lin_val (i := 0) (v := ?_) rfl (by kernel_rfl) (by kernel_rfl) (by kernel_rfl) (fun _ _ _ h => h) hSS hS rfl (fun w hSw => ?_) ?_
      rotate_left
      · obtain ⟨q0, q1, q2, q3⟩ := hSw; go_simp; first | done | with_reducible rfl
      simp only [Act.put, List.setIfInBounds_toArray, List.set_cons_zero, List.set_cons_succ]
      refine lin_val (i := 1) (v := ?_) rfl (by kernel_rfl) (by kernel_rfl) (by kernel_rfl) (fun _ _ _ h => h) hSS hS rfl (fun w hSw => ?_) ?_
      rotate_left
      · obtain ⟨q0, q1, q2, q3⟩ := hSw; go_simp; first | done | with_reducible rfl
      simp only [Act.put, List.setIfInBounds_toArray, List.set_cons_zero, List.set_cons_succ]
      refine lin_val (i := 2) (v := ?_) rfl (by kernel_rfl) (by kernel_rfl) (by kernel_rfl) (fun _ _ _ h => h) hSS hS rfl (fun w hSw => ?_) ?_
      rotate_left
      · obtain ⟨q0, q1, q2, q3⟩ := hSw; go_simp; first | done | with_reducible rfl
      simp only [Act.put, List.setIfInBounds_toArray, List.set_cons_zero, List.set_cons_succ]
      refine lin_call (i := 3) rfl (by kernel_rfl) (by kernel_rfl) (by kernel_rfl) (fun _ _ _ h => h) hSS hS rfl (fun w hw => qrest w hw.2.2.1 hw.2.2.2) (fun w hSw => ?_) ?_
      · obtain ⟨q0, q1, q2, q3⟩ := hSw; go_simp
      simp only [Act.put, List.setIfInBounds_toArray, List.set_cons_zero, List.set_cons_succ]
      refine lin_val (i := 4) (v := ?_) rfl (by kernel_rfl) (by kernel_rfl) (by kernel_rfl) (fun _ _ _ h => h) hSS hS rfl (fun w hSw => ?_) ?_
      rotate_left
      · obtain ⟨q0, q1, q2, q3⟩ := hSw; go_simp; first | done | with_reducible rfl
      simp only [Act.put, List.setIfInBounds_toArray, List.set_cons_zero, List.set_cons_succ]
      refine lin_call (i := 5) rfl (by kernel_rfl) (by kernel_rfl) (by kernel_rfl) (fun _ _ _ h => h) hSS hS rfl (fun w _ => qs w) (fun w hSw => ?_) ?_
      · obtain ⟨q0, q1, q2, q3⟩ := hSw; go_simp
      simp only [Act.put, List.setIfInBounds_toArray, List.set_cons_zero, List.set_cons_succ]
      refine lin_val (i := 6) (v := ?_) rfl (by kernel_rfl) (by kernel_rfl) (by kernel_rfl) (fun _ _ _ h => h) hSS hS rfl (fun w hSw => ?_) ?_
      rotate_left
      · obtain ⟨q0, q1, q2, q3⟩ := hSw; go_simp; first | done | with_reducible rfl
      simp only [Act.put, List.setIfInBounds_toArray, List.set_cons_zero, List.set_cons_succ]
      refine lin_val (i := 7) (v := ?_) rfl (by kernel_rfl) (by kernel_rfl) (by kernel_rfl) (fun _ _ _ h => h) hSS hS rfl (fun w hSw => ?_) ?_
      rotate_left
      · obtain ⟨q0, q1, q2, q3⟩ := hSw; go_simp; first | done | with_reducible rfl
      simp only [Act.put, List.setIfInBounds_toArray, List.set_cons_zero, List.set_cons_succ]
      refine lin_step (i := 8) (by kernel_rfl) rfl (fun wb kb K hK => ?_)
      have R := (HRm.out.kept (Kp.refl [] _).drew).kept kb
      obtain ⟨_, _, _, c0, c1, c2, f0, f1, f2⟩ := R.cells
      go_simp
      clear c0 c1 c2 f0 f1 f2
      obtain ⟨kd, x0, x1, x2⟩ := R.done ((HKz.out.drew).nil kb) (by omega) (.bool (oN R0)) (.string ⟨(oL R0).toArray⟩) (.int .i64 (oS R0))
      refine hK.out _ _ ?_ (fun hS1 => ?_)
      · obtain ⟨q0, q1, q2, q3⟩ := hSS _ _ hS kb; exact ⟨far_room _ _ _ q0 (by simp <;> omega), far_room _ _ _ q1 (by simp <;> omega), far_room _ _ _ q2 (by have := Hfar.out.1; simp; omega), far_cells _ _ _ q3 (by have := Hfar.out.2; omega)⟩
      clear hK K hS R kb
      try simp only [Act.put, List.setIfInBounds_toArray, List.set_cons_zero, List.set_cons_succ]
      refine lin_val (i := 9) (v := ?_) rfl (by kernel_rfl) (by kernel_rfl) (by kernel_rfl) (fun _ _ _ h => h) hSS hS1 rfl (fun w hSw => ?_) ?_
      rotate_left
      · go_simp; first | done | with_reducible rfl
      try simp only [Act.put, List.setIfInBounds_toArray, List.set_cons_zero, List.set_cons_succ]
      refine lin_done (by kernel_rfl) (fun wn kn => ?_) _
      replace x0 := kn.cell x0 (by simp)
      replace x1 := kn.cell x1 (by simp)
      replace x2 := kn.cell x2 (by simp)
      clear hS1 hSS
      go_wp2_with fail
      exact bodyPost_ret (v := .tuple #[.agg #[.bool (oN R0), .string ⟨(oL R0).toArray⟩, .int .i64 (oS R0)], .int .i64 (oE R0)]) (by simp [results, Tryd.results39, go_sem, x0, x1, x2]) rfl ⟨by rw [resV_is], kd.nil kn⟩
end Go.Proofs.YtampgimmodomoaaDoor
