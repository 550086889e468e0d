/- CatsMay, walked: which names and categories may be is as the document says; and whether a mask is cleared. -/
import Derived.Test.YtgjffkblhhkjmaaDoorCMasks
import Derived.Test.YtgjffkblhhkjmaaDoorLin
namespace Go.Proofs.YtgjffkblhhkjmaaDoor
open Go Go.RowKit Go.Maps

theorem stays_strs (A : Option Addr) (c : Nat) (C : List Txt) : Stays (fun w => Strs w A c C) := fun _ _ h k => h.kept k
theorem calls_same {P : Program} {f : FuncId} {args : Array Value} {w : World} {v : Value} (h : Calls P f args w fun e w' => e = .returned v ∧ w' = w) : Calls P f args w fun e w' => e = .returned v ∧ Kp [] w w' :=
  h.mono fun e w' ⟨h1, h2⟩ => ⟨h1, by rw [h2]; exact Kp.refl _ _⟩
theorem stays_ml : Stays (fun w => ML w) := fun _ _ h k => h.kept k
set_option maxRecDepth 100000 in
set_option maxHeartbeats 6400000 in
theorem lmay_any (w : World) (tabs : Tabs w) (A : Option Addr) (c : Nat) (C : List Txt) (hC : Raws w A c C) (L : Txt) (hL : L.length ≤ 9223372036854775807) (a b : Nat) (ha : a < 2 ^ 64) (hb : b < 2 ^ 64) :
    Calls Tryd.prog 4 #[.slice A C.length c, .string ⟨L.toArray⟩, .agg #[.int .u64 (a : Int), .int .u64 (b : Int)]] w fun e w' => e = .returned (.bool true) ∧ Kp [] w w' := by
  have h0 : Cells (w.alloc (.cells #[.int .u64 (a : Int), .int .u64 (b : Int)] 32)) w.heap.size 32 [.int .u64 (a : Int), .int .u64 (b : Int)] := Cells.fresh w 32 [.int .u64 (a : Int), .int .u64 (b : Int)]
  have k0 : Kp [] w (w.alloc (.cells #[.int .u64 (a : Int), .int .u64 (b : Int)] 32)) := (Kp.refl _ _).alloc _
  have qsh := shown6_any _ (ML.kept tabs k0)
  have qf := fun W (k : Kp [] w W) => few6_any W A c C (hC.kept k)
  have qs := fun W => short6_any W L hL
  have hs9 := short_len L
  obtain ⟨X, hX⟩ : ∃ X, X = shortL L := ⟨_, rfl⟩
  rw [← hX] at hs9
  have qn := fun W => cname_any W X (by omega)
  have qr := fun W => rname_any W X (by omega)
  have qw := fun W => cwithin_any W a b ha hb
  have qv := fun W => rwithin_any W a b ha hb
  simp only [← hX] at qs
  obtain ⟨bn, hbn⟩ : ∃ x, x = nameL X := ⟨_, rfl⟩
  simp only [← hbn] at qn qr
  obtain ⟨bw, hbw⟩ : ∃ x, x = decide (a ||| b = b) := ⟨_, rfl⟩
  simp only [← hbw] at qw qv
  replace qs := fun W => calls_same (qs W)
  replace qr := fun W => calls_same (qr W)
  replace qw := fun W => calls_same (qw W)
  replace qv := fun W => calls_same (qv W)
  have HK0 := hid k0
  obtain ⟨B, hB⟩ : ∃ B, B = w.heap.size := ⟨_, rfl⟩
  rw [← hB] at h0
  have H0 := hid h0
  have HB := hid hB
  clear h0 k0 tabs hX hs9 hbn hbw ha hb hL hC hB
  go_enter Tryd.func4, Tryd.ntmps4
  go_wp2_with fail
  refine qsh.mono ?_
  rintro e w1 ⟨rfl, k1⟩
  have H1 := hid (H0.out.keep k1 (by simp))
  have HK1 := hid (HK0.out.nil k1)
  have q2 := qf w1 HK1.out
  clear k1 qsh qf
  go_wp2_with fail
  (with_reducible refine q2.mono ?_)
  rintro e w2 ⟨v, rfl, ho, k2⟩
  obtain ⟨A2, c2, rfl, hS⟩ := Strs.of_own ho (by have := few_count C; omega) (few_short C)
  obtain ⟨D, hD⟩ : ∃ D, D = fewC C := ⟨_, rfl⟩
  rw [← hD] at hS ⊢
  have qm := fun W (h : Strs W A2 c2 D) => cmay_any W A2 c2 D h
  have qk := fun W (h : Strs W A2 c2 D) => calls_same (rmay6_any W A2 c2 D h)
  obtain ⟨r, hr⟩ : ∃ r, r = mayC D := ⟨_, rfl⟩
  simp only [← hr] at qm qk
  have H2 := H1.out.keep k2 (by simp)
  have x0 := H2.cell 0
  have x1 := H2.cell 1
  simp only [List.getElem?_cons_zero, List.getElem?_cons_succ] at x0 x1
  have HS := hid hS
  have HK2 := hid (HK1.out.nil k2)
  rw [← HB.out]
  clear k2 ho hS hD q2 hr H2
  go_wp2_with fail
  refine lin_start (fun w' => Strs w' A2 c2 D ∧ w'.cell? ⟨B, 0, none⟩ = some (Value.int .u64 (a : Int)) ∧ w'.cell? ⟨B, 1, none⟩ = some (Value.int .u64 (b : Int))) ((stays_strs _ _ _).and ((Stays.cell _ _).and ((Stays.cell _ _)))) (by kernel_rfl) ⟨HS.out.kept ((Kp.refl _ _).drew), x0, x1⟩ (fun hSS hS => ?_)
  refine lin_val (i := 0) (v := ?_) rfl (by kernel_rfl) (by kernel_rfl) (by kernel_rfl) (fun _ _ _ h => h) hSS hS rfl (fun w hSw => ?_) ?_
  rotate_left
  · obtain ⟨q0, q1, q2⟩ := hSw; go_simp; first | done | with_reducible rfl
  simp only [Act.put, List.setIfInBounds_toArray, List.set_cons_zero, List.set_cons_succ]
  refine lin_val (i := 1) (v := ?_) rfl (by kernel_rfl) (by kernel_rfl) (by kernel_rfl) (fun _ _ _ h => h) hSS hS rfl (fun w hSw => ?_) ?_
  rotate_left
  · obtain ⟨q0, q1, q2⟩ := hSw; go_simp; first | done | with_reducible rfl
  simp only [Act.put, List.setIfInBounds_toArray, List.set_cons_zero, List.set_cons_succ]
  refine lin_val (i := 2) (v := ?_) rfl (by kernel_rfl) (by kernel_rfl) (by kernel_rfl) (fun _ _ _ h => h) hSS hS rfl (fun w hSw => ?_) ?_
  rotate_left
  · obtain ⟨q0, q1, q2⟩ := hSw; go_simp; first | done | with_reducible rfl
  simp only [Act.put, List.setIfInBounds_toArray, List.set_cons_zero, List.set_cons_succ]
  refine lin_call (i := 3) rfl (by kernel_rfl) (by kernel_rfl) (by kernel_rfl) (fun _ _ _ h => h) hSS hS rfl (fun w _ => qs w) (fun w hSw => ?_) ?_
  · obtain ⟨q0, q1, q2⟩ := hSw; go_simp
  simp only [Act.put, List.setIfInBounds_toArray, List.set_cons_zero, List.set_cons_succ]
  refine lin_call (i := 4) rfl (by kernel_rfl) (by kernel_rfl) (by kernel_rfl) (fun _ _ _ h => h) hSS hS rfl (fun w _ => qn w) (fun w hSw => ?_) ?_
  · obtain ⟨q0, q1, q2⟩ := hSw; go_simp
  simp only [Act.put, List.setIfInBounds_toArray, List.set_cons_zero, List.set_cons_succ]
  refine lin_val (i := 5) (v := ?_) rfl (by kernel_rfl) (by kernel_rfl) (by kernel_rfl) (fun _ _ _ h => h) hSS hS rfl (fun w hSw => ?_) ?_
  rotate_left
  · obtain ⟨q0, q1, q2⟩ := hSw; go_simp; first | done | with_reducible rfl
  simp only [Act.put, List.setIfInBounds_toArray, List.set_cons_zero, List.set_cons_succ]
  refine lin_call (i := 6) rfl (by kernel_rfl) (by kernel_rfl) (by kernel_rfl) (fun _ _ _ h => h) hSS hS rfl (fun w _ => qs w) (fun w hSw => ?_) ?_
  · obtain ⟨q0, q1, q2⟩ := hSw; go_simp
  simp only [Act.put, List.setIfInBounds_toArray, List.set_cons_zero, List.set_cons_succ]
  refine lin_call (i := 7) rfl (by kernel_rfl) (by kernel_rfl) (by kernel_rfl) (fun _ _ _ h => h) hSS hS rfl (fun w _ => qr w) (fun w hSw => ?_) ?_
  · obtain ⟨q0, q1, q2⟩ := hSw; go_simp
  simp only [Act.put, List.setIfInBounds_toArray, List.set_cons_zero, List.set_cons_succ]
  refine lin_val (i := 8) (v := ?_) rfl (by kernel_rfl) (by kernel_rfl) (by kernel_rfl) (fun _ _ _ h => h) hSS hS rfl (fun w hSw => ?_) ?_
  rotate_left
  · obtain ⟨q0, q1, q2⟩ := hSw; go_simp; first | done | with_reducible rfl
  simp only [Act.put, List.setIfInBounds_toArray, List.set_cons_zero, List.set_cons_succ]
  refine lin_val (i := 9) (v := ?_) rfl (by kernel_rfl) (by kernel_rfl) (by kernel_rfl) (fun _ _ _ h => h) hSS hS rfl (fun w hSw => ?_) ?_
  rotate_left
  · obtain ⟨q0, q1, q2⟩ := hSw; go_simp; first | done | with_reducible rfl
  simp only [Act.put, List.setIfInBounds_toArray, List.set_cons_zero, List.set_cons_succ]
  refine lin_val (i := 10) (v := ?_) rfl (by kernel_rfl) (by kernel_rfl) (by kernel_rfl) (fun _ _ _ h => h) hSS hS rfl (fun w hSw => ?_) ?_
  rotate_left
  · obtain ⟨q0, q1, q2⟩ := hSw; go_simp; first | done | with_reducible rfl
  simp only [Act.put, List.setIfInBounds_toArray, List.set_cons_zero, List.set_cons_succ]
  refine lin_val (i := 11) (v := ?_) rfl (by kernel_rfl) (by kernel_rfl) (by kernel_rfl) (fun _ _ _ h => h) hSS hS rfl (fun w hSw => ?_) ?_
  rotate_left
  · obtain ⟨q0, q1, q2⟩ := hSw; go_simp; first | done | with_reducible rfl
  simp only [Act.put, List.setIfInBounds_toArray, List.set_cons_zero, List.set_cons_succ]
  refine lin_call (i := 12) rfl (by kernel_rfl) (by kernel_rfl) (by kernel_rfl) (fun _ _ _ h => h) hSS hS rfl (fun w hSw => by obtain ⟨q0, q1, q2⟩ := hSw; exact qm w q0) (fun w hSw => ?_) ?_
  · obtain ⟨q0, q1, q2⟩ := hSw; go_simp
  simp only [Act.put, List.setIfInBounds_toArray, List.set_cons_zero, List.set_cons_succ]
  refine lin_val (i := 13) (v := ?_) rfl (by kernel_rfl) (by kernel_rfl) (by kernel_rfl) (fun _ _ _ h => h) hSS hS rfl (fun w hSw => ?_) ?_
  rotate_left
  · obtain ⟨q0, q1, q2⟩ := hSw; go_simp; first | done | with_reducible rfl
  simp only [Act.put, List.setIfInBounds_toArray, List.set_cons_zero, List.set_cons_succ]
  refine lin_call (i := 14) rfl (by kernel_rfl) (by kernel_rfl) (by kernel_rfl) (fun _ _ _ h => h) hSS hS rfl (fun w hSw => by obtain ⟨q0, q1, q2⟩ := hSw; exact qk w q0) (fun w hSw => ?_) ?_
  · obtain ⟨q0, q1, q2⟩ := hSw; go_simp
  simp only [Act.put, List.setIfInBounds_toArray, List.set_cons_zero, List.set_cons_succ]
  refine lin_val (i := 15) (v := ?_) rfl (by kernel_rfl) (by kernel_rfl) (by kernel_rfl) (fun _ _ _ h => h) hSS hS rfl (fun w hSw => ?_) ?_
  rotate_left
  · obtain ⟨q0, q1, q2⟩ := hSw; go_simp; first | done | with_reducible rfl
  simp only [Act.put, List.setIfInBounds_toArray, List.set_cons_zero, List.set_cons_succ]
  refine lin_val (i := 16) (v := ?_) rfl (by kernel_rfl) (by kernel_rfl) (by kernel_rfl) (fun _ _ _ h => h) hSS hS rfl (fun w hSw => ?_) ?_
  rotate_left
  · obtain ⟨q0, q1, q2⟩ := hSw; go_simp; first | done | with_reducible rfl
  simp only [Act.put, List.setIfInBounds_toArray, List.set_cons_zero, List.set_cons_succ]
  refine lin_val (i := 17) (v := ?_) rfl (by kernel_rfl) (by kernel_rfl) (by kernel_rfl) (fun _ _ _ h => h) hSS hS rfl (fun w hSw => ?_) ?_
  rotate_left
  · obtain ⟨q0, q1, q2⟩ := hSw; go_simp; first | done | with_reducible rfl
  simp only [Act.put, List.setIfInBounds_toArray, List.set_cons_zero, List.set_cons_succ]
  refine lin_val (i := 18) (v := ?_) rfl (by kernel_rfl) (by kernel_rfl) (by kernel_rfl) (fun _ _ _ h => h) hSS hS rfl (fun w hSw => ?_) ?_
  rotate_left
  · obtain ⟨q0, q1, q2⟩ := hSw; go_simp; first | done | with_reducible rfl
  simp only [Act.put, List.setIfInBounds_toArray, List.set_cons_zero, List.set_cons_succ]
  refine lin_val (i := 19) (v := ?_) rfl (by kernel_rfl) (by kernel_rfl) (by kernel_rfl) (fun _ _ _ h => h) hSS hS rfl (fun w hSw => ?_) ?_
  rotate_left
  · obtain ⟨q0, q1, q2⟩ := hSw; go_simp; first | done | with_reducible rfl
  simp only [Act.put, List.setIfInBounds_toArray, List.set_cons_zero, List.set_cons_succ]
  refine lin_val (i := 20) (v := ?_) rfl (by kernel_rfl) (by kernel_rfl) (by kernel_rfl) (fun _ _ _ h => h) hSS hS rfl (fun w hSw => ?_) ?_
  rotate_left
  · obtain ⟨q0, q1, q2⟩ := hSw; go_simp; first | done | with_reducible rfl
  simp only [Act.put, List.setIfInBounds_toArray, List.set_cons_zero, List.set_cons_succ]
  refine lin_val (i := 21) (v := ?_) rfl (by kernel_rfl) (by kernel_rfl) (by kernel_rfl) (fun _ _ _ h => h) hSS hS rfl (fun w hSw => ?_) ?_
  rotate_left
  · obtain ⟨q0, q1, q2⟩ := hSw; go_simp; first | done | with_reducible rfl
  simp only [Act.put, List.setIfInBounds_toArray, List.set_cons_zero, List.set_cons_succ]
  refine lin_call (i := 22) rfl (by kernel_rfl) (by kernel_rfl) (by kernel_rfl) (fun _ _ _ h => h) hSS hS rfl (fun w _ => qw w) (fun w hSw => ?_) ?_
  · obtain ⟨q0, q1, q2⟩ := hSw; go_simp
  simp only [Act.put, List.setIfInBounds_toArray, List.set_cons_zero, List.set_cons_succ]
  refine lin_val (i := 23) (v := ?_) rfl (by kernel_rfl) (by kernel_rfl) (by kernel_rfl) (fun _ _ _ h => h) hSS hS rfl (fun w hSw => ?_) ?_
  rotate_left
  · obtain ⟨q0, q1, q2⟩ := hSw; go_simp; first | done | with_reducible rfl
  simp only [Act.put, List.setIfInBounds_toArray, List.set_cons_zero, List.set_cons_succ]
  refine lin_val (i := 24) (v := ?_) rfl (by kernel_rfl) (by kernel_rfl) (by kernel_rfl) (fun _ _ _ h => h) hSS hS rfl (fun w hSw => ?_) ?_
  rotate_left
  · obtain ⟨q0, q1, q2⟩ := hSw; go_simp; first | done | with_reducible rfl
  simp only [Act.put, List.setIfInBounds_toArray, List.set_cons_zero, List.set_cons_succ]
  refine lin_val (i := 25) (v := ?_) rfl (by kernel_rfl) (by kernel_rfl) (by kernel_rfl) (fun _ _ _ h => h) hSS hS rfl (fun w hSw => ?_) ?_
  rotate_left
  · obtain ⟨q0, q1, q2⟩ := hSw; go_simp; first | done | with_reducible rfl
  simp only [Act.put, List.setIfInBounds_toArray, List.set_cons_zero, List.set_cons_succ]
  refine lin_val (i := 26) (v := ?_) rfl (by kernel_rfl) (by kernel_rfl) (by kernel_rfl) (fun _ _ _ h => h) hSS hS rfl (fun w hSw => ?_) ?_
  rotate_left
  · obtain ⟨q0, q1, q2⟩ := hSw; go_simp; first | done | with_reducible rfl
  simp only [Act.put, List.setIfInBounds_toArray, List.set_cons_zero, List.set_cons_succ]
  refine lin_call (i := 27) rfl (by kernel_rfl) (by kernel_rfl) (by kernel_rfl) (fun _ _ _ h => h) hSS hS rfl (fun w _ => qv w) (fun w hSw => ?_) ?_
  · obtain ⟨q0, q1, q2⟩ := hSw; go_simp
  simp only [Act.put, List.setIfInBounds_toArray, List.set_cons_zero, List.set_cons_succ]
  refine lin_val (i := 28) (v := ?_) rfl (by kernel_rfl) (by kernel_rfl) (by kernel_rfl) (fun _ _ _ h => h) hSS hS rfl (fun w hSw => ?_) ?_
  rotate_left
  · obtain ⟨q0, q1, q2⟩ := hSw; go_simp; first | done | with_reducible rfl
  simp only [Act.put, List.setIfInBounds_toArray, List.set_cons_zero, List.set_cons_succ]
  refine lin_val (i := 29) (v := ?_) rfl (by kernel_rfl) (by kernel_rfl) (by kernel_rfl) (fun _ _ _ h => h) hSS hS rfl (fun w hSw => ?_) ?_
  rotate_left
  · obtain ⟨q0, q1, q2⟩ := hSw; go_simp; first | done | with_reducible rfl
  simp only [Act.put, List.setIfInBounds_toArray, List.set_cons_zero, List.set_cons_succ]
  refine lin_val (i := 30) (v := ?_) rfl (by kernel_rfl) (by kernel_rfl) (by kernel_rfl) (fun _ _ _ h => h) hSS hS rfl (fun w hSw => ?_) ?_
  rotate_left
  · obtain ⟨q0, q1, q2⟩ := hSw; go_simp; first | done | with_reducible rfl
  simp only [Act.put, List.setIfInBounds_toArray, List.set_cons_zero, List.set_cons_succ]
  refine lin_done (by kernel_rfl) (fun wq kq => ?_) _
  clear hS hSS
  go_wp2_with fail
  go_ret
  exact ⟨rfl, HK2.out.drew.nil kq⟩
theorem lmay_card (W : World) (tabs : Tabs W) (A : Option Addr) (n c : Nat) (C : List Txt) (hC : Raws W A c C) (hn : C.length = n) (s : ByteArray) (ws : s.size ≤ maxLen) (a b : Int) (ha : 0 ≤ a ∧ a ≤ 18446744073709551615) (hb : 0 ≤ b ∧ b ≤ 18446744073709551615) :
    Calls Tryd.prog 4 #[.slice A n c, .string s, .agg #[.int .u64 a, .int .u64 b]] W fun e W' => e = .returned (.bool true) ∧ Kp [] W W' := by
  subst hn
  obtain ⟨M, rfl, hM⟩ := nat_of ha
  obtain ⟨N, rfl, hN⟩ := nat_of hb
  obtain ⟨L, rfl⟩ : ∃ L : Txt, s = ⟨L.toArray⟩ := ⟨s.data.toList, by cases s; simp⟩
  exact lmay_any W tabs A c C hC L (by rw [size_mk] at ws; unfold maxLen at ws; exact ws) M N hM hN
end Go.Proofs.YtgjffkblhhkjmaaDoor
