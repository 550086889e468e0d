/- frame.Take: the record that bytes begin with. -/
import Derived.Test.YtepeopfdenieeaaDoorHoles
import Derived.Test.YtepeopfdenieeaaDoorPuts
import Derived.Test.YtepeopfdenieeaaDoorRecNew
namespace Go.Proofs.YtepeopfdenieeaaDoor
open Go Go.RowKit

def zeroRec : Value := .agg #[.int .i64 0, .int .i64 0, .int .i64 0, .slice none 0 0]
def TakePost (w : World) (l : List UInt8) (e : Ending) (w' : World) : Prop :=
  (∃ r v, Begins l r ∧ e = .returned (.tuple #[v, .int .i64 ((putB r).length : Nat), .int .i64 0]) ∧ RecNew w w' r v ∧ Kp [] w w') ∨
  ((∀ r, ¬ Begins l r) ∧ e = .returned (.tuple #[zeroRec, .int .i64 0, .int .i64 2]) ∧ Kp [] w w')
theorem results_take (tmps : Array Value) (w : World) (S : Nat) (cs : List Value) (h : Cells w S 24 cs) (hl : cs.length = 4) (hp : tmps.getD 2 undef = .pointer (some ⟨S, 0, none⟩)) :
    (results Tryd.f20 tmps).run Tryd.prog w = .ok (.tuple #[.agg cs.toArray, tmps.getD 3 undef, tmps.getD 4 undef]) w := by
  have hi : (Tryd.prog.info? 24).map (·.size) = some cs.toArray.size := by
    have : (Tryd.prog.info? 24).map (·.size) = some 4 := by kernel_rfl
    rw [this]; simp [hl]
  have hp' : tmps[2]?.getD undef = .pointer (some ⟨S, 0, none⟩) := by simpa using hp
  have hv := run_loadVar_row (P := Tryd.prog) w S 24 24 cs.toArray (0, 0) _ h Tryd.underlying24 rfl hi
  simp [results, hp', asAddr, hv]
theorem begins_len {l : List UInt8} {r : Rec} (h : Begins l r) : 22 ≤ l.length ∧ 14 ≤ readB (l.take 4) ∧ readB (l.take 4) + 8 ≤ l.length := by
  obtain ⟨h1, h2, _, h4, _⟩ := h.parts
  rw [length_bodyL] at h1 h4
  omega

theorem holesGo_sizes : ∀ (m : Nat) (b : List UInt8) (gs : List ByteArray) (r : List UInt8), holesGo m b = some (gs, r) → ∀ s ∈ gs, s.size ≤ 65536
  | 0, b, gs, r, h => by
    simp only [holesGo, Option.some.injEq, Prod.mk.injEq] at h
    rw [← h.1]
    simp
  | m + 1, b, gs, r, h => by
    rw [holesGo] at h
    split at h
    · cases h
    · rename_i hn
      obtain ⟨⟨g1, r1⟩, h1, h2⟩ := Option.map_eq_some_iff.1 h
      simp only [Prod.mk.injEq] at h2
      rw [← h2.1]
      intro s hs
      rcases List.mem_cons.1 hs with rfl | hs
      · have h3 : (textOf ((b.drop 2).take (readB (b.take 2)))).size ≤ readB (b.take 2) := by
          show ((b.drop 2).take (readB (b.take 2))).toArray.size ≤ _
          simp [List.length_take]
          omega
        have h4 := readB_lt (b.take 2)
        rw [List.length_take, Nat.min_eq_left (by omega)] at h4
        omega
      · exact holesGo_sizes m _ g1 r1 h1 s hs
theorem holes_say (w : World) (A : Option Addr) (n c : Nat) (l : List UInt8) (hs : Span w A (u8s l)) (hn : l.length = n) (hc : n ≤ c) (hc2 : c ≤ 9223372036854775807) (many : Nat) (hm : many < 65536) :
    Calls Tryd.prog 44 #[.slice A n c, .int .i64 (many : Int)] w fun e w' => ∃ gs A4 c4 bo, e = .returned (.tuple #[.slice A4 gs.length c4, .bool bo]) ∧ Span w' A4 (gs.map .string) ∧ gs.length ≤ c4 ∧ c4 ≤ 9223372036854775807 ∧ Kp [] w w' ∧ (bo = true ↔ ∃ hs, holesGo many l = some (hs, [])) ∧ (∀ hs r, holesGo many l = some (hs, r) → gs = hs) ∧ (∀ s ∈ gs, s.size ≤ 65536) ∧ ∀ ad, A4 = some ad → w.heap.size ≤ ad.block := by
  refine (holes_any w A n c l hs hn hc hc2 many hm).mono ?_
  rintro e w' (⟨h1, rfl, hk⟩ | ⟨gs, rest, v, b, h1, rfl, hb, ho, hnw⟩)
  · exact ⟨[], none, 0, false, rfl, Span.nil _ _, by simp, by omega, hk, by simp [h1], by simp [h1], by simp, by simp⟩
  · obtain ⟨A4, c4, rfl, hsp, hc4, -, hA4⟩ := ho.shape
    have hmax : c4 ≤ 9223372036854775807 := by
      obtain ⟨-, h2⟩ := ho
      rcases h2 with ⟨h2, -⟩ | ⟨g, cap, cur, h2, -, -, -, h3, -⟩
      · injection h2 with _ _ h2; omega
      · injection h2 with _ _ h2; simp only [maxLen] at h3; omega
    exact ⟨gs, A4, c4, b, rfl, hsp, hc4, hmax, hnw.kp, by rw [hb, h1]; simp, fun hs r h => by rw [h1] at h; simp at h; exact h.1, holesGo_sizes many l gs rest h1, fun ad h => hnw.blk _ (hA4 ad h).2⟩
theorem store_rec {w w0 : World} {S : Nat} {x y z t : Value} (h : Cells w S 24 [x, y, z, t]) (K : Kp [] w0 w) (hS : w0.heap.size ≤ S) (a b c d : Value) :
    Cells ((((w.setCell ⟨S, 0, none⟩ a).setCell ⟨S, 1, none⟩ b).setCell ⟨S, 2, none⟩ c).setCell ⟨S, 3, none⟩ d) S 24 [a, b, c, d] ∧ Kp [] w0 ((((w.setCell ⟨S, 0, none⟩ a).setCell ⟨S, 1, none⟩ b).setCell ⟨S, 2, none⟩ c).setCell ⟨S, 3, none⟩ d) :=
  ⟨(((h.put 0 a).put 1 b).put 2 c).put 3 d, (((K.setCell (fun h => by simp only at h; omega) _).setCell (fun h => by simp only at h; omega) _).setCell (fun h => by simp only at h; omega) _).setCell (fun h => by simp only at h; omega) _⟩
set_option maxRecDepth 100000 in
set_option maxHeartbeats 16000000 in
theorem take_any (w : World) (hT : Tabs w) (A : Option Addr) (n c : Nat) (l : List UInt8) (hs : Span w A (u8s l)) (hn : l.length = n) (hc : n ≤ c) (hc2 : c ≤ 9223372036854775807) :
    Calls Tryd.prog 20 #[.slice A n c] w (TakePost w l) := by
  have Hn := hid hn
  clear hn
  obtain ⟨w1, hw1, B1, K1⟩ : ∃ w1, w1 = w.alloc (.cells #[.int .i64 0, .int .i64 0, .int .i64 0, .slice none 0 0] 24) ∧
      Cells w1 w.heap.size 24 [.int .i64 0, .int .i64 0, .int .i64 0, .slice none 0 0] ∧ Kp [] w w1 :=
    ⟨_, rfl, Cells.fresh _ _ _, (Kp.refl _ _).alloc _⟩
  obtain ⟨S, hS⟩ : ∃ S, S = w.heap.size := ⟨_, rfl⟩
  rw [← hS] at B1
  have HW := hid (And.intro hw1 hS)
  clear hw1 hS
  have C0 := B1.cell 0
  have C1 := B1.cell 1
  have C2 := B1.cell 2
  have C3 := B1.cell 3
  have F0 := B1.free 0
  have F1 := B1.free 1
  have F2 := B1.free 2
  have F3 := B1.free 3
  simp only [List.getElem?_cons_zero, List.getElem?_cons_succ] at C0 C1 C2 C3
  go_enter Tryd.func20, Tryd.ntmps20
  by_cases h22 : n < 22
  · have hno : ∀ r, ¬ Begins l r := fun r h => by have := (begins_len h).1; have := Hn.out; omega
    have Hno := hid hno
    clear hno
    go_wp2_with fail
    rw [← HW.out.1, ← HW.out.2]
    go_wp2_with fail
    exact bodyPost_ret (results_take _ _ S _ B1 rfl rfl) rfl (.inr ⟨Hno.out, rfl, K1⟩)
  · have hs4 : Span w1 A (u8s (l.take 4)) := by rw [u8s_take]; exact (hs.kept K1).take 4
    have hl4 : (l.take 4).length = 4 := by rw [List.length_take]; have := Hn.out; omega
    have hq := readB_lt (l.take 4)
    rw [hl4] at hq
    obtain ⟨q, hqe⟩ : ∃ q, q = readB (l.take 4) := ⟨_, rfl⟩
    rw [← hqe] at hq
    have Hqe := hid hqe
    have Hl4 := hid hl4
    clear hqe hl4
    by_cases hbad : q < 14 ∨ n - 8 < q
    · have hno : ∀ r, ¬ Begins l r := fun r h => by have h2 := begins_len h; have := Hn.out; rw [← Hqe.out] at h2; omega
      have Hno := hid hno
      clear hno
      go_wp2_with fail
      rw [← HW.out.1, ← HW.out.2]
      go_wp2_with fail
      refine (read_any w1 A 4 c (l.take 4) hs4 Hl4.out (by omega) (by omega)).mono ?_
      rintro e w2 ⟨rfl, rfl⟩
      rw [← Hqe.out]
      by_cases h14 : q < 14
      · go_wp2_with fail
        obtain ⟨B2, K2⟩ := store_rec B1 K1 (by have := HW.out.2; omega) (.int .i64 0) (.int .i64 0) (.int .i64 0) (.slice none 0 0)
        exact bodyPost_ret (results_take _ _ S _ B2 rfl rfl) rfl (.inr ⟨Hno.out, rfl, K2⟩)
      · have hb2 : n - 8 < q := by omega
        go_wp2_with fail
        obtain ⟨B2, K2⟩ := store_rec B1 K1 (by have := HW.out.2; omega) (.int .i64 0) (.int .i64 0) (.int .i64 0) (.slice none 0 0)
        exact bodyPost_ret (results_take _ _ S _ B2 rfl rfl) rfl (.inr ⟨Hno.out, rfl, K2⟩)
    · have g1 : 14 ≤ q := by omega
      have g2 : q + 8 ≤ n := by omega
      clear hbad
      go_wp2_with fail
      rw [← HW.out.1, ← HW.out.2]
      go_wp2_with fail
      refine (read_any w1 A 4 c (l.take 4) hs4 Hl4.out (by omega) (by omega)).mono ?_
      rintro e w2 ⟨rfl, rfl⟩
      rw [← Hqe.out]
      go_upto_region 7 with fail
      obtain ⟨ad, hA, -⟩ := hs.get (j := 0) (by rw [length_u8s]; have := Hn.out; omega)
      subst hA
      have e4 : 4 + q - 4 = q := by omega
      simp only [Option.map_some]
      rw [e4]
      obtain ⟨D, hD⟩ : ∃ D, D = c - 4 := ⟨_, rfl⟩
      rw [← hD]
      have k1 : 18 ≤ D := by omega
      have k2 : q ≤ D := by omega
      have k3 : D ≤ 9223372036854775807 := by omega
      have k4 : (14 : Int) ≤ (D : Int) := by omega
      have k5 : (14 : Int) ≤ (q : Int) := by omega
      have k6 : ¬ D = 12 := by omega
      have k7 : ¬ D = 14 := by omega
      have k8 : (12 : Int) ≤ (D : Int) := by omega
      clear e4 hD
      have hsB : Span w (some ⟨ad.block, ad.off + 4, none⟩) (u8s ((l.drop 4).take q)) := by
        have := hs.sub 4 q
        rwa [← u8s_drop, ← u8s_take] at this
      obtain ⟨b, hb⟩ : ∃ b, b = (l.drop 4).take q := ⟨_, rfl⟩
      have hbl : b.length = q := by rw [hb, List.length_take, List.length_drop]; have := Hn.out; omega
      rw [← hb] at hsB
      have Hbl := hid hbl
      have Hb := hid hb
      clear hbl hb
      have hlm : ((b.drop 12).take 2).length = 2 := by rw [List.length_take, List.length_drop]; have := Hbl.out; omega
      have hlh : (b.drop 14).length = q - 14 := by rw [List.length_drop]; have := Hbl.out; omega
      have hsM : Span w2 (some ⟨ad.block, ad.off + 4 + 12, none⟩) (u8s ((b.drop 12).take 2)) := by
        have := (hsB.kept K1).sub 12 2
        rwa [← u8s_drop, ← u8s_take] at this
      have hsH : Span w2 (some ⟨ad.block, ad.off + 4 + 14, none⟩) (u8s (b.drop 14)) := by
        have := (hsB.kept K1).sub 14 q
        rwa [← u8s_drop, ← u8s_take, List.take_of_length_le (by rw [hlh]; omega)] at this
      have hmany0 := readB_lt ((b.drop 12).take 2)
      rw [hlm] at hmany0
      obtain ⟨many, hme⟩ : ∃ many, many = readB ((b.drop 12).take 2) := ⟨_, rfl⟩
      rw [← hme] at hmany0
      have hmany : many < 65536 := by omega
      have Hmany := hid hme
      have Hlm := hid hlm
      have Hlh := hid hlh
      clear hme hlm hlh hmany0
      go_cut [7, 8] (fun v7 v8 wx => ∃ gs A4 c4 bo, v7 = .slice A4 gs.length c4 ∧ v8 = .bool bo ∧ Span wx A4 (gs.map .string) ∧ gs.length ≤ c4 ∧ c4 ≤ 9223372036854775807 ∧ Kp [] w2 wx ∧ (bo = true ↔ ∃ hs, holesGo many (b.drop 14) = some (hs, [])) ∧ (∀ hs r, holesGo many (b.drop 14) = some (hs, r) → gs = hs) ∧ (∀ s ∈ gs, s.size ≤ 65536) ∧ ∀ ad', A4 = some ad' → w2.heap.size ≤ ad'.block)
      case first =>
        refine wp_region_noPanic ?_
        refine wp_region_held (S := fun _ => True) (by kernel_rfl) ?_
        have hS0 : True := trivial
        refine wpAnyH_take (i := 0) (oi := ⟨some 34, Op.move (Operand.tmp 6), 25, _, _, none⟩) (v := ?_) rfl (by kernel_rfl) (by kernel_rfl) (by kernel_rfl) (fun _ _ _ h => h) (Or.inl ⟨by rfl, ?_⟩) (by exact hS0) ?_
        rotate_left
        · (intro w hSw; (try dsimp only at hSw); go_simp; (try with_reducible rfl))
        try simp only [Act.put, List.setIfInBounds_toArray, List.set_cons_zero, List.set_cons_succ]
        refine wpAnyH_take (i := 1) (oi := ⟨some 35, Op.slice 25 (Operand.tmp 34) (some (Operand.const (Value.int IntKind.i64 14))) none none, 25, _, _, none⟩) (v := ?_) rfl (by kernel_rfl) (by kernel_rfl) (by kernel_rfl) (fun _ _ _ h => h) (Or.inl ⟨by rfl, ?_⟩) (by exact hS0) ?_
        rotate_left
        · (intro w hSw; (try dsimp only at hSw); go_simp; (try with_reducible rfl))
        try simp only [Act.put, List.setIfInBounds_toArray, List.set_cons_zero, List.set_cons_succ]
        refine wpAnyH_take (i := 2) (oi := ⟨some 36, Op.move (Operand.tmp 6), 25, _, _, none⟩) (v := ?_) rfl (by kernel_rfl) (by kernel_rfl) (by kernel_rfl) (fun _ _ _ h => h) (Or.inl ⟨by rfl, ?_⟩) (by exact hS0) ?_
        rotate_left
        · (intro w hSw; (try dsimp only at hSw); go_simp; (try with_reducible rfl))
        try simp only [Act.put, List.setIfInBounds_toArray, List.set_cons_zero, List.set_cons_succ]
        refine wpAnyH_take (i := 3) (oi := ⟨some 37, Op.slice 25 (Operand.tmp 36) (some (Operand.const (Value.int IntKind.i64 12))) (some (Operand.const (Value.int IntKind.i64 14))) none, 25, _, _, none⟩) (v := ?_) rfl (by kernel_rfl) (by kernel_rfl) (by kernel_rfl) (fun _ _ _ h => h) (Or.inl ⟨by rfl, ?_⟩) (by exact hS0) ?_
        rotate_left
        · (intro w hSw; (try dsimp only at hSw); go_simp; (try with_reducible rfl))
        try simp only [Act.put, List.setIfInBounds_toArray, List.set_cons_zero, List.set_cons_succ]
        refine wpAnyH_ready (rs := [4]) (by kernel_rfl) (by simp) ?_
        refine AllReadyH.cons (o := ⟨some 38, Op.call { callee := Callee.value (Operand.func 43), args := #[Operand.tmp 37], argTypes := #[25] }, 3, _, _, none⟩) rfl (fun K hK => ?_) AllReadyH.nil
        go_simp
        refine (read_any _ _ 2 _ ((b.drop 12).take 2) (by exact hsM) Hlm.out (by omega) (by omega)).mono ?_
        rintro e w3 ⟨rfl, rfl⟩
        rw [← Hmany.out]
        have hS1 := trivial
        refine hK.out _ _ (by exact hS1) (fun _ => ?_)
        clear hK K
        try simp only [Act.put, List.setIfInBounds_toArray, List.set_cons_zero, List.set_cons_succ]
        refine wpAnyH_ready (rs := [5]) (by kernel_rfl) (by simp) ?_
        refine AllReadyH.cons (o := ⟨some 39, Op.call { callee := Callee.value (Operand.func 44), args := #[Operand.tmp 35, Operand.tmp 38], argTypes := #[25, 3] }, 80, _, _, none⟩) rfl (fun K hK => ?_) AllReadyH.nil
        go_simp
        refine (holes_say _ _ _ _ (b.drop 14) (by exact hsH) Hlh.out (by omega) (by omega) many hmany).mono ?_
        rintro e w4 ⟨gs, A4, c4, bo, rfl, hsp4, hc41, hc42, hk4, hbo, hgs, hz4, hA4⟩
        have hS2 := trivial
        refine hK.out _ _ (by exact hS2) (fun _ => ?_)
        clear hK K
        try simp only [Act.put, List.setIfInBounds_toArray, List.set_cons_zero, List.set_cons_succ]
        refine wpAnyH_take (i := 6) (oi := ⟨some 33, Op.move (Operand.tmp 39), 80, _, _, none⟩) (v := ?_) rfl (by kernel_rfl) (by kernel_rfl) (by kernel_rfl) (fun _ _ _ h => h) (Or.inl ⟨by rfl, ?_⟩) (by exact hS2) ?_
        rotate_left
        · (intro w hSw; (try dsimp only at hSw); go_simp; (try with_reducible rfl))
        try simp only [Act.put, List.setIfInBounds_toArray, List.set_cons_zero, List.set_cons_succ]
        refine wpAnyH_take (i := 7) (oi := ⟨some 40, Op.extract (Operand.tmp 33) 0, 22, _, _, none⟩) (v := ?_) rfl (by kernel_rfl) (by kernel_rfl) (by kernel_rfl) (fun _ _ _ h => h) (Or.inl ⟨by rfl, ?_⟩) (by exact hS2) ?_
        rotate_left
        · (intro w hSw; (try dsimp only at hSw); go_simp; (try with_reducible rfl))
        try simp only [Act.put, List.setIfInBounds_toArray, List.set_cons_zero, List.set_cons_succ]
        refine wpAnyH_take (i := 8) (oi := ⟨some 41, Op.extract (Operand.tmp 33) 1, 4, _, _, none⟩) (v := ?_) rfl (by kernel_rfl) (by kernel_rfl) (by kernel_rfl) (fun _ _ _ h => h) (Or.inl ⟨by rfl, ?_⟩) (by exact hS2) ?_
        rotate_left
        · (intro w hSw; (try dsimp only at hSw); go_simp; (try with_reducible rfl))
        try simp only [Act.put, List.setIfInBounds_toArray, List.set_cons_zero, List.set_cons_succ]
        refine wpAnyH_take (i := 9) (oi := ⟨some 7, Op.assign (Operand.tmp 40), 22, _, _, none⟩) (v := ?_) rfl (by kernel_rfl) (by kernel_rfl) (by kernel_rfl) (fun _ _ _ h => h) (Or.inl ⟨by rfl, ?_⟩) (by exact hS2) ?_
        rotate_left
        · (intro w hSw; (try dsimp only at hSw); go_simp; (try with_reducible rfl))
        try simp only [Act.put, List.setIfInBounds_toArray, List.set_cons_zero, List.set_cons_succ]
        refine wpAnyH_take (i := 10) (oi := ⟨some 8, Op.assign (Operand.tmp 41), 4, _, _, none⟩) (v := ?_) rfl (by kernel_rfl) (by kernel_rfl) (by kernel_rfl) (fun _ _ _ h => h) (Or.inl ⟨by rfl, ?_⟩) (by exact hS2) ?_
        rotate_left
        · (intro w hSw; (try dsimp only at hSw); go_simp; (try with_reducible rfl))
        try simp only [Act.put, List.setIfInBounds_toArray, List.set_cons_zero, List.set_cons_succ]
        refine wpAnyH_done (by kernel_rfl) ?_ _
        refine NoPanic.normal ?_
        go_wp2_with fail
        go_meet
        exact ⟨gs, A4, c4, bo, rfl, rfl, hsp4, hc41, hc42, (Kp.refl [] w2).drew.nil hk4, hbo, hgs, hz4, hA4⟩
      case rest =>
        obtain ⟨gs, A4, c4, bo, rfl, rfl, hsp4, hc41, hc42, hk4, hbo, hgs, hz4, hA4⟩ := hcut
        have Hbo := hid hbo
        have Hgs := hid hgs
        have HA4 : Hid (∀ ad', A4 = some ad' → ad'.block ≠ S) := hid (fun ad' h => by have := hA4 ad' h; have := B1.lt; omega)
        have HA5 : Hid (∀ ad', A4 = some ad' → w.heap.size ≤ ad'.block) := hid (fun ad' h => by have := hA4 ad' h; have := K1.size; omega)
        have Hz4 := hid hz4
        have hKc : Kp [] w wc := K1.nil hk4
        have hBc := B1.keep hk4 (by simp)
        clear hbo hgs hz4 hA4 hsM hsH C0 C1 C2 C3 F0 F1 F2 F3
        have hlD : (b.take 4).length = 4 := by rw [List.length_take]; have := Hbl.out; omega
        have hlO : ((b.drop 4).take 4).length = 4 := by rw [List.length_take, List.length_drop]; have := Hbl.out; omega
        have hlL : ((b.drop 8).take 4).length = 4 := by rw [List.length_take, List.length_drop]; have := Hbl.out; omega
        have hsD : Span wc.drew (some ⟨ad.block, ad.off + 4, none⟩) (u8s (b.take 4)) := by
          rw [u8s_take]; exact (hsB.kept hKc).take 4
        have hsO : Span wc.drew (some ⟨ad.block, ad.off + 4 + 4, none⟩) (u8s ((b.drop 4).take 4)) := by
          have := (hsB.kept hKc).sub 4 4
          rwa [← u8s_drop, ← u8s_take] at this
        have hsL : Span wc.drew (some ⟨ad.block, ad.off + 4 + 8, none⟩) (u8s ((b.drop 8).take 4)) := by
          have := (hsB.kept hKc).sub 8 4
          rwa [← u8s_drop, ← u8s_take] at this
        obtain ⟨d, hd⟩ : ∃ d, d = readB (b.take 4) := ⟨_, rfl⟩
        obtain ⟨o, ho⟩ : ∃ o, o = readB ((b.drop 4).take 4) := ⟨_, rfl⟩
        obtain ⟨z, hz⟩ : ∃ z, z = readB ((b.drop 8).take 4) := ⟨_, rfl⟩
        have HD := hid hd
        have HO := hid ho
        have HL := hid hz
        have HlD := hid hlD
        have HlO := hid hlO
        have HlL := hid hlL
        have m1 : ¬ D = 4 := by omega
        have m2 : ¬ D = 8 := by omega
        have m3 : (8 : Int) ≤ (D : Int) := by omega
        have m4 : (4 : Int) ≤ (D : Int) := by omega
        have m5 : (12 : Int) ≤ (q : Int) := by omega
        have kA : Kp [] wc.drew (wc.drew.alloc (.cells #[.int .i64 0, .int .i64 0, .int .i64 0, .slice none 0 0] 24)) := (Kp.refl _ _).alloc _
        clear hd ho hz hlD hlO hlL
        go_upto_region 8 with fail
        go_cut [9] (fun v wx => ∃ T, v = .pointer (some ⟨T, 0, none⟩) ∧ Cells wx T 24 [.int .i64 (d : Int), .int .i64 (o : Int), .int .i64 (z : Int), .slice A4 gs.length c4] ∧ Kp [] wc wx)
        case first =>
          refine wp_region_noPanic ?_
          refine wp_region_held (S := fun _ => True) (by kernel_rfl) ?_
          have hS0 : True := trivial
          refine wpAnyH_take (i := 0) (oi := ⟨some 42, Op.move (Operand.tmp 6), 25, _, _, none⟩) (v := ?_) rfl (by kernel_rfl) (by kernel_rfl) (by kernel_rfl) (fun _ _ _ h => h) (Or.inl ⟨by rfl, ?_⟩) (by exact hS0) ?_
          rotate_left
          · (intro w hSw; (try dsimp only at hSw); go_simp; (try with_reducible rfl))
          try simp only [Act.put, List.setIfInBounds_toArray, List.set_cons_zero, List.set_cons_succ]
          refine wpAnyH_take (i := 1) (oi := ⟨some 43, Op.slice 25 (Operand.tmp 42) none (some (Operand.const (Value.int IntKind.i64 4))) none, 25, _, _, none⟩) (v := ?_) rfl (by kernel_rfl) (by kernel_rfl) (by kernel_rfl) (fun _ _ _ h => h) (Or.inl ⟨by rfl, ?_⟩) (by exact hS0) ?_
          rotate_left
          · (intro w hSw; (try dsimp only at hSw); go_simp; (try with_reducible rfl))
          try simp only [Act.put, List.setIfInBounds_toArray, List.set_cons_zero, List.set_cons_succ]
          refine wpAnyH_take (i := 3) (oi := ⟨some 45, Op.move (Operand.tmp 6), 25, _, _, none⟩) (v := ?_) rfl (by kernel_rfl) (by kernel_rfl) (by kernel_rfl) (fun _ _ _ h => h) (Or.inl ⟨by rfl, ?_⟩) (by exact hS0) ?_
          rotate_left
          · (intro w hSw; (try dsimp only at hSw); go_simp; (try with_reducible rfl))
          try simp only [Act.put, List.setIfInBounds_toArray, List.set_cons_zero, List.set_cons_succ]
          refine wpAnyH_take (i := 4) (oi := ⟨some 46, Op.slice 25 (Operand.tmp 45) (some (Operand.const (Value.int IntKind.i64 4))) (some (Operand.const (Value.int IntKind.i64 8))) none, 25, _, _, none⟩) (v := ?_) rfl (by kernel_rfl) (by kernel_rfl) (by kernel_rfl) (fun _ _ _ h => h) (Or.inl ⟨by rfl, ?_⟩) (by exact hS0) ?_
          rotate_left
          · (intro w hSw; (try dsimp only at hSw); go_simp; (try with_reducible rfl))
          try simp only [Act.put, List.setIfInBounds_toArray, List.set_cons_zero, List.set_cons_succ]
          refine wpAnyH_take (i := 6) (oi := ⟨some 48, Op.move (Operand.tmp 6), 25, _, _, none⟩) (v := ?_) rfl (by kernel_rfl) (by kernel_rfl) (by kernel_rfl) (fun _ _ _ h => h) (Or.inl ⟨by rfl, ?_⟩) (by exact hS0) ?_
          rotate_left
          · (intro w hSw; (try dsimp only at hSw); go_simp; (try with_reducible rfl))
          try simp only [Act.put, List.setIfInBounds_toArray, List.set_cons_zero, List.set_cons_succ]
          refine wpAnyH_take (i := 7) (oi := ⟨some 49, Op.slice 25 (Operand.tmp 48) (some (Operand.const (Value.int IntKind.i64 8))) (some (Operand.const (Value.int IntKind.i64 12))) none, 25, _, _, none⟩) (v := ?_) rfl (by kernel_rfl) (by kernel_rfl) (by kernel_rfl) (fun _ _ _ h => h) (Or.inl ⟨by rfl, ?_⟩) (by exact hS0) ?_
          rotate_left
          · (intro w hSw; (try dsimp only at hSw); go_simp; (try with_reducible rfl))
          try simp only [Act.put, List.setIfInBounds_toArray, List.set_cons_zero, List.set_cons_succ]
          refine wpAnyH_take (i := 9) (oi := ⟨some 51, Op.move (Operand.tmp 7), 22, _, _, none⟩) (v := ?_) rfl (by kernel_rfl) (by kernel_rfl) (by kernel_rfl) (fun _ _ _ h => h) (Or.inl ⟨by rfl, ?_⟩) (by exact hS0) ?_
          rotate_left
          · (intro w hSw; (try dsimp only at hSw); go_simp; (try with_reducible rfl))
          try simp only [Act.put, List.setIfInBounds_toArray, List.set_cons_zero, List.set_cons_succ]
          refine wpAnyH_ready (rs := [2, 11]) (by kernel_rfl) (by simp) ?_
          refine AllReadyH.cons (o := ⟨some 44, Op.call { callee := Callee.value (Operand.func 43), args := #[Operand.tmp 43], argTypes := #[25] }, 3, _, _, none⟩) rfl (fun K hK => ?_) (AllReadyH.cons (o := ⟨some 9, Op.alloc 24, 0, _, _, none⟩) rfl (fun K hK => ?_) AllReadyH.nil)
          · go_simp
            refine (read_any _ _ 4 _ (b.take 4) (by exact hsD) HlD.out (by omega) (by omega)).mono ?_
            rintro e wq1 ⟨rfl, hwq⟩
            subst hwq
            rw [← HD.out]
            have hS2 := trivial
            refine hK.out _ _ (by exact hS2) (fun _ => ?_)
            clear hK K
            try simp only [Act.put, List.setIfInBounds_toArray, List.set_cons_zero, List.set_cons_succ]
            refine wpAnyH_ready (rs := [5, 11]) (by kernel_rfl) (by simp) ?_
            refine AllReadyH.cons (o := ⟨some 47, Op.call { callee := Callee.value (Operand.func 43), args := #[Operand.tmp 46], argTypes := #[25] }, 3, _, _, none⟩) rfl (fun K hK => ?_) (AllReadyH.cons (o := ⟨some 9, Op.alloc 24, 0, _, _, none⟩) rfl (fun K hK => ?_) AllReadyH.nil)
            · go_simp
              refine (read_any _ _ 4 _ ((b.drop 4).take 4) (by exact hsO) HlO.out (by omega) (by omega)).mono ?_
              rintro e wq4 ⟨rfl, hwq⟩
              subst hwq
              rw [← HO.out]
              have hS5 := trivial
              refine hK.out _ _ (by exact hS5) (fun _ => ?_)
              clear hK K
              try simp only [Act.put, List.setIfInBounds_toArray, List.set_cons_zero, List.set_cons_succ]
              refine wpAnyH_ready (rs := [8, 11]) (by kernel_rfl) (by simp) ?_
              refine AllReadyH.cons (o := ⟨some 50, Op.call { callee := Callee.value (Operand.func 43), args := #[Operand.tmp 49], argTypes := #[25] }, 3, _, _, none⟩) rfl (fun K hK => ?_) (AllReadyH.cons (o := ⟨some 9, Op.alloc 24, 0, _, _, none⟩) rfl (fun K hK => ?_) AllReadyH.nil)
              · go_simp
                refine (read_any _ _ 4 _ ((b.drop 8).take 4) (by exact hsL) HlL.out (by omega) (by omega)).mono ?_
                rintro e wq7 ⟨rfl, hwq⟩
                subst hwq
                rw [← HL.out]
                have hS8 := trivial
                refine hK.out _ _ (by exact hS8) (fun _ => ?_)
                clear hK K
                try simp only [Act.put, List.setIfInBounds_toArray, List.set_cons_zero, List.set_cons_succ]
                refine wpAnyH_take (i := 10) (oi := ⟨some 52, Op.build 24 #[(0, Operand.tmp 44), (1, Operand.tmp 47), (2, Operand.tmp 50), (3, Operand.tmp 51)], 24, _, _, none⟩) (v := ?_) rfl (by kernel_rfl) (by kernel_rfl) (by kernel_rfl) (fun _ _ _ h => h) (Or.inl ⟨by rfl, ?_⟩) (by exact hS0) ?_
                rotate_left
                · (intro w hSw; (try dsimp only at hSw); go_simp; (try with_reducible rfl))
                try simp only [Act.put, List.setIfInBounds_toArray, List.set_cons_zero, List.set_cons_succ]
                refine wpAnyH_ready (rs := [11]) (by kernel_rfl) (by simp) ?_
                refine AllReadyH.cons (o := ⟨some 9, Op.alloc 24, 0, _, _, none⟩) rfl (fun K hK => ?_) AllReadyH.nil
                go_simp
                have hS10 := trivial
                refine hK.out _ _ (by exact hS10) (fun _ => ?_)
                clear hK K
                try simp only [Act.put, List.setIfInBounds_toArray, List.set_cons_zero, List.set_cons_succ]
                refine wpAnyH_ready (rs := [12]) (by kernel_rfl) (by simp) ?_
                refine AllReadyH.cons (o := ⟨none, Op.store 24 (Operand.tmp 9) (Operand.tmp 52), 0, _, _, none⟩) rfl (fun K hK => ?_) AllReadyH.nil
                go_simp
                have hS12 := trivial
                refine hK.out _ _ (by exact hS12) (fun _ => ?_)
                clear hK K
                try simp only [Act.put, List.setIfInBounds_toArray, List.set_cons_zero, List.set_cons_succ]
                refine wpAnyH_done (by kernel_rfl) ?_ _
                refine NoPanic.normal ?_
                go_wp2_with fail
                go_meet
                exact ⟨wc.heap.size, rfl, (Cells.fresh wc 24 [.int .i64 (d : Int), .int .i64 (o : Int), .int .i64 (z : Int), .slice A4 gs.length c4]).drew, ((Kp.refl _ _).alloc _).drew⟩
              · go_simp
                have hS9 := trivial
                refine hK.out _ _ (by exact hS9) (fun _ => ?_)
                clear hK K
                try simp only [Act.put, List.setIfInBounds_toArray, List.set_cons_zero, List.set_cons_succ]
                refine wpAnyH_ready (rs := [8]) (by kernel_rfl) (by simp) ?_
                refine AllReadyH.cons (o := ⟨some 50, Op.call { callee := Callee.value (Operand.func 43), args := #[Operand.tmp 49], argTypes := #[25] }, 3, _, _, none⟩) rfl (fun K hK => ?_) AllReadyH.nil
                go_simp
                refine (read_any _ _ 4 _ ((b.drop 8).take 4) (by exact hsL.kept kA) HlL.out (by omega) (by omega)).mono ?_
                rintro e wq13 ⟨rfl, hwq⟩
                subst hwq
                rw [← HL.out]
                have hS14 := trivial
                refine hK.out _ _ (by exact hS14) (fun _ => ?_)
                clear hK K
                try simp only [Act.put, List.setIfInBounds_toArray, List.set_cons_zero, List.set_cons_succ]
                refine wpAnyH_take (i := 10) (oi := ⟨some 52, Op.build 24 #[(0, Operand.tmp 44), (1, Operand.tmp 47), (2, Operand.tmp 50), (3, Operand.tmp 51)], 24, _, _, none⟩) (v := ?_) rfl (by kernel_rfl) (by kernel_rfl) (by kernel_rfl) (fun _ _ _ h => h) (Or.inl ⟨by rfl, ?_⟩) (by exact hS0) ?_
                rotate_left
                · (intro w hSw; (try dsimp only at hSw); go_simp; (try with_reducible rfl))
                try simp only [Act.put, List.setIfInBounds_toArray, List.set_cons_zero, List.set_cons_succ]
                refine wpAnyH_ready (rs := [12]) (by kernel_rfl) (by simp) ?_
                refine AllReadyH.cons (o := ⟨none, Op.store 24 (Operand.tmp 9) (Operand.tmp 52), 0, _, _, none⟩) rfl (fun K hK => ?_) AllReadyH.nil
                go_simp
                have hS15 := trivial
                refine hK.out _ _ (by exact hS15) (fun _ => ?_)
                clear hK K
                try simp only [Act.put, List.setIfInBounds_toArray, List.set_cons_zero, List.set_cons_succ]
                refine wpAnyH_done (by kernel_rfl) ?_ _
                refine NoPanic.normal ?_
                go_wp2_with fail
                go_meet
                exact ⟨wc.heap.size, rfl, (Cells.fresh wc 24 [.int .i64 (d : Int), .int .i64 (o : Int), .int .i64 (z : Int), .slice A4 gs.length c4]).drew, ((Kp.refl _ _).alloc _).drew⟩
            · go_simp
              have hS6 := trivial
              refine hK.out _ _ (by exact hS6) (fun _ => ?_)
              clear hK K
              try simp only [Act.put, List.setIfInBounds_toArray, List.set_cons_zero, List.set_cons_succ]
              refine wpAnyH_ready (rs := [5]) (by kernel_rfl) (by simp) ?_
              refine AllReadyH.cons (o := ⟨some 47, Op.call { callee := Callee.value (Operand.func 43), args := #[Operand.tmp 46], argTypes := #[25] }, 3, _, _, none⟩) rfl (fun K hK => ?_) AllReadyH.nil
              go_simp
              refine (read_any _ _ 4 _ ((b.drop 4).take 4) (by exact hsO.kept kA) HlO.out (by omega) (by omega)).mono ?_
              rintro e wq16 ⟨rfl, hwq⟩
              subst hwq
              rw [← HO.out]
              have hS17 := trivial
              refine hK.out _ _ (by exact hS17) (fun _ => ?_)
              clear hK K
              try simp only [Act.put, List.setIfInBounds_toArray, List.set_cons_zero, List.set_cons_succ]
              refine wpAnyH_ready (rs := [8]) (by kernel_rfl) (by simp) ?_
              refine AllReadyH.cons (o := ⟨some 50, Op.call { callee := Callee.value (Operand.func 43), args := #[Operand.tmp 49], argTypes := #[25] }, 3, _, _, none⟩) rfl (fun K hK => ?_) AllReadyH.nil
              go_simp
              refine (read_any _ _ 4 _ ((b.drop 8).take 4) (by exact hsL.kept kA) HlL.out (by omega) (by omega)).mono ?_
              rintro e wq18 ⟨rfl, hwq⟩
              subst hwq
              rw [← HL.out]
              have hS19 := trivial
              refine hK.out _ _ (by exact hS19) (fun _ => ?_)
              clear hK K
              try simp only [Act.put, List.setIfInBounds_toArray, List.set_cons_zero, List.set_cons_succ]
              refine wpAnyH_take (i := 10) (oi := ⟨some 52, Op.build 24 #[(0, Operand.tmp 44), (1, Operand.tmp 47), (2, Operand.tmp 50), (3, Operand.tmp 51)], 24, _, _, none⟩) (v := ?_) rfl (by kernel_rfl) (by kernel_rfl) (by kernel_rfl) (fun _ _ _ h => h) (Or.inl ⟨by rfl, ?_⟩) (by exact hS0) ?_
              rotate_left
              · (intro w hSw; (try dsimp only at hSw); go_simp; (try with_reducible rfl))
              try simp only [Act.put, List.setIfInBounds_toArray, List.set_cons_zero, List.set_cons_succ]
              refine wpAnyH_ready (rs := [12]) (by kernel_rfl) (by simp) ?_
              refine AllReadyH.cons (o := ⟨none, Op.store 24 (Operand.tmp 9) (Operand.tmp 52), 0, _, _, none⟩) rfl (fun K hK => ?_) AllReadyH.nil
              go_simp
              have hS20 := trivial
              refine hK.out _ _ (by exact hS20) (fun _ => ?_)
              clear hK K
              try simp only [Act.put, List.setIfInBounds_toArray, List.set_cons_zero, List.set_cons_succ]
              refine wpAnyH_done (by kernel_rfl) ?_ _
              refine NoPanic.normal ?_
              go_wp2_with fail
              go_meet
              exact ⟨wc.heap.size, rfl, (Cells.fresh wc 24 [.int .i64 (d : Int), .int .i64 (o : Int), .int .i64 (z : Int), .slice A4 gs.length c4]).drew, ((Kp.refl _ _).alloc _).drew⟩
          · go_simp
            have hS3 := trivial
            refine hK.out _ _ (by exact hS3) (fun _ => ?_)
            clear hK K
            try simp only [Act.put, List.setIfInBounds_toArray, List.set_cons_zero, List.set_cons_succ]
            refine wpAnyH_ready (rs := [2]) (by kernel_rfl) (by simp) ?_
            refine AllReadyH.cons (o := ⟨some 44, Op.call { callee := Callee.value (Operand.func 43), args := #[Operand.tmp 43], argTypes := #[25] }, 3, _, _, none⟩) rfl (fun K hK => ?_) AllReadyH.nil
            go_simp
            refine (read_any _ _ 4 _ (b.take 4) (by exact hsD.kept kA) HlD.out (by omega) (by omega)).mono ?_
            rintro e wq21 ⟨rfl, hwq⟩
            subst hwq
            rw [← HD.out]
            have hS22 := trivial
            refine hK.out _ _ (by exact hS22) (fun _ => ?_)
            clear hK K
            try simp only [Act.put, List.setIfInBounds_toArray, List.set_cons_zero, List.set_cons_succ]
            refine wpAnyH_ready (rs := [5]) (by kernel_rfl) (by simp) ?_
            refine AllReadyH.cons (o := ⟨some 47, Op.call { callee := Callee.value (Operand.func 43), args := #[Operand.tmp 46], argTypes := #[25] }, 3, _, _, none⟩) rfl (fun K hK => ?_) AllReadyH.nil
            go_simp
            refine (read_any _ _ 4 _ ((b.drop 4).take 4) (by exact hsO.kept kA) HlO.out (by omega) (by omega)).mono ?_
            rintro e wq23 ⟨rfl, hwq⟩
            subst hwq
            rw [← HO.out]
            have hS24 := trivial
            refine hK.out _ _ (by exact hS24) (fun _ => ?_)
            clear hK K
            try simp only [Act.put, List.setIfInBounds_toArray, List.set_cons_zero, List.set_cons_succ]
            refine wpAnyH_ready (rs := [8]) (by kernel_rfl) (by simp) ?_
            refine AllReadyH.cons (o := ⟨some 50, Op.call { callee := Callee.value (Operand.func 43), args := #[Operand.tmp 49], argTypes := #[25] }, 3, _, _, none⟩) rfl (fun K hK => ?_) AllReadyH.nil
            go_simp
            refine (read_any _ _ 4 _ ((b.drop 8).take 4) (by exact hsL.kept kA) HlL.out (by omega) (by omega)).mono ?_
            rintro e wq25 ⟨rfl, hwq⟩
            subst hwq
            rw [← HL.out]
            have hS26 := trivial
            refine hK.out _ _ (by exact hS26) (fun _ => ?_)
            clear hK K
            try simp only [Act.put, List.setIfInBounds_toArray, List.set_cons_zero, List.set_cons_succ]
            refine wpAnyH_take (i := 10) (oi := ⟨some 52, Op.build 24 #[(0, Operand.tmp 44), (1, Operand.tmp 47), (2, Operand.tmp 50), (3, Operand.tmp 51)], 24, _, _, none⟩) (v := ?_) rfl (by kernel_rfl) (by kernel_rfl) (by kernel_rfl) (fun _ _ _ h => h) (Or.inl ⟨by rfl, ?_⟩) (by exact hS0) ?_
            rotate_left
            · (intro w hSw; (try dsimp only at hSw); go_simp; (try with_reducible rfl))
            try simp only [Act.put, List.setIfInBounds_toArray, List.set_cons_zero, List.set_cons_succ]
            refine wpAnyH_ready (rs := [12]) (by kernel_rfl) (by simp) ?_
            refine AllReadyH.cons (o := ⟨none, Op.store 24 (Operand.tmp 9) (Operand.tmp 52), 0, _, _, none⟩) rfl (fun K hK => ?_) AllReadyH.nil
            go_simp
            have hS27 := trivial
            refine hK.out _ _ (by exact hS27) (fun _ => ?_)
            clear hK K
            try simp only [Act.put, List.setIfInBounds_toArray, List.set_cons_zero, List.set_cons_succ]
            refine wpAnyH_done (by kernel_rfl) ?_ _
            refine NoPanic.normal ?_
            go_wp2_with fail
            go_meet
            exact ⟨wc.heap.size, rfl, (Cells.fresh wc 24 [.int .i64 (d : Int), .int .i64 (o : Int), .int .i64 (z : Int), .slice A4 gs.length c4]).drew, ((Kp.refl _ _).alloc _).drew⟩
        case rest =>
          obtain ⟨T, rfl, hCT, hkT⟩ := hcut
          have hKw := hKc.nil hkT
          obtain ⟨R, hR⟩ : ∃ R : Rec, R = ⟨(d : Int), (o : Int), (z : Int), gs⟩ := ⟨_, rfl⟩
          have hRI : RecIs wc R (.agg #[.int .i64 (d : Int), .int .i64 (o : Int), .int .i64 (z : Int), .slice A4 gs.length c4]) := by
            subst hR
            exact ⟨A4, c4, rfl, hsp4.kept hkT, hc41, hc42⟩
          have hRz : ∀ s ∈ R.holes, s.size ≤ 9223372036854775807 := by
            intro s hs
            have := Hz4.out s (by rw [hR] at hs; exact hs)
            omega
          have hlaw := fun r (h : Begins l r) => take_law (bo := bo) (R := R) Hqe.out Hb.out Hmany.out Hbo.out Hgs.out (by rw [hR, HD.out, HO.out, HL.out]) h
          have E0 := hCT.cell 0
          have E1 := hCT.cell 1
          have E2 := hCT.cell 2
          have E3 := hCT.cell 3
          simp only [List.getElem?_cons_zero, List.getElem?_cons_succ] at E0 E1 E2 E3
          have HR := hid hR
          have Hlaw := hid hlaw
          clear hR hlaw hsD hsO hsL kA
          go_wp2_with fail
          refine (put_any wc R _ hRI (hT.kept hKw) hRz).mono ?_
          rintro e w5 ⟨v5, rfl, ho5, hn5⟩
          have hK5 := hKw.nil hn5.kp
          have hB5 := (hBc.keep hkT (by simp)).keep hn5.kp (by simp)
          have hCT5 := hCT.keep hn5.kp (by simp)
          have hsp5 := hsp4.kept (hkT.nil hn5.kp)
          have G0 := hB5.cell 0
          have G1 := hB5.cell 1
          have G2 := hB5.cell 2
          have G3 := hB5.cell 3
          have F0 := hB5.free 0
          have F1 := hB5.free 1
          have F2 := hB5.free 2
          have F3 := hB5.free 3
          have T0 := hCT5.cell 0
          have T1 := hCT5.cell 1
          have T2 := hCT5.cell 2
          have T3 := hCT5.cell 3
          simp only [List.getElem?_cons_zero, List.getElem?_cons_succ] at G0 G1 G2 G3 T0 T1 T2 T3
          clear E0 E1 E2 E3
          obtain ⟨A5, c5, rfl, hs5, hc5, -⟩ := ho5.shape
          have hsl : Span w5 (some ad) (u8s (l.take (q + 8))) := by rw [u8s_take]; exact (hs.kept hK5).take _
          have hll : (l.take (q + 8)).length = q + 8 := by rw [List.length_take]; have := Hn.out; omega
          obtain ⟨m, hm⟩ : ∃ m, m = mayOf R := ⟨_, rfl⟩
          rw [← hm]
          have Hm := hid hm
          have Hll := hid hll
          have hSw : w.heap.size ≤ S := by have := HW.out.2; omega
          obtain ⟨B2, K2⟩ := store_rec hB5 hK5 hSw (.int .i64 0) (.int .i64 0) (.int .i64 0) (.slice none 0 0)
          obtain ⟨B3, K3⟩ := store_rec hB5 hK5 hSw (.int .i64 (d : Int)) (.int .i64 (o : Int)) (.int .i64 (z : Int)) (.slice A4 gs.length c4)
          have HB2 := hid (And.intro B2 K2)
          have HB3 := hid (And.intro B3 K3)
          clear hm hll ho5 B2 K2 B3 K3 hB5 hCT5 hBc hCT hRI
          cases bo with
          | false =>
            have Hno : Hid (∀ r, ¬ Begins l r) := hid (fun r h => by have := (Hlaw.out r h).1; simp at this)
            go_wp2_with fail
            exact bodyPost_ret (results_take _ _ S _ HB2.out.1 rfl rfl) rfl (.inr ⟨Hno.out, rfl, HB2.out.2⟩)
          | true =>
            by_cases hm0 : m = 0
            · subst hm0
              go_wp2_with fail
              refine (equal_any w5 A5 _ c5 (putL R) hs5 rfl (some ad) (q + 8) c (l.take (q + 8)) hsl Hll.out).mono ?_
              rintro e w6 ⟨rfl, rfl⟩
              cases heq : (putL R == l.take (q + 8)) with
              | false =>
                have Hno : Hid (∀ r, ¬ Begins l r) := hid (fun r h => by have := (Hlaw.out r h).2.2.2; rw [this] at heq; simp at heq)
                clear heq
                go_wp2_with fail
                exact bodyPost_ret (results_take _ _ S _ HB2.out.1 rfl rfl) rfl (.inr ⟨Hno.out, rfl, HB2.out.2⟩)
              | true =>
                have he : putL R = l.take (q + 8) := by simpa using heq
                have hpb : putL R = putB R := by rw [putL, if_pos Hm.out.symm]
                have hbg : Begins l R := ⟨Hm.out.symm, l.drop (q + 8), by rw [← hpb, he, List.take_append_drop]⟩
                have hlen : (putB R).length = q + 8 := by rw [← hpb, he, Hll.out]
                have hspf := (((hsp5.setCell (p := ⟨S, 0, none⟩) HA4.out (.int .i64 (d : Int))).setCell (p := ⟨S, 1, none⟩) HA4.out (.int .i64 (o : Int))).setCell (p := ⟨S, 2, none⟩) HA4.out (.int .i64 (z : Int))).setCell (p := ⟨S, 3, none⟩) HA4.out (.slice A4 gs.length c4)
                have hrec : RecNew w ((((w6.setCell ⟨S, 0, none⟩ (.int .i64 (d : Int))).setCell ⟨S, 1, none⟩ (.int .i64 (o : Int))).setCell ⟨S, 2, none⟩ (.int .i64 (z : Int))).setCell ⟨S, 3, none⟩ (.slice A4 gs.length c4)) R (.agg #[.int .i64 (d : Int), .int .i64 (o : Int), .int .i64 (z : Int), .slice A4 gs.length c4]) := by
                  have e := HR.out
                  subst e
                  exact ⟨A4, c4, rfl, hspf, hc41, hc42, HA5.out⟩
                have hpost : TakePost w l (.returned (.tuple #[.agg #[.int .i64 (d : Int), .int .i64 (o : Int), .int .i64 (z : Int), .slice A4 gs.length c4], .int .i64 ((q : Int) + 8), .int .i64 0])) ((((w6.setCell ⟨S, 0, none⟩ (.int .i64 (d : Int))).setCell ⟨S, 1, none⟩ (.int .i64 (o : Int))).setCell ⟨S, 2, none⟩ (.int .i64 (z : Int))).setCell ⟨S, 3, none⟩ (.slice A4 gs.length c4)) :=
                  .inl ⟨R, _, hbg, by rw [hlen]; rfl, hrec, HB3.out.2⟩
                have Hpost := hid hpost
                clear heq he hpb hbg hlen hspf hrec hpost
                go_wp2_with fail
                exact bodyPost_ret (results_take _ _ S _ HB3.out.1 rfl rfl) rfl Hpost.out
            · have Hno : Hid (∀ r, ¬ Begins l r) := hid (fun r h => by have := (Hlaw.out r h).2.2.1; rw [← Hm.out] at this; exact hm0 this)
              go_wp2_with fail
              exact bodyPost_ret (results_take _ _ S _ HB2.out.1 rfl rfl) rfl (.inr ⟨Hno.out, rfl, HB2.out.2⟩)
end Go.Proofs.YtepeopfdenieeaaDoor
