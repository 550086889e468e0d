/- frame.holes: so many holes that bytes are. -/
import Derived.Test.YtepeopfdenieeaaDoorRead
import Derived.Test.YtepeopfdenieeaaDoorTakeLaw
import Derived.Test.YtepeopfdenieeaaDoorFew17
namespace Go.Proofs.YtepeopfdenieeaaDoor
open Go Go.RowKit

def HolesPost (w : World) (l : List UInt8) (many : Nat) (e : Ending) (w' : World) : Prop :=
  (holesGo many l = none ∧ e = .returned (.tuple #[.slice none 0 0, .bool false]) ∧ Kp [] w w') ∨
  ∃ hs rest v b, holesGo many l = some (hs, rest) ∧ e = .returned (.tuple #[v, .bool b]) ∧ (b = true ↔ rest = []) ∧ Own w' 9 v hs.length (hs.map .string) ∧ New w w' v

set_option maxRecDepth 100000 in
set_option maxHeartbeats 1600000 in
theorem holes_any (w : World) (A : Option Addr) (n c : Nat) (l : List UInt8) (hs : Span w A (u8s l)) (hn : l.length = n) (hc : n ≤ c) (hc2 : c ≤ 9223372036854775807) (many : Nat) (hm : many < 65536) :
    Calls Tryd.prog 44 #[.slice A n c, .int .i64 (many : Int)] w (HolesPost w l many) := by
  obtain ⟨G, hG⟩ : ∃ G, G = holesGo many l := ⟨_, rfl⟩
  have HG := hid hG
  clear hG
  go_enter Tryd.func44, Tryd.ntmps44
  go_wp2_with fail
  go_loopw [0, 4, 8] (fun s0 v4 i wr => ∃ (k : Nat) (B : Option Addr) (m d : Nat) (gs : List ByteArray) (b : List UInt8), k ≤ many ∧ i = .int .i64 k ∧ s0 = .slice B m d ∧ Span w B (u8s b) ∧ b.length = m ∧ m ≤ d ∧ d ≤ 9223372036854775807 ∧
      Own wr 9 v4 k (gs.map .string) ∧ New w wr v4 ∧ gs.length = k ∧ G = (holesGo (many - k) b).map (fun x => (gs ++ x.1, x.2))) (fun _ _ i _ => many - (intOf i).toNat)
  case atStart => exact ⟨0, A, n, c, [], l, by omega, rfl, rfl, hs, hn, hc, hc2, Own.nil _ _, New.nil (Kp.refl _ _), rfl, by rw [HG.out]; simp⟩
  case round =>
    obtain ⟨k, B, m, d, gs, b, hk, rfl, rfl, hsb0, hbm, hmd, hd2, ho, hnw, hgl, hgo⟩ := hrel
    have hsb := hsb0.kept hnw.kp
    have Hbm := hid hbm
    have Hgl := hid hgl
    have Hgo := hid hgo
    clear hbm hgl hgo
    by_cases hlt : k < many
    · obtain ⟨j, hj⟩ : ∃ j, many - k = j + 1 := ⟨many - k - 1, by omega⟩
      have hj2 : many - (k + 1) = j := by omega
      by_cases h2 : m < 2
      · have hnone : G = none := by
          rw [Hgo.out, hj, holesGo, if_pos (.inl (by have := Hbm.out; omega))]
          rfl
        have Hn := hid hnone
        clear hnone
        go_wp2_with fail
        go_ret2
        exact .inl ⟨by rw [← HG.out]; exact Hn.out, rfl, hnw.kp⟩
      · have hs2 : Span wr B (u8s (b.take 2)) := by rw [u8s_take]; exact hsb.take 2
        have hl2 : (b.take 2).length = 2 := by rw [List.length_take]; have := Hbm.out; omega
        have hq := readB_lt (b.take 2)
        rw [hl2] at hq
        obtain ⟨q, hqe⟩ : ∃ q, q = readB (b.take 2) := ⟨_, rfl⟩
        rw [← hqe] at hq
        have Hqe := hid hqe
        have Hl2 := hid hl2
        clear hqe hl2
        by_cases hshort : m - 2 < q
        · have hnone : G = none := by
            rw [Hgo.out, hj, holesGo, if_pos (.inr (by have := Hbm.out; rw [← Hqe.out]; omega))]
            rfl
          have Hn := hid hnone
          clear hnone
          go_wp2_with fail
          refine (read_any wr B 2 d (b.take 2) hs2 Hl2.out (by omega) (by omega)).mono ?_
          rintro e w2 ⟨rfl, rfl⟩
          rw [← Hqe.out]
          go_wp2_with fail
          go_ret2
          exact .inl ⟨by rw [← HG.out]; exact Hn.out, rfl, hnw.kp⟩
        · go_wp2_with fail
          refine (read_any wr B 2 d (b.take 2) hs2 Hl2.out (by omega) (by omega)).mono ?_
          rintro e w2 ⟨rfl, rfl⟩
          rw [← Hqe.out]
          go_wp2_with fail
          refine (read_any w2 B 2 d (b.take 2) hs2 Hl2.out (by omega) (by omega)).mono ?_
          rintro e w3 ⟨rfl, rfl⟩
          rw [← Hqe.out]
          go_wp2_with fail
          have hgo2 : G = (holesGo (many - (k + 1)) (b.drop (2 + q))).map (fun x => (gs ++ [textOf ((b.drop 2).take q)] ++ x.1, x.2)) := by
            rw [Hgo.out, hj, hj2, holesGo, ← Hqe.out, if_neg (by have := Hbm.out; omega), Option.map_map]
            congr 1
            funext x
            simp
          obtain ⟨t, ht⟩ : ∃ t, t = textOf ((b.drop 2).take q) := ⟨_, rfl⟩
          rw [← ht] at hgo2
          have Hgo2 := hid hgo2
          have Ht := hid ht
          clear hgo2 ht
          have hlq : ((b.drop 2).take q).length = q := by rw [List.length_take, List.length_drop]; have := Hbm.out; omega
          have hld : (b.drop (2 + q)).length = m - (2 + q) := by rw [List.length_drop, Hbm.out]
          have Hlq := hid hlq
          have Hld := hid hld
          have kB0 := (Kp.refl [] w3).drew.alloc (.cells #[.string t] 9)
          have hoB := ho.kept kB0
          have kB := hnw.kp.nil kB0
          have hsB : Span (w3.drew.alloc (.cells #[.string t] 9)) (some ⟨w3.heap.size, 0, none⟩) [.string t] := Span.of_new w3.drew 9 (0, 0) [.string t]
          obtain ⟨ad, hA, -⟩ := hsb0.get (j := 0) (by rw [length_u8s]; have := Hbm.out; omega)
          subst hA
          obtain ⟨N, hN⟩ : ∃ N, N = 2 + q := ⟨_, rfl⟩
          have eN : (2 : Int) + (q : Int) = (N : Int) := by omega
          rw [eN]
          have eq2 : q = N - 2 := by omega
          subst eq2
          have hN2 : 2 ≤ N := by omega
          have hNm : N ≤ m := by omega
          have hNd : N ≤ d := by omega
          have i1 : (2 : Int) ≤ (N : Int) := by omega
          have i2 : (N : Int) ≤ (m : Int) := by omega
          have i3 : (N : Int) ≤ (d : Int) := by omega
          have i4 : (0 : Int) ≤ (N : Int) := by omega
          have e2 : 2 + (N - 2) = N := by omega
          rw [e2] at Hgo2 Hld
          clear hlq hld hN eN e2 hshort h2
          by_cases hd0 : d = 2
          · subst hd0
            obtain rfl : N = 2 := by omega
            have hm0 : m = 2 := by omega
            have hnil : b.drop 2 = [] := List.drop_eq_nil_of_le (by have := Hbm.out; omega)
            have hnext : Span w (some ad) (u8s (b.drop 2)) := by rw [hnil]; exact Span.nil _ _
            have Hnext := hid (And.intro hnext Hld.out)
            have hcvS : ∀ W, Kp [] w W → (convert 25 9 (.slice (some ad) 0 0)).run Tryd.prog W = .ok (.string t) W := fun W kW => by
              have := run_text (P := Tryd.prog) Tryd.underlying25 Tryd.underlying5 Tryd.underlying9 (l := (b.drop 2).take 0) (by rw [hnil]; exact Span.nil W (some ad)) 0 0 (by simp)
              rw [Ht.out]
              exact this
            have HS := hid hcvS
            clear hcvS hnext hnil hm0
            refine wp_region_noPanic ?_
            refine wp_region_held (S := fun W => (convert 25 9 (.slice (some ad) 0 0)).run Tryd.prog W = .ok (.string t) W) (by kernel_rfl) ?_
            have hS0 := HS.out _ (hnw.kp.nil (Kp.refl [] w3).drew)
            refine wpAnyH_take (i := 0) (oi := ⟨some 26, Op.move (Operand.tmp 4), 22, _, _, none⟩) (v := ?_) rfl (by kernel_rfl) (by kernel_rfl) (by kernel_rfl) (fun _ _ _ h => h) (Or.inl ⟨by rfl, ?_⟩) (by exact hS0) ?_
            rotate_left
            · (intro w hSw; (try dsimp only at hSw); go_simp; (try with_reducible rfl))
            try simp only [Act.put, List.setIfInBounds_toArray, List.set_cons_zero, List.set_cons_succ]
            refine wpAnyH_take (i := 1) (oi := ⟨some 27, Op.move (Operand.tmp 0), 25, _, _, none⟩) (v := ?_) rfl (by kernel_rfl) (by kernel_rfl) (by kernel_rfl) (fun _ _ _ h => h) (Or.inl ⟨by rfl, ?_⟩) (by exact hS0) ?_
            rotate_left
            · (intro w hSw; (try dsimp only at hSw); go_simp; (try with_reducible rfl))
            try simp only [Act.put, List.setIfInBounds_toArray, List.set_cons_zero, List.set_cons_succ]
            refine wpAnyH_take (i := 2) (oi := ⟨some 28, Op.move (Operand.tmp 6), 3, _, _, none⟩) (v := ?_) rfl (by kernel_rfl) (by kernel_rfl) (by kernel_rfl) (fun _ _ _ h => h) (Or.inl ⟨by rfl, ?_⟩) (by exact hS0) ?_
            rotate_left
            · (intro w hSw; (try dsimp only at hSw); go_simp; (try with_reducible rfl))
            try simp only [Act.put, List.setIfInBounds_toArray, List.set_cons_zero, List.set_cons_succ]
            refine wpAnyH_take (i := 3) (oi := ⟨some 29, Op.slice 25 (Operand.tmp 27) (some (Operand.const (Value.int IntKind.i64 2))) (some (Operand.tmp 28)) none, 25, _, _, none⟩) (v := ?_) rfl (by kernel_rfl) (by kernel_rfl) (by kernel_rfl) (fun _ _ _ h => h) (Or.inl ⟨by rfl, ?_⟩) (by exact hS0) ?_
            rotate_left
            · (intro w hSw; (try dsimp only at hSw); go_simp; (try with_reducible rfl))
            try simp only [Act.put, List.setIfInBounds_toArray, List.set_cons_zero, List.set_cons_succ]
            refine wpAnyH_take (i := 4) (oi := ⟨some 30, Op.convert 25 9 (Operand.tmp 29), 9, _, _, none⟩) (v := ?_) rfl (by kernel_rfl) (by kernel_rfl) (by kernel_rfl) (fun _ _ _ h => h) (Or.inl ⟨by rfl, ?_⟩) (by exact hS0) ?_
            rotate_left
            · (intro w hSw; (try dsimp only at hSw); go_simp; (try with_reducible rfl))
            try simp only [Act.put, List.setIfInBounds_toArray, List.set_cons_zero, List.set_cons_succ]
            refine wpAnyH_take (i := 7) (oi := ⟨some 33, Op.move (Operand.tmp 0), 25, _, _, none⟩) (v := ?_) rfl (by kernel_rfl) (by kernel_rfl) (by kernel_rfl) (fun _ _ _ h => h) (Or.inl ⟨by rfl, ?_⟩) (by exact hS0) ?_
            rotate_left
            · (intro w hSw; (try dsimp only at hSw); go_simp; (try with_reducible rfl))
            try simp only [Act.put, List.setIfInBounds_toArray, List.set_cons_zero, List.set_cons_succ]
            refine wpAnyH_take (i := 8) (oi := ⟨some 34, Op.move (Operand.tmp 6), 3, _, _, none⟩) (v := ?_) rfl (by kernel_rfl) (by kernel_rfl) (by kernel_rfl) (fun _ _ _ h => h) (Or.inl ⟨by rfl, ?_⟩) (by exact hS0) ?_
            rotate_left
            · (intro w hSw; (try dsimp only at hSw); go_simp; (try with_reducible rfl))
            try simp only [Act.put, List.setIfInBounds_toArray, List.set_cons_zero, List.set_cons_succ]
            refine wpAnyH_take (i := 9) (oi := ⟨some 35, Op.slice 25 (Operand.tmp 33) (some (Operand.tmp 34)) none none, 25, _, _, none⟩) (v := ?_) rfl (by kernel_rfl) (by kernel_rfl) (by kernel_rfl) (fun _ _ _ h => h) (Or.inl ⟨by rfl, ?_⟩) (by exact hS0) ?_
            rotate_left
            · (intro w hSw; (try dsimp only at hSw); go_simp; (try with_reducible rfl))
            try simp only [Act.put, List.setIfInBounds_toArray, List.set_cons_zero, List.set_cons_succ]
            refine wpAnyH_ready (rs := [5]) (by kernel_rfl) (by simp) ?_
            refine AllReadyH.cons (o := ⟨some 31, Op.buildSlice 22 1 #[(0, Operand.tmp 30)], 22, _, _, none⟩) rfl (fun K hK => ?_) AllReadyH.nil
            go_simp
            have hS1 := HS.out _ kB
            refine hK.out _ _ (by exact hS1) (fun _ => ?_)
            clear hK K
            try simp only [Act.put, List.setIfInBounds_toArray, List.set_cons_zero, List.set_cons_succ]
            refine wpAnyH_ready (rs := [6]) (by kernel_rfl) (by simp) ?_
            refine AllReadyH.cons (o := ⟨some 32, Op.call { callee := Callee.builtin Builtin.append, args := #[Operand.tmp 26, Operand.tmp 31], argTypes := #[22, 22] }, 22, _, _, none⟩) rfl (fun K hK => ?_) AllReadyH.nil
            refine step_append1 rfl (.tmp 26) (.tmp 31) 22 rfl 9 (.string ⟨#[]⟩) 16 Tryd.underlying22 infoStr rfl _ k (gs.map .string) (by rfl) hoB _ 1 1 [.string t] (by rfl) hsB rfl (one_string _) (by omega) (by omega) ?_
            intro v7 w7 ho7 k7 b7
            have n7 := (hnw.kept kB0).append k7 b7 (Nat.le_refl _)
            have hS2 := HS.out _ n7.kp
            refine hK.out _ _ (by exact hS2) (fun _ => ?_)
            clear hK K
            try simp only [Act.put, List.setIfInBounds_toArray, List.set_cons_zero, List.set_cons_succ]
            refine wpAnyH_take (i := 10) (oi := ⟨some 4, Op.assign (Operand.tmp 32), 22, _, _, none⟩) (v := ?_) rfl (by kernel_rfl) (by kernel_rfl) (by kernel_rfl) (fun _ _ _ h => h) (Or.inl ⟨by rfl, ?_⟩) (by exact hS2) ?_
            rotate_left
            · (intro w hSw; (try dsimp only at hSw); go_simp; (try with_reducible rfl))
            try simp only [Act.put, List.setIfInBounds_toArray, List.set_cons_zero, List.set_cons_succ]
            refine wpAnyH_take (i := 11) (oi := ⟨some 0, Op.assign (Operand.tmp 35), 25, _, _, none⟩) (v := ?_) rfl (by kernel_rfl) (by kernel_rfl) (by kernel_rfl) (fun _ _ _ h => h) (Or.inl ⟨by rfl, ?_⟩) (by exact hS2) ?_
            rotate_left
            · (intro w hSw; (try dsimp only at hSw); go_simp; (try with_reducible rfl))
            try simp only [Act.put, List.setIfInBounds_toArray, List.set_cons_zero, List.set_cons_succ]
            refine wpAnyH_done (by kernel_rfl) ?_ _
            refine NoPanic.normal ?_
            go_wp2_with fail
            go_roundw
            case rel =>
              exact ⟨k + 1, some ad, m - 2, 0, gs ++ [t], b.drop 2, by omega, by go_num, by simp; omega, Hnext.out.1, Hnext.out.2, by omega, by omega, by simpa using ho7, n7, by simp [Hgl.out], Hgo2.out⟩
            case measure => simp [intOf]; omega
          · have hsp2 : Span w (some ⟨ad.block, ad.off + 2, none⟩) (u8s ((b.drop 2).take (N - 2))) := by
              have := hsb0.sub 2 (N - 2)
              rwa [← u8s_drop, ← u8s_take] at this
            have hcvS : ∀ W, Kp [] w W → (convert 25 9 (.slice (some ⟨ad.block, ad.off + 2, none⟩) (N - 2) (d - 2))).run Tryd.prog W = .ok (.string t) W := fun W kW => by
              have := run_text (P := Tryd.prog) Tryd.underlying25 Tryd.underlying5 Tryd.underlying9 (hsp2.kept kW) (N - 2) (d - 2) Hlq.out
              rw [Ht.out]
              exact this
            have HS := hid hcvS
            clear hcvS
            by_cases hd1 : d = N
            · subst hd1
              have hm0 : m = d := by omega
              have hnil : b.drop d = [] := List.drop_eq_nil_of_le (by have := Hbm.out; omega)
              have hnext : Span w (some ad) (u8s (b.drop d)) := by rw [hnil]; exact Span.nil _ _
              have Hnext := hid (And.intro hnext Hld.out)
              clear hnext hnil hm0
              refine wp_region_noPanic ?_
              refine wp_region_held (S := fun W => (convert 25 9 (.slice (some ⟨ad.block, ad.off + 2, none⟩) (d - 2) (d - 2))).run Tryd.prog W = .ok (.string t) W) (by kernel_rfl) ?_
              have hS0 := HS.out _ (hnw.kp.nil (Kp.refl [] w3).drew)
              refine wpAnyH_take (i := 0) (oi := ⟨some 26, Op.move (Operand.tmp 4), 22, _, _, none⟩) (v := ?_) rfl (by kernel_rfl) (by kernel_rfl) (by kernel_rfl) (fun _ _ _ h => h) (Or.inl ⟨by rfl, ?_⟩) (by exact hS0) ?_
              rotate_left
              · (intro w hSw; (try dsimp only at hSw); go_simp; (try with_reducible rfl))
              try simp only [Act.put, List.setIfInBounds_toArray, List.set_cons_zero, List.set_cons_succ]
              refine wpAnyH_take (i := 1) (oi := ⟨some 27, Op.move (Operand.tmp 0), 25, _, _, none⟩) (v := ?_) rfl (by kernel_rfl) (by kernel_rfl) (by kernel_rfl) (fun _ _ _ h => h) (Or.inl ⟨by rfl, ?_⟩) (by exact hS0) ?_
              rotate_left
              · (intro w hSw; (try dsimp only at hSw); go_simp; (try with_reducible rfl))
              try simp only [Act.put, List.setIfInBounds_toArray, List.set_cons_zero, List.set_cons_succ]
              refine wpAnyH_take (i := 2) (oi := ⟨some 28, Op.move (Operand.tmp 6), 3, _, _, none⟩) (v := ?_) rfl (by kernel_rfl) (by kernel_rfl) (by kernel_rfl) (fun _ _ _ h => h) (Or.inl ⟨by rfl, ?_⟩) (by exact hS0) ?_
              rotate_left
              · (intro w hSw; (try dsimp only at hSw); go_simp; (try with_reducible rfl))
              try simp only [Act.put, List.setIfInBounds_toArray, List.set_cons_zero, List.set_cons_succ]
              refine wpAnyH_take (i := 3) (oi := ⟨some 29, Op.slice 25 (Operand.tmp 27) (some (Operand.const (Value.int IntKind.i64 2))) (some (Operand.tmp 28)) none, 25, _, _, none⟩) (v := ?_) rfl (by kernel_rfl) (by kernel_rfl) (by kernel_rfl) (fun _ _ _ h => h) (Or.inl ⟨by rfl, ?_⟩) (by exact hS0) ?_
              rotate_left
              · (intro w hSw; (try dsimp only at hSw); go_simp; (try with_reducible rfl))
              try simp only [Act.put, List.setIfInBounds_toArray, List.set_cons_zero, List.set_cons_succ]
              refine wpAnyH_take (i := 4) (oi := ⟨some 30, Op.convert 25 9 (Operand.tmp 29), 9, _, _, none⟩) (v := ?_) rfl (by kernel_rfl) (by kernel_rfl) (by kernel_rfl) (fun _ _ _ h => h) (Or.inl ⟨by rfl, ?_⟩) (by exact hS0) ?_
              rotate_left
              · (intro w hSw; (try dsimp only at hSw); go_simp; (try with_reducible rfl))
              try simp only [Act.put, List.setIfInBounds_toArray, List.set_cons_zero, List.set_cons_succ]
              refine wpAnyH_take (i := 7) (oi := ⟨some 33, Op.move (Operand.tmp 0), 25, _, _, none⟩) (v := ?_) rfl (by kernel_rfl) (by kernel_rfl) (by kernel_rfl) (fun _ _ _ h => h) (Or.inl ⟨by rfl, ?_⟩) (by exact hS0) ?_
              rotate_left
              · (intro w hSw; (try dsimp only at hSw); go_simp; (try with_reducible rfl))
              try simp only [Act.put, List.setIfInBounds_toArray, List.set_cons_zero, List.set_cons_succ]
              refine wpAnyH_take (i := 8) (oi := ⟨some 34, Op.move (Operand.tmp 6), 3, _, _, none⟩) (v := ?_) rfl (by kernel_rfl) (by kernel_rfl) (by kernel_rfl) (fun _ _ _ h => h) (Or.inl ⟨by rfl, ?_⟩) (by exact hS0) ?_
              rotate_left
              · (intro w hSw; (try dsimp only at hSw); go_simp; (try with_reducible rfl))
              try simp only [Act.put, List.setIfInBounds_toArray, List.set_cons_zero, List.set_cons_succ]
              refine wpAnyH_take (i := 9) (oi := ⟨some 35, Op.slice 25 (Operand.tmp 33) (some (Operand.tmp 34)) none none, 25, _, _, none⟩) (v := ?_) rfl (by kernel_rfl) (by kernel_rfl) (by kernel_rfl) (fun _ _ _ h => h) (Or.inl ⟨by rfl, ?_⟩) (by exact hS0) ?_
              rotate_left
              · (intro w hSw; (try dsimp only at hSw); go_simp; (try with_reducible rfl))
              try simp only [Act.put, List.setIfInBounds_toArray, List.set_cons_zero, List.set_cons_succ]
              refine wpAnyH_ready (rs := [5]) (by kernel_rfl) (by simp) ?_
              refine AllReadyH.cons (o := ⟨some 31, Op.buildSlice 22 1 #[(0, Operand.tmp 30)], 22, _, _, none⟩) rfl (fun K hK => ?_) AllReadyH.nil
              go_simp
              have hS1 := HS.out _ kB
              refine hK.out _ _ (by exact hS1) (fun _ => ?_)
              clear hK K
              try simp only [Act.put, List.setIfInBounds_toArray, List.set_cons_zero, List.set_cons_succ]
              refine wpAnyH_ready (rs := [6]) (by kernel_rfl) (by simp) ?_
              refine AllReadyH.cons (o := ⟨some 32, Op.call { callee := Callee.builtin Builtin.append, args := #[Operand.tmp 26, Operand.tmp 31], argTypes := #[22, 22] }, 22, _, _, none⟩) rfl (fun K hK => ?_) AllReadyH.nil
              refine step_append1 rfl (.tmp 26) (.tmp 31) 22 rfl 9 (.string ⟨#[]⟩) 16 Tryd.underlying22 infoStr rfl _ k (gs.map .string) (by rfl) hoB _ 1 1 [.string t] (by rfl) hsB rfl (one_string _) (by omega) (by omega) ?_
              intro v7 w7 ho7 k7 b7
              have n7 := (hnw.kept kB0).append k7 b7 (Nat.le_refl _)
              have hS2 := HS.out _ n7.kp
              refine hK.out _ _ (by exact hS2) (fun _ => ?_)
              clear hK K
              try simp only [Act.put, List.setIfInBounds_toArray, List.set_cons_zero, List.set_cons_succ]
              refine wpAnyH_take (i := 10) (oi := ⟨some 4, Op.assign (Operand.tmp 32), 22, _, _, none⟩) (v := ?_) rfl (by kernel_rfl) (by kernel_rfl) (by kernel_rfl) (fun _ _ _ h => h) (Or.inl ⟨by rfl, ?_⟩) (by exact hS2) ?_
              rotate_left
              · (intro w hSw; (try dsimp only at hSw); go_simp; (try with_reducible rfl))
              try simp only [Act.put, List.setIfInBounds_toArray, List.set_cons_zero, List.set_cons_succ]
              refine wpAnyH_take (i := 11) (oi := ⟨some 0, Op.assign (Operand.tmp 35), 25, _, _, none⟩) (v := ?_) rfl (by kernel_rfl) (by kernel_rfl) (by kernel_rfl) (fun _ _ _ h => h) (Or.inl ⟨by rfl, ?_⟩) (by exact hS2) ?_
              rotate_left
              · (intro w hSw; (try dsimp only at hSw); go_simp; (try with_reducible rfl))
              try simp only [Act.put, List.setIfInBounds_toArray, List.set_cons_zero, List.set_cons_succ]
              refine wpAnyH_done (by kernel_rfl) ?_ _
              refine NoPanic.normal ?_
              go_wp2_with fail
              go_roundw
              case rel =>
                exact ⟨k + 1, some ad, m - d, 0, gs ++ [t], b.drop d, by omega, by go_num, by simp; omega, Hnext.out.1, Hnext.out.2, by omega, by omega, by simpa using ho7, n7, by simp [Hgl.out], Hgo2.out⟩
              case measure => simp [intOf]; omega
            · have hnext : Span w (some (ad.add N)) (u8s (b.drop N)) := by
                have := hsb0.drop (k := N) (cap := d) (by rw [length_u8s, Hbm.out]; exact hmd)
                rwa [if_neg hd1, ← u8s_drop] at this
              have Hnext := hid (And.intro hnext Hld.out)
              clear hnext
              refine wp_region_noPanic ?_
              refine wp_region_held (S := fun W => (convert 25 9 (.slice (some ⟨ad.block, ad.off + 2, none⟩) (N - 2) (d - 2))).run Tryd.prog W = .ok (.string t) W) (by kernel_rfl) ?_
              have hS0 := HS.out _ (hnw.kp.nil (Kp.refl [] w3).drew)
              refine wpAnyH_take (i := 0) (oi := ⟨some 26, Op.move (Operand.tmp 4), 22, _, _, none⟩) (v := ?_) rfl (by kernel_rfl) (by kernel_rfl) (by kernel_rfl) (fun _ _ _ h => h) (Or.inl ⟨by rfl, ?_⟩) (by exact hS0) ?_
              rotate_left
              · (intro w hSw; (try dsimp only at hSw); go_simp; (try with_reducible rfl))
              try simp only [Act.put, List.setIfInBounds_toArray, List.set_cons_zero, List.set_cons_succ]
              refine wpAnyH_take (i := 1) (oi := ⟨some 27, Op.move (Operand.tmp 0), 25, _, _, none⟩) (v := ?_) rfl (by kernel_rfl) (by kernel_rfl) (by kernel_rfl) (fun _ _ _ h => h) (Or.inl ⟨by rfl, ?_⟩) (by exact hS0) ?_
              rotate_left
              · (intro w hSw; (try dsimp only at hSw); go_simp; (try with_reducible rfl))
              try simp only [Act.put, List.setIfInBounds_toArray, List.set_cons_zero, List.set_cons_succ]
              refine wpAnyH_take (i := 2) (oi := ⟨some 28, Op.move (Operand.tmp 6), 3, _, _, none⟩) (v := ?_) rfl (by kernel_rfl) (by kernel_rfl) (by kernel_rfl) (fun _ _ _ h => h) (Or.inl ⟨by rfl, ?_⟩) (by exact hS0) ?_
              rotate_left
              · (intro w hSw; (try dsimp only at hSw); go_simp; (try with_reducible rfl))
              try simp only [Act.put, List.setIfInBounds_toArray, List.set_cons_zero, List.set_cons_succ]
              refine wpAnyH_take (i := 3) (oi := ⟨some 29, Op.slice 25 (Operand.tmp 27) (some (Operand.const (Value.int IntKind.i64 2))) (some (Operand.tmp 28)) none, 25, _, _, none⟩) (v := ?_) rfl (by kernel_rfl) (by kernel_rfl) (by kernel_rfl) (fun _ _ _ h => h) (Or.inl ⟨by rfl, ?_⟩) (by exact hS0) ?_
              rotate_left
              · (intro w hSw; (try dsimp only at hSw); go_simp; (try with_reducible rfl))
              try simp only [Act.put, List.setIfInBounds_toArray, List.set_cons_zero, List.set_cons_succ]
              refine wpAnyH_take (i := 4) (oi := ⟨some 30, Op.convert 25 9 (Operand.tmp 29), 9, _, _, none⟩) (v := ?_) rfl (by kernel_rfl) (by kernel_rfl) (by kernel_rfl) (fun _ _ _ h => h) (Or.inl ⟨by rfl, ?_⟩) (by exact hS0) ?_
              rotate_left
              · (intro w hSw; (try dsimp only at hSw); go_simp; (try with_reducible rfl))
              try simp only [Act.put, List.setIfInBounds_toArray, List.set_cons_zero, List.set_cons_succ]
              refine wpAnyH_take (i := 7) (oi := ⟨some 33, Op.move (Operand.tmp 0), 25, _, _, none⟩) (v := ?_) rfl (by kernel_rfl) (by kernel_rfl) (by kernel_rfl) (fun _ _ _ h => h) (Or.inl ⟨by rfl, ?_⟩) (by exact hS0) ?_
              rotate_left
              · (intro w hSw; (try dsimp only at hSw); go_simp; (try with_reducible rfl))
              try simp only [Act.put, List.setIfInBounds_toArray, List.set_cons_zero, List.set_cons_succ]
              refine wpAnyH_take (i := 8) (oi := ⟨some 34, Op.move (Operand.tmp 6), 3, _, _, none⟩) (v := ?_) rfl (by kernel_rfl) (by kernel_rfl) (by kernel_rfl) (fun _ _ _ h => h) (Or.inl ⟨by rfl, ?_⟩) (by exact hS0) ?_
              rotate_left
              · (intro w hSw; (try dsimp only at hSw); go_simp; (try with_reducible rfl))
              try simp only [Act.put, List.setIfInBounds_toArray, List.set_cons_zero, List.set_cons_succ]
              refine wpAnyH_take (i := 9) (oi := ⟨some 35, Op.slice 25 (Operand.tmp 33) (some (Operand.tmp 34)) none none, 25, _, _, none⟩) (v := ?_) rfl (by kernel_rfl) (by kernel_rfl) (by kernel_rfl) (fun _ _ _ h => h) (Or.inl ⟨by rfl, ?_⟩) (by exact hS0) ?_
              rotate_left
              · (intro w hSw; (try dsimp only at hSw); go_simp; (try with_reducible rfl))
              try simp only [Act.put, List.setIfInBounds_toArray, List.set_cons_zero, List.set_cons_succ]
              refine wpAnyH_ready (rs := [5]) (by kernel_rfl) (by simp) ?_
              refine AllReadyH.cons (o := ⟨some 31, Op.buildSlice 22 1 #[(0, Operand.tmp 30)], 22, _, _, none⟩) rfl (fun K hK => ?_) AllReadyH.nil
              go_simp
              have hS1 := HS.out _ kB
              refine hK.out _ _ (by exact hS1) (fun _ => ?_)
              clear hK K
              try simp only [Act.put, List.setIfInBounds_toArray, List.set_cons_zero, List.set_cons_succ]
              refine wpAnyH_ready (rs := [6]) (by kernel_rfl) (by simp) ?_
              refine AllReadyH.cons (o := ⟨some 32, Op.call { callee := Callee.builtin Builtin.append, args := #[Operand.tmp 26, Operand.tmp 31], argTypes := #[22, 22] }, 22, _, _, none⟩) rfl (fun K hK => ?_) AllReadyH.nil
              refine step_append1 rfl (.tmp 26) (.tmp 31) 22 rfl 9 (.string ⟨#[]⟩) 16 Tryd.underlying22 infoStr rfl _ k (gs.map .string) (by rfl) hoB _ 1 1 [.string t] (by rfl) hsB rfl (one_string _) (by omega) (by omega) ?_
              intro v7 w7 ho7 k7 b7
              have n7 := (hnw.kept kB0).append k7 b7 (Nat.le_refl _)
              have hS2 := HS.out _ n7.kp
              refine hK.out _ _ (by exact hS2) (fun _ => ?_)
              clear hK K
              try simp only [Act.put, List.setIfInBounds_toArray, List.set_cons_zero, List.set_cons_succ]
              refine wpAnyH_take (i := 10) (oi := ⟨some 4, Op.assign (Operand.tmp 32), 22, _, _, none⟩) (v := ?_) rfl (by kernel_rfl) (by kernel_rfl) (by kernel_rfl) (fun _ _ _ h => h) (Or.inl ⟨by rfl, ?_⟩) (by exact hS2) ?_
              rotate_left
              · (intro w hSw; (try dsimp only at hSw); go_simp; (try with_reducible rfl))
              try simp only [Act.put, List.setIfInBounds_toArray, List.set_cons_zero, List.set_cons_succ]
              refine wpAnyH_take (i := 11) (oi := ⟨some 0, Op.assign (Operand.tmp 35), 25, _, _, none⟩) (v := ?_) rfl (by kernel_rfl) (by kernel_rfl) (by kernel_rfl) (fun _ _ _ h => h) (Or.inl ⟨by rfl, ?_⟩) (by exact hS2) ?_
              rotate_left
              · (intro w hSw; (try dsimp only at hSw); go_simp; (try with_reducible rfl))
              try simp only [Act.put, List.setIfInBounds_toArray, List.set_cons_zero, List.set_cons_succ]
              refine wpAnyH_done (by kernel_rfl) ?_ _
              refine NoPanic.normal ?_
              go_wp2_with fail
              go_roundw
              case rel =>
                exact ⟨k + 1, some (ad.add N), m - N, d - N, gs ++ [t], b.drop N, by omega, by go_num, rfl, Hnext.out.1, Hnext.out.2, by omega, by omega, by simpa using ho7, n7, by simp [Hgl.out], Hgo2.out⟩
              case measure => simp [intOf]; omega
    · have hkm : k = many := by omega
      have hsome : G = some (gs, b) := by rw [Hgo.out, hkm, Nat.sub_self, holesGo]; simp
      have hbe : (m = 0) ↔ b = [] := by rw [← Hbm.out]; exact List.length_eq_zero_iff
      have Hs := hid hsome
      have Hbe := hid hbe
      clear hsome hbe
      by_cases hm0 : m = 0
      · have Hm0 := hid hm0
        have h0 : b = [] := Hbe.out.1 hm0
        go_wp2_with fail
        go_ret2
        exact .inr ⟨gs, b, _, true, by rw [← HG.out]; exact Hs.out, rfl, by simp [h0], by rw [Hgl.out]; exact ho, hnw⟩
      · have h0 : b ≠ [] := fun h => hm0 (Hbe.out.2 h)
        go_wp2_with fail
        go_ret2
        refine .inr ⟨gs, b, _, ((m : Int) == 0), by rw [← HG.out]; exact Hs.out, rfl, ?_, by rw [Hgl.out]; exact ho, hnw⟩
        simp [h0, hm0]
end Go.Proofs.YtepeopfdenieeaaDoor
