/- SinkPlays: the walk of the law. -/
import Derived.Test.YtepeopfdenieeaaPlays18
import Derived.Deep.DeepCutAuto
namespace Go.Proofs.Ytepeopfdenieeaa
open Go Go.RowKit

set_option maxRecDepth 100000 in
set_option maxHeartbeats 4000000 in
theorem plays_any (w : World) (room : Int) (_ : -9223372036854775808 ≤ room ∧ room ≤ 9223372036854775807) (crash : Int) (hcr : -9223372036854775808 ≤ crash ∧ crash ≤ 9223372036854775807)
    (A : Option Addr) (n c : Nat) (ls : List (List UInt8)) (hrows : ∀ (i : Nat) (l : List UInt8), ls[i]? = some l → ∃ ad v, A = some ad ∧ w.cell? (ad.add i) = some v ∧ IsBytes w l v) (hn : ls.length = n) (_hc : n ≤ c) (_hm : c ≤ 9223372036854775807) :
    Calls Try.prog 5 #[.int .i64 room, .int .i64 crash, .slice A n c] w (YesPost w) := by
  have kc := fun (w : World) (C : Array Value) (n c : Nat) => Lib.run_convert_bytes_const (P := Try.prog) w 22 5 C n c Try.underlying22 Try.underlying5
  have Hn := hid hn
  have Hr := hid hrows
  clear hn hrows
  obtain ⟨hcr1, hcr2⟩ := hcr
  go_enter Try.func5, Try.ntmps5
  go_wp2_with fail
  refine (shown_any _).mono ?_
  rintro e w1 ⟨rfl, hk1⟩
  go_wp2_with fail
  refine (new_any _ _ _).mono ?_
  rintro e w2 ⟨rfl, hs2, hk2⟩
  have hSw : w.heap.size ≤ w1.heap.size := hk1.size
  have hkw := hk1.nil hk2
  have Hs2 := hid hs2
  clear hs2 hk1 hk2
  go_wp2_with fail
  refine (rnew_any _ _ _).mono ?_
  rintro e w3 ⟨rfl, hr3, hk3⟩
  have hYw : w.heap.size ≤ w2.heap.size := hkw.size
  have hkw3 := hkw.nil hk3
  have Hs3 := hid (Hs2.out.kept hk3)
  have Hr3 := hid hr3
  clear Hs2 hr3 hk3 hkw
  go_wp2_with fail
  generalize w1.heap.size = S0 at *
  generalize w2.heap.size = Y at *
  go_loopw [8, 10] (fun v i wr => ∃ (k S : Nat) (s : SK), k ≤ n ∧ k ≤ 60 ∧ i = .int .i64 k ∧ v = .pointer (some ⟨S, 0, none⟩) ∧ w.heap.size ≤ S ∧ SinkAt wr S s ∧ RefAt wr Y (toR crash s) ∧ PInv room crash s ∧ Kp [] w wr) (fun _ i _ => n - (intOf i).toNat)
  case atStart => exact ⟨0, S0, SK.make room crash, by omega, by omega, rfl, rfl, hSw, Hs3.out, Hr3.out, PInv.make room crash, hkw3⟩
  case round =>
    obtain ⟨k, S, s, hk1, hk2, rfl, rfl, hSS, hS, hY, hI, hkr⟩ := hrel
    have HI := hid hI
    clear hI Hs3 Hr3 hkw3
    by_cases hlt : k < n ∧ k < 60
    · obtain ⟨hlt, hlt3⟩ := hlt
      have hkl : k < ls.length := by rw [Hn.out]; exact hlt
      obtain ⟨ad, v, hA, hcl, Ai, ci, hv, hsp, hni, hci, -⟩ := Hr.out k ls[k] (List.getElem?_eq_getElem hkl)
      generalize hl : ls[k] = l at *
      clear hl hkl
      subst hA hv
      obtain ⟨m, hm1⟩ : ∃ m, m = min l.length 100 := ⟨_, rfl⟩
      have hm2 : (l.take 100).length = m := by rw [List.length_take]; omega
      have hm3 : m ≤ 100 := by omega
      obtain ⟨q, e, hq, hw1, -, -, -⟩ := write_took room crash s (l.take 100) m hm2 hm3 HI.out.1
      have hrw := (toR_write room crash s (l.take 100) HI.out).1
      have hI' := PInv.write room crash s (l.take 100) (by omega) HI.out
      generalize hs' : (s.write (l.take 100)).1 = s' at *
      have hw5 : s.write (l.take 100) = (s', (q : Int), e) := by rw [← hs', ← hw1]
      rw [hw1] at hrw
      have hadw := World.block_lt_of_cell? w _ hcl
      rw [add_block] at hadw
      obtain ⟨len, hlen⟩ : ∃ len, len = l.length := ⟨_, rfl⟩
      rw [← hlen] at hcl hni hm1
      have hmci : m ≤ ci := by omega
      have hlen2 : len ≤ 9223372036854775807 := by omega
      have Hm1 := hid hm1
      have Hm2 := hid hm2
      have Hlen := hid hlen
      have HW := hid (And.intro hw5 (And.intro hrw hI'))
      clear hm1 hm2 hw5 hlen hs' hw1 hrw hI'
      obtain ⟨ys, hys⟩ : ∃ ys, ys = l.take 100 := ⟨_, rfl⟩
      rw [← hys] at Hm2 HW
      have hspy : Span w Ai (u8s ys) := by rw [hys, u8s_take]; exact hsp.take 100
      clear hys hsp Hlen
      have hs1 : -1 ≤ s.left := by obtain ⟨_, h2, _⟩ := HI.out.1; omega
      have hs2 : s.left ≤ 9223372036854775807 := by obtain ⟨_, h2, _⟩ := HI.out.1; omega
      have hs3 : s.xs.length ≤ 10000000 := by obtain ⟨_, _, h2, _⟩ := HI.out.1; omega
      have hr1 : (toR crash s).dead = false → (toR crash s).crash < 0 ∨ ((toR crash s).xs.length : Int) ≤ (toR crash s).crash := by
        intro _
        obtain ⟨_, h2, _⟩ := HI.out.1
        simp only [toR]
        omega
      have Hr1 := hid hr1
      clear hr1
      have hclr := hkr.cell hcl (by simp)
      go_upto_if 43 with fail
      go_cut [8] (fun v wx => ∃ T : Nat, v = .pointer (some ⟨T, 0, none⟩) ∧ w.heap.size ≤ T ∧ SinkAt wx T s ∧ RefAt wx Y (toR crash s) ∧ Kp [] w wx)
      case first =>
        rcases (show k % 9 = 8 ∨ ¬ k % 9 = 8 from by omega) with h9 | h9
        · have h9' : (k : Int) % 9 = 8 := by omega
          go_wp2_with fail
          refine (clone_any wr S s hS).mono ?_
          rintro en w4 ⟨rfl, hT, hk4⟩
          have hS4 := hS.kept hk4
          have hY4 := hY.kept hk4
          have hneT : wr.heap.size ≠ S := Nat.ne_of_gt hS.lt
          have hTs : w.heap.size ≤ wr.heap.size := hkr.size
          have hal : Kp [] w4 (w4.alloc (.cells #[.int .u8 111, .int .u8 116, .int .u8 104, .int .u8 101, .int .u8 114] 5 (5, 6))) := (Kp.refl _ _).alloc _
          have hT5 := hT.kept hal
          have hY5 := hY4.kept hal
          have hS5 := hS4.kept hal
          go_wp2_with fail
          refine (write_any _ S s _ 5 5 [111, 116, 104, 101, 114] hS5 (by exact Span.of_new w4 _ _ (u8s [111, 116, 104, 101, 114])) ?_ rfl (by omega) hs1 hs2 hs3 (by omega)).mono ?_
          · intro ad' h
            injection h with h
            subst h
            exact Nat.ne_of_gt hS4.lt
          rintro en wq ⟨rfl, -, hk5, -⟩
          have hTq := hT5.beside hk5 hS5 hneT
          have hYq := hY5.keep hk5 (by simpa using (hS5.ne_ref hY5).symm) (by intro x hx; simp at hx; subst hx; exact hS5.not)
          have hkq : Kp [] w wq := ((hkr.nil hk4).nil hal).trans hk5 (by intro x hx hl; simp at hx; omega)
          go_wp2_with fail
          go_meet
          exact ⟨_, rfl, hTs, hTq, hYq, hkq⟩
        · have h9' : ¬ (k : Int) % 9 = 8 := by omega
          go_wp2_with fail
          go_meet
          exact ⟨S, rfl, hSS, hS, hY, hkr⟩
      case rest =>
        clear hS hY hkr hSS hclr
        obtain ⟨T, rfl, hTs, hTq, hYq, hkq⟩ := hcut
        obtain ⟨wq, rfl⟩ : ∃ wq : World, wq = wc := ⟨_, rfl⟩
        have hclq := hkq.cell hcl (by simp)
        have hcl4 := ((Kp.refl [] wq).alloc (.cells #[] 5)).cell hclq (by simp)
        go_wp2_with fail
        refine (short_at _ _ _ _ m hni hlen2 Hm1.out).mono ?_
        rintro en w4 ⟨rfl, rfl⟩
        have hspq := hspy.kept hkq
        go_wp2_with (at_builtin; go_must (refine wpList_append1 rfl _ _ 22 rfl 5 (.int .u8 0) 1 Try.underlying22 info5 rfl _ 0 _ rfl (Own.of_cells (Cells.fresh wq 5 []) (by simp)) _ _ ci (u8s ys) rfl (hspq.alloc _) (by rw [length_u8s]; exact Hm2.out) (u8s_one _) ?_ ?_ ?_))
        · omega
        · omega
        intro v' w5 hown hk5 hb5
        try simp only [Nat.zero_add, List.nil_append] at hown
        have hk5' : Kp [] wq w5 := ((Kp.refl [] wq).alloc _).trans hk5 (by intro x hx hl; simp [Value.ownBlock] at hx; omega)
        obtain ⟨g, hg1, hg2, hg3⟩ : ∃ g, (0 < m → ∃ c cs, v' = .slice (some ⟨g, 0, none⟩) m c ∧ Cells w5 g 5 cs ∧ m ≤ cs.length) ∧ wq.heap.size ≤ g ∧ g < w5.heap.size := by
          rcases Nat.eq_zero_or_pos m with h0 | h0
          · refine ⟨wq.heap.size, fun h => absurd h (by omega), Nat.le_refl _, ?_⟩
            have := hk5.size
            simp at this
            omega
          · obtain ⟨g, c', cs, h1, h2, h3⟩ := hown.block h0
            refine ⟨g, fun _ => ⟨c', cs, h1, h2, h3⟩, ?_, h2.lt⟩
            rw [h1] at hb5
            rcases hb5 with hb5 | hb5 <;> simp [Value.ownBlock] at hb5 <;> omega
        obtain ⟨A', c', rfl, hsp', hmc', -, hA'⟩ := hown.shape
        have hA'S : ∀ ad, A' = some ad → ad.block ≠ T := fun ad' h => by
          obtain ⟨_, h2⟩ := hA' ad' h
          rw [h2] at hb5
          have := hTq.lt
          rcases hb5 with hb5 | hb5 <;> simp [Value.ownBlock] at hb5 <;> omega
        have hgT : T ≠ g := by have := hTq.lt; omega
        have hgY : Y ≠ g := by have := hYq.lt; omega
        have hT5 := hTq.kept hk5'
        have hY5 := hYq.kept hk5'
        have hTa := (hTq.away hg2).keep hk5' (by simp) (by simp)
        have hYa := (hYq.away hg2).keep hk5' (by simp) (by simp)
        have hTY := hTq.ne_ref hYq
        have Hg := hid hg1
        have hgm : 0 < m → A' = some ⟨g, 0, none⟩ := fun h => by
          obtain ⟨_, _, h1, _⟩ := hg1 h
          injection h1
        have Hgm := hid hgm
        clear hown hA' hb5 hk5 hTq hYq hg1 hgm
        go_wp2_with fail
        refine (ptook_call w5 T s s' q e A' m c' ys hT5 hsp' hA'S Hm2.out hmc' hs1 hs2 hs3 (by omega) HW.out.1).mono ?_
        rintro en w6 ⟨rfl, hT6, hk6, ha6⟩
        have hTa6 := ha6 g hg3 hTa
        have hYa6 := hYa.keep hk6 (by simpa using hTY.symm) (by intro x hx; simp at hx; subst hx; exact hT5.not)
        have hY6 := hYa6.at_
        have hk06 : Kp [] w w6 := (hkq.nil hk5').trans hk6 (by intro x hx hl; simp at hx; omega)
        have hcl6 := hk06.cell hcl (by simp)
        have hsp6 := hspy.kept hk06
        have hg6 : g < w6.heap.size := Nat.lt_of_lt_of_le hg3 hk6.size
        clear ha6 hTa hYa hsp' hA'S hT5 hY5 hcl4 hclq hspq
        go_wp2_with fail
        refine (short_at _ _ _ _ m hni hlen2 Hm1.out).mono ?_
        rintro en w7 ⟨rfl, rfl⟩
        go_wp2_with fail
        refine (rtook_call w6 Y (toR crash s) (toR crash s') q e Ai m ci ys hY6 hsp6 Hm2.out hmci Hr1.out hs3 (by omega) HW.out.2.1).mono ?_
        rintro en w7 ⟨rfl, hY7, hk7, ha7⟩
        have hYa7 := ha7 g hg6 hYa6
        have hTa7 := hTa6.keep hk7 (by simpa using hTY) (by intro x hx; simp at hx; subst hx; exact hY6.not)
        have hk07 : Kp [] w w7 := hk06.trans hk7 (by intro x hx hl; simp at hx; omega)
        have hg7 : 0 < m → ∃ cs, Cells w7 g 5 cs ∧ m ≤ cs.length := fun h => by
          obtain ⟨_, cs, _, h2, h3⟩ := Hg.out h
          exact ⟨cs, (h2.keep hk6 (by simpa using hgT.symm)).keep hk7 (by simpa using hgY.symm), h3⟩
        have Hg7 := hid hg7
        clear hg7 ha7 hYa6 hTa6 hY6 hT6 hcl6 hsp6
        have hwg : w.heap.size ≤ g := Nat.le_trans hkq.size hg2
        clear hkq hk5' hk6 hk7 hk06
        go_wp2_with fail
        go_loopw [17] (fun v wl => ∃ j : Nat, j ≤ m ∧ v = .int .i64 j ∧ Kp [g] w7 wl ∧ Hid (0 < m → ∃ cs, Cells wl g 5 cs ∧ m ≤ cs.length)) (fun v _ => m - (intOf v).toNat)
        case atStart => exact ⟨0, by omega, rfl, Kp.refl _ _, Hg7.out⟩
        case round =>
          obtain ⟨j, hj, rfl, hkl, hgl⟩ := hrel
          by_cases hjm : j < m
          · obtain rfl := Hgm.out (by omega)
            obtain ⟨cs, hcs, hcl⟩ := hgl.out (by omega)
            have hcj := hcs.cell j
            rw [List.getElem?_eq_getElem (by omega)] at hcj
            have hfj := hcs.free j
            go_wp2_with fail
            go_roundw
            case rel => exact ⟨j + 1, by omega, by go_num, hkl.setCell (fun _ => by simp) _, fun _ => ⟨_, hcs.put j _, by simpa using hcl⟩⟩
            case measure => simp [intOf]; omega
          · obtain rfl : j = m := by omega
            clear hgl
            have hTl := hTa7.wrote hkl hgT
            have hYl := hYa7.wrote hkl hgY
            have hk0l : Kp [] w wr := hk07.trans hkl (by intro x hx hl; simp at hx; omega)
            have hI' := HW.out.2.2
            have hX3 : s'.xs.length ≤ 10000000 := by obtain ⟨_, _, h2, _⟩ := hI'.1; omega
            have HX3 := hid hX3
            have HI' := hid hI'
            clear hI' hX3 hTa7 hYa7 hY7 hk07 hkl Hg7 Hgm Hg
            have HY := hid hYl
            obtain ⟨vY, hcY, hoY⟩ := hYl
            obtain ⟨AY, cY, rfl, hspY, -, -, -⟩ := hoY.shape
            have hY0 : wr.cell? ⟨Y, 0, none⟩ = some (.slice AY s'.xs.length cY) := hcY.cell 0
            have hY3 : wr.cell? ⟨Y, 3, none⟩ = some (.bool s'.dead) := hcY.cell 3
            have hspY' : Span wr AY (u8s s'.xs) := hspY
            clear hcY hoY hspY
            go_wp2_with fail
            go_upto_region 22 with fail
            go_cut [122] (fun v wx => v = .bool false ∧ SinkAt wx T s' ∧ RefAt wx Y (toR crash s') ∧ Kp [] w wx)
            case first =>
              have hcvW := run_text (P := Try.prog) Try.underlying22 Try.underlying5 Try.underlying9 (show Span wr.drew AY _ from hspY') _ cY rfl
              refine wp_region_noPanic ?_
              refine wp_region_held (S := fun W => W.cell? ⟨Y, 0, none⟩ = some (.slice AY s'.xs.length cY) ∧ W.cell? ⟨Y, 3, none⟩ = some (.bool s'.dead) ∧ (convert 22 9 (.slice AY s'.xs.length cY)).run Try.prog W = .ok (.string ⟨s'.xs.toArray⟩) W) (by kernel_rfl) ?_
              have hH0 := And.intro (show wr.drew.cell? ⟨Y, 0, none⟩ = _ from hY0) (And.intro (show wr.drew.cell? ⟨Y, 3, none⟩ = _ from hY3) hcvW)
              refine wpAnyH_take (i := 0) (oi := ⟨some 85, Op.move (Operand.tmp 13), 3, _, _, none⟩) (v := ?_) rfl (by kernel_rfl) (by kernel_rfl) (by kernel_rfl) (fun _ _ _ h => h) (Or.inl ⟨by rfl, ?_⟩) (by exact hH0) ?_
              rotate_left
              · (intro w hSw; (try dsimp only at hSw); go_simp; (try with_reducible rfl))
              try simp only [Act.put, List.setIfInBounds_toArray, List.set_cons_zero, List.set_cons_succ]
              refine wpAnyH_take (i := 1) (oi := ⟨some 86, Op.move (Operand.tmp 15), 3, _, _, none⟩) (v := ?_) rfl (by kernel_rfl) (by kernel_rfl) (by kernel_rfl) (fun _ _ _ h => h) (Or.inl ⟨by rfl, ?_⟩) (by exact hH0) ?_
              rotate_left
              · (intro w hSw; (try dsimp only at hSw); go_simp; (try with_reducible rfl))
              try simp only [Act.put, List.setIfInBounds_toArray, List.set_cons_zero, List.set_cons_succ]
              refine wpAnyH_take (i := 2) (oi := ⟨some 87, Op.binOp BinOp.neq 3 (Operand.tmp 85) (Operand.tmp 86) 3, 4, _, _, none⟩) (v := ?_) rfl (by kernel_rfl) (by kernel_rfl) (by kernel_rfl) (fun _ _ _ h => h) (Or.inl ⟨by rfl, ?_⟩) (by exact hH0) ?_
              rotate_left
              · (intro w hSw; (try dsimp only at hSw); go_simp; (try with_reducible rfl))
              try simp only [Act.put, List.setIfInBounds_toArray, List.set_cons_zero, List.set_cons_succ]
              refine wpAnyH_take (i := 3) (oi := ⟨some 88, Op.move (Operand.tmp 87), 4, _, _, none⟩) (v := ?_) rfl (by kernel_rfl) (by kernel_rfl) (by kernel_rfl) (fun _ _ _ h => h) (Or.inl ⟨by rfl, ?_⟩) (by exact hH0) ?_
              rotate_left
              · (intro w hSw; (try dsimp only at hSw); go_simp; (try with_reducible rfl))
              try simp only [Act.put, List.setIfInBounds_toArray, List.set_cons_zero, List.set_cons_succ]
              refine wpAnyH_take (i := 4) (oi := ⟨some 89, Op.move (Operand.tmp 14), 26, _, _, some (3, false)⟩) (v := ?_) rfl (by kernel_rfl) (by kernel_rfl) (by kernel_rfl) (fun _ _ _ h => h) (Or.inl ⟨by rfl, ?_⟩) (by exact hH0) ?_
              rotate_left
              · (intro w hSw; (try dsimp only at hSw); go_simp; (try with_reducible rfl))
              try simp only [Act.put, List.setIfInBounds_toArray, List.set_cons_zero, List.set_cons_succ]
              refine wpAnyH_take (i := 5) (oi := ⟨some 90, Op.move (Operand.tmp 16), 26, _, _, some (3, false)⟩) (v := ?_) rfl (by kernel_rfl) (by kernel_rfl) (by kernel_rfl) (fun _ _ _ h => h) (Or.inl ⟨by rfl, ?_⟩) (by exact hH0) ?_
              rotate_left
              · (intro w hSw; (try dsimp only at hSw); go_simp; (try with_reducible rfl))
              try simp only [Act.put, List.setIfInBounds_toArray, List.set_cons_zero, List.set_cons_succ]
              refine wpAnyH_take (i := 6) (oi := ⟨some 91, Op.binOp BinOp.neq 26 (Operand.tmp 89) (Operand.tmp 90) 26, 4, _, _, some (3, false)⟩) (v := ?_) rfl (by kernel_rfl) (by kernel_rfl) (by kernel_rfl) (fun _ _ _ h => h) (Or.inl ⟨by rfl, ?_⟩) (by exact hH0) ?_
              rotate_left
              · (intro w hSw; (try dsimp only at hSw); go_simp; (try with_reducible rfl))
              try simp only [Act.put, List.setIfInBounds_toArray, List.set_cons_zero, List.set_cons_succ]
              refine wpAnyH_take (i := 7) (oi := ⟨some 92, Op.pick (Operand.tmp 88) (Operand.const (Value.bool true)) (Operand.tmp 91), 4, _, _, none⟩) (v := ?_) rfl (by kernel_rfl) (by kernel_rfl) (by kernel_rfl) (fun _ _ _ h => h) (Or.inl ⟨by rfl, ?_⟩) (by exact hH0) ?_
              rotate_left
              · (intro w hSw; (try dsimp only at hSw); go_simp; (try with_reducible rfl))
              try simp only [Act.put, List.setIfInBounds_toArray, List.set_cons_zero, List.set_cons_succ]
              refine wpAnyH_take (i := 8) (oi := ⟨some 93, Op.move (Operand.tmp 92), 4, _, _, none⟩) (v := ?_) rfl (by kernel_rfl) (by kernel_rfl) (by kernel_rfl) (fun _ _ _ h => h) (Or.inl ⟨by rfl, ?_⟩) (by exact hH0) ?_
              rotate_left
              · (intro w hSw; (try dsimp only at hSw); go_simp; (try with_reducible rfl))
              try simp only [Act.put, List.setIfInBounds_toArray, List.set_cons_zero, List.set_cons_succ]
              refine wpAnyH_take (i := 9) (oi := ⟨some 94, Op.move (Operand.tmp 8), 24, _, _, some (8, false)⟩) (v := ?_) rfl (by kernel_rfl) (by kernel_rfl) (by kernel_rfl) (fun _ _ _ h => h) (Or.inl ⟨by rfl, ?_⟩) (by exact hH0) ?_
              rotate_left
              · (intro w hSw; (try dsimp only at hSw); go_simp; (try with_reducible rfl))
              try simp only [Act.put, List.setIfInBounds_toArray, List.set_cons_zero, List.set_cons_succ]
              refine wpAnyH_take (i := 11) (oi := ⟨some 96, Op.move (Operand.tmp 9), 35, _, _, some (8, false)⟩) (v := ?_) rfl (by kernel_rfl) (by kernel_rfl) (by kernel_rfl) (fun _ _ _ h => h) (Or.inl ⟨by rfl, ?_⟩) (by exact hH0) ?_
              rotate_left
              · (intro w hSw; (try dsimp only at hSw); go_simp; (try with_reducible rfl))
              try simp only [Act.put, List.setIfInBounds_toArray, List.set_cons_zero, List.set_cons_succ]
              refine wpAnyH_take (i := 12) (oi := ⟨some 97, Op.nilCheck (Operand.tmp 96), 0, _, _, some (8, false)⟩) (v := ?_) rfl (by kernel_rfl) (by kernel_rfl) (by kernel_rfl) (fun _ _ _ h => h) (Or.inl ⟨by rfl, ?_⟩) (by exact hH0) ?_
              rotate_left
              · (intro w hSw; (try dsimp only at hSw); go_simp; (try with_reducible rfl))
              try simp only [Act.put, List.setIfInBounds_toArray, List.set_cons_zero, List.set_cons_succ]
              refine wpAnyH_take (i := 13) (oi := ⟨some 98, Op.fieldAddr 39 (Operand.tmp 97) 0, 0, _, _, some (8, false)⟩) (v := ?_) rfl (by kernel_rfl) (by kernel_rfl) (by kernel_rfl) (fun _ _ _ h => h) (Or.inl ⟨by rfl, ?_⟩) (by exact hH0) ?_
              rotate_left
              · (intro w hSw; (try dsimp only at hSw); go_simp; (try with_reducible rfl))
              try simp only [Act.put, List.setIfInBounds_toArray, List.set_cons_zero, List.set_cons_succ]
              refine wpAnyH_take (i := 14) (oi := ⟨some 99, Op.load 22 (Operand.tmp 98), 22, _, _, some (8, false)⟩) (v := ?_) rfl (by kernel_rfl) (by kernel_rfl) (by kernel_rfl) (fun _ _ _ h => h) (Or.inl ⟨by rfl, ?_⟩) (by exact hH0) ?_
              rotate_left
              · (intro w hSw; (try dsimp only at hSw); go_simp; (try with_reducible rfl))
              try simp only [Act.put, List.setIfInBounds_toArray, List.set_cons_zero, List.set_cons_succ]
              refine wpAnyH_take (i := 15) (oi := ⟨some 100, Op.call { callee := Callee.builtin Builtin.len, args := #[Operand.tmp 99], argTypes := #[22] }, 3, _, _, some (8, false)⟩) (v := ?_) rfl (by kernel_rfl) (by kernel_rfl) (by kernel_rfl) (fun _ _ _ h => h) (Or.inl ⟨by rfl, ?_⟩) (by exact hH0) ?_
              rotate_left
              · (intro w hSw; (try dsimp only at hSw); go_simp; (try with_reducible rfl))
              try simp only [Act.put, List.setIfInBounds_toArray, List.set_cons_zero, List.set_cons_succ]
              refine wpAnyH_ready (rs := [10]) (by kernel_rfl) (by simp) ?_
              refine AllReadyH.cons (o := ⟨some 95, Op.call { callee := Callee.value (Operand.func 12), args := #[Operand.tmp 94], argTypes := #[24] }, 3, _, _, some (8, false)⟩) rfl (fun K hK => ?_) AllReadyH.nil
              go_simp
              refine (len_any _ _ s' (by exact hTl)).mono ?_
              rintro en w9 ⟨rfl, rfl⟩
              have hH1 := hH0
              refine hK.out _ _ (by exact hH1) (fun _ => ?_)
              clear hK K
              try simp only [Act.put, List.setIfInBounds_toArray, List.set_cons_zero, List.set_cons_succ]
              refine wpAnyH_take (i := 16) (oi := ⟨some 101, Op.binOp BinOp.neq 3 (Operand.tmp 95) (Operand.tmp 100) 3, 4, _, _, some (8, false)⟩) (v := ?_) rfl (by kernel_rfl) (by kernel_rfl) (by kernel_rfl) (fun _ _ _ h => h) (Or.inl ⟨by rfl, ?_⟩) (by exact hH0) ?_
              rotate_left
              · (intro w hSw; (try dsimp only at hSw); go_simp; (try with_reducible rfl))
              try simp only [Act.put, List.setIfInBounds_toArray, List.set_cons_zero, List.set_cons_succ]
              refine wpAnyH_take (i := 17) (oi := ⟨some 102, Op.pick (Operand.tmp 93) (Operand.const (Value.bool true)) (Operand.tmp 101), 4, _, _, none⟩) (v := ?_) rfl (by kernel_rfl) (by kernel_rfl) (by kernel_rfl) (fun _ _ _ h => h) (Or.inl ⟨by rfl, ?_⟩) (by exact hH0) ?_
              rotate_left
              · (intro w hSw; (try dsimp only at hSw); go_simp; (try with_reducible rfl))
              try simp only [Act.put, List.setIfInBounds_toArray, List.set_cons_zero, List.set_cons_succ]
              refine wpAnyH_take (i := 18) (oi := ⟨some 103, Op.move (Operand.tmp 102), 4, _, _, none⟩) (v := ?_) rfl (by kernel_rfl) (by kernel_rfl) (by kernel_rfl) (fun _ _ _ h => h) (Or.inl ⟨by rfl, ?_⟩) (by exact hH0) ?_
              rotate_left
              · (intro w hSw; (try dsimp only at hSw); go_simp; (try with_reducible rfl))
              try simp only [Act.put, List.setIfInBounds_toArray, List.set_cons_zero, List.set_cons_succ]
              refine wpAnyH_take (i := 19) (oi := ⟨some 104, Op.move (Operand.tmp 8), 24, _, _, some (18, false)⟩) (v := ?_) rfl (by kernel_rfl) (by kernel_rfl) (by kernel_rfl) (fun _ _ _ h => h) (Or.inl ⟨by rfl, ?_⟩) (by exact hH0) ?_
              rotate_left
              · (intro w hSw; (try dsimp only at hSw); go_simp; (try with_reducible rfl))
              try simp only [Act.put, List.setIfInBounds_toArray, List.set_cons_zero, List.set_cons_succ]
              refine wpAnyH_take (i := 21) (oi := ⟨some 106, Op.move (Operand.tmp 9), 35, _, _, some (18, false)⟩) (v := ?_) rfl (by kernel_rfl) (by kernel_rfl) (by kernel_rfl) (fun _ _ _ h => h) (Or.inl ⟨by rfl, ?_⟩) (by exact hH0) ?_
              rotate_left
              · (intro w hSw; (try dsimp only at hSw); go_simp; (try with_reducible rfl))
              try simp only [Act.put, List.setIfInBounds_toArray, List.set_cons_zero, List.set_cons_succ]
              refine wpAnyH_take (i := 22) (oi := ⟨some 107, Op.nilCheck (Operand.tmp 106), 0, _, _, some (18, false)⟩) (v := ?_) rfl (by kernel_rfl) (by kernel_rfl) (by kernel_rfl) (fun _ _ _ h => h) (Or.inl ⟨by rfl, ?_⟩) (by exact hH0) ?_
              rotate_left
              · (intro w hSw; (try dsimp only at hSw); go_simp; (try with_reducible rfl))
              try simp only [Act.put, List.setIfInBounds_toArray, List.set_cons_zero, List.set_cons_succ]
              refine wpAnyH_take (i := 23) (oi := ⟨some 108, Op.fieldAddr 39 (Operand.tmp 107) 3, 0, _, _, some (18, false)⟩) (v := ?_) rfl (by kernel_rfl) (by kernel_rfl) (by kernel_rfl) (fun _ _ _ h => h) (Or.inl ⟨by rfl, ?_⟩) (by exact hH0) ?_
              rotate_left
              · (intro w hSw; (try dsimp only at hSw); go_simp; (try with_reducible rfl))
              try simp only [Act.put, List.setIfInBounds_toArray, List.set_cons_zero, List.set_cons_succ]
              refine wpAnyH_take (i := 24) (oi := ⟨some 109, Op.load 4 (Operand.tmp 108), 4, _, _, some (18, false)⟩) (v := ?_) rfl (by kernel_rfl) (by kernel_rfl) (by kernel_rfl) (fun _ _ _ h => h) (Or.inl ⟨by rfl, ?_⟩) (by exact hH0) ?_
              rotate_left
              · (intro w hSw; (try dsimp only at hSw); go_simp; (try with_reducible rfl))
              try simp only [Act.put, List.setIfInBounds_toArray, List.set_cons_zero, List.set_cons_succ]
              refine wpAnyH_ready (rs := [20]) (by kernel_rfl) (by simp) ?_
              refine AllReadyH.cons (o := ⟨some 105, Op.call { callee := Callee.value (Operand.func 10), args := #[Operand.tmp 104], argTypes := #[24] }, 4, _, _, some (18, false)⟩) rfl (fun K hK => ?_) AllReadyH.nil
              go_simp
              refine (dead_any _ _ s' (by exact hTl)).mono ?_
              rintro en w9 ⟨rfl, rfl⟩
              have hH2 := hH0
              refine hK.out _ _ (by exact hH2) (fun _ => ?_)
              clear hK K
              try simp only [Act.put, List.setIfInBounds_toArray, List.set_cons_zero, List.set_cons_succ]
              refine wpAnyH_take (i := 25) (oi := ⟨some 110, Op.binOp BinOp.neq 4 (Operand.tmp 105) (Operand.tmp 109) 4, 4, _, _, some (18, false)⟩) (v := ?_) rfl (by kernel_rfl) (by kernel_rfl) (by kernel_rfl) (fun _ _ _ h => h) (Or.inl ⟨by rfl, ?_⟩) (by exact hH0) ?_
              rotate_left
              · (intro w hSw; (try dsimp only at hSw); go_simp; (try with_reducible rfl))
              try simp only [Act.put, List.setIfInBounds_toArray, List.set_cons_zero, List.set_cons_succ]
              refine wpAnyH_take (i := 26) (oi := ⟨some 111, Op.pick (Operand.tmp 103) (Operand.const (Value.bool true)) (Operand.tmp 110), 4, _, _, none⟩) (v := ?_) rfl (by kernel_rfl) (by kernel_rfl) (by kernel_rfl) (fun _ _ _ h => h) (Or.inl ⟨by rfl, ?_⟩) (by exact hH0) ?_
              rotate_left
              · (intro w hSw; (try dsimp only at hSw); go_simp; (try with_reducible rfl))
              try simp only [Act.put, List.setIfInBounds_toArray, List.set_cons_zero, List.set_cons_succ]
              refine wpAnyH_take (i := 27) (oi := ⟨some 112, Op.move (Operand.tmp 111), 4, _, _, none⟩) (v := ?_) rfl (by kernel_rfl) (by kernel_rfl) (by kernel_rfl) (fun _ _ _ h => h) (Or.inl ⟨by rfl, ?_⟩) (by exact hH0) ?_
              rotate_left
              · (intro w hSw; (try dsimp only at hSw); go_simp; (try with_reducible rfl))
              try simp only [Act.put, List.setIfInBounds_toArray, List.set_cons_zero, List.set_cons_succ]
              refine wpAnyH_take (i := 28) (oi := ⟨some 113, Op.move (Operand.tmp 8), 24, _, _, some (27, false)⟩) (v := ?_) rfl (by kernel_rfl) (by kernel_rfl) (by kernel_rfl) (fun _ _ _ h => h) (Or.inl ⟨by rfl, ?_⟩) (by exact hH0) ?_
              rotate_left
              · (intro w hSw; (try dsimp only at hSw); go_simp; (try with_reducible rfl))
              try simp only [Act.put, List.setIfInBounds_toArray, List.set_cons_zero, List.set_cons_succ]
              refine wpAnyH_take (i := 31) (oi := ⟨some 116, Op.move (Operand.tmp 9), 35, _, _, some (27, false)⟩) (v := ?_) rfl (by kernel_rfl) (by kernel_rfl) (by kernel_rfl) (fun _ _ _ h => h) (Or.inl ⟨by rfl, ?_⟩) (by exact hH0) ?_
              rotate_left
              · (intro w hSw; (try dsimp only at hSw); go_simp; (try with_reducible rfl))
              try simp only [Act.put, List.setIfInBounds_toArray, List.set_cons_zero, List.set_cons_succ]
              refine wpAnyH_take (i := 32) (oi := ⟨some 117, Op.nilCheck (Operand.tmp 116), 0, _, _, some (27, false)⟩) (v := ?_) rfl (by kernel_rfl) (by kernel_rfl) (by kernel_rfl) (fun _ _ _ h => h) (Or.inl ⟨by rfl, ?_⟩) (by exact hH0) ?_
              rotate_left
              · (intro w hSw; (try dsimp only at hSw); go_simp; (try with_reducible rfl))
              try simp only [Act.put, List.setIfInBounds_toArray, List.set_cons_zero, List.set_cons_succ]
              refine wpAnyH_take (i := 33) (oi := ⟨some 118, Op.fieldAddr 39 (Operand.tmp 117) 0, 0, _, _, some (27, false)⟩) (v := ?_) rfl (by kernel_rfl) (by kernel_rfl) (by kernel_rfl) (fun _ _ _ h => h) (Or.inl ⟨by rfl, ?_⟩) (by exact hH0) ?_
              rotate_left
              · (intro w hSw; (try dsimp only at hSw); go_simp; (try with_reducible rfl))
              try simp only [Act.put, List.setIfInBounds_toArray, List.set_cons_zero, List.set_cons_succ]
              refine wpAnyH_take (i := 34) (oi := ⟨some 119, Op.load 22 (Operand.tmp 118), 22, _, _, some (27, false)⟩) (v := ?_) rfl (by kernel_rfl) (by kernel_rfl) (by kernel_rfl) (fun _ _ _ h => h) (Or.inl ⟨by rfl, ?_⟩) (by exact hH0) ?_
              rotate_left
              · (intro w hSw; (try dsimp only at hSw); go_simp; (try with_reducible rfl))
              try simp only [Act.put, List.setIfInBounds_toArray, List.set_cons_zero, List.set_cons_succ]
              refine wpAnyH_take (i := 35) (oi := ⟨some 120, Op.convert 22 9 (Operand.tmp 119), 9, _, _, some (27, false)⟩) (v := ?_) rfl (by kernel_rfl) (by kernel_rfl) (by kernel_rfl) (fun _ _ _ h => h) (Or.inl ⟨by rfl, ?_⟩) (by exact hH0) ?_
              rotate_left
              · (intro w hSw; (try dsimp only at hSw); go_simp; (try with_reducible rfl))
              try simp only [Act.put, List.setIfInBounds_toArray, List.set_cons_zero, List.set_cons_succ]
              refine wpAnyH_ready (rs := [29]) (by kernel_rfl) (by simp) ?_
              refine AllReadyH.cons (o := ⟨some 114, Op.call { callee := Callee.value (Operand.func 9), args := #[Operand.tmp 113], argTypes := #[24] }, 22, _, _, some (27, false)⟩) rfl (fun K hK => ?_) AllReadyH.nil
              go_simp
              refine (bytes_any _ _ s' (by exact hTl) HX3.out).mono ?_
              rintro en w9 ⟨A9, c9, rfl, hsp9, hk9, -⟩
              have hcv9 := run_text (P := Try.prog) Try.underlying22 Try.underlying5 Try.underlying9 hsp9 _ c9 rfl
              have hH3 := And.intro (hk9.cell hH0.1 (by simp)) (And.intro (hk9.cell hH0.2.1 (by simp)) (run_text (P := Try.prog) Try.underlying22 Try.underlying5 Try.underlying9 (Span.kept (by exact hspY') hk9) _ cY rfl))
              refine hK.out _ _ (by exact hH3) (fun _ => ?_)
              clear hK K
              try simp only [Act.put, List.setIfInBounds_toArray, List.set_cons_zero, List.set_cons_succ]
              refine wpAnyH_ready (rs := [30]) (by kernel_rfl) (by simp) ?_
              refine AllReadyH.cons (o := ⟨some 115, Op.convert 22 9 (Operand.tmp 114), 9, _, _, some (27, false)⟩) rfl (fun K hK => ?_) AllReadyH.nil
              go_simp
              have hH4 := hH3
              refine hK.out _ _ (by exact hH4) (fun _ => ?_)
              clear hK K
              try simp only [Act.put, List.setIfInBounds_toArray, List.set_cons_zero, List.set_cons_succ]
              refine wpAnyH_take (i := 36) (oi := ⟨some 121, Op.binOp BinOp.neq 9 (Operand.tmp 115) (Operand.tmp 120) 9, 4, _, _, some (27, false)⟩) (v := ?_) rfl (by kernel_rfl) (by kernel_rfl) (by kernel_rfl) (fun _ _ _ h => h) (Or.inl ⟨by rfl, ?_⟩) (by exact hH3) ?_
              rotate_left
              · (intro w hSw; (try dsimp only at hSw); go_simp; (try with_reducible rfl))
              try simp only [Act.put, List.setIfInBounds_toArray, List.set_cons_zero, List.set_cons_succ]
              refine wpAnyH_take (i := 37) (oi := ⟨some 122, Op.pick (Operand.tmp 112) (Operand.const (Value.bool true)) (Operand.tmp 121), 4, _, _, none⟩) (v := ?_) rfl (by kernel_rfl) (by kernel_rfl) (by kernel_rfl) (fun _ _ _ h => h) (Or.inl ⟨by rfl, ?_⟩) (by exact hH3) ?_
              rotate_left
              · (intro w hSw; (try dsimp only at hSw); go_simp; (try with_reducible rfl))
              try simp only [Act.put, List.setIfInBounds_toArray, List.set_cons_zero, List.set_cons_succ]
              refine wpAnyH_done (by kernel_rfl) ?_ _
              refine NoPanic.normal ?_
              go_wp2_with fail
              go_meet
              have hk9' : Kp [] wr w9 := ((Kp.refl [] wr).drew).nil hk9
              exact ⟨rfl, hTl.kept hk9', HY.out.kept hk9', hk0l.nil hk9'⟩
            case rest =>
              obtain ⟨rfl, hT10, hY10, hk10⟩ := hcut
              go_wp2_with fail
              go_roundw
              case rel => exact ⟨k + 1, T, s', by omega, by omega, by go_num, rfl, hTs, hT10, hY10, HI'.out, hk10⟩
              case measure => simp [intOf]; omega
    · have hlt' : (k < n ∧ 60 ≤ k) ∨ n ≤ k := by omega
      rcases hlt' with ⟨hlt1, hlt2⟩ | hlt1
      all_goals
        go_wp2_with fail
        go_ret
        exact ⟨rfl, hkr⟩
end Go.Proofs.Ytepeopfdenieeaa
