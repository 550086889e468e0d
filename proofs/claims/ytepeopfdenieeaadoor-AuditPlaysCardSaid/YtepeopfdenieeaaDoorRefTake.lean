/- The document's answer: the record that bytes begin with. -/
import Derived.Test.YtepeopfdenieeaaDoorTake
import Derived.Test.YtepeopfdenieeaaDoorRefAt
import Derived.Test.YtepeopfdenieeaaDoorCut
namespace Go.Proofs.YtepeopfdenieeaaDoor
open Go Go.RowKit

theorem results_rtake (tmps : Array Value) (w : World) (S : Nat) (cs : List Value) (h : Cells w S 24 cs) (hl : cs.length = 4) (hp : tmps.getD 2 undef = .pointer (some ⟨S, 0, none⟩)) :
    (results Tryd.f21 tmps).run Tryd.prog w = .ok (.tuple #[.agg cs.toArray, tmps.getD 3 undef, tmps.getD 4 undef]) w := by
  have hi : (Tryd.prog.info? 24).map (·.size) = some cs.toArray.size := by
    have : (Tryd.prog.info? 24).map (·.size) = some 4 := by kernel_rfl
    rw [this]; simp [hl]
  have hp' : tmps[2]?.getD undef = .pointer (some ⟨S, 0, none⟩) := by simpa using hp
  have hv := run_loadVar_row (P := Tryd.prog) w S 24 24 cs.toArray (0, 0) _ h Tryd.underlying24 rfl hi
  simp [results, hp', asAddr, hv]
set_option maxRecDepth 100000 in
set_option maxHeartbeats 16000000 in
theorem rtake_any (w : World) (A : Option Addr) (n c : Nat) (l : List UInt8) (hs : Span w A (u8s l)) (hn : l.length = n) (hc : n ≤ c) (hc2 : c ≤ 9223372036854775807) :
    Calls Tryd.prog 21 #[.slice A n c] w (TakePost w l) := by
  have Hn := hid hn
  clear hn
  obtain ⟨w1, hw1, B1, K1⟩ : ∃ w1, w1 = w.alloc (.cells #[.int .i64 0, .int .i64 0, .int .i64 0, .slice none 0 0] 24) ∧
      Cells w1 w.heap.size 24 [.int .i64 0, .int .i64 0, .int .i64 0, .slice none 0 0] ∧ Kp [] w w1 :=
    ⟨_, rfl, Cells.fresh _ _ _, (Kp.refl _ _).alloc _⟩
  obtain ⟨S, hS⟩ : ∃ S, S = w.heap.size := ⟨_, rfl⟩
  rw [← hS] at B1
  have HW := hid (And.intro hw1 hS)
  clear hw1 hS
  have C0 := B1.cell 0
  have C1 := B1.cell 1
  have C2 := B1.cell 2
  have C3 := B1.cell 3
  have F0 := B1.free 0
  have F1 := B1.free 1
  have F2 := B1.free 2
  have F3 := B1.free 3
  simp only [List.getElem?_cons_zero, List.getElem?_cons_succ] at C0 C1 C2 C3
  go_enter Tryd.func21, Tryd.ntmps21
  by_cases h22 : n < 22
  · have hno : ∀ r, ¬ Begins l r := fun r h => by have := (begins_len h).1; have := Hn.out; omega
    have Hno := hid hno
    clear hno
    go_wp2_with fail
    rw [← HW.out.1, ← HW.out.2]
    go_wp2_with fail
    exact bodyPost_ret (results_rtake _ _ S _ B1 rfl rfl) rfl (.inr ⟨Hno.out, rfl, K1⟩)
  · have hq := readB_lt ((l.drop 0).take 4)
    have hl4 : ((l.drop 0).take 4).length = 4 := by rw [List.length_take, List.length_drop]; have := Hn.out; omega
    rw [hl4, List.drop_zero] at hq
    obtain ⟨q, hqe⟩ : ∃ q, q = readB (l.take 4) := ⟨_, rfl⟩
    rw [← hqe] at hq
    have Hqe := hid hqe
    clear hqe hl4
    by_cases hbad : q < 14 ∨ n - 8 < q
    · have hno : ∀ r, ¬ Begins l r := fun r h => by have h2 := begins_len h; have := Hn.out; rw [← Hqe.out] at h2; omega
      have Hno := hid hno
      clear hno
      go_wp2_with fail
      rw [← HW.out.1, ← HW.out.2]
      go_wp2_with fail
      refine (at_any w1 A n c l (hs.kept K1) Hn.out (by omega) 0 4 (by omega) (by omega)).mono ?_
      rintro e w2 ⟨rfl, rfl⟩
      rw [List.drop_zero, ← Hqe.out]
      by_cases h14 : q < 14
      · go_wp2_with fail
        obtain ⟨B2, K2⟩ := store_rec B1 K1 (by have := HW.out.2; omega) (.int .i64 0) (.int .i64 0) (.int .i64 0) (.slice none 0 0)
        exact bodyPost_ret (results_rtake _ _ S _ B2 rfl rfl) rfl (.inr ⟨Hno.out, rfl, K2⟩)
      · have hb2 : n - 8 < q := by omega
        go_wp2_with fail
        obtain ⟨B2, K2⟩ := store_rec B1 K1 (by have := HW.out.2; omega) (.int .i64 0) (.int .i64 0) (.int .i64 0) (.slice none 0 0)
        exact bodyPost_ret (results_rtake _ _ S _ B2 rfl rfl) rfl (.inr ⟨Hno.out, rfl, K2⟩)
    · have g1 : 14 ≤ q := by omega
      have g2 : q + 8 ≤ n := by omega
      clear hbad
      go_wp2_with fail
      rw [← HW.out.1, ← HW.out.2]
      go_wp2_with fail
      refine (at_any w1 A n c l (hs.kept K1) Hn.out (by omega) 0 4 (by omega) (by omega)).mono ?_
      rintro e w2 ⟨rfl, rfl⟩
      rw [List.drop_zero, ← Hqe.out]
      go_upto_region 7 with fail
      have e4 : 4 + q - 4 = q := by omega
      rw [e4]
      obtain ⟨D, hD⟩ : ∃ D, D = c - 4 := ⟨_, rfl⟩
      rw [← hD]
      have k2 : q ≤ D := by omega
      have k3 : D ≤ 9223372036854775807 := by omega
      obtain ⟨B0, hB0⟩ : ∃ B0, B0 = cutA A 4 c 1 := ⟨_, rfl⟩
      rw [← hB0]
      obtain ⟨b, hb⟩ : ∃ b, b = (l.drop 4).take q := ⟨_, rfl⟩
      have hbl : b.length = q := by rw [hb, List.length_take, List.length_drop]; have := Hn.out; omega
      have hsB : Span w B0 (u8s b) := by
        rw [hb, hB0]
        exact hs.cut28 4 q (by rw [Hn.out]; exact hc)
      have Hbl := hid hbl
      have Hb := hid hb
      clear e4 hD hB0 hbl hb
      go_wp2_with fail
      refine (at_any w2 B0 q D b (hsB.kept K1) Hbl.out (by omega) 0 4 (by omega) (by omega)).mono ?_
      rintro e w3 ⟨rfl, rfl⟩
      rw [List.drop_zero]
      obtain ⟨d, hd⟩ : ∃ d, d = readB (b.take 4) := ⟨_, rfl⟩
      rw [← hd]
      have HD := hid hd
      clear hd
      go_wp2_with fail
      refine (at_any w3 B0 q D b (hsB.kept K1) Hbl.out (by omega) 4 4 (by omega) (by omega)).mono ?_
      rintro e w4 ⟨rfl, rfl⟩
      obtain ⟨o, ho⟩ : ∃ o, o = readB ((b.drop 4).take 4) := ⟨_, rfl⟩
      rw [← ho]
      have HO := hid ho
      clear ho
      go_wp2_with fail
      refine (at_any w4 B0 q D b (hsB.kept K1) Hbl.out (by omega) 8 4 (by omega) (by omega)).mono ?_
      rintro e w5 ⟨rfl, rfl⟩
      obtain ⟨z, hz⟩ : ∃ z, z = readB ((b.drop 8).take 4) := ⟨_, rfl⟩
      rw [← hz]
      have HL := hid hz
      clear hz
      go_wp2_with fail
      obtain ⟨wT, hwT, CT, KT, hT⟩ : ∃ wT, wT = w5.alloc (.cells #[.int .i64 (d : Int), .int .i64 (o : Int), .int .i64 (z : Int), .slice none 0 0] 24) ∧
          Cells wT w5.heap.size 24 [.int .i64 (d : Int), .int .i64 (o : Int), .int .i64 (z : Int), .slice none 0 0] ∧ Kp [] w5 wT ∧ w5.heap.size = w5.heap.size :=
        ⟨_, rfl, Cells.fresh _ _ _, (Kp.refl _ _).alloc _, rfl⟩
      rw [← hwT]
      have hST := B1.lt
      obtain ⟨T, hTe⟩ : ∃ T, T = w5.heap.size := ⟨_, rfl⟩
      rw [← hTe] at CT hST ⊢
      have hwT0 : w.heap.size ≤ T := by have := K1.size; omega
      have B2 := B1.keep KT (by simp)
      have K2 := K1.nil KT
      clear hwT hTe hT C0 C1 C2 C3 F0 F1 F2 F3
      refine (at_any wT B0 q D b (hsB.kept K2) Hbl.out (by omega) 12 2 (by omega) (by omega)).mono ?_
      rintro e w6 ⟨rfl, hw6⟩
      subst w6
      have hmany := readB_lt ((b.drop 12).take 2)
      rw [show ((b.drop 12).take 2).length = 2 from by rw [List.length_take, List.length_drop]; have := Hbl.out; omega] at hmany
      obtain ⟨many, hme⟩ : ∃ many, many = readB ((b.drop 12).take 2) := ⟨_, rfl⟩
      rw [← hme] at hmany ⊢
      have Hmany := hid hme
      clear hme
      obtain ⟨G, hG⟩ : ∃ G, G = holesGo many (b.drop 14) := ⟨_, rfl⟩
      have HG := hid hG
      clear hG
      go_wp2_with fail
      go_loopw [9, 10] (fun f i wr => ∃ (j x : Nat) (vg : Value) (gs : List ByteArray), j ≤ many ∧ x ≤ q ∧ f = .int .i64 x ∧ i = .int .i64 j ∧ gs.length = j ∧ Own wr 9 vg j (gs.map .string) ∧
          Cells wr T 24 [.int .i64 (d : Int), .int .i64 (o : Int), .int .i64 (z : Int), vg] ∧ Cells wr S 24 [.int .i64 0, .int .i64 0, .int .i64 0, .slice none 0 0] ∧ Kp [] w wr ∧
          (∀ g, vg.ownBlock = some g → w.heap.size ≤ g) ∧ (∀ s ∈ gs, s.size ≤ 65536) ∧ G = (holesGo (many - j) (b.drop x)).map (fun y => (gs ++ y.1, y.2))) (fun _ i _ => many - (intOf i).toNat)
      case atStart => exact ⟨0, 14, _, [], by omega, by omega, rfl, rfl, rfl, Own.nil _ _, CT, B2, K2, by simp [Value.ownBlock], by simp, by rw [HG.out]; simp⟩
      case round =>
        clear CT B2 KT K2 B1 K1
        obtain ⟨j, x, vg, gs, hj, hx, rfl, rfl, hgl, ho, CT, B1, K1, hfr, hsz, hgo⟩ := hrel
        have Hgl := hid hgl
        have Hgo := hid hgo
        have Hfr := hid hfr
        have Hsz := hid hsz
        clear hgl hgo hfr hsz
        have C0 := B1.cell 0
        have C1 := B1.cell 1
        have C2 := B1.cell 2
        have C3 := B1.cell 3
        have F0 := B1.free 0
        have F1 := B1.free 1
        have F2 := B1.free 2
        have F3 := B1.free 3
        have E0 := CT.cell 0
        have E1 := CT.cell 1
        have E2 := CT.cell 2
        have E3 := CT.cell 3
        simp only [List.getElem?_cons_zero, List.getElem?_cons_succ] at C0 C1 C2 C3 E0 E1 E2 E3
        by_cases hlt : j < many
        · obtain ⟨jj, hjj⟩ : ∃ jj, many - j = jj + 1 := ⟨many - j - 1, by omega⟩
          have hj2 : many - (j + 1) = jj := by omega
          have bad : G = none → ∀ wq, Kp [] w wq → TakePost w l (.returned (.tuple #[zeroRec, .int .i64 0, .int .i64 2])) wq := fun hn wq kq =>
            .inr ⟨fun r h => by
              have hh := take_law (l := l) (b := b) (q := q) (many := many) (gs := []) (bo := false) (R := ⟨(readB (b.take 4) : Nat), (readB ((b.drop 4).take 4) : Nat), (readB ((b.drop 8).take 4) : Nat), []⟩) Hqe.out Hb.out Hmany.out
                (by rw [← HG.out, hn]; simp) (by rw [← HG.out, hn]; simp) rfl h
              have := hh.1
              simp at this, rfl, kq⟩
          have Bad := hid bad
          have Hj2 := hid hj2
          have Hjj := hid hjj
          clear bad hj2 hjj
          by_cases h2 : q < x + 2
          · have hnone : G = none := by
              rw [Hgo.out, Hjj.out, holesGo, if_pos (.inl (by rw [List.length_drop]; have := Hbl.out; omega))]
              rfl
            have Hno := hid hnone
            obtain ⟨B2, K2⟩ := store_rec B1 K1 (by have := HW.out.2; omega) (.int .i64 0) (.int .i64 0) (.int .i64 0) (.slice none 0 0)
            have HB2 := hid B2
            have HK2 := hid K2
            clear hnone B2 K2
            go_wp2_with fail
            exact bodyPost_ret (results_rtake _ _ S _ HB2.out rfl rfl) rfl (Bad.out Hno.out _ HK2.out)
          · have hkq0 := readB_lt ((b.drop x).take 2)
            have hl2 : ((b.drop x).take 2).length = 2 := by rw [List.length_take, List.length_drop]; have := Hbl.out; omega
            rw [hl2] at hkq0
            obtain ⟨p, hp⟩ : ∃ p, p = readB ((b.drop x).take 2) := ⟨_, rfl⟩
            rw [← hp] at hkq0
            have hp16 : p < 65536 := by omega
            have Hp := hid hp
            clear hkq0 hl2 hp
            by_cases h3 : q < x + 2 + p
            · have hnone : G = none := by
                rw [Hgo.out, Hjj.out, holesGo, if_pos (.inr (by rw [List.length_drop, ← Hp.out]; have := Hbl.out; omega))]
                rfl
              have Hno := hid hnone
              obtain ⟨B2, K2⟩ := store_rec B1 K1 (by have := HW.out.2; omega) (.int .i64 0) (.int .i64 0) (.int .i64 0) (.slice none 0 0)
              have HB2 := hid B2
              have HK2 := hid K2
              clear hnone B2 K2
              go_wp2_with fail
              refine (at_any wr B0 q D b (hsB.kept K1) Hbl.out (by omega) x 2 (by omega) (by omega)).mono ?_
              rintro e w7 ⟨rfl, hw7⟩
              subst w7
              rw [← Hp.out]
              go_wp2_with fail
              exact bodyPost_ret (results_rtake _ _ S _ HB2.out rfl rfl) rfl (Bad.out Hno.out _ HK2.out)
            · go_wp2_with fail
              refine (at_any wr B0 q D b (hsB.kept K1) Hbl.out (by omega) x 2 (by omega) (by omega)).mono ?_
              rintro e w7 ⟨rfl, hw7⟩
              subst w7
              rw [← Hp.out]
              go_wp2_with fail
              refine (at_any wr B0 q D b (hsB.kept K1) Hbl.out (by omega) x 2 (by omega) (by omega)).mono ?_
              rintro e w7 ⟨rfl, hw7⟩
              subst w7
              rw [← Hp.out]
              go_wp2_with fail
              obtain ⟨t, ht⟩ : ∃ t, t = textOf ((b.drop (x + 2)).take p) := ⟨_, rfl⟩
              have htl : ((b.drop (x + 2)).take p).length = p := by rw [List.length_take, List.length_drop]; have := Hbl.out; omega
              have htz : t.size ≤ 65536 := by
                rw [ht]
                show ((b.drop (x + 2)).take p).toArray.size ≤ _
                rw [List.size_toArray, htl]
                omega
              obtain ⟨X, hX⟩ : ∃ X, X = x + 2 := ⟨_, rfl⟩
              obtain ⟨Y, hY⟩ : ∃ Y, Y = x + 2 + p := ⟨_, rfl⟩
              have cv := run_text (P := Tryd.prog) Tryd.underlying25 Tryd.underlying5 Tryd.underlying9 (w := wr.drew) (show Span wr.drew (cutA B0 X D 1) (u8s ((b.drop (x + 2)).take p)) from hX ▸ (hsB.kept K1).cut28 (x + 2) p (by rw [Hbl.out]; omega)) (Y - X) (D - X) (by rw [htl]; omega)
              rw [show (Value.string ⟨((b.drop (x + 2)).take p).toArray⟩) = .string t from by rw [ht]; rfl] at cv
              have hgo2 : G = (holesGo (many - (j + 1)) (b.drop (x + 2 + p))).map (fun y => (gs ++ [t] ++ y.1, y.2)) := by
                have e1 : (b.drop x).drop 2 = b.drop (x + 2) := by rw [List.drop_drop]
                have e2 : (b.drop x).drop (2 + p) = b.drop (x + 2 + p) := by rw [List.drop_drop]; congr 1; omega
                rw [Hgo.out, Hjj.out, Hj2.out, holesGo, ← Hp.out, if_neg (by rw [List.length_drop]; have := Hbl.out; omega), Option.map_map, e1, e2, ← ht]
                congr 1
                funext y
                simp
              have kB0 := (Kp.refl [] wr).drew.alloc (.cells #[.string t] 9)
              have hoB := ho.kept kB0
              have CTB := CT.keep kB0 (by simp)
              have B1B := B1.keep kB0 (by simp)
              have KB := K1.nil kB0
              have E3B : (wr.alloc (.cells #[.string t] 9)).cell? ⟨T, 3, none⟩ = some vg := CTB.cell 3
              have E3D : wr.drew.cell? ⟨T, 3, none⟩ = some vg := E3
              have hsS : Span (wr.drew.alloc (.cells #[.string t] 9)) (some ⟨wr.heap.size, 0, none⟩) [.string t] := Span.of_new wr.drew 9 (0, 0) [.string t]
              have hne : ∀ g, vg.ownBlock = some g → g ≠ T := fun g hg he => by subst he; exact ho.ne_cells CT (by decide) hg
              have Hgo2 := hid hgo2
              have Htz := hid htz
              have Hne := hid hne
              have i1 : IntKind.i64.wrap ((x : Int) + 2) = (X : Int) := by rw [IntWalk.i64_in _ (by omega)]; omega
              have i2 : IntKind.i64.wrap ((X : Int) + (p : Int)) = (Y : Int) := by rw [IntWalk.i64_in _ (by omega)]; omega
              have i3 : (X : Int) ≤ (Y : Int) := by omega
              have i4 : (Y : Int) ≤ (D : Int) := by omega
              have HXY := hid (And.intro hX hY)
              clear ht htl htz hgo2 hne hX hY
              go_region_law (refine step_append1 rfl (.tmp 67) (.tmp 77) 22 rfl 9 (.string ⟨#[]⟩) 16 Tryd.underlying22 infoStr rfl vg j (gs.map .string) (by rfl) hoB _ 1 1 [.string t] (by rfl) hsS rfl (one_string _) (by omega) (by omega) ?_; intro v7 w7 ho7 k7 b7; have CT7 := CTB.keep k7 (fun hm => by simp only [Option.mem_toList] at hm; exact Hne.out _ hm rfl); have F7 := CT7.free 3; have E7 := CT7.cell 3; simp only [List.getElem?_cons_zero, List.getElem?_cons_succ] at E7; obtain ⟨A7, c7, rfl, sp7, hc7, hl7, hA7⟩ := ho7.shape)
              all_goals
                clear i1 i2 i3 i4 cv E3B E3D
                go_wp2_with fail
                go_roundw
                case rel =>
                  have KS : Kp [T] w7 (w7.setCell ⟨T, 3, none⟩ (.slice A7 (j + 1) c7)) := (Kp.refl _ _).setCell (fun _ => by simp) _
                  have hn7 : ∀ g, (Value.slice A7 (j + 1) c7).ownBlock = some g → g ∉ [T] := fun g hg hm => by
                    rw [List.mem_singleton] at hm
                    subst hm
                    exact ho7.ne_cells CT7 (by decide) hg
                  have K7 : Kp [] w w7 := KB.trans k7 (fun y hy hl => by simp only [Option.mem_toList] at hy; have := Hfr.out _ hy; omega)
                  have hoX : Own w7 9 (.slice A7 (j + 1) c7) (j + 1) ((gs ++ [t]).map .string) := by rw [List.map_append]; exact ho7
                  refine ⟨j + 1, x + 2 + p, _, gs ++ [t], by omega, by omega, by go_num, by go_num, by rw [List.length_append, Hgl.out]; rfl, hoX.keep KS hn7, CT7.put 3 _,
                    ((B1B.keep k7 (fun hm => by simp only [Option.mem_toList] at hm; exact ho.ne_cells B1 (by decide) hm)).other (by simp only; omega) _), K7.setCell (fun h => by simp only at h; omega) _, ?_, ?_, Hgo2.out⟩
                  · intro g hg
                    rcases b7 with b7 | b7
                    · exact Hfr.out g (by rw [← b7]; exact hg)
                    · rw [hg] at b7
                      injection b7 with b7
                      have h9 := K1.size
                      simp at b7
                      omega
                  · intro s hs
                    rcases List.mem_append.1 hs with hs | hs
                    · exact Hsz.out s hs
                    · rw [List.mem_singleton.1 hs]; exact Htz.out
                case measure => simp [intOf]; omega
        · obtain rfl : j = many := by omega
          have hG2 : G = some (gs, b.drop x) := by rw [Hgo.out, Nat.sub_self, holesGo]; simp
          obtain ⟨A4, c4, rfl, hsp4, hc41, -, hA4⟩ := ho.shape
          have hc42 : c4 ≤ 9223372036854775807 := by
            obtain ⟨-, h2⟩ := ho
            rcases h2 with ⟨h2, -⟩ | ⟨g, cap, cur, h2, -, -, -, h3, -⟩
            · injection h2 with _ _ h2; omega
            · injection h2 with _ _ h2; simp only [maxLen] at h3; omega
          obtain ⟨R, hR⟩ : ∃ R : Rec, R = ⟨(d : Int), (o : Int), (z : Int), gs⟩ := ⟨_, rfl⟩
          have hRI : RecIs wr R (.agg #[.int .i64 (d : Int), .int .i64 (o : Int), .int .i64 (z : Int), .slice A4 j c4]) := by
            subst hR
            exact ⟨A4, c4, by rw [Hgl.out], hsp4, by rw [Hgl.out]; exact hc41, hc42⟩
          have hRz : ∀ s ∈ R.holes, s.size ≤ 9223372036854775000 := by
            intro s hs
            have := Hsz.out s (by rw [hR] at hs; exact hs)
            omega
          have hlaw := fun r (h : Begins l r) => take_law (bo := decide (b.drop x = [])) (R := R) (gs := gs) Hqe.out Hb.out Hmany.out (by rw [← HG.out, hG2]; simp) (by rw [← HG.out, hG2]; intro hs r h; simp at h; exact h.1) (by rw [hR, HD.out, HO.out, HL.out]) h
          have Hlaw := hid hlaw
          have HR := hid hR
          have hA5 : ∀ ad, A4 = some ad → w.heap.size ≤ ad.block := fun ad h => Hfr.out _ (hA4 ad h).2
          have HA5 := hid hA5
          have hne5 : ∀ ad, A4 = some ad → ad.block ≠ S := fun ad h he => by
            have h1 := (hA4 ad h).2
            rw [he] at h1
            exact ho.ne_cells B1 (by decide) h1
          have Hne5 := hid hne5
          clear hG2 hlaw hR hA5 hA4 hne5
          go_wp2_with fail
          refine (rput_any wr R _ hRI hRz).mono ?_
          rintro e w8 ⟨v8, rfl, ho8, hn8⟩
          have hK8 := K1.nil hn8.kp
          have hB8 := B1.keep hn8.kp (by simp)
          have hC8 := CT.keep hn8.kp (by simp)
          have hsp8 := hsp4.kept hn8.kp
          clear C0 C1 C2 C3 F0 F1 F2 F3 E0 E1 E2 E3
          have C0 := hB8.cell 0
          have C1 := hB8.cell 1
          have C2 := hB8.cell 2
          have C3 := hB8.cell 3
          have F0 := hB8.free 0
          have F1 := hB8.free 1
          have F2 := hB8.free 2
          have F3 := hB8.free 3
          have E0 := hC8.cell 0
          have E1 := hC8.cell 1
          have E2 := hC8.cell 2
          have E3 := hC8.cell 3
          simp only [List.getElem?_cons_zero, List.getElem?_cons_succ] at C0 C1 C2 C3 E0 E1 E2 E3
          obtain ⟨A8, c8, rfl, hs8, hc8, -⟩ := ho8.shape
          have hsl : Span w8 A (u8s (l.take (q + 8))) := (hs.kept hK8).take8 _
          have hll : (l.take (q + 8)).length = q + 8 := by rw [List.length_take]; have := Hn.out; omega
          obtain ⟨m, hm⟩ : ∃ m, m = mayOf R := ⟨_, rfl⟩
          obtain ⟨V, hV⟩ : ∃ V, V = putL R := ⟨_, rfl⟩
          rw [← hm]
          rw [← hV] at hs8 hc8 ⊢
          obtain ⟨nV, hnV⟩ : ∃ nV, nV = V.length := ⟨_, rfl⟩
          rw [← hnV] at hc8 ⊢
          have cv1 := fun u => run_text (P := Tryd.prog) Tryd.underlying25 Tryd.underlying5 Tryd.underlying9 (w := w8.drewN u) (show Span (w8.drewN u) A8 (u8s V) from hs8) nV c8 hnV.symm
          have cv2 := fun u => run_text (P := Tryd.prog) Tryd.underlying25 Tryd.underlying5 Tryd.underlying9 (w := w8.drewN u) (show Span (w8.drewN u) A (u8s (l.take (q + 8))) from hsl) (q + 8) c hll
          obtain ⟨U, hU⟩ : ∃ U, U = l.take (q + 8) := ⟨_, rfl⟩
          rw [← hU] at cv2 hll
          have Hm := hid hm
          have HV := hid hV
          have HU := hid hU
          have HnV := hid hnV
          have Hll := hid hll
          have hSw : w.heap.size ≤ S := by have := HW.out.2; omega
          have hbad : ((∀ r, ¬ Begins l r) → ∀ wq, Kp [] w wq → TakePost w l (.returned (.tuple #[zeroRec, .int .i64 0, .int .i64 2])) wq) := fun h wq k => .inr ⟨h, rfl, k⟩
          have Hbad := hid hbad
          have b8 : q + 8 ≤ c := by omega
          have b9 : (q : Int) + 8 ≤ (c : Int) := by omega
          clear hm hV hU hnV hll ho8 hbad hRI hs8 hsl
          by_cases hm0 : m = 0
          · subst hm0
            by_cases hlen : nV = q + 8
            · subst hlen
              cases heq : (V == U) with
              | false =>
                have Hno : Hid (∀ r, ¬ Begins l r) := hid (fun r h => by have := (Hlaw.out r h).2.2.2; rw [← HV.out, ← HU.out] at this; rw [this] at heq; simp at heq)
                go_wp2_with fail
                go_quiet (fail)
                generalize nq = n1 at *
                go_wp2_with fail
                obtain ⟨B2, K2⟩ := store_rec (hB8.drewN n1) (hK8.drewN n1) hSw (.int .i64 0) (.int .i64 0) (.int .i64 0) (.slice none 0 0)
                exact bodyPost_ret (results_rtake _ _ S _ B2 rfl rfl) rfl (Hbad.out Hno.out _ K2)
              | true =>
                have he : V = U := by simpa using heq
                have hpb : V = putB R := by rw [HV.out, putL, if_pos Hm.out.symm]
                have hbg : Begins l R := ⟨Hm.out.symm, l.drop (q + 8), by rw [← hpb, he, HU.out, List.take_append_drop]⟩
                have hlen : (putB R).length = q + 8 := by rw [← hpb, he, Hll.out]
                have Hbg := hid hbg
                have Hlen := hid hlen
                clear he hpb hbg hlen
                go_wp2_with fail
                go_quiet (fail)
                generalize nq = n1 at *
                clear heq
                have hsp9 : Span (w8.drewN n1) A4 (gs.map .string) := hsp8
                have hspf := (((hsp9.setCell (p := ⟨S, 0, none⟩) Hne5.out (.int .i64 (d : Int))).setCell (p := ⟨S, 1, none⟩) Hne5.out (.int .i64 (o : Int))).setCell (p := ⟨S, 2, none⟩) Hne5.out (.int .i64 (z : Int))).setCell (p := ⟨S, 3, none⟩) Hne5.out (.slice A4 j c4)
                obtain ⟨B3, K3⟩ := store_rec (hB8.drewN n1) (hK8.drewN n1) hSw (.int .i64 (d : Int)) (.int .i64 (o : Int)) (.int .i64 (z : Int)) (.slice A4 j c4)
                have hrec : RecNew w (((((w8.drewN n1).setCell ⟨S, 0, none⟩ (.int .i64 (d : Int))).setCell ⟨S, 1, none⟩ (.int .i64 (o : Int))).setCell ⟨S, 2, none⟩ (.int .i64 (z : Int))).setCell ⟨S, 3, none⟩ (.slice A4 j c4)) R (.agg #[.int .i64 (d : Int), .int .i64 (o : Int), .int .i64 (z : Int), .slice A4 j c4]) := by
                  have e := HR.out
                  subst e
                  exact ⟨A4, c4, by rw [Hgl.out], hspf, by rw [Hgl.out]; exact hc41, hc42, HA5.out⟩
                have hpost : TakePost w l (.returned (.tuple #[.agg #[.int .i64 (d : Int), .int .i64 (o : Int), .int .i64 (z : Int), .slice A4 j c4], .int .i64 ((q : Int) + 8), .int .i64 0])) (((((w8.drewN n1).setCell ⟨S, 0, none⟩ (.int .i64 (d : Int))).setCell ⟨S, 1, none⟩ (.int .i64 (o : Int))).setCell ⟨S, 2, none⟩ (.int .i64 (z : Int))).setCell ⟨S, 3, none⟩ (.slice A4 j c4)) :=
                  .inl ⟨R, _, Hbg.out, by rw [Hlen.out]; rfl, hrec, K3⟩
                have Hpost := hid hpost
                have HB3 := hid B3
                clear hsp9 hspf hrec hpost B3 K3
                go_wp2_with fail
                exact bodyPost_ret (results_rtake _ _ S _ HB3.out rfl rfl) rfl Hpost.out
            · have q1 : ((nV : Int) != (q : Int) + 8) = true := by simp; omega
              have Hno : Hid (∀ r, ¬ Begins l r) := hid (fun r h => by have := (Hlaw.out r h).2.2.2; rw [← HV.out, ← HU.out] at this; rw [HnV.out, this, Hll.out] at hlen; exact hlen rfl)
              go_wp2_with fail
              go_quiet (fail)
              generalize nq = n1 at *
              go_wp2_with fail
              obtain ⟨B2, K2⟩ := store_rec (hB8.drewN n1) (hK8.drewN n1) hSw (.int .i64 0) (.int .i64 0) (.int .i64 0) (.slice none 0 0)
              exact bodyPost_ret (results_rtake _ _ S _ B2 rfl rfl) rfl (Hbad.out Hno.out _ K2)
          · have q1 : (m != 0) = true := by simpa using hm0
            have Hno : Hid (∀ r, ¬ Begins l r) := hid (fun r h => by have := (Hlaw.out r h).2.2.1; rw [← Hm.out] at this; exact hm0 this)
            go_wp2_with fail
            go_quiet (fail)
            generalize nq = n1 at *
            go_wp2_with fail
            obtain ⟨B2, K2⟩ := store_rec (hB8.drewN n1) (hK8.drewN n1) hSw (.int .i64 0) (.int .i64 0) (.int .i64 0) (.slice none 0 0)
            exact bodyPost_ret (results_rtake _ _ S _ B2 rfl rfl) rfl (Hbad.out Hno.out _ K2)
end Go.Proofs.YtepeopfdenieeaaDoor
