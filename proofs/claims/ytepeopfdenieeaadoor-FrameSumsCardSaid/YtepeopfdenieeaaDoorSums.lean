/- FrameSums: the sum of rows that are turned in the same way is turned in the same way; one byte that is turned turns it. -/
import Derived.Test.YtepeopfdenieeaaDoorShown17
namespace Go.Proofs.YtepeopfdenieeaaDoor
open Go Go.RowKit

theorem zip_take (a b : List UInt8) (k : Nat) (h1 : k < a.length) (h2 : k < b.length) : List.zipWith (· ^^^ ·) (a.take (k + 1)) (b.take (k + 1)) = List.zipWith (· ^^^ ·) (a.take k) (b.take k) ++ [a[k] ^^^ b[k]] := by
  rw [List.take_add_one, List.take_add_one, List.getElem?_eq_getElem h1, List.getElem?_eq_getElem h2]
  rw [List.zipWith_append (by simp; omega)]
  rfl
theorem turned_take (b : List UInt8) (k : Nat) (h : k < b.length) : turned (b.take (k + 1)) = turned (b.take k) + (if b[k] = 0 then 0 else 1) := by
  unfold turned
  rw [List.take_add_one, List.getElem?_eq_getElem h, List.filter_append, List.length_append]
  by_cases h0 : b[k] = 0 <;> simp [h0]
/-- The plain law. -/
theorem sums_law (a b d : List UInt8) (h1 : a.length = d.length) (h2 : b.length = d.length) :
    (crcSum a ^^^ crcSum (List.zipWith (· ^^^ ·) a d) = crcSum b ^^^ crcSum (List.zipWith (· ^^^ ·) b d)) ∧
    (turned d = 1 → crcSum a ^^^ crcSum (List.zipWith (· ^^^ ·) a d) ≠ 0) ∧ (turned d = 0 → crcSum a ^^^ crcSum (List.zipWith (· ^^^ ·) a d) = 0) := by
  rw [crcSum_turned h1, crcSum_turned h2]
  exact ⟨rfl, crcRow_one d, fun h => (crcRow_noughts d (by omega) (turned_zero h)).2 rfl⟩

set_option maxRecDepth 100000 in
set_option maxHeartbeats 1600000 in
theorem sums_any (w : World) (hT : Tabs w) (A : Option Addr) (n c : Nat) (a : List UInt8) (ha : Span w A (u8s a)) (hn : a.length = n) (hc : n ≤ c) (hc2 : c ≤ 9223372036854775807)
    (A1 : Option Addr) (n1 c1 : Nat) (b : List UInt8) (hb : Span w A1 (u8s b)) (hn1 : b.length = n1) (hc1 : n1 ≤ c1) (hc12 : c1 ≤ 9223372036854775807)
    (A2 : Option Addr) (n2 c2 : Nat) (d : List UInt8) (hd : Span w A2 (u8s d)) (hn2 : d.length = n2) (hc2' : n2 ≤ c2) (hc22 : c2 ≤ 9223372036854775807) :
    Calls Tryd.prog 5 #[.slice A n c, .slice A1 n1 c1, .slice A2 n2 c2] w (YesPost w) := by
  have Hn := hid hn
  have Hn1 := hid hn1
  have Hn2 := hid hn2
  clear hn hn1 hn2
  go_enter Tryd.func5, Tryd.ntmps5
  go_wp2_with fail
  refine (shown_any _ hT).mono ?_
  rintro e w1 ⟨rfl, hk1⟩
  go_wp2_with fail
  obtain ⟨m, hm⟩ : ∃ m : Nat, m = min (min (min n n1) n2) 300 := ⟨_, rfl⟩
  have hm' : min (n : Int) (min (n1 : Int) (min (n2 : Int) 300)) = (m : Int) := by omega
  rw [hm']
  have hmn : m ≤ n ∧ m ≤ n1 ∧ m ≤ n2 ∧ m ≤ 300 := by omega
  obtain ⟨hm1, hm2, hm3, hm4⟩ := hmn
  clear hm hm'
  have hw1 := hk1.size
  obtain ⟨w2, hw2, ox, oy, hk2⟩ : ∃ w2, w2 = (w1.alloc (.cells #[] 5)).alloc (.cells #[] 5) ∧
      OwnB 5 w2 (.slice (some ⟨w1.heap.size, 0, none⟩) 0 0) [] ∧ OwnB 5 w2 (.slice (some ⟨w1.heap.size + 1, 0, none⟩) 0 0) [] ∧ Kp [] w1 w2 :=
    ⟨_, rfl, Own.of_cells ((Cells.fresh w1 5 []).alloc _) (Nat.zero_le _), Own.of_cells (Cells.fresh1 w1 _ 5 []) (Nat.zero_le _), ((Kp.refl _ _).alloc _).alloc _⟩
  rw [← hw2]
  clear hw2
  obtain ⟨S, hS⟩ : ∃ S, S = w1.heap.size := ⟨_, rfl⟩
  rw [← hS] at ox oy hw1 ⊢
  clear hS
  have hnx : New w w2 (.slice (some ⟨S, 0, none⟩) 0 0) := ⟨hk1.nil hk2, by intro g hg; have : S = g := (by simpa [Value.ownBlock] using hg); omega⟩
  have hny : New w w2 (.slice (some ⟨S + 1, 0, none⟩) 0 0) := ⟨hk1.nil hk2, by intro g hg; have : S + 1 = g := (by simpa [Value.ownBlock] using hg); omega⟩
  go_loopw [9, 10, 11, 12] (fun vx vy t i wr => ∃ k : Nat, k ≤ m ∧ i = .int .i64 k ∧ t = .int .i64 (turned (d.take k) : Nat) ∧
      OwnB 5 wr vx (List.zipWith (· ^^^ ·) (a.take k) (d.take k)) ∧ New w wr vx ∧ OwnB 5 wr vy (List.zipWith (· ^^^ ·) (b.take k) (d.take k)) ∧ New w wr vy ∧ (∀ g, vx.ownBlock = some g → vy.ownBlock ≠ some g)) (fun _ _ _ i _ => m - (intOf i).toNat)
  case atStart =>
    refine ⟨0, by omega, rfl, rfl, by simpa using ox, hnx, by simpa using oy, hny, fun g hg => ?_⟩
    have : S = g := by simpa [Value.ownBlock] using hg
    simp [Value.ownBlock]
    omega
  case round =>
    obtain ⟨k, hk, rfl, rfl, ox, hnx, oy, hny, hap⟩ := hrel
    by_cases hlt : k < m
    · have hka : k < a.length := by have := Hn.out; omega
      have hkb : k < b.length := by have := Hn1.out; omega
      have hkd : k < d.length := by have := Hn2.out; omega
      have hkw := hnx.kp
      obtain ⟨ad, rfl, ca⟩ := (ha.kept hkw).get (j := k) (by rw [length_u8s]; exact hka)
      obtain ⟨bd, rfl, cb⟩ := (hb.kept hkw).get (j := k) (by rw [length_u8s]; exact hkb)
      obtain ⟨dd, rfl, cd⟩ := (hd.kept hkw).get (j := k) (by rw [length_u8s]; exact hkd)
      have zx := zip_take a d k hka hkd
      have zy := zip_take b d k hkb hkd
      have tt := turned_take d k hkd
      have lx : (List.zipWith (· ^^^ ·) (a.take k) (d.take k)).length ≤ 300 := by rw [List.length_zipWith, List.length_take]; omega
      have ly : (List.zipWith (· ^^^ ·) (b.take k) (d.take k)).length ≤ 300 := by rw [List.length_zipWith, List.length_take]; omega
      have lt : turned (d.take k) ≤ 300 := by have := List.length_filter_le (fun c => c != 0) (d.take k); rw [List.length_take] at this; unfold turned; omega
      obtain ⟨x, hx⟩ : ∃ x, x = a[k] := ⟨_, rfl⟩
      obtain ⟨y, hy⟩ : ∃ y, y = b[k] := ⟨_, rfl⟩
      obtain ⟨z, hz⟩ : ∃ z, z = d[k] := ⟨_, rfl⟩
      rw [← hx, ← hz] at zx
      rw [← hy, ← hz] at zy
      rw [← hz] at tt
      have ca' : wr.cell? (ad.add k) = some (.int .u8 (x.toNat : Int)) := by rw [ca, hx]; simp [u8s, u8]
      have cb' : wr.cell? (bd.add k) = some (.int .u8 (y.toNat : Int)) := by rw [cb, hy]; simp [u8s, u8]
      have cd' : wr.cell? (dd.add k) = some (.int .u8 (z.toNat : Int)) := by rw [cd, hz]; simp [u8s, u8]
      have cb0 : w.cell? (bd.add k) = some (.int .u8 (y.toNat : Int)) := by
        obtain ⟨bd', e', h'⟩ := hb.get (j := k) (by rw [length_u8s]; exact hkb)
        injection e' with e'
        subst e'
        rw [h', hy]; simp [u8s, u8]
      have cd0 : w.cell? (dd.add k) = some (.int .u8 (z.toNat : Int)) := by
        obtain ⟨bd', e', h'⟩ := hd.get (j := k) (by rw [length_u8s]; exact hkd)
        injection e' with e'
        subst e'
        rw [h', hz]; simp [u8s, u8]
      clear hx hy hz ca cb cd
      obtain ⟨X, hX⟩ : ∃ X, X = List.zipWith (· ^^^ ·) (a.take k) (d.take k) := ⟨_, rfl⟩
      obtain ⟨Y, hY⟩ : ∃ Y, Y = List.zipWith (· ^^^ ·) (b.take k) (d.take k) := ⟨_, rfl⟩
      obtain ⟨t, ht⟩ : ∃ t, t = turned (d.take k) := ⟨_, rfl⟩
      rw [← hX] at ox zx lx
      rw [← hY] at oy zy ly
      rw [← ht] at lt tt ⊢
      have Zx := hid zx
      have Zy := hid zy
      have Tt := hid tt
      clear hX hY ht zx zy tt
      obtain ⟨p, hp⟩ : ∃ p, p = x ^^^ z := ⟨_, rfl⟩
      obtain ⟨q, hq⟩ : ∃ q, q = y ^^^ z := ⟨_, rfl⟩
      have e1 : bits .xor .u8 (x.toNat : Int) (z.toNat : Int) = (p.toNat : Int) := by rw [u8_xor_nat x.toNat z.toNat x.toNat_lt z.toNat_lt, hp, UInt8.toNat_xor]
      have e2 : bits .xor .u8 (y.toNat : Int) (z.toNat : Int) = (q.toNat : Int) := by rw [u8_xor_nat y.toNat z.toNat y.toNat_lt z.toNat_lt, hq, UInt8.toNat_xor]
      rw [← hp] at Zx
      rw [← hq] at Zy
      clear hp hq
      have i1 : k < n := by omega
      have i2 : k < n1 := by omega
      have i3 : k < n2 := by omega
      have j1 : (k : Int) < (n : Int) := by omega
      have j2 : (k : Int) < (n1 : Int) := by omega
      have j3 : (k : Int) < (n2 : Int) := by omega
      have ka := (Kp.refl [] wr).drew.alloc (.cells #[Value.int .u8 (p.toNat : Int)] 5)
      have oxa := ox.kept ka
      have hnxa := hnx.kept ka
      have spa : Span (wr.drew.alloc (.cells #[Value.int .u8 (p.toNat : Int)] 5)) (some ⟨wr.heap.size, 0, none⟩) (u8s [p]) := Span.of_new wr.drew 5 (0, 0) (u8s [p])
      go_wp2_with fail
      go_region_law (first
        | (go_must (refine step_append_bytesB rfl (.tmp 30) (.tmp 40) 25 rfl 5 Tryd.underlying25 infoByte _ X (by rfl) oxa hnxa _ 1 1 [p] (by rfl) spa rfl (by omega) ?_); intro v1 w3 ox3 hnx3 hk3 hb3))
      all_goals
        obtain ⟨oy3, hap3⟩ := (oy.kept ka).apart hap hk3 hb3
        have hny3 : New w w3 _ := ⟨hnx3.kp, hny.blk⟩
        have kw3 : Kp [] w w3 := hnx3.kp
        have cb3 : w3.cell? (bd.add k) = some (.int .u8 (y.toNat : Int)) := by
          have := kw3.cell cb0 (by simp)
          exact this
        have cd3 : w3.cell? (dd.add k) = some (.int .u8 (z.toNat : Int)) := by
          have := kw3.cell cd0 (by simp)
          exact this
        have kb := (Kp.refl [] w3).drew.alloc (.cells #[Value.int .u8 (q.toNat : Int)] 5)
        have oyb := oy3.kept kb
        have hnyb := hny3.kept kb
        have spb : Span (w3.drew.alloc (.cells #[Value.int .u8 (q.toNat : Int)] 5)) (some ⟨w3.heap.size, 0, none⟩) (u8s [q]) := Span.of_new w3.drew 5 (0, 0) (u8s [q])
        clear hk3 hb3 oxa hnxa spa ka
        go_wp2_with fail
        go_region_law (first
          | (go_must (refine step_append_bytesB rfl (.tmp 42) (.tmp 52) 25 rfl 5 Tryd.underlying25 infoByte _ Y (by rfl) oyb hnyb _ 1 1 [q] (by rfl) spb rfl (by omega) ?_); intro v2 w4 oy4 hny4 hk4 hb4))
        all_goals
          have cd4 : w4.cell? (dd.add k) = some (.int .u8 (z.toNat : Int)) := hny4.kp.cell cd0 (by simp)
          obtain ⟨ox4, hap4⟩ := (ox3.kept kb).apart (fun g hg h => hap3 _ h hg) hk4 hb4
          have hnx4 : New w w4 v1 := ⟨hny4.kp, hnx3.blk⟩
          clear hk4 hb4 oyb hnyb spb kb cb3 cd3
          by_cases hz0 : z.toNat = 0
          · go_wp2_with fail
            go_roundw
            case rel =>
              refine ⟨k + 1, by omega, by go_num, ?_, by rw [Zx.out]; exact ox4, hnx4, by rw [Zy.out]; exact oy4, hny4, fun g hg h => hap4 g h hg⟩
              rw [Tt.out, if_pos (UInt8.toNat_inj.1 hz0)]; rfl
            case measure => simp [intOf]; omega
          · go_wp2_with fail
            go_roundw
            case rel =>
              refine ⟨k + 1, by omega, by go_num, ?_, by rw [Zx.out]; exact ox4, hnx4, by rw [Zy.out]; exact oy4, hny4, fun g hg h => hap4 g h hg⟩
              rw [Tt.out, if_neg (fun h => hz0 (by rw [h]; rfl))]; rfl
            case measure => simp [intOf]; omega
    · have hkm : k = m := by omega
      have la : (a.take k).length = k := by rw [List.length_take]; have := Hn.out; omega
      have lb : (b.take k).length = k := by rw [List.length_take]; have := Hn1.out; omega
      have ld : (d.take k).length = k := by rw [List.length_take]; have := Hn2.out; omega
      have law := sums_law (a.take k) (b.take k) (d.take k) (by omega) (by omega)
      have lx : (List.zipWith (· ^^^ ·) (a.take k) (d.take k)).length = k := by rw [List.length_zipWith]; omega
      have ly : (List.zipWith (· ^^^ ·) (b.take k) (d.take k)).length = k := by rw [List.length_zipWith]; omega
      have spa := (ha.kept hnx.kp).take k
      have spb := (hb.kept hnx.kp).take k
      rw [← u8s_take] at spa spb
      obtain ⟨Ax, cx, rfl, spx, hcx, -⟩ := ox.shape
      obtain ⟨Ay, cy, rfl, spy, hcy, -⟩ := oy.shape
      have hS1 := crcSum_lt (a.take k)
      have hS2 := crcSum_lt (List.zipWith (· ^^^ ·) (a.take k) (d.take k))
      have hS3 := crcSum_lt (b.take k)
      have hS4 := crcSum_lt (List.zipWith (· ^^^ ·) (b.take k) (d.take k))
      rw [lx] at hcx
      rw [ly] at hcy
      obtain ⟨t, ht⟩ : ∃ t, t = turned (d.take k) := ⟨_, rfl⟩
      rw [← ht] at law ⊢
      rw [lx, ly]
      have Lx := hid lx
      have Ly := hid ly
      have La := hid la
      have Lb := hid lb
      have Law := hid law
      clear law lx ly la lb ld ht ox oy hap hny
      obtain ⟨X, hX⟩ : ∃ X, X = List.zipWith (· ^^^ ·) (a.take k) (d.take k) := ⟨_, rfl⟩
      obtain ⟨Y, hY⟩ : ∃ Y, Y = List.zipWith (· ^^^ ·) (b.take k) (d.take k) := ⟨_, rfl⟩
      rw [← hX] at spx hS2 Lx Law
      rw [← hY] at spy hS4 Ly Law
      clear hX hY
      have hmk : m ≤ k := by omega
      have hkm2 : k ≤ m := by omega
      obtain rfl : m = k := by omega
      go_wp2_with fail
      refine (sum_any _ A m c (a.take m) spa La.out (by omega) (by omega)).mono ?_
      rintro e w4 ⟨rfl, rfl⟩
      go_wp2_with fail
      refine (sum_any _ Ax m cx X spx Lx.out hcx (by omega)).mono ?_
      rintro e w4 ⟨rfl, rfl⟩
      have e1 := u32_xor_nat _ _ hS1 hS2
      go_wp2_with fail
      refine (sum_any _ A1 m c1 (b.take m) spb Lb.out (by omega) (by omega)).mono ?_
      rintro e w4 ⟨rfl, rfl⟩
      go_wp2_with fail
      refine (sum_any _ Ay m cy Y spy Ly.out hcy (by omega)).mono ?_
      rintro e w4 ⟨rfl, rfl⟩
      have e2 := u32_xor_nat _ _ hS3 hS4
      obtain ⟨l1, l2, l3⟩ := Law.out
      rw [← l1] at e2
      obtain ⟨p, hp⟩ : ∃ p, p = crcSum (a.take m) ^^^ crcSum X := ⟨_, rfl⟩
      rw [← hp] at e1 e2 l2 l3 ⊢
      clear hp l1
      rcases (show (t = 0 ∧ p = 0) ∨ (t = 1 ∧ p ≠ 0) ∨ (2 ≤ t ∧ p = 0) ∨ (2 ≤ t ∧ p ≠ 0) from by
        rcases (show t = 0 ∨ t = 1 ∨ 2 ≤ t from by omega) with h | h | h
        · exact .inl ⟨h, l3 h⟩
        · exact .inr (.inl ⟨h, l2 h⟩)
        · exact .inr (.inr ((Nat.eq_zero_or_pos p).imp (fun h0 => ⟨h, h0⟩) (fun h0 => ⟨h, by omega⟩)))) with ⟨h1, h2⟩ | ⟨h1, h2⟩ | ⟨h1, h2⟩ | ⟨h1, h2⟩
      all_goals
        clear l2 l3
        go_wp2_with fail
        go_ret
        refine ⟨?_, hnx.kp⟩
        first
          | rfl
          | (show Ending.returned (Value.bool ((p : Int) != 0)) = _; rw [show ((p : Int) != 0) = true from by simpa using h2])
end Go.Proofs.YtepeopfdenieeaaDoor
