/- The document's answer for layer 17: a record as bytes. -/
import Derived.Test.YtepeopfdenieeaaDoorRef17
import Derived.Deep.DeepCutAuto
import Derived.Lib.ConvBytes
namespace Go.Proofs.YtepeopfdenieeaaDoor
open Go Go.RowKit

theorem rnumber_lies (w0 w : World) (v : Value) (l : List UInt8) (wide x : Nat) (X W : Int) (hown : OwnB 5 w v l) (hnew : New w0 w v) (hn : l.length ≤ 1000000000000) (hw : wide ≤ 4) (hx : x < 4294967296) (hX : X = x) (hW : W = wide) :
    Calls Tryd.prog 41 #[v, .int .i64 X, .int .i64 W] w fun e w' => ∃ v', e = .returned v' ∧ OwnB 5 w' v' (l ++ be wide x) ∧ New w0 w' v' :=
  (rnumber_new w0 w v l wide x X W hown hnew hn hw hx hX hW).mono fun _ _ ⟨v', h1, h2, h3, _⟩ => ⟨v', h1, h2, h3⟩
theorem kp_bytes (w : World) (s : ByteArray) : Kp [] w (Lib.bytesWorld w 5 s) := by
  refine ⟨rfl, rfl, rfl, by rw [Lib.bytesWorld_size]; omega, fun k hk _ => Lib.bytesWorld_at_old w 5 s k hk⟩
theorem span_bytes (w : World) (s : ByteArray) : Span (Lib.bytesWorld w 5 s) (some ⟨w.heap.size, 0, none⟩) (u8s s.data.toList) := fun j u hj => by
  have hlt : j < s.size := by
    have := (List.getElem?_eq_some_iff.1 hj).1
    rw [length_u8s, Array.length_toList] at this
    exact this
  refine ⟨_, rfl, ?_⟩
  have h := Lib.bytesWorld_cell w 5 s j hlt
  have hl : j < s.data.toList.length := by rw [Array.length_toList]; exact hlt
  rw [u8s_get _ _ hl] at hj
  injection hj with hj
  subst hj
  have e : ((⟨w.heap.size, 0, none⟩ : Addr).add j) = ⟨w.heap.size, j, none⟩ := by
    rcases Nat.eq_zero_or_pos j with h0 | h0
    · subst h0; rfl
    · simp [Addr.add, Nat.ne_of_gt h0]
  rw [e, h, List.getD_eq_getElem?_getD, List.getElem?_eq_getElem hl]
  rfl

theorem be_rev (q : Nat) : (be 4 q).reverse = [UInt8.ofNat q, UInt8.ofNat (q / 256), UInt8.ofNat (q / 65536), UInt8.ofNat (q / 16777216)] := by
  simp [be, List.range_succ]
theorem span_four (w : World) (q : Nat) (hq : q < 4294967296) : Span (w.alloc (.cells #[.int .u8 ((q : Int) % 256), .int .u8 ((q : Int) / 256 % 256), .int .u8 ((q : Int) / 65536 % 256), .int .u8 ((q : Int) / 16777216)] 5)) (some ⟨w.heap.size, 0, none⟩) (u8s [UInt8.ofNat q, UInt8.ofNat (q / 256), UInt8.ofNat (q / 65536), UInt8.ofNat (q / 16777216)]) := by
  have h := Span.of_new w 5 (0, 0) [.int .u8 ((q : Int) % 256), .int .u8 ((q : Int) / 256 % 256), .int .u8 ((q : Int) / 65536 % 256), .int .u8 ((q : Int) / 16777216)]
  have e : u8s [UInt8.ofNat q, UInt8.ofNat (q / 256), UInt8.ofNat (q / 65536), UInt8.ofNat (q / 16777216)] = [.int .u8 ((q : Int) % 256), .int .u8 ((q : Int) / 256 % 256), .int .u8 ((q : Int) / 65536 % 256), .int .u8 ((q : Int) / 16777216)] := by
    simp [u8s, u8]
    omega
  rw [e]
  exact h

set_option maxRecDepth 100000 in
set_option maxHeartbeats 1600000 in
theorem rput_any (w : World) (r : Rec) (v : Value) (hr : RecIs w r v) (hz : ∀ s ∈ r.holes, s.size ≤ 9223372036854775000) :
    Calls Tryd.prog 16 #[v] w (PutPost w r) := by
  obtain ⟨A, c, rfl, hsp, hc, hc2⟩ := hr
  obtain ⟨n, hn⟩ : ∃ n, n = r.holes.length := ⟨_, rfl⟩
  rw [← hn] at hc ⊢
  have Hn := hid hn
  clear hn
  obtain ⟨w1, hw1, B1, K1⟩ : ∃ w1, w1 = w.alloc (.cells #[.int .i64 r.doc, .int .i64 r.out, .int .i64 r.len, .slice A n c] 24) ∧
      Cells w1 w.heap.size 24 [.int .i64 r.doc, .int .i64 r.out, .int .i64 r.len, .slice A n c] ∧ Kp [] w w1 :=
    ⟨_, rfl, Cells.fresh _ _ _, (Kp.refl _ _).alloc _⟩
  have hR1 : RecIs w1 r (.agg #[.int .i64 r.doc, .int .i64 r.out, .int .i64 r.len, .slice A n c]) := by
    refine ⟨A, c, ?_, hsp.kept K1, ?_, hc2⟩
    · rw [Hn.out]
    · rw [← Hn.out]; exact hc
  go_enter Tryd.func16, Tryd.ntmps16
  go_wp2_with fail
  rw [← hw1]
  have Hw1 := hid hw1
  clear hw1
  refine (rmay_any w1 r _ hR1 hz).mono ?_
  rintro e w2 ⟨rfl, hk2⟩
  have B2 := B1.keep hk2 (by simp)
  obtain ⟨S, hS⟩ : ∃ S, S = w.heap.size := ⟨_, rfl⟩
  rw [← hS] at B2 ⊢
  have HS := hid hS
  clear hS B1
  by_cases hm : mayOf r = 0
  · rw [hm]
    obtain ⟨⟨d1, d2⟩, ⟨o1, o2⟩, ⟨l1, l2⟩, hh1, hh2⟩ := may_zero hm
    have Hm := hid hm
    clear hm
    have C0 := B2.cell 0
    have C1 := B2.cell 1
    have C2 := B2.cell 2
    have C3 := B2.cell 3
    simp only [List.getElem?_cons_zero, List.getElem?_cons_succ] at C0 C1 C2 C3
    have hSlt := B2.lt
    have hb0 : OwnB 5 (w2.drew.alloc (.cells #[] 5)) (.slice (some ⟨w2.heap.size, 0, none⟩) 0 0) [] := Own.of_cells (Cells.fresh w2.drew 5 []) (Nat.zero_le _)
    have hn0 : New w2 (w2.drew.alloc (.cells #[] 5)) (.slice (some ⟨w2.heap.size, 0, none⟩) 0 0) := ⟨(Kp.refl _ w2).drew.alloc _, by intro g hg; have : w2.heap.size = g := (by simpa [Value.ownBlock] using hg); omega⟩
    have hkeep : ∀ (wx : World) (u : Value), New w2 wx u → wx.cell? ⟨S, 0, none⟩ = some (.int .i64 r.doc) ∧ wx.cell? ⟨S, 1, none⟩ = some (.int .i64 r.out) ∧ wx.cell? ⟨S, 2, none⟩ = some (.int .i64 r.len) ∧ wx.cell? ⟨S, 3, none⟩ = some (.slice A n c) :=
      fun _ _ h => ⟨h.kp.cell C0 (by simp), h.kp.cell C1 (by simp), h.kp.cell C2 (by simp), h.kp.cell C3 (by simp)⟩
    have hnum : ∀ k, k < 3 → r.num k = ((r.num k).toNat : Nat) ∧ (r.num k).toNat < 4294967296 := by
      intro k hk
      rcases (show k = 0 ∨ k = 1 ∨ k = 2 from by omega) with rfl | rfl | rfl <;> simp only [Rec.num] <;> omega
    have hn200 : n ≤ 200 := by have := Hn.out; omega
    have Hkeep := hid hkeep
    have Hnum := hid hnum
    clear hkeep hnum
    go_wp2_with fail
    go_region_held3 (fun w' => w'.cell? ⟨S, 0, none⟩ = some (.int .i64 r.doc) ∧ w'.cell? ⟨S, 1, none⟩ = some (.int .i64 r.out) ∧ w'.cell? ⟨S, 2, none⟩ = some (.int .i64 r.len) ∧ w'.cell? ⟨S, 3, none⟩ = some (.slice A n c))
      (first
        | exact Hkeep.out _ _ (by assumption)
        | go_keep)
      (first
        | (go_at_call 41; refine (rnumber_lies w2 _ _ _ 2 n _ _ hc5 nc (by simp [length_be]) (by omega) (by omega) rfl rfl).mono ?_; rintro e wd ⟨vd, rfl, hd5, nd⟩)
        | (go_at_call 41; refine (rnumber_lies w2 _ _ _ 4 (r.num 2).toNat _ _ hb nb (by simp [length_be]) (by omega) (Hnum.out 2 (by omega)).2 (Hnum.out 2 (by omega)).1 rfl).mono ?_; rintro e wc ⟨vc, rfl, hc5, nc⟩)
        | (go_at_call 41; refine (rnumber_lies w2 _ _ _ 4 (r.num 1).toNat _ _ ha na (by simp [length_be]) (by omega) (Hnum.out 1 (by omega)).2 (Hnum.out 1 (by omega)).1 rfl).mono ?_; rintro e wb ⟨vb, rfl, hb, nb⟩)
        | (go_at_call 41; refine (rnumber_lies w2 _ _ [] 4 (r.num 0).toNat _ _ hb0 hn0 (by simp) (by omega) (Hnum.out 0 (by omega)).2 (Hnum.out 0 (by omega)).1 rfl).mono ?_; rintro e wa ⟨va, rfl, ha, na⟩))
    have hnums : ([] ++ be 4 (r.num 0).toNat ++ be 4 (r.num 1).toNat ++ be 4 (r.num 2).toNat ++ be 2 n) = numsL r 3 ++ be 2 n := by
      rw [numsL_succ, numsL_succ, numsL_succ]
      rfl
    have ho5 : OwnB 5 _ vd (numsL r 3 ++ be 2 n) := hnums ▸ hd5
    have hnw5 := nd
    clear ha na hb nb hc5 nc hd5 nd hnums hb0 hn0 hR1
    have hlen := length_numsL r 3
    go_wp2_with fail
    go_loopw [5, 6] (fun v5 i wr => ∃ k : Nat, k ≤ n ∧ i = .int .i64 k ∧ OwnB 5 wr v5 (numsL r 3 ++ be 2 n ++ holesL (r.holes.take k)) ∧ New w2 wr v5) (fun _ i _ => n - (intOf i).toNat)
    case atStart => exact ⟨0, by omega, rfl, by simpa [holesL] using ho5, hnw5⟩
    case round =>
      clear hnw5 ho5
      obtain ⟨k, hk, rfl, ho, hnw⟩ := hrel
      have hlen2 : (numsL r 3 ++ be 2 n ++ holesL (r.holes.take k)).length ≤ 900000 := by
        have h1 := length_holesL (r.holes.take k) (fun s hs => (hh2 s (List.mem_of_mem_take hs)).1)
        rw [List.length_take] at h1
        rw [List.length_append, List.length_append, length_be, hlen]
        omega
      have C3r := (B2.keep hnw.kp (by simp)).cell 3
      simp only [List.getElem?_cons_zero, List.getElem?_cons_succ] at C3r
      by_cases hlt : k < n
      · have hkl : k < r.holes.length := by rw [← Hn.out]; exact hlt
        obtain ⟨ad, hA, hcl0⟩ := (hsp.kept (K1.nil hk2)).get (j := k) (by simpa using hkl)
        subst hA
        simp only [List.getElem_map] at hcl0
        have htk := holesL_take r.holes k hkl
        have hz1 := (hh2 _ (List.getElem_mem hkl)).1
        obtain ⟨s, hs1⟩ : ∃ s, s = r.holes[k] := ⟨_, rfl⟩
        rw [← hs1] at hcl0 hz1 htk
        have hcl := hnw.kp.cell hcl0 (by simp)
        obtain ⟨L, hL⟩ : ∃ L, L = numsL r 3 ++ be 2 n ++ holesL (r.holes.take k) := ⟨_, rfl⟩
        have htk2 : numsL r 3 ++ be 2 n ++ holesL (r.holes.take (k + 1)) = L ++ be 2 s.size ++ s.data.toList := by rw [htk, hL]; simp only [List.append_assoc]
        rw [← hL] at ho hlen2
        have Htk := hid htk2
        clear hs1 htk htk2 hL
        have i1 : (k : Int) < (n : Int) := by omega
        have hoD : OwnB 5 wr.drew _ L := ho
        have hnD : New w2 wr.drew _ := hnw.kept (Kp.refl [] wr).drew
        have hoB := ho.kept ((Kp.refl [] wr).drew.nil (kp_bytes wr.drew s))
        have hnB := hnw.kept ((Kp.refl [] wr).drew.nil (kp_bytes wr.drew s))
        have hsB := span_bytes wr.drew s
        have hlb := hnw.kp.size
        have hvb := ho.lt
        have hcv := fun w' => Lib.run_convert_string_bytes (P := Tryd.prog) w' 9 25 5 s Tryd.underlying9 Tryd.underlying25 Tryd.underlying5
        have hkeep : ∀ (wx : World) (u : Value), New w2 wx u → wx.cell? ⟨S, 3, none⟩ = some (.slice (some ad) n c) ∧ wx.cell? (ad.add k) = some (.string s) :=
          fun _ _ h => ⟨h.kp.cell C3 (by simp), h.kp.cell hcl0 (by simp)⟩
        have Hkeep2 := hid hkeep
        have hsz : s.data.toList.length = s.size := by rw [Array.length_toList]; rfl
        have Hsz := hid hsz
        have Hvb := hid hvb
        clear hkeep hsz hcl0 C0 C1 C2 hvb ho hnw
        go_wp2_with fail
        refine wp_region_noPanic ?_
        refine wp_region_held (S := fun W => W.cell? ⟨S, 3, none⟩ = some (.slice (some ad) n c) ∧ W.cell? (ad.add k) = some (.string s)) (by kernel_rfl) ?_
        have hS0 := Hkeep2.out _ _ hnD
        refine wpAnyH_take (i := 0) (oi := ⟨some 35, Op.move (Operand.tmp 5), 25, _, _, none⟩) (v := ?_) rfl (by kernel_rfl) (by kernel_rfl) (by kernel_rfl) (fun _ _ _ h => h) (Or.inl ⟨by rfl, ?_⟩) (by exact hS0) ?_
        rotate_left
        · (intro w hSw; (try dsimp only at hSw); go_simp; (try with_reducible rfl))
        try simp only [Act.put, List.setIfInBounds_toArray, List.set_cons_zero, List.set_cons_succ]
        refine wpAnyH_take (i := 1) (oi := ⟨some 36, Op.fieldAddr 24 (Operand.tmp 1) 3, 0, _, _, none⟩) (v := ?_) rfl (by kernel_rfl) (by kernel_rfl) (by kernel_rfl) (fun _ _ _ h => h) (Or.inl ⟨by rfl, ?_⟩) (by exact hS0) ?_
        rotate_left
        · (intro w hSw; (try dsimp only at hSw); go_simp; (try with_reducible rfl))
        try simp only [Act.put, List.setIfInBounds_toArray, List.set_cons_zero, List.set_cons_succ]
        refine wpAnyH_take (i := 2) (oi := ⟨some 37, Op.load 22 (Operand.tmp 36), 22, _, _, none⟩) (v := ?_) rfl (by kernel_rfl) (by kernel_rfl) (by kernel_rfl) (fun _ _ _ h => h) (Or.inl ⟨by rfl, ?_⟩) (by exact hS0) ?_
        rotate_left
        · (intro w hSw; (try dsimp only at hSw); go_simp; (try with_reducible rfl))
        try simp only [Act.put, List.setIfInBounds_toArray, List.set_cons_zero, List.set_cons_succ]
        refine wpAnyH_take (i := 3) (oi := ⟨some 38, Op.move (Operand.tmp 6), 3, _, _, none⟩) (v := ?_) rfl (by kernel_rfl) (by kernel_rfl) (by kernel_rfl) (fun _ _ _ h => h) (Or.inl ⟨by rfl, ?_⟩) (by exact hS0) ?_
        rotate_left
        · (intro w hSw; (try dsimp only at hSw); go_simp; (try with_reducible rfl))
        try simp only [Act.put, List.setIfInBounds_toArray, List.set_cons_zero, List.set_cons_succ]
        refine wpAnyH_take (i := 4) (oi := ⟨some 39, Op.indexAddr 22 (Operand.tmp 37) (Operand.tmp 38), 0, _, _, none⟩) (v := ?_) rfl (by kernel_rfl) (by kernel_rfl) (by kernel_rfl) (fun _ _ _ h => h) (Or.inl ⟨by rfl, ?_⟩) (by exact hS0) ?_
        rotate_left
        · (intro w hSw; (try dsimp only at hSw); go_simp; (try with_reducible rfl))
        try simp only [Act.put, List.setIfInBounds_toArray, List.set_cons_zero, List.set_cons_succ]
        refine wpAnyH_take (i := 5) (oi := ⟨some 40, Op.load 9 (Operand.tmp 39), 9, _, _, none⟩) (v := ?_) rfl (by kernel_rfl) (by kernel_rfl) (by kernel_rfl) (fun _ _ _ h => h) (Or.inl ⟨by rfl, ?_⟩) (by exact hS0) ?_
        rotate_left
        · (intro w hSw; (try dsimp only at hSw); go_simp; (try with_reducible rfl))
        try simp only [Act.put, List.setIfInBounds_toArray, List.set_cons_zero, List.set_cons_succ]
        refine wpAnyH_take (i := 6) (oi := ⟨some 41, Op.call { callee := Callee.builtin Builtin.len, args := #[Operand.tmp 40], argTypes := #[9] }, 3, _, _, none⟩) (v := ?_) rfl (by kernel_rfl) (by kernel_rfl) (by kernel_rfl) (fun _ _ _ h => h) (Or.inl ⟨by rfl, ?_⟩) (by exact hS0) ?_
        rotate_left
        · (intro w hSw; (try dsimp only at hSw); go_simp; (try with_reducible rfl))
        try simp only [Act.put, List.setIfInBounds_toArray, List.set_cons_zero, List.set_cons_succ]
        refine wpAnyH_take (i := 8) (oi := ⟨some 43, Op.fieldAddr 24 (Operand.tmp 1) 3, 0, _, _, none⟩) (v := ?_) rfl (by kernel_rfl) (by kernel_rfl) (by kernel_rfl) (fun _ _ _ h => h) (Or.inl ⟨by rfl, ?_⟩) (by exact hS0) ?_
        rotate_left
        · (intro w hSw; (try dsimp only at hSw); go_simp; (try with_reducible rfl))
        try simp only [Act.put, List.setIfInBounds_toArray, List.set_cons_zero, List.set_cons_succ]
        refine wpAnyH_take (i := 9) (oi := ⟨some 44, Op.load 22 (Operand.tmp 43), 22, _, _, none⟩) (v := ?_) rfl (by kernel_rfl) (by kernel_rfl) (by kernel_rfl) (fun _ _ _ h => h) (Or.inl ⟨by rfl, ?_⟩) (by exact hS0) ?_
        rotate_left
        · (intro w hSw; (try dsimp only at hSw); go_simp; (try with_reducible rfl))
        try simp only [Act.put, List.setIfInBounds_toArray, List.set_cons_zero, List.set_cons_succ]
        refine wpAnyH_take (i := 10) (oi := ⟨some 45, Op.move (Operand.tmp 6), 3, _, _, none⟩) (v := ?_) rfl (by kernel_rfl) (by kernel_rfl) (by kernel_rfl) (fun _ _ _ h => h) (Or.inl ⟨by rfl, ?_⟩) (by exact hS0) ?_
        rotate_left
        · (intro w hSw; (try dsimp only at hSw); go_simp; (try with_reducible rfl))
        try simp only [Act.put, List.setIfInBounds_toArray, List.set_cons_zero, List.set_cons_succ]
        refine wpAnyH_take (i := 11) (oi := ⟨some 46, Op.indexAddr 22 (Operand.tmp 44) (Operand.tmp 45), 0, _, _, none⟩) (v := ?_) rfl (by kernel_rfl) (by kernel_rfl) (by kernel_rfl) (fun _ _ _ h => h) (Or.inl ⟨by rfl, ?_⟩) (by exact hS0) ?_
        rotate_left
        · (intro w hSw; (try dsimp only at hSw); go_simp; (try with_reducible rfl))
        try simp only [Act.put, List.setIfInBounds_toArray, List.set_cons_zero, List.set_cons_succ]
        refine wpAnyH_take (i := 12) (oi := ⟨some 47, Op.load 9 (Operand.tmp 46), 9, _, _, none⟩) (v := ?_) rfl (by kernel_rfl) (by kernel_rfl) (by kernel_rfl) (fun _ _ _ h => h) (Or.inl ⟨by rfl, ?_⟩) (by exact hS0) ?_
        rotate_left
        · (intro w hSw; (try dsimp only at hSw); go_simp; (try with_reducible rfl))
        try simp only [Act.put, List.setIfInBounds_toArray, List.set_cons_zero, List.set_cons_succ]
        refine wpAnyH_ready (rs := [7, 13]) (by kernel_rfl) (by simp) ?_
        refine AllReadyH.cons (o := ⟨some 42, Op.call { callee := Callee.value (Operand.func 41), args := #[Operand.tmp 35, Operand.tmp 41, Operand.const (Value.int IntKind.i64 2)], argTypes := #[25, 3, 3] }, 25, _, _, none⟩) rfl (fun K hK => ?_) (AllReadyH.cons (o := ⟨some 48, Op.convert 9 25 (Operand.tmp 47), 25, _, _, none⟩) rfl (fun K hK => ?_) AllReadyH.nil)
        · go_simp
          refine (rnumber_new w2 _ _ L 2 s.size _ _ hoD hnD (by omega) (by omega) (by omega) rfl rfl).mono ?_
          rintro e w6 ⟨v6, rfl, ho6, n6, -⟩
          have ho6B := ho6.kept (kp_bytes w6 s)
          have n6B := n6.kept (kp_bytes w6 s)
          have hS1 := Hkeep2.out _ _ n6
          refine hK.out _ _ (by exact hS1) (fun _ => ?_)
          clear hK K
          try simp only [Act.put, List.setIfInBounds_toArray, List.set_cons_zero, List.set_cons_succ]
          refine wpAnyH_ready (rs := [13]) (by kernel_rfl) (by simp) ?_
          refine AllReadyH.cons (o := ⟨some 48, Op.convert 9 25 (Operand.tmp 47), 25, _, _, none⟩) rfl (fun K hK => ?_) AllReadyH.nil
          go_simp
          have hS2 := Hkeep2.out _ _ n6B
          refine hK.out _ _ (by exact hS2) (fun _ => ?_)
          clear hK K
          try simp only [Act.put, List.setIfInBounds_toArray, List.set_cons_zero, List.set_cons_succ]
          refine wpAnyH_ready (rs := [14]) (by kernel_rfl) (by simp) ?_
          refine AllReadyH.cons (o := ⟨some 49, Op.call { callee := Callee.builtin Builtin.append, args := #[Operand.tmp 42, Operand.tmp 48], argTypes := #[25, 25] }, 25, _, _, none⟩) rfl (fun K hK => ?_) AllReadyH.nil
          refine step_append_bytesB rfl (.tmp 42) (.tmp 48) 25 rfl 5 Tryd.underlying25 infoByte _ _ (by rfl) ho6B n6B _ s.size _ s.data.toList (by rfl) (span_bytes w6 s) Hsz.out (by rw [List.length_append, length_be]; omega) ?_
          intro v7 w7 ho7 n7 _ _
          have hS3 := Hkeep2.out _ _ n7
          refine hK.out _ _ (by exact hS3) (fun _ => ?_)
          clear hK K
          try simp only [Act.put, List.setIfInBounds_toArray, List.set_cons_zero, List.set_cons_succ]
          refine wpAnyH_take (i := 15) (oi := ⟨some 5, Op.assign (Operand.tmp 49), 25, _, _, none⟩) (v := ?_) rfl (by kernel_rfl) (by kernel_rfl) (by kernel_rfl) (fun _ _ _ h => h) (Or.inl ⟨by rfl, ?_⟩) (by exact hS3) ?_
          rotate_left
          · (intro w hSw; (try dsimp only at hSw); go_simp; (try with_reducible rfl))
          try simp only [Act.put, List.setIfInBounds_toArray, List.set_cons_zero, List.set_cons_succ]
          refine wpAnyH_done (by kernel_rfl) ?_ _
          refine NoPanic.normal ?_
          go_wp2_with fail
          go_roundw
          case rel => exact ⟨k + 1, by omega, by go_num, by rw [Htk.out]; exact ho7, n7⟩
          case measure => simp [intOf]; omega
        · go_simp
          have hS1 := Hkeep2.out _ _ hnB
          refine hK.out _ _ (by exact hS1) (fun _ => ?_)
          clear hK K
          try simp only [Act.put, List.setIfInBounds_toArray, List.set_cons_zero, List.set_cons_succ]
          refine wpAnyH_ready (rs := [7]) (by kernel_rfl) (by simp) ?_
          refine AllReadyH.cons (o := ⟨some 42, Op.call { callee := Callee.value (Operand.func 41), args := #[Operand.tmp 35, Operand.tmp 41, Operand.const (Value.int IntKind.i64 2)], argTypes := #[25, 3, 3] }, 25, _, _, none⟩) rfl (fun K hK => ?_) AllReadyH.nil
          go_simp
          refine (rnumber_new w2 _ _ L 2 s.size _ _ hoB hnB (by omega) (by omega) (by omega) rfl rfl).mono ?_
          rintro e w6 ⟨v6, rfl, ho6C, n6C, k6C⟩
          have sp6C := hsB.keep k6C (fun ad h hm => by injection h with h; subst h; simp only [Option.mem_toList] at hm; have := Hvb.out _ hm; simp at this)
          have hS2 := Hkeep2.out _ _ n6C
          refine hK.out _ _ (by exact hS2) (fun _ => ?_)
          clear hK K
          try simp only [Act.put, List.setIfInBounds_toArray, List.set_cons_zero, List.set_cons_succ]
          refine wpAnyH_ready (rs := [14]) (by kernel_rfl) (by simp) ?_
          refine AllReadyH.cons (o := ⟨some 49, Op.call { callee := Callee.builtin Builtin.append, args := #[Operand.tmp 42, Operand.tmp 48], argTypes := #[25, 25] }, 25, _, _, none⟩) rfl (fun K hK => ?_) AllReadyH.nil
          refine step_append_bytesB rfl (.tmp 42) (.tmp 48) 25 rfl 5 Tryd.underlying25 infoByte _ _ (by rfl) ho6C n6C _ s.size _ s.data.toList (by rfl) sp6C Hsz.out (by rw [List.length_append, length_be]; omega) ?_
          intro v7 w7 ho7 n7 _ _
          have hS3 := Hkeep2.out _ _ n7
          refine hK.out _ _ (by exact hS3) (fun _ => ?_)
          clear hK K
          try simp only [Act.put, List.setIfInBounds_toArray, List.set_cons_zero, List.set_cons_succ]
          refine wpAnyH_take (i := 15) (oi := ⟨some 5, Op.assign (Operand.tmp 49), 25, _, _, none⟩) (v := ?_) rfl (by kernel_rfl) (by kernel_rfl) (by kernel_rfl) (fun _ _ _ h => h) (Or.inl ⟨by rfl, ?_⟩) (by exact hS3) ?_
          rotate_left
          · (intro w hSw; (try dsimp only at hSw); go_simp; (try with_reducible rfl))
          try simp only [Act.put, List.setIfInBounds_toArray, List.set_cons_zero, List.set_cons_succ]
          refine wpAnyH_done (by kernel_rfl) ?_ _
          refine NoPanic.normal ?_
          go_wp2_with fail
          go_roundw
          case rel => exact ⟨k + 1, by omega, by go_num, by rw [Htk.out]; exact ho7, n7⟩
          case measure => simp [intOf]; omega
      · have hfull : r.holes.take k = r.holes := List.take_of_length_le (by have := Hn.out; omega)
        rw [hfull] at ho hlen2
        clear hfull
        have hbody : numsL r 3 ++ be 2 n ++ holesL r.holes = bodyL r := by rw [Hn.out]; rfl
        rw [hbody] at ho hlen2
        clear hbody hlen
        obtain ⟨A8, c8, rfl, hsp8, hc8, -⟩ := ho.shape
        obtain ⟨B, hB⟩ : ∃ B, B = bodyL r := ⟨_, rfl⟩
        rw [← hB] at ho hsp8 hc8 hlen2 ⊢
        obtain ⟨m, hmB⟩ : ∃ m, m = B.length := ⟨_, rfl⟩
        rw [← hmB] at hc8 hlen2 ⊢
        have HmB := hid hmB
        have HB := hid hB
        clear hmB hB
        have hb9 : OwnB 5 (wr.alloc (.cells #[] 5)) (.slice (some ⟨wr.heap.size, 0, none⟩) 0 0) [] := Own.of_cells (Cells.fresh wr 5 []) (Nat.zero_le _)
        have hn9 : New wr (wr.alloc (.cells #[] 5)) (.slice (some ⟨wr.heap.size, 0, none⟩) 0 0) := ⟨(Kp.refl _ wr).alloc _, by intro g hg; have : wr.heap.size = g := (by simpa [Value.ownBlock] using hg); omega⟩
        go_wp2_with fail
        refine (rnumber_lies wr _ _ [] 4 m _ _ hb9 hn9 (by simp) (by omega) (by omega) rfl rfl).mono ?_
        rintro e w9 ⟨v9, rfl, ho9, hnw9⟩
        clear hb9 hn9
        go_wp2_with (at_builtin; go_must (refine wpList_append_bytesB rfl _ _ 25 rfl 5 Tryd.underlying25 infoByte _ _ rfl ho9 hnw9 _ _ _ B rfl (hsp8.kept hnw9.kp) HmB.out.symm ?_ ?_))
        · rw [List.length_append, length_be]; simp only [List.length_nil]; omega
        intro v10 w10 ho10 hnw10
        obtain ⟨H, hH⟩ : ∃ H, H = be 4 m ++ B := ⟨_, rfl⟩
        rw [← hH] at ho10
        have HH : Hid (H = headL r) := by rw [headL, ← HB.out, ← HmB.out]; exact hid hH
        have hHl : H.length ≤ 900004 := by rw [hH, List.length_append, length_be]; have := HmB.out; omega
        clear hH ho9 hnw9
        obtain ⟨A10, c10, rfl, hsp10, hc10, -⟩ := ho10.shape
        go_wp2_with fail
        refine (rsum_any w10 A10 _ c10 H hsp10 rfl hc10 (by omega)).mono ?_
        rintro e w11 ⟨rfl, rfl⟩
        have hsl := crcSum_lt H
        obtain ⟨q, hq⟩ : ∃ q, q = crcSum H := ⟨_, rfl⟩
        rw [← hq] at hsl ⊢
        have Hq := hid hq
        clear hq
        have hrev := be_rev q
        have Hrev := hid hrev
        clear hrev
        go_wp2_with (at_builtin; go_must (refine wpList_append_bytesB rfl _ _ 25 rfl 5 Tryd.underlying25 infoByte _ _ rfl (ho10.kept ((Kp.refl _ _).alloc _)) (hnw10.kept ((Kp.refl _ _).alloc _)) _ 4 4 [UInt8.ofNat q, UInt8.ofNat (q / 256), UInt8.ofNat (q / 65536), UInt8.ofNat (q / 16777216)] rfl (span_four _ q hsl) rfl ?_ ?_))
        · omega
        intro v15 w15 ho15 hnw15
        go_wp2_with fail
        go_ret2
        refine ⟨v15, by rw [Hm.out]; rfl, ?_, hnw15.since ((K1.nil hk2).nil hnw.kp)⟩
        rw [putL, if_pos Hm.out, putB, ← HH.out, ← Hq.out, Hrev.out]
        exact ho15
  · go_wp2_with fail
    go_ret2
    exact ⟨.slice none 0 0, rfl, by rw [putL, if_neg hm]; exact OwnB.nil _ _, New.nil (K1.nil hk2)⟩
end Go.Proofs.YtepeopfdenieeaaDoor
