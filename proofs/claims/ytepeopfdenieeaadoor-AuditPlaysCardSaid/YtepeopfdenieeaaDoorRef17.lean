/- The document's answer for layer 17: its sum, its numbers, what is wrong with a record. -/
import Derived.Test.YtepeopfdenieeaaDoorPut
import Derived.Test.YtepeopfdenieeaaDoorRefRune
namespace Go.Proofs.YtepeopfdenieeaaDoor
open Go Go.RowKit

theorem span_byte {w : World} {A : Option Addr} {l : List UInt8} (h : Span w A (u8s l)) {k : Nat} (hk : k < l.length) : ∃ ad, A = some ad ∧ w.cell? (ad.add k) = some (.int .u8 (l[k].toNat : Int)) := by
  obtain ⟨ad, h1, h2⟩ := h.get (j := k) (by rw [length_u8s]; exact hk)
  exact ⟨ad, h1, by simpa [u8s, u8] using h2⟩
set_option maxHeartbeats 400000 in
theorem rsum_any (w : World) (A : Option Addr) (n c : Nat) (l : List UInt8) (hs : Span w A (u8s l)) (hn : l.length = n) (hc : n ≤ c) (hm : n ≤ 9223372036854775807) :
    Calls Tryd.prog 18 #[.slice A n c] w fun e w' => e = .returned (.int .u32 (crcSum l : Nat)) ∧ w' = w := by
  have Hn := hid hn
  clear hn
  go_enter Tryd.func18, Tryd.ntmps18
  go_wp2_with fail
  go_loopw [3, 4] (fun r i wr => ∃ k : Nat, k ≤ n ∧ i = .int .i64 k ∧ r = .int .u32 (crcRow 4294967295 (l.take k) : Nat) ∧ wr = w) (fun _ i _ => n - (intOf i).toNat)
  case atStart => exact ⟨0, by omega, rfl, rfl, rfl⟩
  case round =>
    obtain ⟨k, hk, rfl, rfl, rfl⟩ := hrel
    by_cases hlt : k < n
    · have hkl : k < l.length := by rw [Hn.out]; exact hlt
      obtain ⟨ad, rfl, hcl⟩ := span_byte hs hkl
      have h1 := crcRow_lt (l.take k) (r := 4294967295) (by omega)
      have h2 := crcRow_step 4294967295 l k hkl
      have h3 := (l[k]).toNat_lt
      generalize l[k] = x at *
      generalize crcRow 4294967295 (l.take k) = R at *
      obtain ⟨R', hR'⟩ : ∃ R', R' = crcRow 4294967295 (l.take (k + 1)) := ⟨_, rfl⟩
      rw [← hR'] at h2
      have HR' := hid hR'
      clear hR'
      obtain ⟨wq, hwq⟩ : ∃ wq : World, wq = wr := ⟨_, rfl⟩
      go_wp2_with fail
      go_loopw [3, 5] (fun r i wr => ∃ (j m : Nat), j ≤ 8 ∧ i = .int .i64 j ∧ r = .int .u32 (m : Nat) ∧ m < 4294967296 ∧ crcBits (8 - j) m = R' ∧ wr = wq) (fun _ i _ => 8 - (intOf i).toNat)
      case atStart =>
        refine ⟨0, R ^^^ x.toNat, by omega, rfl, ?_, xor_lt32 h1 (by omega), ?_, hwq.symm⟩
        · rw [u32_xor_nat _ _ h1 (by omega)]
        · rw [h2]; rfl
      case round =>
        obtain ⟨j, m, hj, rfl, rfl, hm1, hm2, rfl⟩ := hrel
        by_cases hj8 : j < 8
        · by_cases hodd : m % 2 = 1
          · have hx : bits .xor .u32 ((m : Int) / 2) 3988292384 = (crcBit m : Nat) := by
              have h := u32_xor_nat (m / 2) 3988292384 (by omega) (by omega)
              unfold crcBit
              rw [hodd, Nat.one_mul, ← h]
              rfl
            go_wp2_with fail
            go_roundw
            case rel =>
              refine ⟨j + 1, crcBit m, by omega, by go_num, by first | rfl | rw [hx], crcBit_lt hm1, ?_, hwq.symm⟩
              rw [← hm2, show 8 - j = (8 - (j + 1)) + 1 from by omega]
              rfl
            case measure => simp [intOf]; omega
          · have hx : ((crcBit m : Nat) : Int) = (m : Int) / 2 := by
              unfold crcBit
              rw [show m % 2 = 0 from by omega, Nat.zero_mul, Nat.xor_zero]
              omega
            go_wp2_with fail
            go_roundw
            case rel =>
              refine ⟨j + 1, crcBit m, by omega, by go_num, by first | rfl | rw [hx], crcBit_lt hm1, ?_, hwq.symm⟩
              rw [← hm2, show 8 - j = (8 - (j + 1)) + 1 from by omega]
              rfl
            case measure => simp [intOf]; omega
        · obtain rfl : j = 8 := by omega
          obtain rfl : m = R' := hm2
          go_wp2_with fail
          go_roundw
          case rel => exact ⟨k + 1, by omega, by go_num, by rw [← HR'.out], trivial⟩
          case measure => simp [intOf]; omega
    · go_wp2_with fail
      go_ret
      obtain rfl : k = n := by omega
      have h := u32_xor_nat (crcRow 4294967295 (l.take k)) 4294967295 (crcRow_lt _ (by omega)) (by omega)
      rw [show (bits .xor .u32 ((crcRow 4294967295 (l.take k) : Nat) : Int) 4294967295) = _ from h, List.take_of_length_le (by have := Hn.out; omega)]
      exact ⟨rfl, rfl⟩

set_option maxRecDepth 100000 in
set_option maxHeartbeats 400000 in
theorem rnumber_any (w : World) (v : Value) (n : Nat) (xs : List Value) (wide x : Nat) (hown : Own w 5 v n xs) (hn : n ≤ 1000000000000) (hw : wide ≤ 4) (_hx : x < 4294967296) :
    Calls Tryd.prog 41 #[v, .int .i64 (x : Int), .int .i64 (wide : Int)] w (NumPost w v n xs wide x) := by
  go_enter Tryd.func41, Tryd.ntmps41
  go_wp2_with fail
  go_loopw [0, 7] (fun v' i wr => ∃ k : Nat, k ≤ wide ∧ i = .int .i64 ((wide : Int) - 1 - k) ∧ Own wr 5 v' (n + k) (xs ++ u8s ((be wide x).take k)) ∧ Grew w v wr v') (fun _ i _ => ((intOf i) + 1).toNat)
  case atStart => exact ⟨0, by omega, by simp, by simpa [u8s] using hown, Grew.refl _ _⟩
  case round =>
    obtain ⟨k, hk, rfl, ho, hg⟩ := hrel
    by_cases hlt : k < wide
    · go_wp2_with (at_builtin; go_must (refine wpList_append1 rfl _ _ 25 rfl 5 (.int .u8 0) 1 Tryd.underlying25 infoByte rfl _ _ _ rfl (ho.kept ((Kp.refl _ _).alloc _)) _ 1 1 [.int .u8 _] rfl (Span.of_new wr _ _ _) rfl (one_oneCell _) ?_ ?_ ?_))
      · omega
      · omega
      intro v1 w1 ho1 hk1 hb1
      go_wp2_with fail
      go_roundw
      case rel =>
        refine ⟨k + 1, by omega, by go_num, ?_, hg.trans ((Grew.of_append hk1 hb1 (by simp)).before ((Kp.refl _ _).alloc _) ho.lt)⟩
        rw [be_take wide x k hlt, u8s_append, ← Nat.add_assoc]
        have e : u8s [UInt8.ofNat (x / 2 ^ (8 * (wide - 1 - k)))] = [Value.int .u8 ((x : Int) / 2 ^ (8 * (wide - 1 - k)) % 256)] := by simp [u8s, u8]
        rw [e]
        exact ho1
      case measure => simp [intOf]; omega
    · go_wp2_with fail
      go_ret
      obtain rfl : k = wide := by omega
      exact ⟨_, rfl, by simpa [List.take_of_length_le, length_be] using ho, hg⟩
theorem rnumber_new (w0 w : World) (v : Value) (l : List UInt8) (wide x : Nat) (X W : Int) (hown : OwnB 5 w v l) (hnew : New w0 w v) (hn : l.length ≤ 1000000000000) (hw : wide ≤ 4) (hx : x < 4294967296) (hX : X = x) (hW : W = wide) :
    Calls Tryd.prog 41 #[v, .int .i64 X, .int .i64 W] w fun e w' => ∃ v', e = .returned v' ∧ OwnB 5 w' v' (l ++ be wide x) ∧ New w0 w' v' ∧ Kp v.ownBlock.toList w w' := by
  subst hX hW
  refine (rnumber_any w v _ _ wide x hown hn hw hx).mono ?_
  rintro e w' ⟨v', rfl, h1, h2⟩
  refine ⟨v', rfl, OwnB.of_own h1 (by rw [u8s_append]) (by rw [List.length_append, length_be]), hnew.step h2.kp fun g hg => ?_, h2.kp⟩
  rcases h2.blk g hg with h | h
  · exact hnew.blk g h
  · exact Nat.le_trans hnew.kp.size h

theorem counts_any (w : World) (x : Int) : Calls Tryd.prog 51 #[.int .i64 x] w fun e w' => e = .returned (.bool (fine x)) ∧ w' = w := by
  by_cases h : 0 ≤ x
  · by_cases h2 : x ≤ 1073741824
    · have hf : fine x = true := by simp [fine, h, h2]
      have Hf := hid hf
      clear hf
      go_enter Tryd.func51, Tryd.ntmps51
      go_wp2_with fail
      go_ret
      exact ⟨by rw [Hf.out]; rfl, rfl⟩
    · have hf : fine x = false := by simp [fine, h2]
      have Hf := hid hf
      clear hf
      go_enter Tryd.func51, Tryd.ntmps51
      go_wp2_with fail
      go_ret
      exact ⟨by rw [Hf.out]; rfl, rfl⟩
  · have hf : fine x = false := by simp [fine, h]
    have Hf := hid hf
    clear hf
    go_enter Tryd.func51, Tryd.ntmps51
    go_wp2_with fail
    go_ret
    exact ⟨by rw [Hf.out]; rfl, rfl⟩
theorem counts_at (w : World) (x : Int) (b : Bool) (hb : fine x = b) : Calls Tryd.prog 51 #[.int .i64 x] w fun e w' => e = .returned (.bool b) ∧ w' = w := by
  subst hb
  exact counts_any w x

set_option maxRecDepth 100000 in
set_option maxHeartbeats 1600000 in
theorem rmay_any (w : World) (r : Rec) (v : Value) (hr : RecIs w r v) (hz : ∀ s ∈ r.holes, s.size ≤ 9223372036854775000) :
    Calls Tryd.prog 37 #[v] w fun e w' => e = .returned (.int .i64 (mayOf r)) ∧ Kp [] w w' := by
  obtain ⟨A, c, rfl, hsp, hc, hc2⟩ := hr
  obtain ⟨n, hn⟩ : ∃ n, n = r.holes.length := ⟨_, rfl⟩
  rw [← hn] at hc ⊢
  have Hn := hid hn
  clear hn
  obtain ⟨d, o, l, hs⟩ := r
  obtain ⟨w1, hw1, B1, K1⟩ : ∃ w1, w1 = w.alloc (.cells #[.int .i64 d, .int .i64 o, .int .i64 l, .slice A n c] 24) ∧
      Cells w1 w.heap.size 24 [.int .i64 d, .int .i64 o, .int .i64 l, .slice A n c] ∧ Kp [] w w1 :=
    ⟨_, rfl, Cells.fresh _ _ _, (Kp.refl _ _).alloc _⟩
  obtain ⟨S, hS⟩ : ∃ S, S = w.heap.size := ⟨_, rfl⟩
  rw [← hS] at B1
  have C0 := B1.cell 0
  have C1 := B1.cell 1
  have C2 := B1.cell 2
  have C3 := B1.cell 3
  simp only [List.getElem?_cons_zero, List.getElem?_cons_succ] at C0 C1 C2 C3
  clear B1
  have Hw1 := hid (And.intro hw1 hS)
  clear hw1 hS
  cases hd : fine d with
  | false =>
    have hb : mayOf ⟨d, o, l, hs⟩ = 1 := by unfold mayOf; rw [if_pos (by simp [hd])]
    have Hb := hid hb
    clear hb
    go_enter Tryd.func37, Tryd.ntmps37
    go_wp2_with fail
    rw [← Hw1.out.1, ← Hw1.out.2]
    refine (counts_at _ d _ hd).mono ?_
    rintro e w2 ⟨rfl, rfl⟩
    go_wp2_with fail
    go_ret
    exact ⟨by rw [Hb.out]; rfl, K1⟩
  | true =>
  cases ho : fine o with
  | false =>
    have hb : mayOf ⟨d, o, l, hs⟩ = 1 := by unfold mayOf; rw [if_pos (by simp [ho])]
    have Hb := hid hb
    clear hb
    go_enter Tryd.func37, Tryd.ntmps37
    go_wp2_with fail
    rw [← Hw1.out.1, ← Hw1.out.2]
    refine (counts_at _ d _ hd).mono ?_
    rintro e w2 ⟨rfl, rfl⟩
    go_wp2_with fail
    refine (counts_at _ o _ ho).mono ?_
    rintro e w2 ⟨rfl, rfl⟩
    go_wp2_with fail
    go_ret
    exact ⟨by rw [Hb.out]; rfl, K1⟩
  | true =>
  cases hl : fine l with
  | false =>
    have hb : mayOf ⟨d, o, l, hs⟩ = 1 := by unfold mayOf; rw [if_pos (by simp [hl])]
    have Hb := hid hb
    clear hb
    go_enter Tryd.func37, Tryd.ntmps37
    go_wp2_with fail
    rw [← Hw1.out.1, ← Hw1.out.2]
    refine (counts_at _ d _ hd).mono ?_
    rintro e w2 ⟨rfl, rfl⟩
    go_wp2_with fail
    refine (counts_at _ o _ ho).mono ?_
    rintro e w2 ⟨rfl, rfl⟩
    go_wp2_with fail
    refine (counts_at _ l _ hl).mono ?_
    rintro e w2 ⟨rfl, rfl⟩
    go_wp2_with fail
    go_ret
    exact ⟨by rw [Hb.out]; rfl, K1⟩
  | true =>
    have hend := may_end d o l hs n hd ho hl Hn.out
    have hbad := fun s hm hv => may_bad d o l hs s hd ho hl hm hv
    have Hend := hid hend
    have Hbad := hid hbad
    clear hend hbad
    go_enter Tryd.func37, Tryd.ntmps37
    go_wp2_with fail
    rw [← Hw1.out.1, ← Hw1.out.2]
    refine (counts_at _ d _ hd).mono ?_
    rintro e w2 ⟨rfl, rfl⟩
    go_wp2_with fail
    refine (counts_at _ o _ ho).mono ?_
    rintro e w2 ⟨rfl, rfl⟩
    go_wp2_with fail
    refine (counts_at _ l _ hl).mono ?_
    rintro e w2 ⟨rfl, rfl⟩
    go_wp2_with fail
    go_loopw [3] (fun i wr => ∃ k : Nat, k ≤ n ∧ i = .int .i64 k ∧ (hs.take k).any (fun s => !validS s) = false ∧ wr = w2) (fun i _ => n - (intOf i).toNat)
    case atStart => exact ⟨0, by omega, rfl, rfl, rfl⟩
    case round =>
      obtain ⟨k, hk, rfl, hv, rfl⟩ := hrel
      by_cases hlt : k < n
      · have hkl : k < hs.length := by rw [← Hn.out]; exact hlt
        obtain ⟨ad, rfl, hcl⟩ := (hsp.kept K1).get (j := k) (by simpa using hkl)
        simp only [List.getElem_map] at hcl
        have hz1 := hz _ (List.getElem_mem hkl)
        obtain ⟨s, hs1⟩ : ∃ s, s = hs[k] := ⟨_, rfl⟩
        have htk : hs.take (k + 1) = hs.take k ++ [s] := by rw [List.take_add_one, List.getElem?_eq_getElem hkl, hs1]; rfl
        have hmem : s ∈ hs := by rw [hs1]; exact List.getElem_mem hkl
        rw [← hs1] at hcl hz1
        have Htk := hid htk
        have Hv := hid hv
        clear hs1 htk hv
        go_wp2_with fail
        refine (rvalid_any _ s hz1).mono ?_
        rintro e w3 ⟨rfl, rfl⟩
        cases hb : Lib.validD s.data.toList with
        | false =>
          have hbad := Hbad.out s hmem hb
          clear hb
          go_wp2_with fail
          go_ret
          exact ⟨by rw [hbad]; rfl, K1⟩
        | true =>
          have Hb := hid hb
          clear hb
          go_wp2_with fail
          go_roundw
          case rel =>
            refine ⟨k + 1, by omega, by go_num, ?_, trivial⟩
            rw [Htk.out, List.any_append, Hv.out]
            simp [validS, Hb.out]
          case measure => simp [intOf]; omega
      · have hfull : hs.take k = hs := List.take_of_length_le (by have := Hn.out; omega)
        rw [hfull] at hv
        have hend := Hend.out hv
        have Hend2 := hid hend
        clear hend hfull hv
        by_cases h200 : 200 < n
        · have h3 : mayOf ⟨d, o, l, hs⟩ = 3 := by rw [Hend2.out, if_pos]; simp; exact .inl (by omega)
          go_wp2_with fail
          go_ret
          exact ⟨by rw [h3]; rfl, K1⟩
        · obtain ⟨wq, hwq⟩ : ∃ wq : World, wq = wr := ⟨_, rfl⟩
          have C3q : wq.cell? ⟨S, 3, none⟩ = some (.slice A n c) := by rw [hwq]; exact C3
          have hspq : Span wq A (hs.map .string) := by rw [hwq]; exact hsp.kept K1
          have Kq : Kp [] w wq := by rw [hwq]; exact K1
          have Hwq := hid hwq
          go_wp2_with fail
          go_loopw [4] (fun i wr => ∃ k : Nat, k ≤ n ∧ i = .int .i64 k ∧ (hs.take k).any (fun s => decide (4096 < s.size)) = false ∧ wr = wq) (fun i _ => n - (intOf i).toNat)
          case atStart => exact ⟨0, by omega, rfl, rfl, hwq.symm⟩
          case round =>
            clear C3 hwq Hwq
            obtain ⟨k, hk, rfl, hv, rfl⟩ := hrel
            by_cases hlt : k < n
            · have hkl : k < hs.length := by rw [← Hn.out]; exact hlt
              obtain ⟨ad, rfl, hcl⟩ := hspq.get (j := k) (by simpa using hkl)
              simp only [List.getElem_map] at hcl
              obtain ⟨s, hs1⟩ : ∃ s, s = hs[k] := ⟨_, rfl⟩
              have htk : hs.take (k + 1) = hs.take k ++ [s] := by rw [List.take_add_one, List.getElem?_eq_getElem hkl, hs1]; rfl
              have hmem : s ∈ hs := by rw [hs1]; exact List.getElem_mem hkl
              rw [← hs1] at hcl
              have Htk := hid htk
              have Hv := hid hv
              clear hs1 htk hv
              by_cases hbig : 4096 < s.size
              · have h3 : mayOf ⟨d, o, l, hs⟩ = 3 := by
                  rw [Hend2.out, if_pos]
                  rw [Bool.or_eq_true]
                  exact .inr (List.any_eq_true.2 ⟨s, hmem, by simpa using hbig⟩)
                have H3 := hid h3
                clear h3
                go_wp2_with fail
                go_ret
                exact ⟨by rw [H3.out]; rfl, Kq⟩
              · go_wp2_with fail
                go_roundw
                case rel =>
                  refine ⟨k + 1, by omega, by go_num, ?_, by trivial⟩
                  rw [Htk.out, List.any_append, Hv.out]
                  simp
                  omega
                case measure => simp [intOf]; omega
            · rw [List.take_of_length_le (by have := Hn.out; omega)] at hv
              have h0 : mayOf ⟨d, o, l, hs⟩ = 0 := by
                rw [Hend2.out, if_neg]
                rw [Bool.or_eq_true, decide_eq_true_iff, hv]
                simp
                omega
              have H0 := hid h0
              clear h0 hv
              go_wp2_with fail
              go_ret
              exact ⟨by rw [H0.out]; rfl, Kq⟩
end Go.Proofs.YtepeopfdenieeaaDoor
