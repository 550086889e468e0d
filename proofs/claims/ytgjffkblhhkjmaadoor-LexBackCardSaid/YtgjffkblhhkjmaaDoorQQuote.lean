/- quote.Quote, of a valid text. -/
import Derived.Test.YtgjffkblhhkjmaaDoorQValid
import Derived.Test.YtgjffkblhhkjmaaDoorQBuilder
import Derived.Test.YtgjffkblhhkjmaaDoorQSpec
import Derived.Deep.Cut
namespace Go.Proofs.YtgjffkblhhkjmaaDoor
open Go Go.RowKit

/-- While a text is quoted: the builder, and where the iterator stands. -/
def QS (w0 : World) (s : ByteArray) (K pos : Nat) (acc : List UInt8) (wr : World) : Prop :=
  Bld wr w0.heap.size w0.heap.size acc ∧ wr.heap[K]? = some (.stringIter s pos) ∧ Below w0.heap.size w0 wr ∧ w0.heap.size < K
theorem QS.put {w0 wr w' : World} {s : ByteArray} {K pos : Nat} {acc m : List UInt8} (h : QS w0 s K pos acc wr) (k : BldPost wr w0.heap.size w0.heap.size (acc ++ m) w') : QS w0 s K pos (acc ++ m) w' :=
  ⟨k.1, k.2.2.iter h.2.1 (by have := h.2.2.2; omega), h.2.2.1.trans k.2.1, h.2.2.2⟩
theorem QS.next {w0 wr : World} {s : ByteArray} {K pos : Nat} {acc : List UInt8} (h : QS w0 s K pos acc wr) (pos' : Nat) : QS w0 s K pos' acc (wr.iterAt K s pos') :=
  ⟨h.1.iterAt h.2.1 pos', Lib.iterAt_heap wr K s pos pos' h.2.1, Lib.below_iterAt h.2.2.1 (by have := h.2.2.2; omega) s pos', h.2.2.2⟩
theorem qs_byte {w0 wr : World} {s : ByteArray} {K pos : Nat} {acc : List UInt8} (h : QS w0 s K pos acc wr) (hl : acc.length ≤ 100000000) (c : UInt8) (z : Int) (hz : z = (c.toNat : Int)) :
    Calls Tryd.prog 80 #[.pointer (some ⟨w0.heap.size, 0, none⟩), .int .u8 z] wr fun e w' => e = .returned .nilIface ∧ QS w0 s K pos (acc ++ [c]) w' :=
  (wbyte_any wr _ _ acc c z hz h.1 hl h.2.2.1.size).mono fun _ _ ⟨h1, h2⟩ => ⟨h1, h.put h2⟩
theorem qs_str {w0 wr : World} {s : ByteArray} {K pos : Nat} {acc : List UInt8} (h : QS w0 s K pos acc wr) (hl : acc.length ≤ 100000000) (t : ByteArray) (ht : t.size ≤ 100000000) :
    Calls Tryd.prog 42 #[.pointer (some ⟨w0.heap.size, 0, none⟩), .string t] wr fun e w' => e = .returned (.tuple #[.int .i64 t.size, .nilIface]) ∧ QS w0 s K pos (acc ++ t.data.toList) w' :=
  (wstr_any wr _ _ acc t h.1 hl ht h.2.2.1.size).mono fun _ _ ⟨h1, h2⟩ => ⟨h1, h.put h2⟩
theorem qs_rune {w0 wr : World} {s : ByteArray} {K pos : Nat} {acc : List UInt8} (h : QS w0 s K pos acc wr) (hl : acc.length ≤ 100000000) (r : Int) (h0 : -2147483648 ≤ r) (h1 : r ≤ 2147483647) :
    Calls Tryd.prog 74 #[.pointer (some ⟨w0.heap.size, 0, none⟩), .int .i32 r] wr fun e w' => e = .returned (.tuple #[.int .i64 (Lib.runeCells r).length, .nilIface]) ∧ QS w0 s K pos (acc ++ Lib.encodeRune r) w' :=
  (wrune_any wr _ _ acc r h0 h1 h.1 hl h.2.2.1.size).mono fun _ _ ⟨h1, h2⟩ => ⟨h1, h.put h2⟩
theorem body_cons (c : UInt8) (t : List UInt8) : body (c :: t) = qb c ++ body t := rfl
theorem qb_len (c : UInt8) : 1 ≤ (qb c).length ∧ (qb c).length ≤ 6 := by
  rcases qb_shape c with ⟨h, _⟩ | ⟨x, h, _⟩ | ⟨h, _⟩ <;> rw [h] <;> simp
theorem body_len : ∀ l : List UInt8, l.length ≤ (body l).length ∧ (body l).length ≤ 6 * l.length
  | [] => ⟨Nat.le_refl _, Nat.le_refl _⟩
  | c :: t => by
    have h1 := qb_len c
    have h2 := body_len t
    rw [body_cons, List.length_append, List.length_cons]
    omega
/-- What the next rune of a valid text adds. -/
theorem body_next {l : List UInt8} (hne : l ≠ []) (hv : Lib.validD l = true) : Lib.validD (l.drop (wd l)) = true ∧ ((128 ≤ (Lib.decodeL l).1 ∧ body l = Lib.encodeRune ((Lib.decodeL l).1 : Int) ++ body (l.drop (wd l))) ∨
    ∃ c : UInt8, c.toNat < 128 ∧ (Lib.decodeL l).1 = c.toNat ∧ wd l = 1 ∧ body l = qb c ++ body (l.drop (wd l))) := by
  have hb : ¬ Bad l := fun hb => by rw [valid_no hb hne] at hv; cases hv
  refine ⟨by rw [← valid_yes hb hne]; exact hv, ?_⟩
  rcases Nat.lt_or_ge 1 (wd l) with h1 | h1
  · refine .inl ⟨?_, ?_⟩
    · have h2 : Lib.encodeRune ((Lib.decodeL l).1 : Int) = l.take (wd l) := Lib.encode_decode l hne hb
      rcases Nat.lt_or_ge (Lib.decodeL l).1 128 with h3 | h3
      · rw [encode_low h3] at h2
        have h4 := congrArg List.length h2
        rw [List.length_take] at h4
        have := wd_le l hne
        simp at h4
        omega
      · exact h3
    · have h2 : Lib.encodeRune ((Lib.decodeL l).1 : Int) = l.take (wd l) := Lib.encode_decode l hne hb
      have hh := high_bytes (l := l) (by omega)
      rw [h2]
      conv => lhs; rw [← List.take_append_drop (wd l) l, body_append, body_high _ hh]
  · obtain ⟨c, t, rfl, hc, hd⟩ := low_byte hb (by have := wd_pos l; omega) hne
    have hw : wd (c :: t) = 1 := by unfold wd; rw [hd]
    exact .inr ⟨c, hc, by rw [hd], hw, by rw [hw]; rfl⟩
theorem ne8 {c k : UInt8} (h : c.toNat ≠ k.toNat) : c ≠ k := fun e => h (by rw [e])
theorem qb_plain {c : UInt8} (h1 : 32 ≤ c.toNat) (h2 : c.toNat ≠ 127) (h3 : c.toNat ≠ 34) (h4 : c.toNat ≠ 92) : qb c = [c] := by
  have e1 : ¬ (c = 34 ∨ c = 92) := fun h => h.elim (ne8 (k := 34) h3) (ne8 (k := 92) h4)
  have e2 : c ≠ 10 := ne8 (k := 10) (by show c.toNat ≠ 10; omega)
  have e3 : c ≠ 13 := ne8 (k := 13) (by show c.toNat ≠ 13; omega)
  have e4 : c ≠ 9 := ne8 (k := 9) (by show c.toNat ≠ 9; omega)
  have e5 : ¬ (c.toNat < 32 ∨ c = 127) := fun h => h.elim (by omega) (ne8 (k := 127) h2)
  unfold qb
  rw [if_neg e1, if_neg e2, if_neg e3, if_neg e4, if_neg e5]
theorem qb_esc {c : UInt8} (h : (c.toNat < 32 ∧ c.toNat ≠ 10 ∧ c.toNat ≠ 13 ∧ c.toNat ≠ 9) ∨ c.toNat = 127) : qb c = [92, 117, 48, 48, hexB (c.toNat / 16), hexB (c.toNat % 16)] := by
  have e1 : ¬ (c = 34 ∨ c = 92) := fun h => h.elim (ne8 (k := 34) (by show c.toNat ≠ 34; omega)) (ne8 (k := 92) (by show c.toNat ≠ 92; omega))
  have e2 : c ≠ 10 := ne8 (k := 10) (by show c.toNat ≠ 10; omega)
  have e3 : c ≠ 13 := ne8 (k := 13) (by show c.toNat ≠ 13; omega)
  have e4 : c ≠ 9 := ne8 (k := 9) (by show c.toNat ≠ 9; omega)
  have e5 : c.toNat < 32 ∨ c = 127 := h.elim (fun h => .inl h.1) (fun h => .inr (UInt8.toNat_inj.1 h))
  unfold qb
  rw [if_neg e1, if_neg e2, if_neg e3, if_neg e4, if_pos e5]
theorem digits_get (k : Nat) (h : k < (⟨#[48, 49, 50, 51, 52, 53, 54, 55, 56, 57, 97, 98, 99, 100, 101, 102]⟩ : ByteArray).size) : (⟨#[48, 49, 50, 51, 52, 53, 54, 55, 56, 57, 97, 98, 99, 100, 101, 102]⟩ : ByteArray)[k]'h = hexB k := by
  have key : ∀ m : Fin 16, (⟨#[48, 49, 50, 51, 52, 53, 54, 55, 56, 57, 97, 98, 99, 100, 101, 102]⟩ : ByteArray)[m.val]'m.isLt = hexB m.val := by decide
  exact key ⟨k, h⟩
theorem i32_mask {x i : Nat} (hx : x < 2147483648) (hi : i ≤ 31) : bits .and .i32 (x : Int) ((2 ^ i - 1 : Nat) : Int) = ((x % 2 ^ i : Nat) : Int) := by
  have h := bits_mask .i32 31 (by decide) wraps_i32 i hi (x : Int) (by omega) (by have : (2 : Int) ^ 31 = 2147483648 := by decide
                                                                                  omega)
  have hc : ((2 : Int) ^ i - 1) = ((2 ^ i - 1 : Nat) : Int) := by
    rw [Int.natCast_sub (Nat.two_pow_pos i)]; simp
  rw [← hc, h]
  simp
set_option maxHeartbeats 3200000 in
set_option maxRecDepth 100000 in
theorem qquote_any (w : World) (s : ByteArray) (hs : s.size ≤ 10000000) (hv : Lib.validD s.data.toList = true) :
    Calls Tryd.prog 59 #[.string s] w fun e w' => e = .returned (.string ⟨(quoteL s.data.toList).toArray⟩) ∧ Kp [] w w' := by
  obtain ⟨L, hL⟩ : ∃ L, L = s.data.toList := ⟨_, rfl⟩
  have hlen : L.length = s.size := by rw [hL, Array.length_toList]; rfl
  have hbl := body_len L
  rw [← hL] at hv ⊢
  have HL := hid hL
  clear hL
  go_enter Tryd.func59, Tryd.ntmps59
  have hB := Bld.fresh w
  have hbw : Below w.heap.size w (w.alloc (.cells #[.pointer none, .slice none 0 0] 69)) := (Below.refl _ w).alloc (Nat.le_refl _) _
  have hsz0 : (w.alloc (.cells #[.pointer none, .slice none 0 0] 69)).heap.size = w.heap.size + 1 := Array.size_push _
  obtain ⟨W0, hW0⟩ : ∃ W0, W0 = w.alloc (.cells #[.pointer none, .slice none 0 0] 69) := ⟨_, rfl⟩
  rw [← hW0] at hB hbw hsz0
  have HW0 := hid hW0
  clear hW0
  go_wp2_with fail
  rw [← HW0.out]
  refine (wbyte_any W0 _ _ [] 34 34 rfl hB (by simp) hbw.size).mono ?_
  rintro e w1 ⟨rfl, h1, b1, k1⟩
  have hs1 := b1.size
  have hbw1 := hbw.trans b1
  have HB1 := hid (And.intro h1 hbw1)
  clear h1 b1 k1 hbw1 hB hbw
  go_wp2_with fail
  go_loopw [5] (fun _ wr => ∃ (pos : Nat) (acc : List UInt8), QS w s w1.heap.size pos acc wr ∧ acc ++ body (L.drop pos) = 34 :: body L ∧ Lib.validD (L.drop pos) = true) (fun _ wr => s.size - wr.iterPos w1.heap.size)
  case atStart =>
    refine ⟨0, [34], ⟨Lib.IsBuilderF.alloc HB1.out.1 _, World.iter_heap w1 s 0, HB1.out.2.alloc HB1.out.2.size _, by omega⟩, rfl, hv⟩
  case round =>
    obtain ⟨pos, acc, hQ, hacc, hvd⟩ := hrel
    have hit := hQ.2.1
    have hal : acc.length ≤ 60000001 := by
      have := congrArg List.length hacc
      simp only [List.length_append, List.length_cons] at this
      omega
    by_cases hp : pos < s.size
    · have hnx : ∀ ty, (Instr.next (.pointer (some ⟨w1.heap.size, 0, none⟩)) true ty).run Tryd.prog wr = _ := fun ty => Lib.run_next_any_at wr w1.heap.size s pos ty hit hp
      have hne : L.drop pos ≠ [] := by
        intro e
        have := congrArg List.length e
        rw [List.length_drop] at this
        simp at this
        omega
      obtain ⟨hvn, hbn⟩ := body_next hne hvd
      have hdec : Lib.decodeL (L.drop pos) = Utf8.decode s pos := by rw [HL.out, Lib.decodeL_drop]
      have hwd : wd (L.drop pos) = (Utf8.decode s pos).2 := by unfold wd; rw [hdec]
      rw [List.drop_drop, hwd] at hvn hbn
      rw [hdec] at hbn
      have hw1 : 1 ≤ (Utf8.decode s pos).2 := Lib.decode_width_pos s pos hp
      have hd1 := decode_le s pos
      have hQ2 := hQ.next (pos + (Utf8.decode s pos).2)
      obtain ⟨r, hr⟩ : ∃ r, r = (Utf8.decode s pos).1 := ⟨_, rfl⟩
      obtain ⟨d, hd⟩ : ∃ d, d = (Utf8.decode s pos).2 := ⟨_, rfl⟩
      obtain ⟨W2, hW2⟩ : ∃ W2, W2 = wr.iterAt w1.heap.size s (pos + (Utf8.decode s pos).2) := ⟨_, rfl⟩
      rw [← hW2] at hnx hQ2
      rw [← hd] at hvn hbn hw1 hQ2
      rw [← hr] at hnx hbn hd1
      have Hit := hid hit
      have Hv := hid hvn
      have Hacc := hid hacc
      clear hW2 hit hvn hdec hwd hr hd hacc hvd hv hQ HW0 HB1
      have hfin : ∀ m W3, body (L.drop pos) = m ++ body (L.drop (pos + d)) → QS w s w1.heap.size (pos + d) (acc ++ m) W3 →
          (∃ (pos' : Nat) (acc' : List UInt8), QS w s w1.heap.size pos' acc' W3 ∧ acc' ++ body (L.drop pos') = 34 :: body L ∧ Lib.validD (L.drop pos') = true) ∧ s.size - W3.iterPos w1.heap.size < s.size - wr.iterPos w1.heap.size := by
        intro m W3 hm hq
        refine ⟨⟨pos + d, acc ++ m, hq, ?_, Hv.out⟩, ?_⟩
        · rw [List.append_assoc, ← hm]; exact Hacc.out
        · simp only [World.iterPos, hq.2.1, Hit.out]
          omega
      have Hfin := hid hfin
      clear hfin
      rcases hbn with ⟨h128, hb⟩ | ⟨c, hc, hrc, hd1', hb⟩
      · have Hb := hid hb
        clear hb
        go_wp2_with fail
        refine (qs_rune hQ2 (by omega) _ (by omega) (by omega)).mono ?_
        rintro e W3 ⟨rfl, hq3⟩
        have HF := hid (Hfin.out _ _ Hb.out hq3)
        clear hq3
        go_wp2_with fail
        go_roundw
        case rel => exact HF.out.1
        case measure => exact HF.out.2
      · obtain ⟨n, hn⟩ : ∃ n, n = c.toNat := ⟨_, rfl⟩
        have ec : UInt8.ofNat c.toNat = c := by simp
        have hcn : ∀ k : Nat, n = k → c = UInt8.ofNat k := by intro k hk; rw [← ec, ← hn, hk]
        rw [← hn] at hc hrc
        have hrc2 := hrc.symm
        subst hrc2
        have Hcn := hid hcn
        have Hb := hid hb
        have Hn := hid hn
        clear hcn hb hn hd1' ec
        rcases (show n = 34 ∨ n = 92 ∨ n = 10 ∨ n = 13 ∨ n = 9 ∨ (32 ≤ n ∧ n ≠ 127 ∧ n ≠ 34 ∧ n ≠ 92) ∨ (n < 32 ∧ n ≠ 10 ∧ n ≠ 13 ∧ n ≠ 9) ∨ n = 127 from by omega) with h | h | h | h | h | h | h | h
        · subst h
          have hc9 := Hcn.out 34 rfl
          have Hb2 : Hid (body (L.drop pos) = [92] ++ Lib.encodeRune 34 ++ body (L.drop (pos + d))) := hid (by rw [Hb.out, hc9]; rfl)
          clear hc9
          go_wp2_with fail
          refine (qs_byte hQ2 (by omega) 92 92 rfl).mono ?_
          rintro e W3 ⟨rfl, hq3⟩
          go_wp2_with fail
          refine (qs_rune hq3 (by simp; omega) _ (by omega) (by omega)).mono ?_
          rintro e W4 ⟨rfl, hq4⟩
          rw [List.append_assoc] at hq4
          have HF := hid (Hfin.out _ _ Hb2.out hq4)
          clear hq3 hq4
          go_wp2_with fail
          go_roundw
          case rel => exact HF.out.1
          case measure => exact HF.out.2
        · subst h
          have hc9 := Hcn.out 92 rfl
          have Hb2 : Hid (body (L.drop pos) = [92] ++ Lib.encodeRune 92 ++ body (L.drop (pos + d))) := hid (by rw [Hb.out, hc9]; rfl)
          clear hc9
          go_wp2_with fail
          refine (qs_byte hQ2 (by omega) 92 92 rfl).mono ?_
          rintro e W3 ⟨rfl, hq3⟩
          go_wp2_with fail
          refine (qs_rune hq3 (by simp; omega) _ (by omega) (by omega)).mono ?_
          rintro e W4 ⟨rfl, hq4⟩
          rw [List.append_assoc] at hq4
          have HF := hid (Hfin.out _ _ Hb2.out hq4)
          clear hq3 hq4
          go_wp2_with fail
          go_roundw
          case rel => exact HF.out.1
          case measure => exact HF.out.2
        · subst h
          have hc9 := Hcn.out 10 rfl
          have Hb2 : Hid (body (L.drop pos) = [92, 110] ++ body (L.drop (pos + d))) := hid (by rw [Hb.out, hc9]; rfl)
          clear hc9
          go_wp2_with fail
          refine (qs_str hQ2 (by omega) _ (by decide)).mono ?_
          rintro e W3 ⟨rfl, hq3⟩
          have HF := hid (Hfin.out _ _ Hb2.out hq3)
          clear hq3
          go_wp2_with fail
          go_roundw
          case rel => exact HF.out.1
          case measure => exact HF.out.2
        · subst h
          have hc9 := Hcn.out 13 rfl
          have Hb2 : Hid (body (L.drop pos) = [92, 114] ++ body (L.drop (pos + d))) := hid (by rw [Hb.out, hc9]; rfl)
          clear hc9
          go_wp2_with fail
          refine (qs_str hQ2 (by omega) _ (by decide)).mono ?_
          rintro e W3 ⟨rfl, hq3⟩
          have HF := hid (Hfin.out _ _ Hb2.out hq3)
          clear hq3
          go_wp2_with fail
          go_roundw
          case rel => exact HF.out.1
          case measure => exact HF.out.2
        · subst h
          have hc9 := Hcn.out 9 rfl
          have Hb2 : Hid (body (L.drop pos) = [92, 116] ++ body (L.drop (pos + d))) := hid (by rw [Hb.out, hc9]; rfl)
          clear hc9
          go_wp2_with fail
          refine (qs_str hQ2 (by omega) _ (by decide)).mono ?_
          rintro e W3 ⟨rfl, hq3⟩
          have HF := hid (Hfin.out _ _ Hb2.out hq3)
          clear hq3
          go_wp2_with fail
          go_roundw
          case rel => exact HF.out.1
          case measure => exact HF.out.2
        · obtain ⟨h1, h2, h3, h4⟩ := h
          have hq : qb c = Lib.encodeRune (n : Int) := by
            rw [encode_low hc, Hn.out, qb_plain (by rw [← Hn.out]; exact h1) (by rw [← Hn.out]; exact h2) (by rw [← Hn.out]; exact h3) (by rw [← Hn.out]; exact h4)]
            simp
          have Hb2 : Hid (body (L.drop pos) = Lib.encodeRune (n : Int) ++ body (L.drop (pos + d))) := hid (by rw [Hb.out, hq])
          clear hq
          go_wp2_with fail
          refine (qs_rune hQ2 (by omega) _ (by omega) (by omega)).mono ?_
          rintro e W3 ⟨rfl, hq3⟩
          have HF := hid (Hfin.out _ _ Hb2.out hq3)
          clear hq3
          go_wp2_with fail
          go_roundw
          case rel => exact HF.out.1
          case measure => exact HF.out.2
        all_goals
          have hq : qb c = [92, 117, 48, 48] ++ [hexB (n / 16)] ++ [hexB (n % 16)] := by
            rw [Hn.out, qb_esc (by rw [← Hn.out]; omega)]
            rfl
          have Hb2 : Hid (body (L.drop pos) = [92, 117, 48, 48] ++ [hexB (n / 16)] ++ [hexB (n % 16)] ++ body (L.drop (pos + d))) := hid (by rw [Hb.out, hq])
          have hand : bits .and .i32 (n : Int) 15 = ((n % 16 : Nat) : Int) := i32_mask (i := 4) (by omega) (by omega)
          clear hq
        · go_wp2_with fail
          refine (qs_str hQ2 (by omega) _ (by decide)).mono ?_
          rintro e W3 ⟨rfl, hq3⟩
          go_wp2_with fail
          refine (qs_byte hq3 (by simp; omega) (hexB (n / 16)) _ (by rw [digits_get])).mono ?_
          rintro e W4 ⟨rfl, hq4⟩
          clear hq3
          go_wp2_with fail
          refine (qs_byte hq4 (by simp; omega) (hexB (n % 16)) _ (by rw [digits_get])).mono ?_
          rintro e W5 ⟨rfl, hq5⟩
          rw [List.append_assoc, List.append_assoc, ← List.append_assoc [92, 117, 48, 48]] at hq5
          have HF := hid (Hfin.out _ _ Hb2.out hq5)
          clear hq4 hq5
          go_wp2_with fail
          go_roundw
          case rel => exact HF.out.1
          case measure => exact HF.out.2
        · subst h
          go_wp2_with fail
          refine (qs_str hQ2 (by omega) _ (by decide)).mono ?_
          rintro e W3 ⟨rfl, hq3⟩
          go_wp2_with fail
          refine (qs_byte hq3 (by simp; omega) (hexB 7) _ (by first | (rw [digits_get]; done) | (rw [digits_get]; decide))).mono ?_
          rintro e W4 ⟨rfl, hq4⟩
          clear hq3
          go_wp2_with fail
          refine (qs_byte hq4 (by simp; omega) (hexB 15) _ (by first | (rw [digits_get]; done) | (rw [digits_get]; decide))).mono ?_
          rintro e W5 ⟨rfl, hq5⟩
          rw [List.append_assoc, List.append_assoc, ← List.append_assoc [92, 117, 48, 48]] at hq5
          have HF := hid (Hfin.out _ _ Hb2.out hq5)
          clear hq4 hq5
          go_wp2_with fail
          go_roundw
          case rel => exact HF.out.1
          case measure => exact HF.out.2
    · have hnx : ∀ ty, (Instr.next (.pointer (some ⟨w1.heap.size, 0, none⟩)) true ty).run Tryd.prog wr = _ := fun ty => Lib.run_next_end_at wr w1.heap.size s pos ty hit hp
      rw [List.drop_eq_nil_of_le (by omega)] at hacc
      have ha2 : acc = 34 :: body L := by simpa [body] using hacc
      subst ha2
      have HQ := hid hQ
      clear hacc hQ hit hvd
      go_wp2_with fail
      refine (qs_byte HQ.out (by omega) 34 34 rfl).mono ?_
      rintro e W3 ⟨rfl, hq3⟩
      go_wp2_with fail
      refine (bstr_any W3 _ _ _ hq3.1 hq3.2.2.1.size).mono ?_
      rintro e W4 ⟨rfl, hb4⟩
      have HF := hid (hq3.2.2.1.trans hb4)
      clear hq3 hb4
      go_wp2_with fail
      go_ret
      exact ⟨rfl, Kp.of_below HF.out⟩
end Go.Proofs.YtgjffkblhhkjmaaDoor
