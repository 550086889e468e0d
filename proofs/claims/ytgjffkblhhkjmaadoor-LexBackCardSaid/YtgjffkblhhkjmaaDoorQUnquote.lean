/- quote.Unquote, of any text. -/
import Derived.Test.YtgjffkblhhkjmaaDoorQEsc
import Derived.Test.YtgjffkblhhkjmaaDoorQBackLaw
namespace Go.Proofs.YtgjffkblhhkjmaaDoor
open Go Go.RowKit

/-- The rune at the head, below 128: it is the first byte. -/
theorem head_low {c : UInt8} {t : List UInt8} (h : (Lib.decodeL (c :: t)).1 < 128) : Lib.decodeL (c :: t) = (c.toNat, 1) := by
  have hb : ¬ Bad (c :: t) := fun hb => by have := hb.1; omega
  have h2 : Lib.encodeRune ((Lib.decodeL (c :: t)).1 : Int) = (c :: t).take (wd (c :: t)) := Lib.encode_decode _ (by simp) hb
  rw [encode_low h] at h2
  have h4 := congrArg List.length h2
  rw [List.length_take] at h4
  have h5 := wd_le (c :: t) (by simp)
  simp only [List.length_cons, List.length_nil] at h4 h5
  obtain ⟨c', t', he, _, hd⟩ := low_byte hb (by omega) (by simp)
  injection he with h6 h7
  rw [h6]
  rw [← h6] at hd
  exact h6 ▸ hd
theorem decode_any (w : World) (T : ByteArray) (l : List UInt8) (hT : T.data.toList = l) (hne : l ≠ []) (hTabs : Tabs w) :
    Calls Tryd.prog 67 #[.string T] w fun e w' => e = .returned (.tuple #[.int .i32 ((Lib.decodeL l).1 : Int), .int .i64 ((wd l : Nat) : Int)]) ∧ Below w.heap.size w w' := by
  have h := Tryd.utf8_DecodeRuneInString T w hTabs
  have h0 : T.size ≠ 0 := by
    intro h
    apply hne
    rw [← hT]
    apply List.eq_nil_of_length_eq_zero
    rw [Array.length_toList]
    exact h
  have e : Lib.decodeGo T = Lib.decodeL l := by
    unfold Lib.decodeGo
    rw [if_neg h0, ← hT]
    have := Lib.decodeL_drop T 0
    rw [List.drop_zero] at this
    exact this.symm
  rw [e] at h
  exact h
theorem bldAt_below {w w' : World} {B b : Nat} {p : Value} {bs : List Value} (h : Lib.BuilderAtF 69 5 B b p bs w) (k : Below w.heap.size w w') : Lib.BuilderAtF 69 5 B b p bs w' := by
  obtain ⟨hB, v, hb, hown, hne⟩ := h
  have hlt : ∀ g o, w.heap[g]? = some o → g < w.heap.size := fun g o hg => (Array.getElem?_eq_some_iff.1 hg).1
  refine ⟨hB, v, (k.block b (hlt _ _ hb)).trans hb, ⟨hown.1, ?_⟩, hne⟩
  rcases hown.2 with hn | ⟨g, cap, cur, fz, hv, hbg, hg, rest⟩
  · exact .inl hn
  · exact .inr ⟨g, cap, cur, fz, hv, hbg, (k.block g (hlt _ _ hg)).trans hg, rest⟩
theorem Bld.below {w w' : World} {B b : Nat} {l : List UInt8} (h : Bld w B b l) (k : Below w.heap.size w w') : Bld w' B b l := h.elim (fun x => .inl (bldAt_below x k)) (fun x => .inr (bldAt_below x k))
/-- While a text is read: the builder. -/
def US (w0 : World) (acc : List UInt8) (wr : World) : Prop := Bld wr w0.heap.size w0.heap.size acc ∧ Below w0.heap.size w0 wr
theorem US.put {w0 wr w' : World} {acc m : List UInt8} (h : US w0 acc wr) (k : BldPost wr w0.heap.size w0.heap.size (acc ++ m) w') : US w0 (acc ++ m) w' := ⟨k.1, h.2.trans k.2.1⟩
theorem US.kept {w0 wr w' : World} {acc : List UInt8} (h : US w0 acc wr) (k : Below wr.heap.size wr w') : US w0 acc w' := ⟨h.1.below k, h.2.trans (k.mono h.2.size)⟩
theorem unqGo_cons (f : Nat) (c : UInt8) (t out : List UInt8) (a : Nat) : unqGo (f + 1) (c :: t) out a =
    if c = 34 then (if 4096 < out.length then ([], 0, 3) else (out, a + 1, 0))
      else if c = 92 then (match escL (c :: t) with
        | none => ([], 0, 6)
        | some (r, n) => unqGo f ((c :: t).drop n) (out ++ Lib.encodeRune (r : Int)) (a + n))
      else if Bad (c :: t) ∨ (Lib.decodeL (c :: t)).1 < 32 then ([], 0, 6)
      else unqGo f ((c :: t).drop (wd (c :: t))) (out ++ (c :: t).take (wd (c :: t))) (a + wd (c :: t)) := rfl
def UnqPost (w : World) (L : List UInt8) (e : Ending) (w' : World) : Prop := e = .returned (.tuple #[.string ⟨(unq L).1.toArray⟩, .int .i64 (((unq L).2.1 : Nat) : Int), .int .i64 (unq L).2.2]) ∧ Kp [] w w'
set_option maxHeartbeats 3200000 in
set_option maxRecDepth 100000 in
theorem qunq_any (w : World) (s : ByteArray) (hs : s.size ≤ 10000000) (hT : Tabs w) : Calls Tryd.prog 54 #[.string s] w (UnqPost w s.data.toList) := by
  obtain ⟨L, hL⟩ : ∃ L, L = s.data.toList := ⟨_, rfl⟩
  have hlen : L.length = s.size := by rw [hL, Array.length_toList]; rfl
  have hpre := Tryd.strings_HasPrefix s ⟨#[34]⟩ w
  rw [← hL] at hpre ⊢
  have HL := hid hL
  have hdrop : ∀ k, (s.extract k s.size).data.toList = L.drop k := by
    intro k
    rw [extract_list, ← hL, List.take_of_length_le (by omega)]
  clear hL
  by_cases h0 : ∃ t, L = 34 :: t
  · obtain ⟨t, hLt⟩ := h0
    have hp : Lib.hasPrefix L (⟨#[34]⟩ : ByteArray).data.toList = true := by rw [hLt]; rfl
    rw [hp] at hpre
    have hu : unq L = unqGo (t.length + 1) t [] 1 := by rw [hLt]; rfl
    have hlt : L.length = t.length + 1 := by rw [hLt]; rfl
    have hd1 : L.drop 1 = t := by rw [hLt]; rfl
    have Hu := hid (And.intro hu hd1)
    clear hp hu hd1 hLt
    obtain ⟨R, hR⟩ : ∃ R, R = unq L := ⟨_, rfl⟩
    have hpost : ∀ (e : Ending) (w' : World), e = .returned (.tuple #[.string ⟨R.1.toArray⟩, .int .i64 ((R.2.1 : Nat) : Int), .int .i64 R.2.2]) → Kp [] w w' → UnqPost w L e w' := fun e w' h1 h2 => ⟨by rw [h1, hR], h2⟩
    have Hpost := hid hpost
    rw [← hR] at Hu
    clear hpost hR
    go_enter Tryd.func54, Tryd.ntmps54
    go_wp2_with fail
    refine hpre.mono ?_
    rintro e w1 ⟨rfl, rfl⟩
    have hU0 : US w1 [] (w1.alloc (.cells #[.pointer none, .slice none 0 0] 69)) := ⟨Bld.fresh w1, (Below.refl _ w1).alloc (Nat.le_refl _) _⟩
    obtain ⟨W0, hW0⟩ : ∃ W0, W0 = w1.alloc (.cells #[.pointer none, .slice none 0 0] 69) := ⟨_, rfl⟩
    rw [← hW0] at hU0
    have HW0 := hid hW0
    clear hW0
    go_wp2_with fail
    rw [← HW0.out]
    clear HW0
    go_loopw [6] (fun va wr => ∃ (p f : Nat) (acc : List UInt8), US w1 acc wr ∧ va = .int .i64 (p : Int) ∧ 1 ≤ p ∧ p ≤ s.size ∧ L.length - p + 1 ≤ f ∧ acc.length ≤ 2 * p ∧ unqGo f (L.drop p) acc p = R) (fun va _ => s.size - (intOf va).toNat)
    case atStart => exact ⟨1, t.length + 1, [], hU0, rfl, by omega, by omega, by omega, by simp, by rw [Hu.out.2]; exact Hu.out.1.symm⟩
    case round =>
      obtain ⟨p, f, acc, hU, rfl, hp1, hps, hf, hacc, hgo⟩ := hrel
      obtain ⟨f, rfl⟩ : ∃ f', f = f' + 1 := ⟨f - 1, by omega⟩
      by_cases hlt2 : p < s.size
      · obtain ⟨c, l, hcl⟩ : ∃ c l, L.drop p = c :: l := List.exists_cons_of_ne_nil (by
          intro e
          have := congrArg List.length e
          rw [List.length_drop] at this
          simp at this
          omega)
        have hdec := fun W hW => decode_any W (s.extract p s.size) (c :: l) (by rw [hdrop, hcl]) (by simp) hW
        have hTr : Tabs wr := Utf8Tabs_below hT hU.2
        have hwl := wd_le (c :: l) (by simp)
        have hwp := wd_pos (c :: l)
        have hll : (c :: l).length = L.length - p := by rw [← hcl, List.length_drop]
        rw [hcl, unqGo_cons] at hgo
        have hUk : ∀ w', Below wr.heap.size wr w' → US w1 acc w' := fun w' k => hU.kept k
        have Hpl := hid (And.intro hcl hll)
        clear hcl hll
        by_cases hc34 : c = 34
        · subst hc34
          rw [if_pos rfl] at hgo
          have hd : Lib.decodeL ((34 : UInt8) :: l) = (34, 1) := Lib.decodeL_ascii 34 l (by decide)
          have hw : wd ((34 : UInt8) :: l) = 1 := by unfold wd; rw [hd]
          rw [hw, hd] at hdec
          have Hgo := hid hgo
          clear hgo hd hw hwl hwp
          go_wp2_with fail
          refine (hdec _ hTr).mono ?_
          rintro e w3 ⟨rfl, k3⟩
          have hU3 := hUk _ k3
          go_wp2_with fail
          refine (blen_any w3 _ _ acc hU3.1).mono ?_
          rintro e w4 ⟨rfl, rfl⟩
          by_cases hbig : 4096 < acc.length
          · have hR : R = ([], 0, 3) := by rw [← Hgo.out, if_pos hbig]
            have HR := hid (And.intro hR hU3)
            clear hR hU3 hU hUk
            go_wp2_with fail
            go_ret3
            exact Hpost.out _ _ (by rw [HR.out.1]; rfl) (Kp.of_below HR.out.2.2)
          · have hR : R = (acc, p + 1, 0) := by rw [← Hgo.out, if_neg hbig]
            have HR := hid (And.intro hR hU3)
            clear hR hU3 hU hUk
            go_wp2_with fail
            refine (bstr_any w3 _ _ acc HR.out.2.1 HR.out.2.2.size).mono ?_
            rintro e w5 ⟨rfl, k5⟩
            have HF := hid (HR.out.2.2.trans k5)
            clear k5
            go_wp2_with fail
            go_ret3
            exact Hpost.out _ _ (by rw [HR.out.1]; rfl) (Kp.of_below HF.out)
        · rw [if_neg hc34] at hgo
          by_cases hc92 : c = 92
          · subst hc92
            rw [if_pos rfl] at hgo
            have hd : Lib.decodeL ((92 : UInt8) :: l) = (92, 1) := Lib.decodeL_ascii 92 l (by decide)
            have hw : wd ((92 : UInt8) :: l) = 1 := by unfold wd; rw [hd]
            rw [hw, hd] at hdec
            have hesc := fun W => qesc_any W (s.extract p s.size) (by rw [ByteArray.size_extract]; omega)
            rw [hdrop, Hpl.out.1] at hesc
            have Hgo := hid hgo
            clear hgo hd hw hwl hwp hc34
            go_wp2_with fail
            refine (hdec _ hTr).mono ?_
            rintro e w3 ⟨rfl, k3⟩
            have hU3 := hUk _ k3
            go_wp2_with fail
            refine (hesc _).mono ?_
            rintro e w4 ⟨k4, ⟨r, n, hes, rfl⟩ | ⟨hes, r, n, rfl⟩⟩
            · have hU4 := hU3.kept k4.below
              obtain ⟨hr, hn2, hnl⟩ := escL_in hes
              have hgo2 := Hgo.out
              rw [hes] at hgo2
              simp only at hgo2
              rw [← Hpl.out.1, List.drop_drop] at hgo2
              rw [Hpl.out.2] at hnl
              have henc : (Lib.encodeRune (r : Int)).length ≤ 4 := by
                have := Lib.runeCells_le (r : Int)
                rw [Lib.runeCells_length] at this
                exact this.2
              have Hg2 := hid (And.intro hgo2 (And.intro hes henc))
              clear hgo2 hes hU3 hU hUk k3 k4 henc
              go_wp2_with fail
              refine (wrune_any w4 _ _ acc (r : Int) (by omega) (by omega) hU4.1 (by omega) hU4.2.size).mono ?_
              rintro e w5 ⟨rfl, h5⟩
              have HU5 := hid (hU4.put h5)
              clear h5 hU4
              go_wp2_with fail
              go_roundw
              case rel =>
                have h9 := Hg2.out.2.2
                exact ⟨p + n, f, acc ++ Lib.encodeRune (r : Int), HU5.out, by go_num, by omega, by omega, by omega, by rw [List.length_append]; omega, Hg2.out.1⟩
              case measure => simp [intOf]; omega
            · have hR : R = ([], 0, 6) := by rw [← Hgo.out, hes]
              have HR := hid (And.intro hR (hU3.kept k4.below))
              clear hR hU3 hU hUk
              go_wp2_with fail
              go_ret3
              exact Hpost.out _ _ (by rw [HR.out.1]; rfl) (Kp.of_below HR.out.2.2)
          · rw [if_neg hc92] at hgo
            have hr34 : (Lib.decodeL (c :: l)).1 ≠ 34 := fun h => by
              have h9 := head_low (c := c) (t := l) (by omega)
              rw [h9] at h
              exact hc34 (UInt8.toNat_inj.1 h)
            have hr92 : (Lib.decodeL (c :: l)).1 ≠ 92 := fun h => by
              have h9 := head_low (c := c) (t := l) (by omega)
              rw [h9] at h
              exact hc92 (UInt8.toNat_inj.1 h)
            have hrm : (Lib.decodeL (c :: l)).1 ≤ 2147483647 := by
              rw [← Hpl.out.1, HL.out, Lib.decodeL_drop]
              exact decode_le s p
            have hgood : ¬ Bad (c :: l) → Lib.encodeRune ((Lib.decodeL (c :: l)).1 : Int) = (c :: l).take (wd (c :: l)) := fun hb => Lib.encode_decode _ (by simp) hb
            have hbd : Bad (c :: l) ↔ (Lib.decodeL (c :: l)).1 = 65533 ∧ wd (c :: l) = 1 := Iff.rfl
            obtain ⟨d, hd⟩ : ∃ d, d = wd (c :: l) := ⟨_, rfl⟩
            obtain ⟨r, hr⟩ : ∃ r, r = (Lib.decodeL (c :: l)).1 := ⟨_, rfl⟩
            rw [← hd] at hdec hgo hgood hbd hwl hwp
            rw [← hr] at hdec hgo hgood hbd hr34 hr92 hrm
            have Hd := hid hd
            have Hgood := hid hgood
            clear hd hr hc34 hc92 hgood
            rcases (show r < 32 ∨ (32 ≤ r ∧ r ≠ 65533) ∨ (r = 65533 ∧ d = 1) ∨ (r = 65533 ∧ d ≠ 1) from by omega) with h | ⟨h, h1⟩ | ⟨h, h1⟩ | ⟨h, h1⟩
            · have hR : R = ([], 0, 6) := by rw [← hgo, if_pos (.inr h)]
              have HR := hid hR
              clear hR hgo hbd
              go_wp2_with fail
              refine (hdec _ hTr).mono ?_
              rintro e w3 ⟨rfl, k3⟩
              have HU3 := hid (hUk _ k3)
              clear hU hUk
              go_wp2_with fail
              go_ret3
              exact Hpost.out _ _ (by rw [HR.out]; rfl) (Kp.of_below HU3.out.2)
            rotate_left
            · have hR : R = ([], 0, 6) := by rw [← hgo, if_pos (.inl (hbd.2 ⟨h, h1⟩))]
              have HR := hid hR
              clear hR hgo hbd
              go_wp2_with fail
              refine (hdec _ hTr).mono ?_
              rintro e w3 ⟨rfl, k3⟩
              have HU3 := hid (hUk _ k3)
              clear hU hUk
              go_wp2_with fail
              go_ret3
              exact Hpost.out _ _ (by rw [HR.out]; rfl) (Kp.of_below HU3.out.2)
            · skip
              have hnb : ¬ Bad (c :: l) := fun hb => by have := hbd.1 hb; omega
              rw [if_neg (fun h9 => h9.elim hnb (by omega))] at hgo
              have henc := Hgood.out hnb
              rw [← henc, ← Hpl.out.1, List.drop_drop] at hgo
              have hl4 : (Lib.encodeRune (r : Int)).length = d := by
                rw [henc, List.length_take]
                omega
              rw [Hpl.out.2] at hwl
              have hz : (r : Int) = 65533 := by omega
              rw [hz] at hgo hl4
              have Hg2 := hid (And.intro hgo hl4)
              clear hz
              clear hgo hl4 henc hnb hbd
              go_wp2_with fail
              refine (hdec _ hTr).mono ?_
              rintro e w3 ⟨rfl, k3⟩
              have hU3 := hUk _ k3
              clear hU hUk k3
              go_wp2_with fail
              refine (wrune_any w3 _ _ acc 65533 (by omega) (by omega) hU3.1 (by omega) hU3.2.size).mono ?_
              rintro e w5 ⟨rfl, h5⟩
              have HU5 := hid (hU3.put h5)
              clear h5 hU3
              go_wp2_with fail
              go_roundw
              case rel =>
                have h9 := Hg2.out.2
                exact ⟨p + d, f, acc ++ Lib.encodeRune 65533, HU5.out, by go_num, by omega, by omega, by omega, by rw [List.length_append]; omega, Hg2.out.1⟩
              case measure => simp [intOf]; omega
            · skip
              have hnb : ¬ Bad (c :: l) := fun hb => by have := hbd.1 hb; omega
              rw [if_neg (fun h9 => h9.elim hnb (by omega))] at hgo
              have henc := Hgood.out hnb
              rw [← henc, ← Hpl.out.1, List.drop_drop] at hgo
              have hl4 : (Lib.encodeRune (r : Int)).length = d := by
                rw [henc, List.length_take]
                omega
              rw [Hpl.out.2] at hwl
              have Hg2 := hid (And.intro hgo hl4)
              clear hgo hl4 henc hnb hbd
              go_wp2_with fail
              refine (hdec _ hTr).mono ?_
              rintro e w3 ⟨rfl, k3⟩
              have hU3 := hUk _ k3
              clear hU hUk k3
              go_wp2_with fail
              refine (wrune_any w3 _ _ acc (r : Int) (by omega) (by omega) hU3.1 (by omega) hU3.2.size).mono ?_
              rintro e w5 ⟨rfl, h5⟩
              have HU5 := hid (hU3.put h5)
              clear h5 hU3
              go_wp2_with fail
              go_roundw
              case rel =>
                have h9 := Hg2.out.2
                exact ⟨p + d, f, acc ++ Lib.encodeRune (r : Int), HU5.out, by go_num, by omega, by omega, by omega, by rw [List.length_append]; omega, Hg2.out.1⟩
              case measure => simp [intOf]; omega
      · have hnil : L.drop p = [] := List.drop_eq_nil_of_le (by omega)
        rw [hnil] at hgo
        have hR : R = ([], 0, 6) := hgo.symm
        have HR := hid hR
        have HU := hid hU
        clear hgo hnil hR hU
        go_wp2_with fail
        go_ret3
        exact Hpost.out _ _ (by rw [HR.out]; rfl) (Kp.of_below HU.out.2)
  · have hp : Lib.hasPrefix L (⟨#[34]⟩ : ByteArray).data.toList = false := by
      rcases hLL : L with _ | ⟨c, t⟩
      · rfl
      · show ((34 == c) && List.isPrefixOf [] t) = false
        rw [Bool.and_eq_false_iff]
        left
        rw [beq_eq_false_iff_ne]
        rintro rfl
        exact h0 ⟨t, hLL⟩
    rw [hp] at hpre
    have hu : unq L = ([], 0, 6) := by
      rcases hLL : L with _ | ⟨c, t⟩
      · rfl
      · show (if c = 34 then unqGo (t.length + 1) t [] 1 else ([], 0, 6)) = _
        rw [if_neg]
        rintro rfl
        exact h0 ⟨t, hLL⟩
    have Hu := hid hu
    clear hp hu h0
    go_enter Tryd.func54, Tryd.ntmps54
    go_wp2_with fail
    refine hpre.mono ?_
    rintro e w1 ⟨rfl, rfl⟩
    go_wp2_with fail
    go_ret3
    exact ⟨by rw [Hu.out]; rfl, Kp.refl _ _⟩
end Go.Proofs.YtgjffkblhhkjmaaDoor
