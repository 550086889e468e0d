/- The document's answer for layer 3: Unquote. -/
import Derived.Test.YtdmajeidggjalaaDoorQRefEscB
import Derived.Test.YtdmajeidggjalaaDoorQRefParts
import Derived.Deep.Cut
namespace Go.Proofs.YtdmajeidggjalaaDoor
open Go Go.RowKit

set_option maxRecDepth 100000 in
set_option maxHeartbeats 6400000 in
theorem runq_any (w : World) (s : ByteArray) (hs : s.size ≤ 10000000) : Calls Tryd.prog 12 #[.string s] w (UnqPost w s.data.toList) := by
  have hrw := fun i => rune_wd s i
  have hesc := fun W p hp => resc_any W s p (by omega) hp
  obtain ⟨L, hL⟩ : ∃ L, L = s.data.toList := ⟨_, rfl⟩
  have hlen : L.length = s.size := by rw [hL, Array.length_toList]; rfl
  have hget : ∀ (i : Nat) (h : i < s.size), s[i]'h = L[i]'(by omega) := fun i h => by subst hL; rfl
  rw [← hL]
  simp only [← hL] at hrw hesc
  have HL := hid hL
  have Hget := hid hget
  have Hrw := hid hrw
  have Hesc := hid hesc
  clear hL hget hrw hesc
  obtain ⟨R, hR⟩ : ∃ R, R = unq L := ⟨_, rfl⟩
  have hpost : ∀ (e : Ending) (w' : World), e = .returned (.tuple #[.string ⟨R.1.toArray⟩, .int .i64 ((R.2.1 : Nat) : Int), .int .i64 R.2.2]) → Kp [] w w' → UnqPost w L e w' := fun e w' h1 h2 => ⟨by rw [h1, hR], h2⟩
  have Hpost := hid hpost
  have HR := hid hR
  clear hpost hR
  by_cases h0 : s.size = 0
  · have hl : L = [] := List.eq_nil_of_length_eq_zero (by omega)
    have hr : R = ([], 0, 6) := by rw [HR.out, hl]; rfl
    have Hr := hid hr
    clear hl hr
    go_enter Tryd.func12, Tryd.ntmps12
    go_wp2_with fail
    go_ret3
    exact Hpost.out _ _ (by rw [Hr.out]; rfl) (Kp.refl _ _)
  have h0p : 0 < s.size := by omega
  have hb0 : ((s.size : Int) == 0) = false := by rw [beq_eq_false_iff_ne]; omega
  have hcons : L = L[0]'(by omega) :: L.drop 1 := by
    have := List.drop_eq_getElem_cons (l := L) (i := 0) (by omega)
    simpa using this
  have hg := Hget.out 0 h0p
  obtain ⟨c, hc⟩ : ∃ c, c = L[0]'(by omega) := ⟨_, rfl⟩
  rw [← hc] at hcons hg
  obtain ⟨m, hm⟩ : ∃ m, m = c.toNat := ⟨_, rfl⟩
  have hm2 : m < 256 := by rw [hm]; exact c.toNat_lt
  have hgm : ∀ h : 0 < s.size, (s[0]'h).toNat = m := fun h => by rw [hg, hm]
  have Hc := hid hcons
  have Hm := hid hm
  clear hcons hg hc hm
  by_cases h34 : m = 34
  rotate_left
  · have hr : R = ([], 0, 6) := by
      rw [HR.out, Hc.out]
      exact if_neg (ne8 (by rw [← Hm.out]; exact h34))
    have Hr := hid hr
    have b1 : ((m : Int) != 34) = true := by rw [bne_iff_ne]; omega
    clear hr h34
    go_enter Tryd.func12, Tryd.ntmps12
    go_wp2_with fail
    go_ret3
    exact Hpost.out _ _ (by rw [Hr.out]; rfl) (Kp.refl _ _)
  subst h34
  have hcc : c = 34 := of8 Hm.out.symm
  have hu : R = unqGo ((L.drop 1).length + 1) (L.drop 1) [] 1 := by
    rw [HR.out]
    conv => lhs; rw [Hc.out, hcc]
    rfl
  have Hu := hid hu
  clear hu hcc
  go_enter Tryd.func12, Tryd.ntmps12
  go_wp2_with fail
  go_loopw [5, 6] (fun vo va wr => Kp [] w wr ∧ ∃ (p f : Nat) (acc : List UInt8), vo = .string ⟨acc.toArray⟩ ∧ va = .int .i64 (p : Int) ∧ 1 ≤ p ∧ p ≤ s.size ∧ L.length - p + 1 ≤ f ∧ acc.length ≤ 2 * p ∧ unqGo f (L.drop p) acc p = R) (fun _ va _ => s.size - (intOf va).toNat)
  case atStart => exact ⟨Kp.refl _ _, 1, _, [], rfl, rfl, by omega, by omega, by rw [List.length_drop]; exact Nat.le_refl _, by simp, Hu.out.symm⟩
  case round =>
    obtain ⟨hk, p, f, acc, rfl, rfl, hp1, hps, hf, hacc, hgo⟩ := hrel
    obtain ⟨f, rfl⟩ : ∃ f', f = f' + 1 := ⟨f - 1, by omega⟩
    by_cases hlt2 : p < s.size
    rotate_left
    · have hr : R = ([], 0, 6) := by
        rw [← hgo, List.drop_eq_nil_of_le (by omega)]
        rfl
      have Hr := hid hr
      have HK := hid hk
      clear hr hgo hk
      go_wp2_with fail
      go_ret3
      exact Hpost.out _ _ (by rw [Hr.out]; rfl) HK.out
    have hcons : L.drop p = L[p]'(by omega) :: L.drop (p + 1) := List.drop_eq_getElem_cons (by omega)
    have hg := Hget.out p hlt2
    obtain ⟨d, hd⟩ : ∃ d, d = L[p]'(by omega) := ⟨_, rfl⟩
    rw [← hd] at hcons hg
    rw [hcons, unqGo_cons, ← hcons] at hgo
    obtain ⟨q, hq⟩ : ∃ q, q = d.toNat := ⟨_, rfl⟩
    have hq2 : q < 256 := by rw [hq]; exact d.toNat_lt
    have hgq : ∀ h : p < s.size, (s[p]'h).toNat = q := fun h => by rw [hg, hq]
    have Hcons := hid hcons
    have Hq := hid hq
    have HK := hid hk
    have hsz : (⟨acc.toArray⟩ : ByteArray).size = acc.length := by simp [ByteArray.size]
    clear hcons hg hd hq hk
    by_cases h34 : q = 34
    · subst h34
      rw [if_pos (of8 Hq.out.symm)] at hgo
      by_cases hbig : 4096 < acc.length
      · rw [if_pos hbig] at hgo
        have Hr := hid hgo.symm
        clear hgo
        go_wp2_with fail
        go_ret3
        exact Hpost.out _ _ (by rw [Hr.out]; rfl) HK.out
      · rw [if_neg hbig] at hgo
        have Hr := hid hgo.symm
        clear hgo
        go_wp2_with fail
        go_ret3
        exact Hpost.out _ _ (by rw [Hr.out]; rfl) HK.out
    · rw [if_neg (ne8 (by rw [← Hq.out]; exact h34))] at hgo
      have b1 : ((q : Int) == 34) = false := by rw [beq_eq_false_iff_ne]; omega
      by_cases h92 : q = 92
      · subst h92
        have hdd : d = 92 := of8 Hq.out.symm
        rw [if_pos hdd] at hgo
        have hes := fun W => Hesc.out W (p + 1) (by omega)
        unfold REscPost at hes
        have hE : L.drop p = 92 :: L.drop (p + 1) := by rw [Hcons.out, hdd]
        rw [← hE] at hes
        cases hx : escL (L.drop p) with
        | none =>
          rw [hx] at hgo hes
          simp only at hgo
          simp only [rescV] at hes
          have Hr := hid hgo.symm
          clear hgo hx hE hdd h34
          go_wp2_with fail
          refine (hes _).mono ?_
          rintro e w2 ⟨rfl, k2⟩
          have HK2 := hid (HK.out.nil k2)
          clear k2
          go_wp2_with fail
          go_ret3
          exact Hpost.out _ _ (by rw [Hr.out]; rfl) HK2.out
        | some x =>
          obtain ⟨r, n⟩ := x
          rw [hx] at hgo hes
          simp only [rescV] at hes
          simp only at hgo
          obtain ⟨_, hn2, hnl⟩ := escL_in hx
          rw [List.length_drop] at hnl
          have henc : (Lib.encodeRune (r : Int)).length ≤ 4 := by
            have := Lib.runeCells_le (r : Int)
            rw [Lib.runeCells_length] at this
            exact this.2
          obtain ⟨T, hT⟩ : ∃ T, T = Lib.encodeRune (r : Int) := ⟨_, rfl⟩
          rw [← hT] at hgo henc
          simp only [← hT] at hes
          rw [List.drop_drop] at hgo
          have Hgo := hid hgo
          have hadd := fun W => run_add_text (P := Tryd.prog) acc T (acc ++ T) rfl (by omega) W
          have hn0 : ((n : Int) - 1 == 0) = false := by rw [beq_eq_false_iff_ne]; omega
          clear hgo hx hE hdd h34 hT
          go_wp2_with fail
          refine (hes _).mono ?_
          rintro e w2 ⟨rfl, k2⟩
          have HK2 := hid (HK.out.nil k2)
          clear k2
          go_wp2_with fail
          go_roundw
          case rel =>
            exact ⟨HK2.out, p + n, f, acc ++ T, rfl, by go_num, by omega, by omega, by omega, by rw [List.length_append]; omega, Hgo.out⟩
          case measure => simp [intOf]; omega
      · rw [if_neg (ne8 (by rw [← Hq.out]; exact h92))] at hgo
        have b2 : ((q : Int) == 92) = false := by rw [beq_eq_false_iff_ne]; omega
        obtain ⟨r1, r2, r3⟩ := Hrw.out p
        have hru := fun W => rune_any W s p hlt2 (by omega)
        have hwl := wd_le (L.drop p) (by
          intro e
          have := congrArg List.length e
          rw [List.length_drop] at this
          simp at this
          omega)
        have hwp := wd_pos (L.drop p)
        rw [List.length_drop] at hwl
        unfold RunePost at hru
        by_cases hb : Bad (L.drop p)
        · rw [if_pos (.inl hb)] at hgo
          have hz := r2.2 hb
          obtain ⟨x, hx⟩ : ∃ x, x = (runeAt s p).1 := ⟨_, rfl⟩
          rw [hz] at hru
          simp only [← hx] at hru
          have Hr := hid hgo.symm
          clear hgo r1 r2 r3 hz hx hb h34 h92 hwl hwp
          go_wp2_with fail
          refine (hru _).mono ?_
          rintro e w2 ⟨rfl, rfl⟩
          go_wp2_with fail
          go_ret3
          exact Hpost.out _ _ (by rw [Hr.out]; rfl) HK.out
        · have hrd := r3 hb
          rw [hrd] at hru
          have hwe : (Lib.decodeL (L.drop p)).2 = wd (L.drop p) := rfl
          rw [hwe] at hru
          have hext : s.extract p (p + wd (L.drop p)) = ⟨((L.drop p).take (wd (L.drop p))).toArray⟩ := by
            rw [extract_list, ← HL.out, List.drop_take, Nat.add_sub_cancel_left]
          have htl : ((L.drop p).take (wd (L.drop p))).length = wd (L.drop p) := by rw [List.length_take, List.length_drop]; omega
          have hdd2 : (L.drop p).drop (wd (L.drop p)) = L.drop (p + wd (L.drop p)) := by rw [List.drop_drop]
          rw [hdd2] at hgo
          obtain ⟨T, hT⟩ : ∃ T, T = (L.drop p).take (wd (L.drop p)) := ⟨_, rfl⟩
          rw [← hT] at hgo hext htl
          obtain ⟨x, hx⟩ : ∃ x, x = (Lib.decodeL (L.drop p)).1 := ⟨_, rfl⟩
          obtain ⟨n, hn⟩ : ∃ n, n = wd (L.drop p) := ⟨_, rfl⟩
          simp only [← hx, ← hn] at hru
          rw [← hx, ← hn] at hgo
          rw [← hn] at hext htl hwl hwp
          by_cases h32 : x < 32
          · rw [if_pos (.inr h32)] at hgo
            have Hr := hid hgo.symm
            have hn0 : ((n : Int) == 0) = false := by rw [beq_eq_false_iff_ne]; omega
            clear hgo r1 r2 r3 hrd hx hb h34 h92 hT hn hext htl hwe hdd2
            go_wp2_with fail
            refine (hru _).mono ?_
            rintro e w2 ⟨rfl, rfl⟩
            go_wp2_with fail
            go_ret3
            exact Hpost.out _ _ (by rw [Hr.out]; rfl) HK.out
          · rw [if_neg (fun h => h.elim hb h32)] at hgo
            have Hgo := hid hgo
            have hadd := fun W => run_add_text (P := Tryd.prog) acc T (acc ++ T) rfl (by omega) W
            have hn0 : ((n : Int) == 0) = false := by rw [beq_eq_false_iff_ne]; omega
            have Htl := hid htl
            clear hgo r1 r2 r3 hrd hx hb h34 h92 hT hn hwe hdd2 htl
            go_wp2_with fail
            refine (hru _).mono ?_
            rintro e w2 ⟨rfl, rfl⟩
            go_wp2_with fail
            go_roundw
            case rel => exact ⟨HK.out, p + n, f, acc ++ T, rfl, by go_num, by omega, by omega, by omega, by rw [List.length_append, Htl.out]; omega, Hgo.out⟩
            case measure => simp [intOf]; omega
end Go.Proofs.YtdmajeidggjalaaDoor
