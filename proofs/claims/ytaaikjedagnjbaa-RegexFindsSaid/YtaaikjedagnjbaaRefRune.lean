/- The document's answer for layer 3: the rune at a place. -/
import Derived.Test.YtaaikjedagnjbaaProg
import Derived.Test.YtaaikjedagnjbaaLaws
import Derived.Test.YtaaikjedagnjbaaRunes
import Derived.Deep.DeepCutAuto
import Derived.Deep.CutBlock
import Derived.Lib.TrimUEq
namespace Go.Proofs.Ytaaikjedagnjbaa
open Go Go.RowKit

theorem get_of_lt (s : ByteArray) (k : Nat) (h : k < s.size) : s.get! k = s[k]'h := by
  cases s with
  | mk d => exact getElem!_pos d k h
theorem accR_lt {x0 : Nat} (h : x0 < 32) {B : Nat → Nat} : ∀ j, j ≤ 3 → accR x0 B j < 8388608 := by
  intro j hj
  have e1 : accR x0 B 1 = 64 * x0 + B 1 % 64 := rfl
  have e2 : accR x0 B 2 = 64 * accR x0 B 1 + B 2 % 64 := rfl
  have e3 : accR x0 B 3 = 64 * accR x0 B 2 + B 3 % 64 := rfl
  have e0 : accR x0 B 0 = x0 := rfl
  rcases (show j = 0 ∨ j = 1 ∨ j = 2 ∨ j = 3 from by omega) with rfl | rfl | rfl | rfl <;> omega
def RunePost (w : World) (s : ByteArray) (i : Nat) (e : Ending) (w' : World) : Prop := e = .returned (.tuple #[.int .i64 ((runeAt s i).1 : Nat), .int .i64 ((runeAt s i).2 : Nat)]) ∧ w' = w
set_option maxRecDepth 100000 in
set_option maxHeartbeats 1600000 in
theorem rune_any (w : World) (s : ByteArray) (i : Nat) (hi : i < s.size) (hs : s.size ≤ 9223372036854775000) :
    Calls Try.prog 30 #[.string s, .int .i64 (i : Int)] w (RunePost w s i) := by
  obtain ⟨B, hB⟩ : ∃ B : Nat → Nat, B = fun j => (s.get! (i + j)).toNat := ⟨_, rfl⟩
  have hB0 : ∀ j, B j < 256 := by intro j; rw [hB]; exact UInt8.toNat_lt _
  have hget : ∀ (j : Nat) (h : i + j < s.size), ((s[i + j]'h).toNat : Int) = (B j : Int) := by
    intro j h
    rw [hB]
    simp only
    rw [get_of_lt s (i + j) h]
  have hrune : runeAt s i = runeN (s.size - i) (B 0) (B 1) (B 2) (B 3) := by rw [hB]; rfl
  have b0 : ((s[i]'hi).toNat : Int) = (B 0 : Int) := hget 0 hi
  have h0 := hB0 0
  have Hrune := hid hrune
  have HB0 := hid hB0
  have Hget := hid hget
  clear hB hrune hB0 hget
  by_cases hp : B 0 < 128
  · go_enter Try.func30, Try.ntmps30
    go_wp2_with fail
    go_ret2
    refine ⟨?_, rfl⟩
    rw [Hrune.out, runeN_plain _ _ _ hp]
    rfl
  · go_enter Try.func30, Try.ntmps30
    go_upto_block 0 with fail
    go_cut [7, 8, 9] (fun vk vl vx wx => wx = w ∧ ∃ k least x0 : Nat, vk = .int .i64 k ∧ vl = .int .i64 least ∧ vx = .int .i64 x0 ∧ Lead (B 0) k least x0)
    case first =>
      rcases (show ((128 ≤ B 0 ∧ B 0 < 194) ∨ 245 ≤ B 0) ∨ (194 ≤ B 0 ∧ B 0 < 224) ∨ (224 ≤ B 0 ∧ B 0 < 240) ∨ (240 ≤ B 0 ∧ B 0 < 245) from by omega) with (hc | hc) | hc | hc | hc
      · obtain ⟨c1, c2⟩ := hc
        go_wp2_with fail
        go_meet
        exact ⟨rfl, 0, 0, 0, rfl, rfl, rfl, .inl ⟨rfl, .inl ⟨c1, c2⟩⟩⟩
      · go_wp2_with fail
        go_meet
        exact ⟨rfl, 0, 0, 0, rfl, rfl, rfl, .inl ⟨rfl, .inr hc⟩⟩
      · obtain ⟨c1, c2⟩ := hc
        go_wp2_with fail
        go_meet
        exact ⟨rfl, 2, 128, B 0 - 192, rfl, rfl, by go_num, .inr (.inl ⟨rfl, rfl, ⟨c1, c2⟩, by omega⟩)⟩
      · obtain ⟨c1, c2⟩ := hc
        go_wp2_with fail
        go_meet
        exact ⟨rfl, 3, 2048, B 0 - 224, rfl, rfl, by go_num, .inr (.inr (.inl ⟨rfl, rfl, ⟨c1, c2⟩, by omega⟩))⟩
      · obtain ⟨c1, c2⟩ := hc
        go_wp2_with fail
        go_meet
        exact ⟨rfl, 4, 65536, B 0 - 240, rfl, rfl, by go_num, .inr (.inr (.inr ⟨rfl, rfl, ⟨c1, c2⟩, by omega⟩))⟩
    case rest =>
      obtain ⟨rfl, k, least, x0, rfl, rfl, rfl, hL⟩ := hcut
      have hk4 : k ≤ 4 := by unfold Lead at hL; omega
      have hx0 : k = 0 ∨ x0 < 32 := by unfold Lead at hL; omega
      have HL := hid hL
      clear hL
      by_cases hsh : k = 0 ∨ s.size - i < k
      · have hsh0 := runeN_short (B := B) h0 HL.out (m := s.size - i) hsh (by omega)
        have Hsh := hid hsh0
        clear hsh0
        by_cases hk0 : k = 0
        · go_wp2_with fail
          go_ret2
          refine ⟨?_, rfl⟩
          rw [Hrune.out, Hsh.out]
          rfl
        · have hlong : s.size < i + k := by omega
          go_wp2_with fail
          go_ret2
          refine ⟨?_, rfl⟩
          rw [Hrune.out, Hsh.out]
          rfl
      · have hk0 : k ≠ 0 := by omega
        have hfit : i + k ≤ s.size := by omega
        have hx1 : x0 < 32 := by omega
        have hfit2 : ¬ ((s.size : Int) < (i : Int) + (k : Int)) := by omega
        have hk1 : (k : Int) ≠ 0 := by omega
        clear hsh hx0
        go_wp2_with fail
        go_loopw [9, 10] (fun x j wr => wr = wc ∧ ∃ t : Nat, 1 ≤ t ∧ t ≤ k ∧ j = .int .i64 t ∧ x = .int .i64 (accR x0 B (t - 1) : Nat) ∧ ∀ u, 1 ≤ u → u < t → Tail (B u)) (fun _ j _ => k - (intOf j).toNat)
        case atStart => exact ⟨rfl, 1, by omega, by omega, rfl, rfl, fun u h1 h2 => by omega⟩
        case round =>
          obtain ⟨rfl, t, ht1, ht2, rfl, rfl, htl⟩ := hrel
          have hacc := accR_lt hx1 (B := B) (t - 1) (by omega)
          by_cases htk : t < k
          · have hfit3 : i + t < s.size := by omega
            have hb := Hget.out t hfit3
            have hbt := HB0.out t
            have hsucc : accR x0 B t = 64 * accR x0 B (t - 1) + B t % 64 := by
              obtain ⟨u, rfl⟩ : ∃ u, t = u + 1 := ⟨t - 1, by omega⟩
              rfl
            obtain ⟨X, hX⟩ : ∃ X, X = accR x0 B (t - 1) := ⟨_, rfl⟩
            rw [← hX] at hacc hsucc ⊢
            have Hsucc := hid hsucc
            have Htl := hid htl
            clear hX hsucc htl
            by_cases hT : Tail (B t)
            · have hT2 := hT
              have HT := hid hT
              unfold Tail at hT2
              clear hT
              obtain ⟨hT3, hT4⟩ := hT2
              go_wp2_with fail
              go_roundw
              case rel =>
                refine ⟨trivial, t + 1, by omega, by omega, by go_num, ?_, fun u h1 h2 => ?_⟩
                · rw [show t + 1 - 1 = t from rfl, Hsucc.out, show ((64 * X + B t % 64 : Nat) : Int) = 64 * (X : Int) + (B t : Int) - 128 from by omega]
                · rcases (show u < t ∨ u = t from by omega) with h | rfl
                  · exact Htl.out u h1 h
                  · exact HT.out
              case measure => simp [intOf]; omega
            · have hbad := runeN_bad (m := s.size - i) HB0.out HL.out ht1 htk hT
              have Hbad := hid hbad
              clear hbad
              by_cases hT3 : B t < 128
              · go_wp2_with fail
                go_ret2
                exact ⟨by rw [Hrune.out, Hbad.out]; rfl, rfl⟩
              · have hT4 : 192 ≤ B t := by unfold Tail at hT; omega
                clear hT
                go_wp2_with fail
                go_ret2
                exact ⟨by rw [Hrune.out, Hbad.out]; rfl, rfl⟩
          · have hend := runeN_end (m := s.size - i) HB0.out HL.out hk0 (by omega) (fun u h1 h2 => htl u h1 (by omega))
            obtain rfl : t = k := by omega
            obtain ⟨X, hX⟩ : ∃ X, X = accR x0 B (t - 1) := ⟨_, rfl⟩
            rw [← hX] at hacc hend ⊢
            rw [← Hrune.out] at hend
            have Hend := hid hend
            clear hX hend htl
            by_cases c1 : X < least
            · have Hr : Hid (runeAt s i = (0, 0)) := by have := Hend.out; rw [if_pos (.inl c1)] at this; exact hid this
              go_wp2_with fail
              go_ret2
              exact ⟨by rw [Hr.out]; rfl, rfl⟩
            · by_cases c2 : 1114111 < X
              · have Hr : Hid (runeAt s i = (0, 0)) := by have := Hend.out; rw [if_pos (.inr (.inl c2))] at this; exact hid this
                go_wp2_with fail
                go_ret2
                exact ⟨by rw [Hr.out]; rfl, rfl⟩
              · by_cases c3 : 55296 ≤ X
                · by_cases c4 : X < 57344
                  · have Hr : Hid (runeAt s i = (0, 0)) := by have := Hend.out; rw [if_pos (.inr (.inr ⟨c3, c4⟩))] at this; exact hid this
                    go_wp2_with fail
                    go_ret2
                    exact ⟨by rw [Hr.out]; rfl, rfl⟩
                  · have Hr : Hid (runeAt s i = (X, t)) := by have := Hend.out; rw [if_neg (by omega)] at this; exact hid this
                    go_wp2_with fail
                    go_ret2
                    exact ⟨by rw [Hr.out]; rfl, rfl⟩
                · have Hr : Hid (runeAt s i = (X, t)) := by have := Hend.out; rw [if_neg (by omega)] at this; exact hid this
                  go_wp2_with fail
                  go_ret2
                  exact ⟨by rw [Hr.out]; rfl, rfl⟩

/-- Whether a text is UTF-8, step by step. -/
theorem valid_step (s : ByteArray) (i g : Nat) (hi : i < s.size) (hg : s.size - i ≤ g) :
    ∃ g', g = g' + 1 ∧ Lib.validGoD g (s.data.toList.drop i) = if (runeAt s i).2 = 0 then false else Lib.validGoD g' (s.data.toList.drop (i + (runeAt s i).2)) := by
  obtain ⟨g', rfl⟩ : ∃ g', g = g' + 1 := ⟨g - 1, by omega⟩
  refine ⟨g', rfl, ?_⟩
  have hne : s.data.toList.drop i ≠ [] := by
    intro h
    have := congrArg List.length h
    rw [List.length_drop, Array.length_toList] at this
    have h2 : s.data.size = s.size := rfl
    simp only [List.length_nil] at this
    omega
  rw [Lib.validGoD, if_neg hne, Lib.decodeL_drop, runeAt_decode]
  have hw := Lib.width_pos s i
  by_cases hd : Utf8.decode s i = (65533, 1)
  · rw [hd]
    rfl
  · rw [if_neg hd, if_neg (fun h => hd (Prod.ext h.1 h.2)), if_neg (by omega), List.drop_drop]
theorem rune_width (s : ByteArray) (i : Nat) (hi : i < s.size) : i + (runeAt s i).2 ≤ s.size := by
  unfold runeAt runeN Lib.decodeN
  repeat' split
  all_goals first | omega | (simp only; omega)

set_option maxHeartbeats 1600000 in
theorem rvalid_any (w : World) (s : ByteArray) (hs : s.size ≤ 9223372036854775000) :
    Calls Try.prog 22 #[.string s] w fun e w' => e = .returned (.bool (Lib.validD s.data.toList)) ∧ w' = w := by
  obtain ⟨ANS, hANS⟩ : ∃ ANS, ANS = Lib.validD s.data.toList := ⟨_, rfl⟩
  rw [← hANS]
  have HANS := hid hANS
  clear hANS
  go_enter Try.func22, Try.ntmps22
  go_wp2_with fail
  go_loopw [3] (fun j wr => wr = w ∧ ∃ i g : Nat, i ≤ s.size ∧ j = .int .i64 i ∧ s.size - i ≤ g ∧ Lib.validGoD g (s.data.toList.drop i) = ANS) (fun j _ => s.size - (intOf j).toNat)
  case atStart => exact ⟨rfl, 0, s.size, by omega, rfl, by omega, by rw [HANS.out]; rfl⟩
  case round =>
    obtain ⟨rfl, i, g, hi, rfl, hg, hv⟩ := hrel
    by_cases hlt : i < s.size
    · obtain ⟨g', rfl, hst⟩ := valid_step s i g hlt hg
      have hwd := rune_width s i hlt
      rw [hv] at hst
      have Hst := hid hst
      clear hst hv
      go_wp2_with fail
      refine (rune_any _ s i hlt hs).mono ?_
      rintro e w2 ⟨rfl, rfl⟩
      obtain ⟨x, hx⟩ : ∃ x, x = (runeAt s i).1 := ⟨_, rfl⟩
      obtain ⟨n, hn⟩ : ∃ n, n = (runeAt s i).2 := ⟨_, rfl⟩
      rw [← hn] at Hst hwd
      rw [← hx, ← hn]
      clear hx hn
      by_cases h0 : n = 0
      · go_wp2_with fail
        go_ret
        exact ⟨by rw [Hst.out, if_pos h0]; rfl, rfl⟩
      · go_wp2_with fail
        go_roundw
        case rel => exact ⟨trivial, i + n, g', by omega, by go_num, by omega, by rw [Hst.out, if_neg h0]⟩
        case measure => simp [intOf]; omega
    · have hnil : s.data.toList.drop i = [] := by
        apply List.drop_eq_nil_of_le
        rw [Array.length_toList]
        show s.size ≤ i
        omega
      rw [hnil] at hv
      have hv2 : ANS = true := by rw [← hv]; cases g <;> rfl
      subst hv2
      go_wp2_with fail
      go_ret
      exact ⟨rfl, rfl⟩
end Go.Proofs.Ytaaikjedagnjbaa
