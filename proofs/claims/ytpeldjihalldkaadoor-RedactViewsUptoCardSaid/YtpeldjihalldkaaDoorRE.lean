/- Plain: the rune at a place of a text, as the document's answer reads it, against the model's own decoding. No program in sight. -/
import Derived.WalkKit
import Derived.Lib.ValidU
import Derived.Lib.DecodeN
import Derived.Test.YtpeldjihalldkaaDoorProg
import Derived.Test.YtpeldjihalldkaaDoorRB
import Derived.Deep.DeepCutAuto
import Derived.Deep.CutBlock
import Derived.Lib.TrimUEq
import Derived.Test.YtpeldjihalldkaaDoorRA
namespace Go.Proofs.YtpeldjihalldkaaDoor
open Go

/-- What the document's answer says of the rune at the head of n bytes that begin b0 b1 b2 b3: (0, 0) if there is none. -/
def runeN (m b0 b1 b2 b3 : Nat) : Nat × Nat := if Lib.decodeN m b0 b1 b2 b3 = (65533, 1) then (0, 0) else Lib.decodeN m b0 b1 b2 b3
/-- How many bytes a rune has by its first one, the least that these may stand for, and what the first one brings. -/
def Lead (b0 k least x0 : Nat) : Prop :=
  (k = 0 ∧ ((128 ≤ b0 ∧ b0 < 194) ∨ 245 ≤ b0)) ∨ (k = 2 ∧ least = 128 ∧ (194 ≤ b0 ∧ b0 < 224) ∧ x0 + 192 = b0) ∨
  (k = 3 ∧ least = 2048 ∧ (224 ≤ b0 ∧ b0 < 240) ∧ x0 + 224 = b0) ∨ (k = 4 ∧ least = 65536 ∧ (240 ≤ b0 ∧ b0 < 245) ∧ x0 + 240 = b0)
def accR (x0 : Nat) (B : Nat → Nat) : Nat → Nat
  | 0 => x0
  | j + 1 => 64 * accR x0 B j + B (j + 1) % 64
def Tail (c : Nat) : Prop := 128 ≤ c ∧ c < 192

section
variable {m b0 k least x0 : Nat} {B : Nat → Nat}
theorem runeN_plain (b1 b2 b3 : Nat) (h : b0 < 128) : runeN m b0 b1 b2 b3 = (b0, 1) := by
  unfold runeN Lib.decodeN
  rw [if_pos h, if_neg]
  intro e
  injection e with e _
  omega
theorem runeN_none {b1 b2 b3 : Nat} (h : Lib.decodeN m b0 b1 b2 b3 = (65533, 1)) : runeN m b0 b1 b2 b3 = (0, 0) := if_pos h
set_option maxHeartbeats 1000000 in
theorem runeN_short (h0 : b0 < 256) (h : Lead b0 k least x0) (hk : k = 0 ∨ m < k) (hm : 1 ≤ m) : runeN m b0 (B 1) (B 2) (B 3) = (0, 0) := by
  apply runeN_none
  unfold Lead at h
  unfold Lib.decodeN
  rw [if_neg (by omega)]
  repeat' split
  all_goals first | rfl | (exfalso; omega)
set_option maxHeartbeats 1000000 in
theorem runeN_bad (hB : ∀ j, B j < 256) (h : Lead b0 k least x0) {j : Nat} (h1 : 1 ≤ j) (hj : j < k) (hb : ¬ Tail (B j)) : runeN m b0 (B 1) (B 2) (B 3) = (0, 0) := by
  apply runeN_none
  unfold Lead at h
  unfold Tail at hb
  have hb' : B j / 64 ≠ 2 := by have := hB j; omega
  unfold Lib.decodeN
  rw [if_neg (by omega)]
  rcases (show j = 1 ∨ j = 2 ∨ j = 3 from by omega) with rfl | rfl | rfl
  all_goals
    repeat' split
    all_goals first | rfl | (exfalso; omega)
set_option maxHeartbeats 1000000 in
theorem runeN_end (hB : ∀ j, B j < 256) (h : Lead b0 k least x0) (hk : k ≠ 0) (hm : k ≤ m) (hb : ∀ j, 1 ≤ j → j < k → Tail (B j)) :
    runeN m b0 (B 1) (B 2) (B 3) = if accR x0 B (k - 1) < least ∨ 1114111 < accR x0 B (k - 1) ∨ (55296 ≤ accR x0 B (k - 1) ∧ accR x0 B (k - 1) < 57344) then (0, 0) else (accR x0 B (k - 1), k) := by
  have c1 := hB 1
  have c2 := hB 2
  have c3 := hB 3
  have a1 : accR x0 B 1 = 64 * x0 + B 1 % 64 := rfl
  have a2 : accR x0 B 2 = 64 * (64 * x0 + B 1 % 64) + B 2 % 64 := rfl
  have a3 : accR x0 B 3 = 64 * (64 * (64 * x0 + B 1 % 64) + B 2 % 64) + B 3 % 64 := rfl
  have t1 : 1 < k → Tail (B 1) := hb 1 (by omega)
  have t2 : 2 < k → Tail (B 2) := hb 2 (by omega)
  have t3 : 3 < k → Tail (B 3) := hb 3 (by omega)
  clear hb hB
  unfold Tail at t1 t2 t3
  rcases h with ⟨h1, _⟩ | ⟨rfl, rfl, h3, h4⟩ | ⟨rfl, rfl, h3, h4⟩ | ⟨rfl, rfl, h3, h4⟩
  · exact absurd h1 hk
  · rw [show (2 - 1 : Nat) = 1 from rfl, a1]
    clear a1 a2 a3
    generalize B 1 = b1 at *
    generalize B 2 = b2 at *
    generalize B 3 = b3 at *
    have t1 := t1 (by omega)
    have hD : Lib.decodeN m b0 b1 b2 b3 = if 64 * x0 + b1 % 64 ≥ 128 then (64 * x0 + b1 % 64, 2) else (65533, 1) := by
      unfold Lib.decodeN
      rw [if_neg (by omega), if_pos (by omega), show b0 % 32 * 64 + b1 % 64 = 64 * x0 + b1 % 64 from by omega]
    unfold runeN
    rw [hD]
    clear hD
    repeat' split
    all_goals first | rfl | (exfalso; omega) | (simp only [Prod.mk.injEq] at *; omega)
  · rw [show (3 - 1 : Nat) = 2 from rfl, a2]
    clear a1 a2 a3
    generalize B 1 = b1 at *
    generalize B 2 = b2 at *
    generalize B 3 = b3 at *
    have t1 := t1 (by omega)
    have t2 := t2 (by omega)
    have hD : Lib.decodeN m b0 b1 b2 b3 = if 64 * (64 * x0 + b1 % 64) + b2 % 64 ≥ 2048 ∧ (64 * (64 * x0 + b1 % 64) + b2 % 64 < 55296 ∨ (57344 ≤ 64 * (64 * x0 + b1 % 64) + b2 % 64 ∧ 64 * (64 * x0 + b1 % 64) + b2 % 64 ≤ 1114111)) then (64 * (64 * x0 + b1 % 64) + b2 % 64, 3) else (65533, 1) := by
      unfold Lib.decodeN
      rw [if_neg (by omega), if_neg (by omega), if_pos (by omega), show b0 % 16 * 4096 + b1 % 64 * 64 + b2 % 64 = 64 * (64 * x0 + b1 % 64) + b2 % 64 from by omega]
    unfold runeN
    generalize 64 * (64 * x0 + b1 % 64) + b2 % 64 = v at *
    by_cases hv : v < 2048 ∨ 1114111 < v ∨ (55296 ≤ v ∧ v < 57344)
    · rw [if_neg (by omega)] at hD
      rw [if_pos hv, hD, if_pos rfl]
    · rw [if_pos (by omega)] at hD
      rw [if_neg hv, hD, if_neg (by intro e; injection e with _ e; omega)]
  · rw [show (4 - 1 : Nat) = 3 from rfl, a3]
    clear a1 a2 a3
    generalize B 1 = b1 at *
    generalize B 2 = b2 at *
    generalize B 3 = b3 at *
    have t1 := t1 (by omega)
    have t2 := t2 (by omega)
    have t3 := t3 (by omega)
    have hD : Lib.decodeN m b0 b1 b2 b3 = if 64 * (64 * (64 * x0 + b1 % 64) + b2 % 64) + b3 % 64 ≥ 65536 ∧ (64 * (64 * (64 * x0 + b1 % 64) + b2 % 64) + b3 % 64 < 55296 ∨ (57344 ≤ 64 * (64 * (64 * x0 + b1 % 64) + b2 % 64) + b3 % 64 ∧ 64 * (64 * (64 * x0 + b1 % 64) + b2 % 64) + b3 % 64 ≤ 1114111)) then (64 * (64 * (64 * x0 + b1 % 64) + b2 % 64) + b3 % 64, 4) else (65533, 1) := by
      unfold Lib.decodeN
      rw [if_neg (by omega), if_neg (by omega), if_neg (by omega), if_pos (by omega), show b0 % 8 * 262144 + b1 % 64 * 4096 + b2 % 64 * 64 + b3 % 64 = 64 * (64 * (64 * x0 + b1 % 64) + b2 % 64) + b3 % 64 from by omega]
    unfold runeN
    generalize 64 * (64 * (64 * x0 + b1 % 64) + b2 % 64) + b3 % 64 = v at *
    by_cases hv : v < 65536 ∨ 1114111 < v ∨ (55296 ≤ v ∧ v < 57344)
    · rw [if_neg (by omega)] at hD
      rw [if_pos hv, hD, if_pos rfl]
    · rw [if_pos (by omega)] at hD
      rw [if_neg hv, hD, if_neg (by intro e; injection e with _ e; omega)]
end

/-- The rune at a place of a text; (0, 0): there is none. -/
def runeAt (s : ByteArray) (i : Nat) : Nat × Nat := runeN (s.size - i) (s.get! i).toNat (s.get! (i + 1)).toNat (s.get! (i + 2)).toNat (s.get! (i + 3)).toNat
theorem runeAt_decode (s : ByteArray) (i : Nat) : runeAt s i = if Utf8.decode s i = (65533, 1) then (0, 0) else Utf8.decode s i := by
  rw [Lib.decode_at]
  rfl
end Go.Proofs.YtpeldjihalldkaaDoor

/- The document's answer for layer 3: the rune at a place. -/
namespace Go.Proofs.YtpeldjihalldkaaDoor
open Go Go.RowKit

theorem get_of_lt (s : ByteArray) (k : Nat) (h : k < s.size) : s.get! k = s[k]'h := by
  cases s with
  | mk d => exact getElem!_pos d k h
theorem accR_lt {x0 : Nat} (h : x0 < 32) {B : Nat → Nat} : ∀ j, j ≤ 3 → accR x0 B j < 8388608 := by
  intro j hj
  have e1 : accR x0 B 1 = 64 * x0 + B 1 % 64 := rfl
  have e2 : accR x0 B 2 = 64 * accR x0 B 1 + B 2 % 64 := rfl
  have e3 : accR x0 B 3 = 64 * accR x0 B 2 + B 3 % 64 := rfl
  have e0 : accR x0 B 0 = x0 := rfl
  rcases (show j = 0 ∨ j = 1 ∨ j = 2 ∨ j = 3 from by omega) with rfl | rfl | rfl | rfl <;> omega
def RunePost (w : World) (s : ByteArray) (i : Nat) (e : Ending) (w' : World) : Prop := e = .returned (.tuple #[.int .i64 ((runeAt s i).1 : Nat), .int .i64 ((runeAt s i).2 : Nat)]) ∧ w' = w
set_option maxRecDepth 100000 in
set_option maxHeartbeats 1600000 in
theorem rune_any (w : World) (s : ByteArray) (i : Nat) (hi : i < s.size) (hs : s.size ≤ 9223372036854775000) :
    Calls Tryd.prog 60 #[.string s, .int .i64 (i : Int)] w (RunePost w s i) := by
  obtain ⟨B, hB⟩ : ∃ B : Nat → Nat, B = fun j => (s.get! (i + j)).toNat := ⟨_, rfl⟩
  have hB0 : ∀ j, B j < 256 := by intro j; rw [hB]; exact UInt8.toNat_lt _
  have hget : ∀ (j : Nat) (h : i + j < s.size), ((s[i + j]'h).toNat : Int) = (B j : Int) := by
    intro j h
    rw [hB]
    simp only
    rw [get_of_lt s (i + j) h]
  have hrune : runeAt s i = runeN (s.size - i) (B 0) (B 1) (B 2) (B 3) := by rw [hB]; rfl
  have b0 : ((s[i]'hi).toNat : Int) = (B 0 : Int) := hget 0 hi
  have h0 := hB0 0
  have Hrune := hid hrune
  have HB0 := hid hB0
  have Hget := hid hget
  clear hB hrune hB0 hget
  by_cases hp : B 0 < 128
  · go_enter Tryd.func60, Tryd.ntmps60
    go_wp2_with fail
    go_ret2
    refine ⟨?_, rfl⟩
    rw [Hrune.out, runeN_plain _ _ _ hp]
    rfl
  · go_enter Tryd.func60, Tryd.ntmps60
    go_upto_block 0 with fail
    go_cut [7, 8, 9] (fun vk vl vx wx => wx = w ∧ ∃ k least x0 : Nat, vk = .int .i64 k ∧ vl = .int .i64 least ∧ vx = .int .i64 x0 ∧ Lead (B 0) k least x0)
    case first =>
      rcases (show ((128 ≤ B 0 ∧ B 0 < 194) ∨ 245 ≤ B 0) ∨ (194 ≤ B 0 ∧ B 0 < 224) ∨ (224 ≤ B 0 ∧ B 0 < 240) ∨ (240 ≤ B 0 ∧ B 0 < 245) from by omega) with (hc | hc) | hc | hc | hc
      · obtain ⟨c1, c2⟩ := hc
        go_wp2_with fail
        go_meet
        exact ⟨rfl, 0, 0, 0, rfl, rfl, rfl, .inl ⟨rfl, .inl ⟨c1, c2⟩⟩⟩
      · go_wp2_with fail
        go_meet
        exact ⟨rfl, 0, 0, 0, rfl, rfl, rfl, .inl ⟨rfl, .inr hc⟩⟩
      · obtain ⟨c1, c2⟩ := hc
        go_wp2_with fail
        go_meet
        exact ⟨rfl, 2, 128, B 0 - 192, rfl, rfl, by go_num, .inr (.inl ⟨rfl, rfl, ⟨c1, c2⟩, by omega⟩)⟩
      · obtain ⟨c1, c2⟩ := hc
        go_wp2_with fail
        go_meet
        exact ⟨rfl, 3, 2048, B 0 - 224, rfl, rfl, by go_num, .inr (.inr (.inl ⟨rfl, rfl, ⟨c1, c2⟩, by omega⟩))⟩
      · obtain ⟨c1, c2⟩ := hc
        go_wp2_with fail
        go_meet
        exact ⟨rfl, 4, 65536, B 0 - 240, rfl, rfl, by go_num, .inr (.inr (.inr ⟨rfl, rfl, ⟨c1, c2⟩, by omega⟩))⟩
    case rest =>
      obtain ⟨rfl, k, least, x0, rfl, rfl, rfl, hL⟩ := hcut
      have hk4 : k ≤ 4 := by unfold Lead at hL; omega
      have hx0 : k = 0 ∨ x0 < 32 := by unfold Lead at hL; omega
      have HL := hid hL
      clear hL
      by_cases hsh : k = 0 ∨ s.size - i < k
      · have hsh0 := runeN_short (B := B) h0 HL.out (m := s.size - i) hsh (by omega)
        have Hsh := hid hsh0
        clear hsh0
        by_cases hk0 : k = 0
        · go_wp2_with fail
          go_ret2
          refine ⟨?_, rfl⟩
          rw [Hrune.out, Hsh.out]
          rfl
        · have hlong : s.size < i + k := by omega
          go_wp2_with fail
          go_ret2
          refine ⟨?_, rfl⟩
          rw [Hrune.out, Hsh.out]
          rfl
      · have hk0 : k ≠ 0 := by omega
        have hfit : i + k ≤ s.size := by omega
        have hx1 : x0 < 32 := by omega
        have hfit2 : ¬ ((s.size : Int) < (i : Int) + (k : Int)) := by omega
        have hk1 : (k : Int) ≠ 0 := by omega
        clear hsh hx0
        go_wp2_with fail
        go_loopw [9, 10] (fun x j wr => wr = wc ∧ ∃ t : Nat, 1 ≤ t ∧ t ≤ k ∧ j = .int .i64 t ∧ x = .int .i64 (accR x0 B (t - 1) : Nat) ∧ ∀ u, 1 ≤ u → u < t → Tail (B u)) (fun _ j _ => k - (intOf j).toNat)
        case atStart => exact ⟨rfl, 1, by omega, by omega, rfl, rfl, fun u h1 h2 => by omega⟩
        case round =>
          obtain ⟨rfl, t, ht1, ht2, rfl, rfl, htl⟩ := hrel
          have hacc := accR_lt hx1 (B := B) (t - 1) (by omega)
          by_cases htk : t < k
          · have hfit3 : i + t < s.size := by omega
            have hb := Hget.out t hfit3
            have hbt := HB0.out t
            have hsucc : accR x0 B t = 64 * accR x0 B (t - 1) + B t % 64 := by
              obtain ⟨u, rfl⟩ : ∃ u, t = u + 1 := ⟨t - 1, by omega⟩
              rfl
            obtain ⟨X, hX⟩ : ∃ X, X = accR x0 B (t - 1) := ⟨_, rfl⟩
            rw [← hX] at hacc hsucc ⊢
            have Hsucc := hid hsucc
            have Htl := hid htl
            clear hX hsucc htl
            by_cases hT : Tail (B t)
            · have hT2 := hT
              have HT := hid hT
              unfold Tail at hT2
              clear hT
              obtain ⟨hT3, hT4⟩ := hT2
              go_wp2_with fail
              go_roundw
              case rel =>
                refine ⟨trivial, t + 1, by omega, by omega, by go_num, ?_, fun u h1 h2 => ?_⟩
                · rw [show t + 1 - 1 = t from rfl, Hsucc.out, show ((64 * X + B t % 64 : Nat) : Int) = 64 * (X : Int) + (B t : Int) - 128 from by omega]
                · rcases (show u < t ∨ u = t from by omega) with h | rfl
                  · exact Htl.out u h1 h
                  · exact HT.out
              case measure => simp [intOf]; omega
            · have hbad := runeN_bad (m := s.size - i) HB0.out HL.out ht1 htk hT
              have Hbad := hid hbad
              clear hbad
              by_cases hT3 : B t < 128
              · go_wp2_with fail
                go_ret2
                exact ⟨by rw [Hrune.out, Hbad.out]; rfl, rfl⟩
              · have hT4 : 192 ≤ B t := by unfold Tail at hT; omega
                clear hT
                go_wp2_with fail
                go_ret2
                exact ⟨by rw [Hrune.out, Hbad.out]; rfl, rfl⟩
          · have hend := runeN_end (m := s.size - i) HB0.out HL.out hk0 (by omega) (fun u h1 h2 => htl u h1 (by omega))
            obtain rfl : t = k := by omega
            obtain ⟨X, hX⟩ : ∃ X, X = accR x0 B (t - 1) := ⟨_, rfl⟩
            rw [← hX] at hacc hend ⊢
            rw [← Hrune.out] at hend
            have Hend := hid hend
            clear hX hend htl
            by_cases c1 : X < least
            · have Hr : Hid (runeAt s i = (0, 0)) := by have := Hend.out; rw [if_pos (.inl c1)] at this; exact hid this
              go_wp2_with fail
              go_ret2
              exact ⟨by rw [Hr.out]; rfl, rfl⟩
            · by_cases c2 : 1114111 < X
              · have Hr : Hid (runeAt s i = (0, 0)) := by have := Hend.out; rw [if_pos (.inr (.inl c2))] at this; exact hid this
                go_wp2_with fail
                go_ret2
                exact ⟨by rw [Hr.out]; rfl, rfl⟩
              · by_cases c3 : 55296 ≤ X
                · by_cases c4 : X < 57344
                  · have Hr : Hid (runeAt s i = (0, 0)) := by have := Hend.out; rw [if_pos (.inr (.inr ⟨c3, c4⟩))] at this; exact hid this
                    go_wp2_with fail
                    go_ret2
                    exact ⟨by rw [Hr.out]; rfl, rfl⟩
                  · have Hr : Hid (runeAt s i = (X, t)) := by have := Hend.out; rw [if_neg (by omega)] at this; exact hid this
                    go_wp2_with fail
                    go_ret2
                    exact ⟨by rw [Hr.out]; rfl, rfl⟩
                · have Hr : Hid (runeAt s i = (X, t)) := by have := Hend.out; rw [if_neg (by omega)] at this; exact hid this
                  go_wp2_with fail
                  go_ret2
                  exact ⟨by rw [Hr.out]; rfl, rfl⟩

/-- Whether a text is UTF-8, step by step. -/
theorem valid_step (s : ByteArray) (i g : Nat) (hi : i < s.size) (hg : s.size - i ≤ g) :
    ∃ g', g = g' + 1 ∧ Lib.validGoD g (s.data.toList.drop i) = if (runeAt s i).2 = 0 then false else Lib.validGoD g' (s.data.toList.drop (i + (runeAt s i).2)) := by
  obtain ⟨g', rfl⟩ : ∃ g', g = g' + 1 := ⟨g - 1, by omega⟩
  refine ⟨g', rfl, ?_⟩
  have hne : s.data.toList.drop i ≠ [] := by
    intro h
    have := congrArg List.length h
    rw [List.length_drop, Array.length_toList] at this
    have h2 : s.data.size = s.size := rfl
    simp only [List.length_nil] at this
    omega
  rw [Lib.validGoD, if_neg hne, Lib.decodeL_drop, runeAt_decode]
  have hw := Lib.width_pos s i
  by_cases hd : Utf8.decode s i = (65533, 1)
  · rw [hd]
    rfl
  · rw [if_neg hd, if_neg (fun h => hd (Prod.ext h.1 h.2)), if_neg (by omega), List.drop_drop]
theorem rune_width (s : ByteArray) (i : Nat) (hi : i < s.size) : i + (runeAt s i).2 ≤ s.size := by
  unfold runeAt runeN Lib.decodeN
  repeat' split
  all_goals first | omega | (simp only; omega)

set_option maxHeartbeats 1600000 in
theorem rvalid_any (w : World) (s : ByteArray) (hs : s.size ≤ 9223372036854775000) :
    Calls Tryd.prog 30 #[.string s] w fun e w' => e = .returned (.bool (Lib.validD s.data.toList)) ∧ w' = w := by
  obtain ⟨ANS, hANS⟩ : ∃ ANS, ANS = Lib.validD s.data.toList := ⟨_, rfl⟩
  rw [← hANS]
  have HANS := hid hANS
  clear hANS
  go_enter Tryd.func30, Tryd.ntmps30
  go_wp2_with fail
  go_loopw [3] (fun j wr => wr = w ∧ ∃ i g : Nat, i ≤ s.size ∧ j = .int .i64 i ∧ s.size - i ≤ g ∧ Lib.validGoD g (s.data.toList.drop i) = ANS) (fun j _ => s.size - (intOf j).toNat)
  case atStart => exact ⟨rfl, 0, s.size, by omega, rfl, by omega, by rw [HANS.out]; rfl⟩
  case round =>
    obtain ⟨rfl, i, g, hi, rfl, hg, hv⟩ := hrel
    by_cases hlt : i < s.size
    · obtain ⟨g', rfl, hst⟩ := valid_step s i g hlt hg
      have hwd := rune_width s i hlt
      rw [hv] at hst
      have Hst := hid hst
      clear hst hv
      go_wp2_with fail
      refine (rune_any _ s i hlt hs).mono ?_
      rintro e w2 ⟨rfl, rfl⟩
      obtain ⟨x, hx⟩ : ∃ x, x = (runeAt s i).1 := ⟨_, rfl⟩
      obtain ⟨n, hn⟩ : ∃ n, n = (runeAt s i).2 := ⟨_, rfl⟩
      rw [← hn] at Hst hwd
      rw [← hx, ← hn]
      clear hx hn
      by_cases h0 : n = 0
      · go_wp2_with fail
        go_ret
        exact ⟨by rw [Hst.out, if_pos h0]; rfl, rfl⟩
      · go_wp2_with fail
        go_roundw
        case rel => exact ⟨trivial, i + n, g', by omega, by go_num, by omega, by rw [Hst.out, if_neg h0]⟩
        case measure => simp [intOf]; omega
    · have hnil : s.data.toList.drop i = [] := by
        apply List.drop_eq_nil_of_le
        rw [Array.length_toList]
        show s.size ≤ i
        omega
      rw [hnil] at hv
      have hv2 : ANS = true := by rw [← hv]; cases g <;> rfl
      subst hv2
      go_wp2_with fail
      go_ret
      exact ⟨rfl, rfl⟩
end Go.Proofs.YtpeldjihalldkaaDoor

/- Plain: what was written is read as it was; cut, it is none; what is read is valid. -/
namespace Go.Proofs.YtpeldjihalldkaaDoor
open Go Go.Lib

theorem unq_back (l more : List UInt8) (hv : validD l = true) (hl : l.length ≤ 4096) : unq (quoteL l ++ more) = (l, (quoteL l).length, 0) := by
  show unqGo ((body l ++ [34] ++ more).length + 1) (body l ++ [34] ++ more) [] 1 = _
  rw [List.append_assoc]
  obtain ⟨g, hg, hgo⟩ := unq_body l hv ((body l ++ ([34] ++ more)).length + 1) ([34] ++ more) [] 1 (by rw [List.length_append]; omega)
  rw [hgo]
  rw [List.length_append] at hg
  obtain ⟨g', rfl⟩ : ∃ g', g = g' + 1 := ⟨g - 1, by simp at hg; omega⟩
  show unqGo (g' + 1) (34 :: more) ([] ++ l) (1 + (body l).length) = _
  simp only [unqGo]
  rw [if_pos trivial, if_neg (by rw [List.nil_append]; omega), length_quoteL, List.nil_append]
  congr 2
  omega
/-- A beginning of what is written for a byte, the byte's not whole. -/
theorem cut_byte (c : UInt8) (j : Nat) (hj : j < (qb c).length) (f : Nat) (out : List UInt8) (a : Nat) : unqGo f ((qb c).take j) out a = ([], 0, 6) := by
  cases f with
  | zero => rfl
  | succ f =>
    rcases qb_shape c with ⟨h1, _⟩ | ⟨x, h1, h2, _⟩ | ⟨h1, _⟩
    · rw [h1] at hj ⊢
      have : j = 0 := by simp at hj; omega
      subst this
      rfl
    · rw [h1] at hj ⊢
      have : j = 0 ∨ j = 1 := by simp at hj; omega
      rcases this with rfl | rfl
      · rfl
      · rfl
    · rw [h1] at hj ⊢
      have e1 : simpleE 117 = none := by decide
      have : j = 0 ∨ j = 1 ∨ j = 2 ∨ j = 3 ∨ j = 4 ∨ j = 5 := by simp at hj; omega
      rcases this with rfl | rfl | rfl | rfl | rfl | rfl <;> rfl
theorem unq_cut_body : ∀ l, validD l = true → ∀ (f j : Nat) (out : List UInt8) (a : Nat), j ≤ (body l).length → unqGo f ((body l).take j) out a = ([], 0, 6) := by
  refine valid_ind (fun f j out a _ => by cases f <;> simp [body, unqGo]) ?_
  intro l hne hb hv ih f j out a hj
  have e : l = l.take (wd l) ++ l.drop (wd l) := (List.take_append_drop _ _).symm
  have eb : body l = body (l.take (wd l)) ++ body (l.drop (wd l)) := by rw [← body_append, ← e]
  cases f with
  | zero => rfl
  | succ f =>
  rcases Nat.lt_or_ge 1 (wd l) with h1 | h1
  · have hh := high_bytes (l := l) (by omega)
    rw [body_high _ hh] at eb
    rw [eb] at hj ⊢
    have hlen : (l.take (wd l)).length = wd l := by rw [List.length_take]; have := wd_le l hne; omega
    rw [List.length_append, hlen] at hj
    by_cases hjw : j < wd l
    · rw [List.take_append_of_le_length (by omega), List.take_take, Nat.min_eq_left (by omega)]
      by_cases hj0 : j = 0
      · subst hj0
        rfl
      · have hbad := cut_bad (l := l) (j := j) (by omega) hjw
        obtain ⟨c, t, hct⟩ := List.exists_cons_of_ne_nil (show l.take j ≠ [] from fun h => by
          have := congrArg List.length h
          rw [List.length_take, List.length_nil] at this
          have := List.length_pos_iff.2 hne
          omega)
        have hc : c ∈ l.take (wd l) := by
          have h9 : (l.take j)[0]? = some c := by rw [hct]; rfl
          rw [List.getElem?_take, if_pos (by omega)] at h9
          exact List.mem_of_getElem? (i := 0) (by rw [List.getElem?_take, if_pos (by omega)]; exact h9)
        have hc1 := hh c hc
        rw [hct] at hbad ⊢
        simp only [unqGo]
        rw [if_neg (by rintro rfl; revert hc1; decide), if_neg (by rintro rfl; revert hc1; decide), if_pos (.inl hbad)]
    · obtain ⟨k, rfl⟩ : ∃ k, j = wd l + k := ⟨j - wd l, by omega⟩
      have e2 : (l.take (wd l) ++ body (l.drop (wd l))).take (wd l + k) = l.take (wd l) ++ (body (l.drop (wd l))).take k := by
        rw [List.take_append, hlen, List.take_of_length_le (by omega)]
        congr 2
        omega
      rw [e2]
      obtain ⟨c, t, hct⟩ := List.exists_cons_of_ne_nil (front_ne (m := (body (l.drop (wd l))).take k) hne)
      have hc : c ∈ l.take (wd l) := by
        have h9 : (l.take (wd l) ++ (body (l.drop (wd l))).take k)[0]? = some c := by rw [hct]; rfl
        rw [List.getElem?_append_left (by omega)] at h9
        exact List.mem_of_getElem? h9
      have hc1 := hh c hc
      have hdrop := drop_front (m := (body (l.drop (wd l))).take k) hne
      have hwd := wd_front (m := (body (l.drop (wd l))).take k) hb hne
      rw [hct] at hdrop hwd ⊢
      simp only [unqGo]
      rw [if_neg (by rintro rfl; revert hc1; decide), if_neg (by rintro rfl; revert hc1; decide)]
      by_cases hx : Bad (c :: t) ∨ (decodeL (c :: t)).1 < 32
      · rw [if_pos hx]
      · rw [if_neg hx, hwd, hdrop]
        exact ih f k _ _ (by omega)
  · obtain ⟨c, t, rfl, hc, hd⟩ := low_byte hb (by have := wd_pos l; omega) hne
    have hw : wd (c :: t) = 1 := by unfold wd; rw [hd]
    rw [hw] at ih
    simp only [List.drop_succ_cons, List.drop_zero] at ih
    have e2 : body (c :: t) = qb c ++ body t := rfl
    rw [e2, List.length_append] at hj
    rw [e2]
    by_cases hjq : j < (qb c).length
    · rw [List.take_append_of_le_length (by omega)]
      exact cut_byte c j hjq _ _ _
    · obtain ⟨k, rfl⟩ : ∃ k, j = (qb c).length + k := ⟨j - (qb c).length, by omega⟩
      have e3 : (qb c ++ body t).take ((qb c).length + k) = qb c ++ (body t).take k := by
        rw [List.take_append, List.take_of_length_le (by omega)]
        congr 2
        omega
      rw [e3, unq_byte c hc]
      exact ih f k _ _ (by omega)
theorem unq_cut (l : List UInt8) (hv : validD l = true) (k : Nat) (hk : k < (quoteL l).length) : unq ((quoteL l).take k) = ([], 0, 6) := by
  rw [length_quoteL] at hk
  cases k with
  | zero => rfl
  | succ k =>
    have e : (quoteL l).take (k + 1) = 34 :: (body l).take k := by
      show 34 :: (body l ++ [34]).take k = _
      rw [List.take_append_of_le_length (by omega)]
    rw [e]
    show unqGo (((body l).take k).length + 1) ((body l).take k) [] 1 = _
    exact unq_cut_body l hv _ k [] 1 (by omega)
theorem valid_low : ∀ (a b : List UInt8), (∀ c ∈ a, c.toNat < 128) → validD (a ++ b) = validD b
  | [], _, _ => rfl
  | c :: a, b, h => by
    rw [List.cons_append, validD_cons c _ (h c (by simp))]
    exact valid_low a b (fun d hd => h d (by simp [hd]))
theorem hexB_low (n : Nat) (h : n < 16) : (hexB n).toNat < 128 ∧ 32 ≤ (hexB n).toNat ∧ (hexB n) ≠ 127 := by
  have : ∀ m : Fin 16, (hexB m.val).toNat < 128 ∧ 32 ≤ (hexB m.val).toNat ∧ (hexB m.val) ≠ 127 := by decide
  exact this ⟨n, h⟩
theorem qb_low {c : UInt8} (h : c.toNat < 128) : ∀ x ∈ qb c, x.toNat < 128 := by
  intro x hx
  unfold qb at hx
  repeat' split at hx
  all_goals
    simp only [List.mem_cons, List.not_mem_nil, or_false] at hx
  · rcases hx with rfl | rfl
    · decide
    · exact h
  · rcases hx with rfl | rfl <;> decide
  · rcases hx with rfl | rfl <;> decide
  · rcases hx with rfl | rfl <;> decide
  · rcases hx with rfl | rfl | rfl | rfl | rfl | rfl
    · decide
    · decide
    · decide
    · decide
    · exact (hexB_low _ (by omega)).1
    · exact (hexB_low _ (by omega)).1
  · rw [hx]; exact h
theorem valid_body : ∀ l, validD l = true → ∀ m, validD (body l ++ m) = validD m := by
  refine valid_ind (fun m => rfl) ?_
  intro l hne hb hv ih m
  have e : l = l.take (wd l) ++ l.drop (wd l) := (List.take_append_drop _ _).symm
  have eb : body l = body (l.take (wd l)) ++ body (l.drop (wd l)) := by rw [← body_append, ← e]
  rcases Nat.lt_or_ge 1 (wd l) with h1 | h1
  · have hh := high_bytes (l := l) (by omega)
    rw [body_high _ hh] at eb
    rw [eb, List.append_assoc, valid_front hb hne, ih]
  · obtain ⟨c, t, rfl, hc, hd⟩ := low_byte hb (by have := wd_pos l; omega) hne
    have hw : wd (c :: t) = 1 := by unfold wd; rw [hd]
    rw [hw] at ih
    simp only [List.drop_succ_cons, List.drop_zero] at ih
    have e2 : body (c :: t) = qb c ++ body t := rfl
    rw [e2, List.append_assoc, valid_low _ _ (qb_low hc), ih]
theorem valid_quote (l : List UInt8) (hv : validD l = true) : validD (quoteL l) = true := by
  unfold quoteL
  rw [validD_cons 34 _ (by decide), valid_body l hv]
  decide

/-! What any text is read as -/
theorem encode_decode2 (x : Nat) (h : x < 55296 ∨ (57344 ≤ x ∧ x ≤ 1114111)) (m : List UInt8) : ¬ Bad (encodeRune (x : Int) ++ m) ∧ wd (encodeRune (x : Int) ++ m) = (encodeRune (x : Int)).length ∧ encodeRune (x : Int) ≠ [] := by
  rcases (show x < 128 ∨ (128 ≤ x ∧ x < 2048) ∨ ((2048 ≤ x ∧ x < 55296) ∨ (57344 ≤ x ∧ x ≤ 65535)) ∨ (65536 ≤ x ∧ x ≤ 1114111) from by omega) with h1 | h1 | h1 | h1
  · rw [encode_low h1]
    have hd : decodeL ([UInt8.ofNat x] ++ m) = (x, 1) := by
      have := decodeL_ascii (UInt8.ofNat x) m (by simp; omega)
      rw [List.singleton_append, this]
      congr 1
      simp
      omega
    unfold Bad wd
    rw [hd]
    exact ⟨by dsimp only; omega, rfl, by simp⟩
  · have e : encodeRune (x : Int) = [UInt8.ofNat (192 + x / 64), UInt8.ofNat (128 + x % 64)] := by
      unfold encodeRune
      rw [encodeRuneZ_two (by omega) (by omega)]
      simp only [List.map_cons, List.map_nil]
      rw [show (192 + (x : Int) / 64).toNat = 192 + x / 64 by omega, show (128 + (x : Int) % 64).toNat = 128 + x % 64 by omega]
    rw [e]
    have hd : decodeL ([UInt8.ofNat (192 + x / 64), UInt8.ofNat (128 + x % 64)] ++ m) = (x, 2) := by
      rw [decodeL_N]
      have a0 : (([UInt8.ofNat (192 + x / 64), UInt8.ofNat (128 + x % 64)] ++ m).getD 0 0).toNat = 192 + x / 64 := by simp; omega
      have a1 : (([UInt8.ofNat (192 + x / 64), UInt8.ofNat (128 + x % 64)] ++ m).getD 1 0).toNat = 128 + x % 64 := by simp; omega
      rw [a0, a1, decodeN_mk2 (by omega) (by simp) (by omega) (by omega)]
      refine Prod.ext ?_ rfl
      dsimp only
      omega
    unfold Bad wd
    rw [hd]
    exact ⟨by dsimp only; omega, rfl, by simp⟩
  · have e : encodeRune (x : Int) = [UInt8.ofNat (224 + x / 4096), UInt8.ofNat (128 + x / 64 % 64), UInt8.ofNat (128 + x % 64)] := by
      unfold encodeRune
      rw [encodeRuneZ_three (by omega)]
      simp only [List.map_cons, List.map_nil]
      rw [show (224 + (x : Int) / 4096).toNat = 224 + x / 4096 by omega, show (128 + (x : Int) / 64 % 64).toNat = 128 + x / 64 % 64 by omega, show (128 + (x : Int) % 64).toNat = 128 + x % 64 by omega]
    rw [e]
    have hd : decodeL ([UInt8.ofNat (224 + x / 4096), UInt8.ofNat (128 + x / 64 % 64), UInt8.ofNat (128 + x % 64)] ++ m) = (x, 3) := by
      rw [decodeL_N]
      have a0 : (([UInt8.ofNat (224 + x / 4096), UInt8.ofNat (128 + x / 64 % 64), UInt8.ofNat (128 + x % 64)] ++ m).getD 0 0).toNat = 224 + x / 4096 := by simp; omega
      have a1 : (([UInt8.ofNat (224 + x / 4096), UInt8.ofNat (128 + x / 64 % 64), UInt8.ofNat (128 + x % 64)] ++ m).getD 1 0).toNat = 128 + x / 64 % 64 := by simp; omega
      have a2 : (([UInt8.ofNat (224 + x / 4096), UInt8.ofNat (128 + x / 64 % 64), UInt8.ofNat (128 + x % 64)] ++ m).getD 2 0).toNat = 128 + x % 64 := by simp; omega
      rw [a0, a1, a2, decodeN_mk3 (by omega) (by simp) (by omega) (by omega) (by omega) (by omega)]
      refine Prod.ext ?_ rfl
      dsimp only
      omega
    unfold Bad wd
    rw [hd]
    exact ⟨by dsimp only; omega, rfl, by simp⟩
  · have e : encodeRune (x : Int) = [UInt8.ofNat (240 + x / 262144), UInt8.ofNat (128 + x / 4096 % 64), UInt8.ofNat (128 + x / 64 % 64), UInt8.ofNat (128 + x % 64)] := by
      unfold encodeRune
      rw [encodeRuneZ_four (by omega) (by omega)]
      simp only [List.map_cons, List.map_nil]
      rw [show (240 + (x : Int) / 262144).toNat = 240 + x / 262144 by omega, show (128 + (x : Int) / 4096 % 64).toNat = 128 + x / 4096 % 64 by omega, show (128 + (x : Int) / 64 % 64).toNat = 128 + x / 64 % 64 by omega, show (128 + (x : Int) % 64).toNat = 128 + x % 64 by omega]
    rw [e]
    have hd : decodeL ([UInt8.ofNat (240 + x / 262144), UInt8.ofNat (128 + x / 4096 % 64), UInt8.ofNat (128 + x / 64 % 64), UInt8.ofNat (128 + x % 64)] ++ m) = (x, 4) := by
      rw [decodeL_N]
      have a0 : (([UInt8.ofNat (240 + x / 262144), UInt8.ofNat (128 + x / 4096 % 64), UInt8.ofNat (128 + x / 64 % 64), UInt8.ofNat (128 + x % 64)] ++ m).getD 0 0).toNat = 240 + x / 262144 := by simp; omega
      have a1 : (([UInt8.ofNat (240 + x / 262144), UInt8.ofNat (128 + x / 4096 % 64), UInt8.ofNat (128 + x / 64 % 64), UInt8.ofNat (128 + x % 64)] ++ m).getD 1 0).toNat = 128 + x / 4096 % 64 := by simp; omega
      have a2 : (([UInt8.ofNat (240 + x / 262144), UInt8.ofNat (128 + x / 4096 % 64), UInt8.ofNat (128 + x / 64 % 64), UInt8.ofNat (128 + x % 64)] ++ m).getD 2 0).toNat = 128 + x / 64 % 64 := by simp; omega
      have a3 : (([UInt8.ofNat (240 + x / 262144), UInt8.ofNat (128 + x / 4096 % 64), UInt8.ofNat (128 + x / 64 % 64), UInt8.ofNat (128 + x % 64)] ++ m).getD 3 0).toNat = 128 + x % 64 := by simp; omega
      rw [a0, a1, a2, a3, decodeN_mk4 (by omega) (by simp) (by omega) (by omega) (by omega) (by omega) (by omega)]
      refine Prod.ext ?_ rfl
      dsimp only
      omega
    unfold Bad wd
    rw [hd]
    exact ⟨by dsimp only; omega, rfl, by simp⟩
theorem valid_encode (x : Nat) (h : x < 55296 ∨ (57344 ≤ x ∧ x ≤ 1114111)) : validD (encodeRune (x : Int)) = true := by
  obtain ⟨h1, h2, h3⟩ := encode_decode2 x h []
  rw [List.append_nil] at h1 h2
  rw [valid_yes h1 h3, h2, List.drop_length]
  rfl
theorem hexV_lt {c : UInt8} {x : Nat} (h : hexV c = some x) : x < 16 := by
  unfold hexV at h
  repeat' split at h
  all_goals first
    | (injection h with h; omega)
    | cases h
theorem four_lt {l : List UInt8} {x : Nat} (h : four l = some x) : x < 65536 ∧ 4 ≤ l.length := by
  unfold four at h
  split at h
  · rename_i a b c d t
    split at h
    · rename_i x1 x2 x3 x4 e1 e2 e3 e4
      injection h with h
      have := hexV_lt e1
      have := hexV_lt e2
      have := hexV_lt e3
      have := hexV_lt e4
      exact ⟨by omega, by simp⟩
    · cases h
  · cases h
theorem unitL_lt {l : List UInt8} {x : Nat} (h : unitL l = some x) : x < 65536 ∧ 6 ≤ l.length := by
  unfold unitL at h
  split at h
  · rename_i a b t
    split at h
    · have := four_lt h
      exact ⟨this.1, by simp; omega⟩
    · cases h
  · cases h
theorem simpleE_lt {c : UInt8} {x : Nat} (h : simpleE c = some x) : x < 128 := by
  unfold simpleE at h
  repeat' split at h
  all_goals first
    | (injection h with h; omega)
    | cases h
/-- An escape's rune is one, and it lies within the text. -/
theorem escL_in {l : List UInt8} {r n : Nat} (h : escL l = some (r, n)) : (r < 55296 ∨ (57344 ≤ r ∧ r ≤ 1114111)) ∧ 2 ≤ n ∧ n ≤ l.length := by
  unfold escL at h
  split at h
  · rename_i a c t
    split at h
    · rename_i x hx
      injection h with h
      injection h with h1 h2
      have := simpleE_lt hx
      exact ⟨by omega, by omega, by simp; omega⟩
    · split at h
      · cases h
      · rename_i x hx
        have hu := unitL_lt hx
        split at h
        · cases h
        · rename_i h55
          split at h
          · rename_i h54
            injection h with h
            injection h with h1 h2
            exact ⟨by omega, by omega, by omega⟩
          · split at h
            · rename_i y hy
              have hv := unitL_lt hy
              rw [List.length_drop] at hv
              split at h
              · injection h with h
                injection h with h1 h2
                exact ⟨by omega, by omega, by omega⟩
              · cases h
            · cases h
  · cases h
/-- What reading gives of any text. -/
def Fine (k : Nat) (r : List UInt8 × Nat × Int) : Prop := (r.2.2 = 0 → validD r.1 = true ∧ 2 ≤ r.2.1 ∧ r.2.1 ≤ k) ∧ (r.2.2 ≠ 0 → r.2.1 = 0 ∧ r.1 = []) ∧ (r.2.2 = 0 ∨ r.2.2 = 3 ∨ r.2.2 = 6) ∧ r.1.length ≤ 4096
theorem fine_no (k : Nat) (e : Int) (h : e = 3 ∨ e = 6) : Fine k ([], 0, e) := by
  unfold Fine
  dsimp only
  exact ⟨fun h0 => by omega, fun _ => ⟨rfl, rfl⟩, by omega, by simp⟩
theorem unqGo_fine : ∀ (f : Nat) (l out : List UInt8) (a k : Nat), validD out = true → 1 ≤ a → a + l.length ≤ k → Fine k (unqGo f l out a)
  | 0, _, _, _, k, _, _, _ => fine_no k 6 (.inr rfl)
  | f + 1, [], _, _, k, _, _, _ => fine_no k 6 (.inr rfl)
  | f + 1, c :: t, out, a, k, hv, ha, hk => by
    simp only [unqGo]
    split
    · split
      · exact fine_no k 3 (.inl rfl)
      · refine ⟨fun _ => ⟨hv, ?_, ?_⟩, fun h => absurd rfl h, .inl rfl, ?_⟩
        · show 2 ≤ a + 1
          omega
        · show a + 1 ≤ k
          simp only [List.length_cons] at hk
          omega
        · show out.length ≤ 4096
          omega
    · split
      · split
        · exact fine_no k 6 (.inr rfl)
        · rename_i r n he
          obtain ⟨h1, h2, h3⟩ := escL_in he
          refine unqGo_fine f _ _ _ k ?_ (by omega) (by rw [List.length_drop]; omega)
          rw [valid_append out hv, valid_encode r h1]
      · split
        · exact fine_no k 6 (.inr rfl)
        · rename_i hb
          have hb' : ¬ Bad (c :: t) := fun h => hb (.inl h)
          have hw := wd_le (c :: t) (by simp)
          refine unqGo_fine f _ _ _ k ?_ (by omega) (by rw [List.length_drop]; omega)
          rw [valid_append out hv]
          have := valid_front (m := []) hb' (by simp)
          rw [List.append_nil] at this
          rw [this]
          rfl
theorem unq_fine (l : List UInt8) : Fine l.length (unq l) := by
  unfold unq
  split
  · exact fine_no _ 6 (.inr rfl)
  · split
    · exact unqGo_fine _ _ _ _ _ rfl (by omega) (by simp; omega)
    · exact fine_no _ 6 (.inr rfl)
end Go.Proofs.YtpeldjihalldkaaDoor

