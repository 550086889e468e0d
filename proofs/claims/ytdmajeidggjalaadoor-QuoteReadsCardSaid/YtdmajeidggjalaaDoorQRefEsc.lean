/- The document's answer for layer 3: four digits, a rune's bytes, what stands behind a backslash. -/
import Derived.Test.YtdmajeidggjalaaDoorQUnit
import Derived.Test.YtdmajeidggjalaaDoorQRefQuote
import Derived.Test.YtdmajeidggjalaaDoorText
import Derived.Deep.Cut
namespace Go.Proofs.YtdmajeidggjalaaDoor
open Go Go.RowKit

def fourV (o : Option Nat) : Int := match o with | some x => (x : Int) | none => -1
theorem four_fold {l : List UInt8} (h : 4 ≤ l.length) : four l = fourG 0 (l.take 4) := by
  obtain ⟨a, b, c, d, t, rfl⟩ : ∃ a b c d t, l = a :: b :: c :: d :: t := by
    rcases l with _ | ⟨a, _ | ⟨b, _ | ⟨c, _ | ⟨d, t⟩⟩⟩⟩
    all_goals first | exact ⟨_, _, _, _, _, rfl⟩ | (simp at h)
  rw [four_G]
  rfl
theorem four_short {l : List UInt8} (h : l.length < 4) : four l = none := by
  cases hu : four l with
  | none => rfl
  | some x => have := (four_lt hu).2; omega
theorem hexV_some {c : UInt8} {v : Nat} (h : (48 ≤ c.toNat ∧ c.toNat ≤ 57 ∧ v = c.toNat - 48) ∨ (97 ≤ c.toNat ∧ c.toNat ≤ 102 ∧ v = c.toNat - 87) ∨ (65 ≤ c.toNat ∧ c.toNat ≤ 70 ∧ v = c.toNat - 55)) : hexV c = some v := by
  unfold hexV
  rcases h with ⟨h1, h2, rfl⟩ | ⟨h1, h2, rfl⟩ | ⟨h1, h2, rfl⟩
  · rw [if_pos ⟨h1, h2⟩]
  · rw [if_neg (by omega), if_pos ⟨h1, h2⟩]
  · rw [if_neg (by omega), if_neg (by omega), if_pos ⟨h1, h2⟩]
theorem hexV_none {c : UInt8} (h : c.toNat < 48 ∨ (58 ≤ c.toNat ∧ c.toNat < 65) ∨ (71 ≤ c.toNat ∧ c.toNat < 97) ∨ 103 ≤ c.toNat) : hexV c = none := by
  unfold hexV
  rw [if_neg (by omega), if_neg (by omega), if_neg (by omega)]
set_option maxRecDepth 100000 in
set_option maxHeartbeats 3200000 in
theorem rfour_any (w : World) (s : ByteArray) (p : Nat) (hs : s.size ≤ 100000000) (hp : p ≤ 100000100) : Calls Tryd.prog 39 #[.string s, .int .i64 (p : Int)] w fun e w' => e = .returned (.int .i64 (fourV (four (s.data.toList.drop p)))) ∧ w' = w := by
  obtain ⟨L, hL⟩ : ∃ L, L = s.data.toList := ⟨_, rfl⟩
  have hlen : L.length = s.size := by rw [hL, Array.length_toList]; rfl
  have hget : ∀ (i : Nat) (h : i < s.size), s[i]'h = L[i]'(by omega) := fun i h => by subst hL; rfl
  rw [← hL]
  clear hL
  by_cases h4 : s.size < p + 4
  · have hf := hid (four_short (l := L.drop p) (by rw [List.length_drop]; omega))
    clear hget
    go_enter Tryd.func39, Tryd.ntmps39
    go_wp2_with fail
    go_ret
    exact ⟨by rw [hf.out]; rfl, rfl⟩
  · obtain ⟨D, hD⟩ : ∃ D, D = (L.drop p).take 4 := ⟨_, rfl⟩
    have hf : four (L.drop p) = fourG 0 D := by rw [hD]; exact four_fold (by rw [List.length_drop]; omega)
    have hDl : D.length = 4 := by rw [hD, List.length_take, List.length_drop]; omega
    have hDg : ∀ j (h : j < 4), D[j]'(by omega) = L[p + j]'(by omega) := fun j h => by subst hD; simp
    obtain ⟨F, hF⟩ : ∃ F, F = four (L.drop p) := ⟨_, rfl⟩
    rw [← hF] at hf ⊢
    have Hget := hid hget
    have HDg := hid hDg
    have HD := hid hD
    have Hf := hid hf
    clear hget hDg hf hF hD
    go_enter Tryd.func39, Tryd.ntmps39
    go_wp2_with fail
    go_loopw [5, 6] (fun vx vi wr => wr = w ∧ ∃ j x : Nat, vi = .int .i64 ((p + j : Nat) : Int) ∧ vx = .int .i64 (x : Int) ∧ j ≤ 4 ∧ x < 16 ^ j ∧ fourG x (D.drop j) = F) (fun _ vi _ => p + 4 - (intOf vi).toNat)
    case atStart => exact ⟨rfl, 0, 0, rfl, rfl, by omega, by decide, Hf.out.symm⟩
    case round =>
      obtain ⟨hwr, j, x, rfl, rfl, hj, hx, hF⟩ := hrel
      have hwr2 := hwr.symm
      subst hwr2
      have hx6 : x < 65536 := Nat.lt_of_lt_of_le hx (show 16 ^ j ≤ 16 ^ 4 from Nat.pow_le_pow_right (by decide) hj)
      by_cases hlt : j < 4
      · have hcons : D.drop j = D[j]'(by omega) :: D.drop (j + 1) := List.drop_eq_getElem_cons (by omega)
        have hcL := HDg.out j hlt
        have hg := Hget.out (p + j) (by omega)
        obtain ⟨c, hc⟩ : ∃ c, c = D[j]'(by omega) := ⟨_, rfl⟩
        rw [← hc] at hcL hcons
        rw [hcons] at hF
        obtain ⟨m, hm⟩ : ∃ m, m = c.toNat := ⟨_, rfl⟩
        have hm2 : m < 256 := by rw [hm]; exact c.toNat_lt
        have hgm : ∀ h : p + j < s.size, (s[p + j]'h).toNat = m := fun h => by rw [hg, ← hcL, hm]
        have HF := hid hF
        have Hm := hid hm
        have hpw : 16 ^ (j + 1) = 16 ^ j * 16 := Nat.pow_succ 16 j
        have Hx := hid (And.intro hx hpw)
        clear hcons hcL hg hc hF hm hx hpw
        rcases (show (∃ v, v < 16 ∧ 48 ≤ m ∧ m ≤ 57 ∧ v = m - 48) ∨ (∃ v, v < 16 ∧ 97 ≤ m ∧ m ≤ 102 ∧ v = m - 87) ∨ (∃ v, v < 16 ∧ 65 ≤ m ∧ m ≤ 70 ∧ v = m - 55) ∨ m < 48 ∨ (58 ≤ m ∧ m < 65) ∨ (71 ≤ m ∧ m < 97) ∨ 103 ≤ m from by
          rcases (show (48 ≤ m ∧ m ≤ 57) ∨ (97 ≤ m ∧ m ≤ 102) ∨ (65 ≤ m ∧ m ≤ 70) ∨ m < 48 ∨ (58 ≤ m ∧ m < 65) ∨ (71 ≤ m ∧ m < 97) ∨ 103 ≤ m from by omega) with h | h | h | h
          · exact .inl ⟨_, by omega, h.1, h.2, rfl⟩
          · exact .inr (.inl ⟨_, by omega, h.1, h.2, rfl⟩)
          · exact .inr (.inr (.inl ⟨_, by omega, h.1, h.2, rfl⟩))
          · exact .inr (.inr (.inr h))) with ⟨v, hv, h1, h2, h3⟩ | ⟨v, hv, h1, h2, h3⟩ | ⟨v, hv, h1, h2, h3⟩ | h | ⟨h, h2⟩ | ⟨h, h2⟩ | h
        case' inl => have hh : hexV c = some v := hexV_some (.inl ⟨by rw [← Hm.out]; omega, by rw [← Hm.out]; omega, by rw [← Hm.out]; exact h3⟩)
        case' inr.inl => have hh : hexV c = some v := hexV_some (.inr (.inl ⟨by rw [← Hm.out]; omega, by rw [← Hm.out]; omega, by rw [← Hm.out]; exact h3⟩))
        case' inr.inr.inl => have hh : hexV c = some v := hexV_some (.inr (.inr ⟨by rw [← Hm.out]; omega, by rw [← Hm.out]; omega, by rw [← Hm.out]; exact h3⟩))
        iterate 3
          · have HF2 : Hid (fourG (x * 16 + v) (D.drop (j + 1)) = F) := by
              have h9 := HF.out
              simp only [fourG, hh] at h9
              exact hid h9
            have Hv := hid h3
            clear hh h3
            go_wp2_with fail
            go_roundw
            case rel =>
              refine ⟨trivial, j + 1, x * 16 + v, by go_num, ?_, by omega, ?_, HF2.out⟩
              · have := Hv.out
                go_num
              · have := Hx.out
                omega
            case measure => simp [intOf]; omega
        all_goals
          have hh : hexV c = none := hexV_none (by rw [← Hm.out]; omega)
          have HF2 : Hid (F = none) := by
            have h9 := HF.out
            simp only [fourG, hh] at h9
            exact hid h9.symm
          clear hh
          go_wp2_with fail
          go_ret
          exact ⟨by rw [HF2.out]; rfl, rfl⟩
      · have hj4 : j = 4 := by omega
        have HF2 : Hid (F = some x) := by
          rw [List.drop_eq_nil_of_le (by omega)] at hF
          exact hid hF.symm
        clear hF hx
        go_wp2_with fail
        go_ret
        exact ⟨by rw [HF2.out]; rfl, rfl⟩
theorem enc_toNat {n : Nat} (h : n < 256) : (UInt8.ofNat n).toNat = n := by rw [UInt8.toNat_ofNat']; omega
theorem lits : ∀ {l : List UInt8} {ns : List Nat}, l = ns.map UInt8.ofNat → (∀ n ∈ ns, n < 256) → u8s l = ns.map fun (n : Nat) => Value.int .u8 (n : Int) := by
  intro l ns h hn
  subst h
  unfold u8s
  rw [List.map_map]
  apply List.map_congr_left
  intro n hm
  show u8 (UInt8.ofNat n) = _
  unfold u8
  rw [enc_toNat (hn n hm)]
/-- A rune's bytes. -/
theorem enc_two {x : Nat} (h0 : 128 ≤ x) (h1 : x ≤ 2047) : Lib.encodeRune (x : Int) = [192 + x / 64, 128 + x % 64].map UInt8.ofNat := by
  unfold Lib.encodeRune
  rw [Lib.encodeRuneZ_two (by omega) (by omega)]
  simp only [List.map_cons, List.map_nil, Nat.toUInt8]
  have e1 : (192 + (x : Int) / 64).toNat = 192 + x / 64 := by omega
  have e2 : (128 + (x : Int) % 64).toNat = 128 + x % 64 := by omega
  rw [e1, e2]
theorem enc_three {x : Nat} (h : (2048 ≤ x ∧ x < 55296) ∨ (57343 < x ∧ x ≤ 65535)) : Lib.encodeRune (x : Int) = [224 + x / 4096, 128 + x / 64 % 64, 128 + x % 64].map UInt8.ofNat := by
  unfold Lib.encodeRune
  rw [Lib.encodeRuneZ_three (by omega)]
  simp only [List.map_cons, List.map_nil, Nat.toUInt8]
  have e1 : (224 + (x : Int) / 4096).toNat = 224 + x / 4096 := by omega
  have e2 : (128 + (x : Int) / 64 % 64).toNat = 128 + x / 64 % 64 := by omega
  have e3 : (128 + (x : Int) % 64).toNat = 128 + x % 64 := by omega
  rw [e1, e2, e3]
theorem enc_four {x : Nat} (h0 : 65536 ≤ x) (h1 : x ≤ 1114111) : Lib.encodeRune (x : Int) = [240 + x / 262144, 128 + x / 4096 % 64, 128 + x / 64 % 64, 128 + x % 64].map UInt8.ofNat := by
  unfold Lib.encodeRune
  rw [Lib.encodeRuneZ_four (by omega) (by omega)]
  simp only [List.map_cons, List.map_nil, Nat.toUInt8]
  have e1 : (240 + (x : Int) / 262144).toNat = 240 + x / 262144 := by omega
  have e4 : (128 + (x : Int) / 4096 % 64).toNat = 128 + x / 4096 % 64 := by omega
  have e2 : (128 + (x : Int) / 64 % 64).toNat = 128 + x / 64 % 64 := by omega
  have e3 : (128 + (x : Int) % 64).toNat = 128 + x % 64 := by omega
  rw [e1, e2, e3, e4]
theorem text_lit (w : World) (ns : List Nat) (l : List UInt8) (k : Nat) (hk : ns.length = k) (xs : List Value) (hxs : xs = ns.map fun (n : Nat) => Value.int .u8 (n : Int)) (h : l = ns.map UInt8.ofNat) (hn : ∀ n ∈ ns, n < 256) :
    (convert 37 9 (.slice (some ⟨w.heap.size, 0, none⟩) k k)).run Tryd.prog (w.alloc (.cells xs.toArray 5)) = .ok (.string ⟨l.toArray⟩) (w.alloc (.cells xs.toArray 5)) :=
  run_text (P := Tryd.prog) (src := 37) (e := 5) (dst := 9) Tryd.underlying37 Tryd.underlying5 Tryd.underlying9 (span_lit l (by rw [hxs]; exact lits h hn)) k k (by rw [h, List.length_map]; exact hk)
set_option maxRecDepth 100000 in
set_option maxHeartbeats 3200000 in
theorem rwrite_any (w : World) (x : Nat) (hx : x < 55296 ∨ (57344 ≤ x ∧ x ≤ 1114111)) : Calls Tryd.prog 40 #[.int .i64 (x : Int)] w fun e w' => e = .returned (.string ⟨(Lib.encodeRune (x : Int)).toArray⟩) ∧ Kp [] w w' := by
  obtain ⟨l, hl⟩ : ∃ l, l = Lib.encodeRune (x : Int) := ⟨_, rfl⟩
  rw [← hl]
  rcases (show x < 128 ∨ (128 ≤ x ∧ x ≤ 2047) ∨ ((2048 ≤ x ∧ x < 55296) ∨ (57343 < x ∧ x ≤ 65535)) ∨ (65536 ≤ x ∧ x ≤ 1114111) from by omega) with h | ⟨h0, h1⟩ | h | ⟨h0, h1⟩
  · rw [encode_low h] at hl
    have htx := text_lit w [x] l 1 rfl [.int .u8 (x : Int)] rfl hl (by intro n hn; simp at hn; omega)
    clear hl
    go_enter Tryd.func40, Tryd.ntmps40
    go_wp2_with fail
    go_ret
    exact ⟨rfl, (Kp.refl _ _).alloc _⟩
  · rw [enc_two h0 h1] at hl
    have htx := text_lit w [192 + x / 64, 128 + x % 64] l 2 rfl [.int .u8 (192 + (x : Int) / 64), .int .u8 (128 + (x : Int) % 64)] (by simp) hl (by intro n hn; simp at hn; omega)
    clear hl hx
    go_enter Tryd.func40, Tryd.ntmps40
    go_wp2_with fail
    go_ret
    exact ⟨rfl, (Kp.refl _ _).alloc _⟩
  · rw [enc_three h] at hl
    have htx := text_lit w [224 + x / 4096, 128 + x / 64 % 64, 128 + x % 64] l 3 rfl [.int .u8 (224 + (x : Int) / 4096), .int .u8 (128 + (x : Int) / 64 % 64), .int .u8 (128 + (x : Int) % 64)] (by simp) hl (by intro n hn; simp at hn; omega)
    have t1 : decide ((x : Int) < 128) = false := by simp; omega
    have t2 : decide ((x : Int) < 2048) = false := by simp; omega
    have t3 : decide ((x : Int) < 65536) = true := by simp; omega
    have b1 : (2048 : Int) ≤ (x : Int) := by omega
    have b2 : (x : Int) ≤ 65535 := by omega
    clear hl hx h
    go_enter Tryd.func40, Tryd.ntmps40
    go_wp2_with fail
    go_ret
    exact ⟨rfl, (Kp.refl _ _).alloc _⟩
  · rw [enc_four h0 h1] at hl
    have htx := text_lit w [240 + x / 262144, 128 + x / 4096 % 64, 128 + x / 64 % 64, 128 + x % 64] l 4 rfl [.int .u8 (240 + (x : Int) / 262144), .int .u8 (128 + (x : Int) / 4096 % 64), .int .u8 (128 + (x : Int) / 64 % 64), .int .u8 (128 + (x : Int) % 64)] (by simp) hl (by intro n hn; simp at hn; omega)
    have t1 : decide ((x : Int) < 128) = false := by simp; omega
    have t2 : decide ((x : Int) < 2048) = false := by simp; omega
    have t3 : decide ((x : Int) < 65536) = false := by simp; omega
    have b1 : (65536 : Int) ≤ (x : Int) := by omega
    have b2 : (x : Int) ≤ 1114111 := by omega
    clear hl hx h0 h1
    go_enter Tryd.func40, Tryd.ntmps40
    go_wp2_with fail
    go_ret
    exact ⟨rfl, (Kp.refl _ _).alloc _⟩
end Go.Proofs.YtdmajeidggjalaaDoor
