/- quote.unit: the number of four hexadecimal digits behind \u. -/
import Derived.Test.YtgjffkblhhkjmaaDoorQValid
import Derived.Test.YtgjffkblhhkjmaaDoorQBackLaw
import Derived.Test.YtgjffkblhhkjmaaDoorQCut
import Derived.Lib.ConvBytes
import Derived.Laws.Shifts
namespace Go.Proofs.YtgjffkblhhkjmaaDoor
open Go Go.RowKit

def fourG (x : Nat) : List UInt8 → Option Nat
  | [] => some x
  | c :: t => match hexV c with
    | some v => fourG (x * 16 + v) t
    | none => none
theorem four_G (a b c d : UInt8) (t : List UInt8) : four (a :: b :: c :: d :: t) = fourG 0 [a, b, c, d] := by
  simp only [four, fourG]
  cases hexV a <;> cases hexV b <;> cases hexV c <;> cases hexV d <;> simp
theorem unit_G {l : List UInt8} (h6 : 6 ≤ l.length) (h2 : l.take 2 = [92, 117]) : unitL l = fourG 0 ((l.drop 2).take 4) := by
  obtain ⟨a, b, c, d, e, f, t, rfl⟩ : ∃ a b c d e f t, l = a :: b :: c :: d :: e :: f :: t := by
    rcases l with _ | ⟨a, _ | ⟨b, _ | ⟨c, _ | ⟨d, _ | ⟨e, _ | ⟨f, t⟩⟩⟩⟩⟩⟩
    all_goals first | exact ⟨_, _, _, _, _, _, _, rfl⟩ | (simp at h6)
  simp only [List.take_succ_cons, List.take_zero, List.cons.injEq, and_true] at h2
  obtain ⟨rfl, rfl⟩ := h2
  show unitL (92 :: 117 :: c :: d :: e :: f :: t) = _
  simp only [unitL]
  rw [if_pos ⟨trivial, trivial⟩, four_G]
  rfl
theorem unit_short {l : List UInt8} (h : l.length < 6) : unitL l = none := by
  cases hu : unitL l with
  | none => rfl
  | some x => have := (unitL_lt hu).2; omega
theorem unit_other {l : List UInt8} (h : l.take 2 ≠ [92, 117]) : unitL l = none := by
  rcases l with _ | ⟨a, _ | ⟨b, t⟩⟩
  · rfl
  · rfl
  · show (if a = 92 ∧ b = 117 then four t else none) = none
    rw [if_neg]
    rintro ⟨rfl, rfl⟩
    exact h rfl
theorem qkp_bytes (w : World) (s : ByteArray) : Kp [] w (Lib.bytesWorld w 5 s) := by
  refine ⟨rfl, rfl, rfl, by rw [Lib.bytesWorld_size]; omega, fun k hk _ => Lib.bytesWorld_at_old w 5 s k hk⟩
theorem qbytes_cell (w : World) (s : ByteArray) (j : Nat) (h : j < s.data.toList.length) : (Lib.bytesWorld w 5 s).cell? ⟨w.heap.size, j, none⟩ = some (.int .u8 (s.data.toList[j].toNat : Int)) := by
  have h2 := Lib.bytesWorld_cell w 5 s j (by rw [Array.length_toList] at h; exact h)
  rw [h2, List.getD_eq_getElem?_getD, List.getElem?_eq_getElem h]
  rfl
def digitsL : List UInt8 := [48, 49, 50, 51, 52, 53, 54, 55, 56, 57, 97, 98, 99, 100, 101, 102]
def lower (n : Nat) : Nat := if 65 ≤ n ∧ n ≤ 70 then n + 32 else n
theorem idx_hex (c : UInt8) : Lib.indexByte digitsL (UInt8.ofNat (lower c.toNat)) = (match hexV c with | some v => (v : Int) | none => -1) := by
  have key : ∀ m : Fin 256, Lib.indexByte digitsL (UInt8.ofNat (lower m.val)) = (match hexV (UInt8.ofNat m.val) with | some v => (v : Int) | none => -1) := by decide +kernel
  have h := key ⟨c.toNat, c.toNat_lt⟩
  simpa using h
theorem index_hex (w : World) (c : UInt8) (z : Int) (hz : z = (lower c.toNat : Int)) :
    Calls Tryd.prog 36 #[.string ⟨#[48, 49, 50, 51, 52, 53, 54, 55, 56, 57, 97, 98, 99, 100, 101, 102]⟩, .int .u8 z] w fun e w' => e = .returned (.int .i64 (match hexV c with | some v => (v : Int) | none => -1)) ∧ w' = w := by
  subst hz
  have h := Tryd.strings_IndexByte ⟨#[48, 49, 50, 51, 52, 53, 54, 55, 56, 57, 97, 98, 99, 100, 101, 102]⟩ (lower c.toNat : Int) w
  have e : Lib.indexByte (⟨#[48, 49, 50, 51, 52, 53, 54, 55, 56, 57, 97, 98, 99, 100, 101, 102]⟩ : ByteArray).data.toList ((lower c.toNat : Nat) : Int).toNat.toUInt8 = (match hexV c with | some v => (v : Int) | none => -1) := idx_hex c
  rw [e] at h
  exact h
def UnitPost (w : World) (L : List UInt8) (e : Ending) (w' : World) : Prop := e = .returned (.tuple #[.int .i32 (((unitL L).getD 0 : Nat) : Int), .bool (unitL L).isSome]) ∧ Kp [] w w'
set_option maxHeartbeats 1600000 in
set_option maxRecDepth 100000 in
theorem qunit_any (w : World) (s : ByteArray) (hs : s.size < 9223372036854775000) : Calls Tryd.prog 89 #[.string s] w (UnitPost w s.data.toList) := by
  obtain ⟨L, hL⟩ : ∃ L, L = s.data.toList := ⟨_, rfl⟩
  have hlen : L.length = s.size := by rw [hL, Array.length_toList]; rfl
  rw [← hL]
  have HL := hid hL
  clear hL
  by_cases h6 : s.size < 6
  · have hu := hid (unit_short (l := L) (by omega))
    go_enter Tryd.func89, Tryd.ntmps89
    go_wp2_with fail
    go_ret2
    exact ⟨by rw [hu.out]; rfl, Kp.refl _ _⟩
  · have hx2 : (s.extract 0 2).toList = L.take 2 := by rw [ByteArray.toList_eq, extract_list, HL.out]; simp
    by_cases h2 : L.take 2 = [92, 117]
    · have hE : ((s.extract 0 2).toList == [92, 117]) = true := by rw [hx2, h2]; rfl
      obtain ⟨T, hT⟩ : ∃ T, T = s.extract 2 6 := ⟨_, rfl⟩
      have hTl : T.data.toList = (L.drop 2).take 4 := by rw [hT, extract_list, HL.out]; simp [List.drop_take]
      have hT4 : T.data.toList.length = 4 := by rw [hTl, List.length_take, List.length_drop]; omega
      have hT5 : T.size = 4 := by rw [Array.length_toList] at hT4; exact hT4
      have hu : unitL L = fourG 0 T.data.toList := by rw [hTl]; exact unit_G (by omega) h2
      have hcv := fun w' => Lib.run_convert_string_bytes (P := Tryd.prog) w' 9 67 5 T Tryd.underlying9 Tryd.underlying67 Tryd.underlying5
      rw [hT5] at hcv
      have Hu := hid hu
      have hkb := qkp_bytes w T
      have hcell := qbytes_cell w T
      have Hk := hid (And.intro hkb hcell)
      have hTs := hT.symm
      clear hkb hcell hu hx2 h2 hTl hT
      obtain ⟨D, hD⟩ : ∃ D, D = T.data.toList := ⟨_, rfl⟩
      rw [← hD] at hT4
      have HD := hid hD
      clear hD
      go_enter Tryd.func89, Tryd.ntmps89
      go_wp2_with fail
      obtain ⟨W1, hW1⟩ : ∃ W1, W1 = Lib.bytesWorld w 5 T := ⟨_, rfl⟩
      rw [← hW1]
      rw [← hW1, ← HD.out] at Hk
      rw [← HD.out] at Hu
      generalize grownCap w 4 0 5 = CAP
      clear hW1 hcv
      go_loopw [20, 4] (fun vi vx wr => wr = W1 ∧ ∃ i x : Nat, vi = .int .i64 (i : Int) ∧ vx = .int .i32 (x : Int) ∧ i ≤ 4 ∧ x < 16 ^ i ∧ fourG x (D.drop i) = unitL L) (fun vi _ _ => 4 - (intOf vi).toNat)
      case atStart => exact ⟨rfl, 0, 0, rfl, rfl, by omega, by decide, Hu.out.symm⟩
      case round =>
        obtain ⟨rfl, i, x, rfl, rfl, hi, hx, hf⟩ := hrel
        by_cases h4 : i < 4
        · have hil : i < D.length := by omega
          have hd : D.drop i = D[i] :: D.drop (i + 1) := List.drop_eq_getElem_cons hil
          have hc1 := Hk.out.2 i hil
          obtain ⟨c, hc⟩ : ∃ c, c = D[i] := ⟨_, rfl⟩
          rw [← hc] at hd hc1
          rw [hd] at hf
          obtain ⟨n, hn⟩ : ∃ n, n = c.toNat := ⟨_, rfl⟩
          have hn2 : n < 256 := by rw [hn]; exact c.toNat_lt
          rw [← hn] at hc1
          have hx3 : x < 4096 := by
            have h9 : 16 ^ i ≤ 16 ^ 3 := Nat.pow_le_pow_right (by decide) (by omega)
            omega
          have hp9 : 16 ^ (i + 1) = 16 ^ i * 16 := rfl
          have Hf := hid hf
          have Hn := hid hn
          have Hp := hid (And.intro hx hp9)
          clear hd hc hf hn hx hp9
          have hidx : ∀ (W : World) (z : Int), z = (lower n : Int) → _ := fun W z hz => index_hex W c z (by rw [← Hn.out]; exact hz)
          have Hidx := hid hidx
          clear hidx
          obtain ⟨z, hz, hz2⟩ : ∃ z : Int, z = (lower n : Int) ∧ ((65 ≤ n ∧ n ≤ 70 ∧ z = (n : Int) + 32) ∨ (n < 65 ∧ z = (n : Int)) ∨ (70 < n ∧ z = (n : Int))) := by
            refine ⟨_, rfl, ?_⟩
            unfold lower
            split <;> omega
          have Hz := hid hz
          clear hz
          rcases hz2 with ⟨ha1, ha2, rfl⟩ | ⟨ha1, rfl⟩ | ⟨ha1, rfl⟩
          all_goals
            go_wp2_with fail
            refine (Hidx.out _ _ Hz.out).mono ?_
            rintro e w2 ⟨rfl, rfl⟩
          all_goals
            rcases hv : hexV c with _ | v
          all_goals
            have Hv := hid hv
            try have hv16 := hexV_lt hv
            clear hv
            dsimp only
          all_goals go_wp2_with fail
          all_goals focus
            first
            | (go_ret2
               refine ⟨?_, Hk.out.1⟩
               have h9 : unitL L = none := by rw [← Hf.out]; show (match hexV c with | some v => fourG (x * 16 + v) _ | none => none) = none; rw [Hv.out]
               rw [h9]
               rfl)
            | skip
          all_goals
            have hor : bits .or .i32 ((x : Int) * 16) (v : Int) = ((x * 16 + v : Nat) : Int) := by
              rw [bits_join .i32 31 (by decide) wraps_i32 4 _ _ (by omega) (by omega) (by omega) (by omega) (by omega) (by omega)]
              omega
            refine ⟨⟨trivial, i + 1, x * 16 + v, by go_num, by rw [hor], by omega, ?_, ?_⟩, ?_⟩
            · have := Hp.out
              omega
            · rw [← Hf.out]
              show _ = (match hexV c with | some v => fourG (x * 16 + v) _ | none => none)
              rw [Hv.out]
            · simp [intOf]
              omega
        · obtain rfl : i = 4 := by omega
          have hu : unitL L = some x := by rw [← hf, List.drop_eq_nil_of_le (by omega)]; rfl
          have Hu2 := hid hu
          clear hu hf hx
          go_wp2_with fail
          go_ret2
          exact ⟨by rw [Hu2.out]; rfl, Hk.out.1⟩
    · have hu := hid (unit_other h2)
      have hE : ((s.extract 0 2).toList == [92, 117]) = false := by
        rw [hx2]
        rw [Bool.eq_false_iff]
        intro h
        exact h2 (eq_of_beq h)
      clear hx2 h2
      go_enter Tryd.func89, Tryd.ntmps89
      go_wp2_with fail
      go_ret2
      exact ⟨by rw [hu.out]; rfl, Kp.refl _ _⟩
end Go.Proofs.YtgjffkblhhkjmaaDoor
