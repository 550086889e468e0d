/- quote.escape: the rune that a text with a backslash begins with. -/
import Derived.Test.YtgjffkblhhkjmaaDoorQUnit
import Derived.Test.YtgjffkblhhkjmaaDoorQQuote
namespace Go.Proofs.YtgjffkblhhkjmaaDoor
open Go Go.RowKit

def simpleL : List UInt8 := [34, 92, 47, 98, 102, 110, 114, 116]
theorem idx_simple (c : UInt8) : (simpleE c = none ∧ Lib.indexByte simpleL c = -1) ∨ ∃ k r : Nat, k < 8 ∧ simpleE c = some r ∧ Lib.indexByte simpleL c = (k : Int) ∧
    ∀ h : k < (⟨#[34, 92, 47, 8, 12, 10, 13, 9]⟩ : ByteArray).size, ((⟨#[34, 92, 47, 8, 12, 10, 13, 9]⟩ : ByteArray)[k]'h).toNat = r := by
  unfold simpleE
  by_cases h1 : c = 34
  · subst h1; exact .inr ⟨0, 34, by decide, rfl, by decide, fun _ => rfl⟩
  by_cases h2 : c = 92
  · subst h2; exact .inr ⟨1, 92, by decide, rfl, by decide, fun _ => rfl⟩
  by_cases h3 : c = 47
  · subst h3; exact .inr ⟨2, 47, by decide, rfl, by decide, fun _ => rfl⟩
  by_cases h4 : c = 98
  · subst h4; exact .inr ⟨3, 8, by decide, rfl, by decide, fun _ => rfl⟩
  by_cases h5 : c = 102
  · subst h5; exact .inr ⟨4, 12, by decide, rfl, by decide, fun _ => rfl⟩
  by_cases h6 : c = 110
  · subst h6; exact .inr ⟨5, 10, by decide, rfl, by decide, fun _ => rfl⟩
  by_cases h7 : c = 114
  · subst h7; exact .inr ⟨6, 13, by decide, rfl, by decide, fun _ => rfl⟩
  by_cases h8 : c = 116
  · subst h8; exact .inr ⟨7, 9, by decide, rfl, by decide, fun _ => rfl⟩
  refine .inl ⟨by simp [h1, h2, h3, h4, h5, h6, h7, h8], ?_⟩
  simp [simpleL, Lib.indexByte, Ne.symm h1, Ne.symm h2, Ne.symm h3, Ne.symm h4, Ne.symm h5, Ne.symm h6, Ne.symm h7, Ne.symm h8]
theorem index_simple (w : World) (c : UInt8) (z : Int) (hz : z = (c.toNat : Int)) :
    Calls Tryd.prog 36 #[.string ⟨#[34, 92, 47, 98, 102, 110, 114, 116]⟩, .int .u8 z] w fun e w' => e = .returned (.int .i64 (Lib.indexByte simpleL c)) ∧ w' = w := by
  subst hz
  have h := Tryd.strings_IndexByte ⟨#[34, 92, 47, 98, 102, 110, 114, 116]⟩ (c.toNat : Int) w
  have e : ((c.toNat : Nat) : Int).toNat.toUInt8 = c := by
    rw [Int.toNat_natCast]
    simp
  rw [e] at h
  exact h
def EscPost (w : World) (L : List UInt8) (e : Ending) (w' : World) : Prop :=
  Kp [] w w' ∧ ((∃ r n : Nat, escL L = some (r, n) ∧ e = .returned (.tuple #[.int .i32 (r : Int), .int .i64 (n : Int), .bool true])) ∨
    (escL L = none ∧ ∃ r n : Int, e = .returned (.tuple #[.int .i32 r, .int .i64 n, .bool false])))
set_option maxHeartbeats 1600000 in
set_option maxRecDepth 100000 in
theorem qesc_any (w : World) (s : ByteArray) (hs : s.size < 9223372036854775000) : Calls Tryd.prog 73 #[.string s] w (EscPost w s.data.toList) := by
  obtain ⟨L, hL⟩ : ∃ L, L = s.data.toList := ⟨_, rfl⟩
  have hlen : L.length = s.size := by rw [hL, Array.length_toList]; rfl
  have HU := fun W => qunit_any W s hs
  have HU6 := fun W => qunit_any W (s.extract 6 s.size) (by rw [ByteArray.size_extract]; omega)
  have e6 : (s.extract 6 s.size).data.toList = L.drop 6 := by
    rw [extract_list, ← hL, List.take_of_length_le (by omega)]
  rw [e6] at HU6
  rw [← hL] at HU ⊢
  have HL := hid hL
  clear hL e6
  by_cases h2 : s.size < 2
  · have he : escL L = none := by
      rcases hLL : L with _ | ⟨a, _ | ⟨b, t⟩⟩
      · rfl
      · rfl
      · rw [hLL] at hlen; simp at hlen; omega
    have He := hid he
    clear he
    go_enter Tryd.func73, Tryd.ntmps73
    go_wp2_with fail
    go_ret3
    exact ⟨Kp.refl _ _, .inr ⟨He.out, 0, 0, rfl⟩⟩
  · obtain ⟨a, c, t, hLL⟩ : ∃ a c t, L = a :: c :: t := by
      rcases hLL : L with _ | ⟨a, _ | ⟨b, t⟩⟩
      · rw [hLL] at hlen; simp at hlen; omega
      · rw [hLL] at hlen; simp at hlen; omega
      · exact ⟨_, _, _, rfl⟩
    have hc1 : ∀ h : 1 < s.size, s[1]'h = c := by
      intro h
      have h9 : s.data.toList[1]? = some c := by rw [← HL.out, hLL]; rfl
      have h8 : s.data.toList[1]? = some (s[1]'h) := by
        rw [List.getElem?_eq_getElem (by rw [Array.length_toList]; exact h)]
        rfl
      rw [h8] at h9
      injection h9
    have hE : escL L = match simpleE c with
      | some r => some (r, 2)
      | none => match unitL L with
        | none => none
        | some x => if x / 1024 = 55 then none else if x / 1024 ≠ 54 then some (x, 6) else match unitL (L.drop 6) with
          | some y => if y / 1024 = 55 then some (65536 + (x % 1024) * 1024 + y % 1024, 12) else none
          | none => none := by rw [hLL]; rfl
    have HE := hid hE
    clear hE hLL
    have hi := fun W z hz => index_simple W c z hz
    rcases idx_simple c with ⟨hn, hk⟩ | ⟨k, r, hk8, hsm, hk, hget⟩
    · rw [hk] at hi
      have Hn := hid hn
      clear hn hk
      go_enter Tryd.func73, Tryd.ntmps73
      go_wp2_with fail
      refine (hi _ _ rfl).mono ?_
      rintro e w1 ⟨rfl, rfl⟩
      go_wp2_with fail
      refine (HU _).mono ?_
      rintro e w2 ⟨rfl, k2⟩
      rcases hu : unitL L with _ | x
      · have he : escL L = none := by rw [HE.out, Hn.out]; simp only [hu]
        have He := hid he
        clear hu he
        dsimp only [Option.getD, Option.isSome]
        go_wp2_with fail
        go_ret3
        exact ⟨k2, .inr ⟨He.out, _, _, rfl⟩⟩
      · have hxl := (unitL_lt hu).1
        have hL6 := (unitL_lt hu).2
        dsimp only [Option.getD, Option.isSome]
        rcases (show x / 1024 = 55 ∨ (x / 1024 ≠ 55 ∧ x / 1024 ≠ 54) ∨ x / 1024 = 54 from by omega) with h5 | ⟨h5, h4⟩ | h5
        · have he : escL L = none := by rw [HE.out, Hn.out]; simp only [hu]; rw [if_pos h5]
          have He := hid he
          have hb : ((x : Int) / 1024 != 55) = false := by rw [bne_eq_false_iff_eq]; omega
          clear hu he
          go_wp2_with fail
          go_ret3
          exact ⟨k2, .inr ⟨He.out, _, _, rfl⟩⟩
        · have he : escL L = some (x, 6) := by rw [HE.out, Hn.out]; simp only [hu]; rw [if_neg h5, if_pos h4]
          have He := hid he
          have hb : ((x : Int) / 1024 != 55) = true := by rw [bne_iff_ne]; omega
          clear hu he
          go_wp2_with fail
          go_ret3
          exact ⟨k2, .inl ⟨_, _, He.out, rfl⟩⟩
        · rcases hy : unitL (L.drop 6) with _ | y
          · have he : escL L = none := by rw [HE.out, Hn.out]; simp only [hu]; rw [if_neg (by omega), if_neg (by omega)]; simp only [hy]
            have He := hid he
            have Hy := hid hy
            clear hu he hy
            go_wp2_with fail
            refine (HU6 _).mono ?_
            rintro e w3 ⟨rfl, k3⟩
            rw [Hy.out]
            dsimp only [Option.getD, Option.isSome]
            go_wp2_with fail
            go_ret3
            exact ⟨k2.nil k3, .inr ⟨He.out, _, _, rfl⟩⟩
          · have hyl := (unitL_lt hy).1
            have Hy := hid hy
            clear hy
            rcases (show y / 1024 = 55 ∨ y / 1024 ≠ 55 from by omega) with h6 | h6
            · have he : escL L = some (65536 + (x % 1024) * 1024 + y % 1024, 12) := by rw [HE.out, Hn.out]; simp only [hu]; rw [if_neg (by omega), if_neg (by omega)]; simp only [Hy.out]; rw [if_pos h6]
              have He := hid he
              have hb : ((y : Int) / 1024 == 55) = true := by rw [beq_iff_eq]; omega
              clear hu he
              have m1 : bits .and .i32 (x : Int) 1023 = ((x % 1024 : Nat) : Int) := i32_mask (i := 10) (by omega) (by omega)
              have m2 : bits .and .i32 (y : Int) 1023 = ((y % 1024 : Nat) : Int) := i32_mask (i := 10) (by omega) (by omega)
              go_wp2_with fail
              refine (HU6 _).mono ?_
              rintro e w3 ⟨rfl, k3⟩
              rw [Hy.out]
              dsimp only [Option.getD, Option.isSome]
              go_wp2_with fail
              go_ret3
              refine ⟨k2.nil k3, .inl ⟨_, _, He.out, ?_⟩⟩
              have e9 : (65536 + (x : Int) % 1024 * 1024 + (y : Int) % 1024) = ((65536 + (x % 1024) * 1024 + y % 1024 : Nat) : Int) := by omega
              rw [← e9]
              rfl
            · have he : escL L = none := by rw [HE.out, Hn.out]; simp only [hu]; rw [if_neg (by omega), if_neg (by omega)]; simp only [Hy.out]; rw [if_neg h6]
              have He := hid he
              have hb : ((y : Int) / 1024 == 55) = false := by rw [beq_eq_false_iff_ne]; omega
              clear hu he
              have m1 : bits .and .i32 (x : Int) 1023 = ((x % 1024 : Nat) : Int) := i32_mask (i := 10) (by omega) (by omega)
              have m2 : bits .and .i32 (y : Int) 1023 = ((y % 1024 : Nat) : Int) := i32_mask (i := 10) (by omega) (by omega)
              go_wp2_with fail
              refine (HU6 _).mono ?_
              rintro e w3 ⟨rfl, k3⟩
              rw [Hy.out]
              dsimp only [Option.getD, Option.isSome]
              go_wp2_with fail
              go_ret3
              exact ⟨k2.nil k3, .inr ⟨He.out, _, _, rfl⟩⟩
    · rw [hk] at hi
      have Hn := hid hsm
      have hr := simpleE_lt hsm
      clear hsm hk
      go_enter Tryd.func73, Tryd.ntmps73
      go_wp2_with fail
      refine (hi _ _ rfl).mono ?_
      rintro e w1 ⟨rfl, rfl⟩
      go_wp2_with fail
      go_ret3
      exact ⟨Kp.refl _ _, .inl ⟨r, 2, by rw [HE.out, Hn.out], rfl⟩⟩
end Go.Proofs.YtgjffkblhhkjmaaDoor
