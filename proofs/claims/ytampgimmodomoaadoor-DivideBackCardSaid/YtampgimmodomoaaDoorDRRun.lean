/- The document's answer for layer 1: how many digits stand at a place. -/
import Derived.Test.YtampgimmodomoaaDoorDRMay
namespace Go.Proofs.YtampgimmodomoaaDoor
open Go Go.RowKit Go.Lib

theorem drop_cons {L t : List UInt8} {p : Nat} {c : UInt8} (h : L.drop p = c :: t) : ∃ hp : p < L.length, L[p]'hp = c ∧ L.drop (p + 1) = t := by
  have hp : p < L.length := by
    rcases Nat.lt_or_ge p L.length with h2 | h2
    · exact h2
    · rw [List.drop_eq_nil_of_le h2] at h; cases h
  rw [List.drop_eq_getElem_cons hp] at h
  injection h with h1 h2
  exact ⟨hp, h1, h2⟩
theorem lead_take {X : List UInt8} {n : Nat} (hn : n ≤ X.length) (hD : Digs (X.take n)) (h : n = X.length ∨ ∃ hlt : n < X.length, ¬ Dig (X[n]'hlt)) : lead X = X.take n ∧ rest X = X.drop n := by
  have h1 := lead_append hD (X.drop n)
  rw [List.take_append_drop] at h1
  rw [h1.1, h1.2]
  rcases h with h | ⟨hlt, hd⟩
  · rw [List.drop_eq_nil_of_le (by omega)]
    exact ⟨List.append_nil _, rfl⟩
  · rw [List.drop_eq_getElem_cons hlt, (lead_stop hd _).1, (lead_stop hd _).2]
    exact ⟨List.append_nil _, rfl⟩
set_option maxRecDepth 100000 in
set_option maxHeartbeats 6400000 in
theorem rrun_any (w : World) (L : List UInt8) (a : Nat) (hL : L.length ≤ 1000000) (ha : a ≤ L.length) :
    Calls Tryd.prog 65 #[.string ⟨L.toArray⟩, .int .i64 (a : Int)] w fun e w' => e = .returned (.int .i64 ((lead (L.drop a)).length : Int)) ∧ w' = w := by
  have hsz : (⟨L.toArray⟩ : ByteArray).size = L.length := size_mk _
  obtain ⟨X, hX⟩ : ∃ X, X = L.drop a := ⟨_, rfl⟩
  have hXl : X.length = L.length - a := by rw [hX, List.length_drop]
  rw [← hX]
  have hXg : ∀ k (h : k < X.length) (h2 : a + k < L.length), X[k]'h = L[a + k]'h2 := fun k h h2 => by subst hX; rw [List.getElem_drop]
  obtain ⟨G, hG⟩ : ∃ G, G = (lead X).length := ⟨_, rfl⟩
  rw [← hG]
  have HX := hid (And.intro hXg hG)
  clear hX hXg hG
  go_enter Tryd.func65, Tryd.ntmps65
  go_wp2_with fail
  go_loopw [5] (fun vi wr => wr = w ∧ ∃ n : Nat, vi = .int .i64 (n : Int) ∧ n ≤ X.length ∧ Digs (X.take n)) (fun vi _ => X.length - (intOf vi).toNat)
  case atStart => exact ⟨rfl, 0, rfl, Nat.zero_le _, Digs.nil⟩
  case round =>
    obtain ⟨hwr, n, rfl, hn, hD⟩ := hrel
    have hwr2 := hwr.symm
    subst hwr2
    by_cases hlt : n < X.length
    · have hp : a + n < L.length := by omega
      obtain ⟨p, hpp⟩ : ∃ p, p = a + n := ⟨_, rfl⟩
      have hpl : p < L.length := by omega
      obtain ⟨m, hm⟩ : ∃ m, m = (L[p]'hpl).toNat := ⟨_, rfl⟩
      have ik := byte_in L p m hpl hm
      have hm9 : m < 256 := by rw [hm]; exact UInt8.toNat_lt _
      have hXm : (X[n]'hlt).toNat = m := by rw [hm, HX.out.1 n hlt hp]; congr 1; simp only [hpp]
      have qd := fun W => rdigit_any W m hm9
      have e1 : (a : Int) + (n : Int) = (p : Int) := by omega
      have i1 : (0 : Int) ≤ (p : Int) := by omega
      have i2 : (p : Int) < (L.length : Int) := by omega
      by_cases hdg : 48 ≤ m ∧ m ≤ 57
      · rw [decide_eq_true hdg] at qd
        have HD := hid (digs_take_succ hlt hD (by unfold Dig; rw [hXm]; exact hdg))
        have HL := hid hlt
        have hlp : n + 1 ≤ X.length := hlt
        clear hD hm hdg hXm hpp hp
        go_wp2_with fail
        (with_reducible refine (qd _).mono ?_)
        rintro e w1 ⟨rfl, rfl⟩
        go_wp2_with fail
        go_roundw
        case rel => exact ⟨trivial, n + 1, by go_num, hlp, HD.out⟩
        case measure => simp [intOf]; omega
      · rw [decide_eq_false hdg] at qd
        have HR := hid (lead_take hn hD (.inr ⟨hlt, by unfold Dig; rw [hXm]; exact hdg⟩)).1
        have hln : G = n := by rw [HX.out.2, HR.out, List.length_take]; omega
        have HL := hid hln
        clear hD hm hdg hXm hpp hp hln
        go_wp2_with fail
        (with_reducible refine (qd _).mono ?_)
        rintro e w1 ⟨rfl, rfl⟩
        go_wp2_with fail
        go_ret
        exact ⟨by rw [HL.out]; rfl, rfl⟩
    · have HR := hid (lead_take hn hD (.inl (by omega))).1
      have hln : G = n := by rw [HX.out.2, HR.out, List.length_take]; omega
      have HL := hid hln
      have hb : ¬ a + n < L.length := by omega
      have hb2 : decide ((a : Int) + (n : Int) < (L.length : Int)) = false := decide_eq_false (by omega)
      clear hD hln
      go_wp2_with fail
      go_ret
      exact ⟨by rw [HL.out]; rfl, rfl⟩
end Go.Proofs.YtampgimmodomoaaDoor
