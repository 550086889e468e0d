/- other, leading, May of layer 1. -/
import Derived.Test.YtgjffkblhhkjmaaDoorDVal
import Derived.Test.YtgjffkblhhkjmaaDoorDBytes
import Derived.Test.YtgjffkblhhkjmaaDoorShelf
import Derived.Lib.ValidLaws
import Derived.BigQuiet
import Derived.Deep.QuietTactic
namespace Go.Proofs.YtgjffkblhhkjmaaDoor
open Go Go.RowKit Go.Lib

def notDig (r : Nat) : Bool := decide (r < 48) || decide (57 < r)
theorem notDig_byte (c : UInt8) : notDig c.toNat = !isDig c := by
  have : ∀ m : Fin 256, notDig m.val = !isDig (UInt8.ofNat m.val) := by decide +kernel
  have h := this ⟨c.toNat, c.toNat_lt⟩
  simpa using h
theorem notDig_high {n : Nat} (h : 128 ≤ n) : notDig n = true := by unfold notDig; rw [decide_eq_true (show 57 < n by omega), Bool.or_true]
theorem decode_high {c : UInt8} {t : List UInt8} (h : 128 ≤ c.toNat) : 128 ≤ (decodeL (c :: t)).1 := by
  rw [decodeL_N]
  rcases decodeN_shape (c :: t).length ((c :: t).getD 0 0).toNat ((c :: t).getD 1 0).toNat ((c :: t).getD 2 0).toNat ((c :: t).getD 3 0).toNat with ⟨c0, e⟩ | ⟨c1, c2, c3, cv, e⟩ | ⟨c1, c2, c3, c4, cv, cs, e⟩ | ⟨c1, c2, c3, c4, c5, cv, cw, e⟩ | e
  · simp at c0
    omega
  all_goals (rw [e]; dsimp only; omega)
theorem idx_from (s : ByteArray) : ∀ (f pos : Nat), s.size - pos ≤ f → pos ≤ s.size → idxFuncFrom notDig true s f pos = if rest (s.data.toList.drop pos) = [] then -1 else ((pos + (lead (s.data.toList.drop pos)).length : Nat) : Int)
  | f, pos, hf, hp => by
    have hsz : s.data.toList.length = s.size := by rw [Array.length_toList]; rfl
    by_cases hlt : pos < s.size
    · obtain ⟨f, rfl⟩ : ∃ g, f = g + 1 := ⟨f - 1, by omega⟩
      have hcons : s.data.toList.drop pos = s.data.toList[pos]'(by omega) :: s.data.toList.drop (pos + 1) := List.drop_eq_getElem_cons (by omega)
      obtain ⟨c, hc⟩ : ∃ c, c = s.data.toList[pos]'(by omega) := ⟨_, rfl⟩
      rw [← hc] at hcons
      have hdec := decodeL_drop s pos
      rw [hcons] at hdec
      unfold idxFuncFrom
      rw [if_pos hlt, hcons]
      by_cases hd : Dig c
      · have hd2 := hd
        unfold Dig at hd2
        have e : decodeL (c :: s.data.toList.drop (pos + 1)) = (c.toNat, 1) := decodeL_ascii c _ (by omega)
        rw [e] at hdec
        have hl := lead_append (a := [c]) (fun x hx => by rw [List.mem_singleton.1 hx]; exact hd) (s.data.toList.drop (pos + 1))
        rw [List.singleton_append] at hl
        rw [← hdec, hl.1, hl.2]
        have hnd : notDig c.toNat = false := by rw [notDig_byte, (isDig_iff c).2 hd]; rfl
        simp only [hnd]
        rw [if_neg (fun h => by cases h), idx_from s f (pos + 1) (by omega) (by omega)]
        split
        · rfl
        · rw [List.length_append, List.length_singleton]
          omega
      · obtain ⟨h1, h2⟩ := lead_stop hd (s.data.toList.drop (pos + 1))
        rw [h1, h2]
        have hnd : notDig (Utf8.decode s pos).1 = true := by
          rw [← hdec]
          rcases Nat.lt_or_ge c.toNat 128 with h | h
          · rw [decodeL_ascii c _ h]
            show notDig c.toNat = true
            rw [notDig_byte]
            have : isDig c = false := by rw [← Bool.not_eq_true]; exact fun h => hd ((isDig_iff c).1 h)
            rw [this]; rfl
          · exact notDig_high (decode_high h)
        rw [if_pos hnd, if_neg (by simp)]
        simp
    · have e : s.data.toList.drop pos = [] := List.drop_eq_nil_of_le (by omega)
      rw [idxFuncFrom_end _ _ _ _ _ hlt, e]
      rfl
theorem idx_other (l : List UInt8) : idxFunc notDig true ⟨l.toArray⟩ = if rest l = [] then -1 else ((lead l).length : Int) := by
  have h := idx_from ⟨l.toArray⟩ (⟨l.toArray⟩ : ByteArray).size 0 (by omega) (Nat.zero_le _)
  show idxFuncFrom notDig true ⟨l.toArray⟩ (⟨l.toArray⟩ : ByteArray).size 0 = _
  simpa using h
theorem other_at (w : World) : PredAt Tryd.prog 93 #[] encR notDig w := fun W r _ => by
  unfold FnGives
  have z1 : (r : Int) < 48 ↔ r < 48 := by omega
  have z2 : 57 < (r : Int) ↔ 57 < r := by omega
  by_cases h1 : r < 48 <;> by_cases h2 : 57 < r
  all_goals
    go_enter Tryd.func93, Tryd.ntmps93
    go_wp2
    all_goals first | (exfalso; omega) | (go_ret; exact ⟨by simp [notDig, h1, h2], 0, rfl⟩)
theorem indexF_any (w : World) (l : List UInt8) : Calls Tryd.prog 92 #[.string ⟨l.toArray⟩, .func (.func 93) #[] #[]] w fun e w' => e = .returned (.int .i64 (if rest l = [] then -1 else ((lead l).length : Int))) ∧ Kp [] w w' := by
  have h := Tryd.strings_IndexFunc 93 #[] (enters_of Tryd.func93 (by kernel_rfl) rfl) notDig ⟨l.toArray⟩ w (other_at w)
  rw [idx_other] at h
  exact h.mono fun e w' ⟨h1, h2⟩ => ⟨h1, Kp.of_below h2⟩
set_option maxRecDepth 100000 in
set_option maxHeartbeats 1600000 in
theorem leading_any (w : World) (l : List UInt8) (hs : l.length ≤ 1000000) : Calls Tryd.prog 76 #[.string ⟨l.toArray⟩] w fun e w' => e = .returned (.tuple #[.string ⟨(lead l).toArray⟩, .string ⟨(rest l).toArray⟩]) ∧ Kp [] w w' := by
  have hi := fun W => indexF_any W l
  have hsz : (⟨l.toArray⟩ : ByteArray).size = l.length := size_mk l
  have hlr := lead_rest l
  have hll : (lead l).length ≤ l.length := by have := congrArg List.length hlr; rw [List.length_append] at this; omega
  by_cases hr : rest l = []
  · have e1 : lead l = l := by rw [hr, List.append_nil] at hlr; exact hlr
    simp only [if_pos hr] at hi
    have x1 := extract_mk l 0 l.length
    have x2 := extract_mk l l.length l.length
    rw [List.take_length, List.drop_zero] at x1
    rw [List.take_length, List.drop_length] at x2
    rw [hr, e1]
    have i1 : (0 : Int) ≤ (l.length : Int) := by omega
    clear hr e1 hlr hll
    go_enter Tryd.func76, Tryd.ntmps76
    go_wp2_with fail
    refine (hi _).mono ?_
    rintro e w1 ⟨rfl, k1⟩
    have Hk := hid k1
    clear k1
    go_wp2_with fail
    go_quiet (fail)
    go_wp2_with fail
    go_ret2
    exact ⟨rfl, Hk.out.drewN _⟩
  · simp only [if_neg hr] at hi
    obtain ⟨K, hK⟩ : ∃ K, K = (lead l).length := ⟨_, rfl⟩
    have x1 := extract_mk l 0 K
    have x2 := extract_mk l K l.length
    rw [List.drop_zero] at x1
    rw [List.take_length] at x2
    have e1 : l.take K = lead l := by
      have h := List.take_left (l₁ := lead l) (l₂ := rest l)
      rw [hlr] at h
      rw [hK]
      exact h
    have e2 : l.drop K = rest l := by
      have h := List.drop_left (l₁ := lead l) (l₂ := rest l)
      rw [hlr] at h
      rw [hK]
      exact h
    rw [e1] at x1
    rw [e2] at x2
    simp only [← hK] at hi hll
    have i1 : (0 : Int) ≤ (K : Int) := by omega
    have i2 : (K : Int) ≤ (l.length : Int) := by omega
    obtain ⟨D, hD⟩ : ∃ D, D = lead l := ⟨_, rfl⟩
    obtain ⟨E, hE⟩ : ∃ E, E = rest l := ⟨_, rfl⟩
    simp only [← hD, ← hE] at x1 x2 ⊢
    clear hr e1 e2 hlr hK hD hE
    go_enter Tryd.func76, Tryd.ntmps76
    go_wp2_with fail
    refine (hi _).mono ?_
    rintro e w1 ⟨rfl, k1⟩
    have Hk := hid k1
    clear k1
    go_wp2_with fail
    go_quiet (fail)
    go_wp2_with fail
    go_ret2
    exact ⟨rfl, Hk.out.drewN _⟩
end Go.Proofs.YtgjffkblhhkjmaaDoor
