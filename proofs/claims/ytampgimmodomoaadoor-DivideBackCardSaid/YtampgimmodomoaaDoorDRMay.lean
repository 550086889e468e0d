/- The document's answer for layer 1: which decimals may be. -/
import Derived.Test.YtampgimmodomoaaDoorDRNorm
import Derived.Test.YtampgimmodomoaaDoorDMay
namespace Go.Proofs.YtampgimmodomoaaDoor
open Go Go.RowKit Go.Lib

theorem rest_digs {L : List UInt8} (h : rest L = []) : Digs L := by
  have h2 : lead L = L := by have := lead_rest L; rwa [h, List.append_nil] at this
  rw [← h2]
  exact digs_lead L
theorem digs_take_succ {L : List UInt8} {k : Nat} (hk : k < L.length) (h : Digs (L.take k)) (hd : Dig (L[k]'hk)) : Digs (L.take (k + 1)) := by
  rw [← List.take_append_getElem hk]
  exact h.append (fun c hc => by rw [List.mem_singleton.1 hc]; exact hd)
theorem byte_in (L : List UInt8) (k m : Nat) (hk : k < L.length) (hm : m = (L[k]'hk).toNat) : ∀ g : k < (⟨L.toArray⟩ : ByteArray).size, ((⟨L.toArray⟩ : ByteArray)[k]'g).toNat = m := fun g => by rw [hm]; rfl
set_option maxRecDepth 100000 in
set_option maxHeartbeats 12800000 in
theorem rmay_any (w : World) (neg : Bool) (L : List UInt8) (sc : Int) (hL : L.length ≤ 9223372036854775807) (hsc : -9223372036854775808 ≤ sc ∧ sc ≤ 9223372036854775807) :
    Calls Tryd.prog 23 #[.agg #[.bool neg, .string ⟨L.toArray⟩, .int .i64 sc]] w fun e w' => e = .returned (.bool (mayL neg L sc)) ∧ Kp [] w w' := by
  have hsz : (⟨L.toArray⟩ : ByteArray).size = L.length := size_mk _
  have HK := hid ((Kp.refl [] w).alloc (.cells #[.bool neg, .string ⟨L.toArray⟩, .int .i64 sc] 23))
  have HC := hid (Cells.fresh w 23 [.bool neg, .string ⟨L.toArray⟩, .int .i64 sc])
  go_enter Tryd.func23, Tryd.ntmps23
  go_wp2_with fail
  go_loopw [4] (fun vi wr => wr = w.alloc (.cells #[.bool neg, .string ⟨L.toArray⟩, .int .i64 sc] 23) ∧ ∃ k : Nat, vi = .int .i64 (k : Int) ∧ k ≤ L.length ∧ Digs (L.take k)) (fun vi _ => L.length - (intOf vi).toNat)
  case atStart => exact ⟨rfl, 0, rfl, Nat.zero_le _, Digs.nil⟩
  case round =>
    obtain ⟨rfl, k, rfl, hk, hD⟩ := hrel
    by_cases hlt : k < L.length
    · obtain ⟨m, hm⟩ : ∃ m, m = (L[k]'hlt).toNat := ⟨_, rfl⟩
      have ik := byte_in L k m hlt hm
      have hm9 : m < 256 := by rw [hm]; exact UInt8.toNat_lt _
      have qd := fun W => rdigit_any W m hm9
      by_cases hdg : 48 ≤ m ∧ m ≤ 57
      · rw [decide_eq_true hdg] at qd
        have HD := hid (digs_take_succ hlt hD (by unfold Dig; rw [← hm]; exact hdg))
        clear hD hm hdg
        go_wp2_with fail
        refine (qd _).mono ?_
        rintro e w1 ⟨rfl, rfl⟩
        go_wp2_with fail
        go_roundw
        case rel => exact ⟨trivial, k + 1, by go_num, by omega, HD.out⟩
        case measure => simp [intOf]; omega
      · rw [decide_eq_false hdg] at qd
        have HR := hid (may_no (neg := neg) (L := L) (sc := sc) (.inr (.inr (.inr (.inr (fun h => hdg (by rw [hm]; exact rest_digs h _ (List.getElem_mem hlt))))))))
        clear hD hm hdg
        go_wp2_with fail
        refine (qd _).mono ?_
        rintro e w1 ⟨rfl, rfl⟩
        go_wp2_with fail
        go_ret
        exact ⟨by rw [HR.out]; rfl, HK.out⟩
    · have hkl : k = L.length := by omega
      rw [hkl, List.take_length] at hD
      have hre : rest L = [] := (lead_all hD).2
      clear hD hkl
      by_cases c1 : L.length = 0
      · have HR := hid (may_no (neg := neg) (L := L) (sc := sc) (.inl c1))
        have b0 : decide ((L.length : Int) < 1) = true := decide_eq_true (by omega)
        clear hre
        go_wp2_with fail
        go_ret
        exact ⟨by rw [HR.out]; rfl, HK.out⟩
      have b0 : decide ((L.length : Int) < 1) = false := decide_eq_false (by omega)
      by_cases c2 : 60 < L.length
      · have HR := hid (may_no (neg := neg) (L := L) (sc := sc) (.inr (.inl c2)))
        clear hre
        go_wp2_with fail
        go_ret
        exact ⟨by rw [HR.out]; rfl, HK.out⟩
      by_cases c3 : sc < 0
      · have HR := hid (may_no (neg := neg) (L := L) (sc := sc) (.inr (.inr (.inl c3))))
        clear hre
        go_wp2_with fail
        go_ret
        exact ⟨by rw [HR.out]; rfl, HK.out⟩
      by_cases c4 : 60 < sc
      · have HR := hid (may_no (neg := neg) (L := L) (sc := sc) (.inr (.inr (.inr (.inl c4)))))
        clear hre
        go_wp2_with fail
        go_ret
        exact ⟨by rw [HR.out]; rfl, HK.out⟩
      have hnot : ¬ (L.length = 0 ∨ 60 < L.length ∨ sc < 0 ∨ 60 < sc ∨ rest L ≠ []) := by
        rintro (h | h | h | h | h); exact c1 h; exact c2 h; exact c3 h; exact c4 h; exact h hre
      clear hre
      by_cases c6 : L = [48]
      · have h6 := may_zero (neg := neg) (sc := sc) (by omega)
        rw [← c6] at h6
        have HR := hid h6
        have f6 : (L == [48]) = true := beq_iff_eq.2 c6
        clear hnot c6 h6
        by_cases c7 : sc = 0
        · have f7 : (sc == 0) = true := beq_iff_eq.2 c7
          rw [decide_eq_true c7] at HR
          clear c7
          have hng : ∀ b, neg = b → True := fun _ _ => trivial
          clear hng
          rcases (show neg = false ∨ neg = true by cases neg <;> simp) with hn | hn
          all_goals
            have HN := hid hn
            clear hn
            go_wp2_with fail
            go_ret
            exact ⟨by rw [HR.out]; rfl, HK.out⟩
        · have f7 : (sc == 0) = false := beq_eq_false_iff_ne.2 c7
          rw [decide_eq_false c7] at HR
          clear c7
          go_wp2_with fail
          go_ret
          exact ⟨by rw [HR.out]; rfl, HK.out⟩
      · have f6 : (L == [48]) = false := beq_eq_false_iff_ne.2 c6
        obtain ⟨q1, hq1⟩ : ∃ k, L.length = k + 1 := ⟨L.length - 1, by omega⟩
        have hR := may_else (neg := neg) hnot c6
        have h0 : 0 < L.length := by omega
        have hkl : q1 < L.length := by omega
        obtain ⟨m, hm⟩ : ∃ m, m = (L[0]'h0).toNat := ⟨_, rfl⟩
        obtain ⟨q, hq⟩ : ∃ q, q = (L[q1]'hkl).toNat := ⟨_, rfl⟩
        have i0 := byte_in L 0 m h0 hm
        have ik := byte_in L q1 q hkl hq
        have hm2 : m < 256 := by rw [hm]; exact (L[0]'h0).toNat_lt
        have hq2 : q < 256 := by rw [hq]; exact (L[q1]'hkl).toNat_lt
        have e0 : decide (L.getD 0 0 ≠ 48) = !decide (m = 48) := by
          rw [List.getD_eq_getElem?_getD, List.getElem?_eq_getElem h0, hm]
          exact byte_ne _ 48
        have ek : decide (L.getD (L.length - 1) 0 ≠ 48) = !decide (q = 48) := by
          rw [hq1, Nat.add_sub_cancel, List.getD_eq_getElem?_getD, List.getElem?_eq_getElem hkl, hq]
          exact byte_ne _ 48
        rw [e0, ek] at hR
        have HR := hid hR
        have hi1 : (L.length : Int) - 1 = (q1 : Int) := by omega
        have hi2 : (0 : Int) < (L.length : Int) := by omega
        have hi3 : (q1 : Int) < (L.length : Int) := by omega
        have u1 : IntKind.i64.wrap ((L.length : Int) - 1) = (q1 : Int) := by rw [hi1]; exact IntWalk.i64_in _ (by omega)
        clear hnot hR e0 ek hm hq hq1 c6 hk
        by_cases h1 : m = 48
        · rw [decide_eq_true h1] at HR
          subst h1
          go_wp2_with fail
          go_ret
          exact ⟨by rw [HR.out]; rfl, HK.out⟩
        · have b1 : ((m : Int) != 48) = true := by rw [bne_iff_ne]; omega
          have b1' : ¬ (m : Int) = 48 := by omega
          rw [decide_eq_false h1] at HR
          by_cases h2 : sc = 0
          · have b2 : (sc == 0) = true := beq_iff_eq.2 h2
            rw [decide_eq_true h2] at HR
            clear h2
            go_wp2_with fail
            go_ret
            exact ⟨by rw [HR.out]; rfl, HK.out⟩
          · have b2 : (sc == 0) = false := beq_eq_false_iff_ne.2 h2
            rw [decide_eq_false h2] at HR
            by_cases h3 : q = 48
            · rw [decide_eq_true h3] at HR
              subst h3
              go_wp2_with fail
              go_ret
              exact ⟨by rw [HR.out]; rfl, HK.out⟩
            · have b3 : ((q : Int) != 48) = true := by rw [bne_iff_ne]; omega
              have b3' : ¬ (q : Int) = 48 := by omega
              rw [decide_eq_false h3] at HR
              go_wp2_with fail
              go_ret
              exact ⟨by rw [HR.out]; rfl, HK.out⟩
end Go.Proofs.YtampgimmodomoaaDoor
