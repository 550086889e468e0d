/- QuoteBare: a text that needs no escape is quoted as itself. -/
import Derived.Test.YtdmajeidggjalaaDoorQLists
namespace Go.Proofs.YtdmajeidggjalaaDoor
open Go Go.RowKit

theorem u8ne (c k : UInt8) : c ≠ k ↔ c.toNat ≠ k.toNat := ⟨fun h e => h (UInt8.toNat_inj.1 e), ne8⟩
/-- Whether the first i bytes are plain. -/
def pl (L : List UInt8) (i : Nat) : Bool := decide (∀ c ∈ L.take i, Plain c)
theorem pl_succ (L : List UInt8) (i : Nat) (h : i < L.length) : pl L (i + 1) = (pl L i && decide (Plain L[i])) := by
  unfold pl
  rw [Bool.eq_iff_iff, Bool.and_eq_true, decide_eq_true_iff, decide_eq_true_iff, decide_eq_true_iff, ← List.take_append_getElem h]
  simp only [List.mem_append, List.mem_singleton]
  constructor
  · intro hc
    exact ⟨fun c h1 => hc c (.inl h1), hc _ (.inr rfl)⟩
  · rintro ⟨h1, h2⟩ c (hc | rfl)
    · exact h1 c hc
    · exact h2
theorem pl_all (L : List UInt8) : pl L L.length = (quoteL L == 34 :: (L ++ [34])) := by
  unfold pl
  rw [Bool.eq_iff_iff, decide_eq_true_iff, beq_iff_eq, quote_plain, List.take_of_length_le (Nat.le_refl _)]
set_option maxRecDepth 100000 in
set_option maxHeartbeats 6400000 in
theorem bare_any (w : World) (hT : Tabs w) (s : ByteArray) (hs : s.size ≤ maxLen) : Calls Tryd.prog 6 #[.string s] w (YesPost w) := by
  have hs2 : s.size ≤ 9223372036854775807 := hs
  clear hs
  go_enter Tryd.func6, Tryd.ntmps6
  go_wp2_with fail
  refine (shown_any w hT).mono ?_
  rintro e w1 ⟨rfl, k1⟩
  have hT1 := hT.kept k1
  go_upto_if 11 with fail
  go_cut [0] (fun v wx => v = .string (fewL 500 s) ∧ wx = w1)
  case first =>
    by_cases h : 500 < s.size
    · have hf := hid (show fewL 500 s = s.extract 0 500 from if_pos h)
      go_wp2_with fail
      go_meet
      exact ⟨by rw [hf.out], rfl⟩
    · have hf := hid (show fewL 500 s = s from if_neg h)
      go_wp2_with fail
      go_meet
      exact ⟨by rw [hf.out], rfl⟩
  case rest =>
    obtain ⟨rfl, hwc⟩ := hcut
    subst wc
    obtain ⟨L, hl, hls, hfew⟩ := few_list 500 s
    rw [hfew]
    clear hfew
    have vL := fun W hW => valid_l W L (by omega) hW
    obtain ⟨V, hV⟩ : ∃ V, V = Lib.validD L := ⟨_, rfl⟩
    simp only [← hV] at vL
    have HV := hid hV
    clear hV
    cases V with
    | false =>
      go_wp2_with fail
      refine (vL _ hT1).mono ?_
      rintro e w2 ⟨rfl, k2⟩
      have HF := hid (k1.nil k2)
      clear k2
      go_wp2_with fail
      go_ret
      exact ⟨rfl, HF.out⟩
    | true =>
      have hval : Lib.validD L = true := HV.out.symm
      have bl := body_len L
      have ql : (quoteL L).length = (body L).length + 2 := length_quoteL L
      have qS := fun W => quote_l W L (by omega) hval
      have hpr := quote_print L
      have hpa := pl_all L
      obtain ⟨Q, hQ⟩ : ∃ Q, Q = quoteL L := ⟨_, rfl⟩
      rw [← hQ] at ql hpr hpa
      simp only [← hQ] at qS
      clear hQ hval
      have hadd1 := fun W => run_add_text (P := Tryd.prog) [34] L (34 :: L) rfl (by simp; omega) W
      have hadd2 := fun W => run_add_text (P := Tryd.prog) (34 :: L) [34] (34 :: (L ++ [34])) rfl (by simp; omega) W
      have szL : (⟨L.toArray⟩ : ByteArray).size = L.length := size_mk L
      have szQ : (⟨Q.toArray⟩ : ByteArray).size = Q.length := size_mk Q
      have Hpr := hid hpr
      have Hpa := hid hpa
      clear hpr hpa
      go_wp2_with fail
      refine (vL _ hT1).mono ?_
      rintro e w2 ⟨rfl, k2⟩
      have hT2 := hT1.kept k2
      go_wp2_with fail
      refine (qS _).mono ?_
      rintro e w3 ⟨rfl, k3⟩
      have HF := hid ((k1.nil k2).nil k3)
      clear k2 k3
      go_wp2_with fail
      go_loopw [5, 6] (fun v5 v6 wr => wr = w3 ∧ ∃ i : Nat, i ≤ L.length ∧ v6 = .int .i64 (i : Int) ∧ v5 = .bool (pl L i)) (fun _ v6 _ => L.length - (intOf v6).toNat)
      case atStart => exact ⟨rfl, 0, by omega, rfl, rfl⟩
      case round =>
        obtain ⟨hwr, i, hi, rfl, rfl⟩ := hrel
        have hwr2 := hwr.symm
        subst hwr2
        by_cases hlt : i < L.length
        · have hps := pl_succ L i hlt
          have hget : ∀ h : i < (⟨L.toArray⟩ : ByteArray).size, (⟨L.toArray⟩ : ByteArray)[i]'h = L[i] := fun h => rfl
          obtain ⟨c, hc⟩ : ∃ c, c = L[i] := ⟨_, rfl⟩
          simp only [← hc] at hget hps
          obtain ⟨m, hm⟩ : ∃ m, m = c.toNat := ⟨_, rfl⟩
          have hm2 : m < 256 := by rw [hm]; exact c.toNat_lt
          have hPl : Plain c ↔ 32 ≤ m ∧ m ≠ 34 ∧ m ≠ 92 ∧ m ≠ 127 := by
            unfold Plain
            rw [hm]
            exact ⟨fun h => ⟨h.1, (u8ne c 34).1 h.2.1, (u8ne c 92).1 h.2.2.1, (u8ne c 127).1 h.2.2.2⟩, fun h => ⟨h.1, (u8ne c 34).2 h.2.1, (u8ne c 92).2 h.2.2.1, (u8ne c 127).2 h.2.2.2⟩⟩
          have hgm : ∀ h : i < (⟨L.toArray⟩ : ByteArray).size, ((⟨L.toArray⟩ : ByteArray)[i]'h).toNat = m := fun h => by rw [hget h, hm]
          clear hc hm hget
          obtain ⟨P, hP⟩ : ∃ P, P = pl L i := ⟨_, rfl⟩
          obtain ⟨P2, hP2⟩ : ∃ P2, P2 = pl L (i + 1) := ⟨_, rfl⟩
          rw [← hP, ← hP2] at hps
          rw [← hP]
          have HP2 := hid hP2
          clear hP hP2
          cases P with
          | false =>
            have hp2 : P2 = false := by rw [hps]; rfl
            have H2 := hid hp2
            clear hps hPl hp2
            go_wp2_with fail
            go_roundw
            case rel => exact ⟨trivial, i + 1, by omega, by go_num, by rw [← HP2.out, H2.out]⟩
            case measure => simp [intOf]; omega
          | true =>
            have hp2 : P2 = decide (Plain c) := by rw [hps]; rfl
            rcases (show m < 32 ∨ m = 34 ∨ m = 92 ∨ m = 127 ∨ (32 ≤ m ∧ m ≠ 34 ∧ m ≠ 92 ∧ m ≠ 127) from by omega) with h | h | h | h | ⟨h1, h2, h3, h4⟩
            rotate_right
            · have hp3 : P2 = true := by rw [hp2, decide_eq_true_iff, hPl]; exact ⟨h1, h2, h3, h4⟩
              have H2 := hid hp3
              have b1 : ((m : Int) != 34) = true := by rw [bne_iff_ne]; omega
              have b2 : ((m : Int) != 92) = true := by rw [bne_iff_ne]; omega
              have b3 : ((m : Int) != 127) = true := by rw [bne_iff_ne]; omega
              clear hps hPl hp2 hp3
              go_wp2_with fail
              go_roundw
              case rel => exact ⟨trivial, i + 1, by omega, by go_num, by rw [← HP2.out, H2.out]⟩
              case measure => simp [intOf]; omega
            all_goals
              have hp3 : P2 = false := by rw [hp2, decide_eq_false_iff_not, hPl]; omega
              have H2 := hid hp3
              clear hps hPl hp2 hp3
              try subst h
              go_wp2_with fail
              go_roundw
              case rel => exact ⟨trivial, i + 1, by omega, by go_num, by rw [← HP2.out, H2.out]⟩
              case measure => simp [intOf]; omega
        · obtain rfl : i = L.length := by omega
          go_wp2_with fail
          go_loopw [7] (fun v7 wr => wr = w3 ∧ ∃ j : Nat, j ≤ Q.length ∧ v7 = .int .i64 (j : Int)) (fun v7 _ => Q.length - (intOf v7).toNat)
          case atStart => exact ⟨rfl, 0, by omega, rfl⟩
          case round =>
            obtain ⟨hwr, j, hj, rfl⟩ := hrel
            have hwr2 := hwr.symm
            subst hwr2
            by_cases hlt2 : j < Q.length
            · have hq := Hpr.out Q[j] (List.getElem_mem hlt2)
              have hget : ∀ h : j < (⟨Q.toArray⟩ : ByteArray).size, (⟨Q.toArray⟩ : ByteArray)[j]'h = Q[j] := fun h => rfl
              obtain ⟨c, hc⟩ : ∃ c, c = Q[j] := ⟨_, rfl⟩
              simp only [← hc] at hget hq
              obtain ⟨m, hm⟩ : ∃ m, m = c.toNat := ⟨_, rfl⟩
              have hm2 : m < 256 := by rw [hm]; exact c.toNat_lt
              have hq1 : 32 ≤ m := by rw [hm]; exact hq.1
              have hq2 : m ≠ 127 := by rw [hm]; exact (u8ne c 127).1 hq.2
              have hgm : ∀ h : j < (⟨Q.toArray⟩ : ByteArray).size, ((⟨Q.toArray⟩ : ByteArray)[j]'h).toNat = m := fun h => by rw [hget h, hm]
              have b3 : ((m : Int) == 127) = false := by rw [beq_eq_false_iff_ne]; omega
              clear hc hm hget hq
              go_wp2_with fail
              go_roundw
              case rel => exact ⟨trivial, j + 1, by omega, by go_num⟩
              case measure => simp [intOf]; omega
            · obtain rfl : j = Q.length := by omega
              go_wp2_with fail
              go_ret
              refine ⟨?_, HF.out⟩
              have h6 : decide (((body L).length : Int) ≤ 6 * (L.length : Int)) = true := by rw [decide_eq_true_iff]; omega
              show Ending.returned (.bool (decide (((body L).length : Int) ≤ 6 * (L.length : Int)))) = _
              rw [h6]
end Go.Proofs.YtdmajeidggjalaaDoor
