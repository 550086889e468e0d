/- QuoteRunes: whether a text is UTF-8, how many runes it has, some of them, and how it is quoted, is as the document says. -/
import Derived.Test.YtdmajeidggjalaaDoorQLists
import Derived.Test.YtdmajeidggjalaaDoorQRefParts
import Derived.Test.YtdmajeidggjalaaDoorQRefQuote
namespace Go.Proofs.YtdmajeidggjalaaDoor
open Go Go.RowKit

set_option maxRecDepth 100000 in
set_option maxHeartbeats 6400000 in
theorem runes_any (w : World) (hT : Tabs w) (s : ByteArray) (hs : s.size ≤ maxLen) (f : Int) (hf : -9223372036854775808 ≤ f ∧ f ≤ 9223372036854775807) (t : Int) (ht : -9223372036854775808 ≤ t ∧ t ≤ 9223372036854775807) :
    Calls Tryd.prog 7 #[.string s, .int .i64 f, .int .i64 t] w (YesPost w) := by
  have hs2 : s.size ≤ 9223372036854775807 := hs
  obtain ⟨hf1, hf2⟩ := hf
  obtain ⟨ht1, ht2⟩ := ht
  clear hs
  obtain ⟨S, hS⟩ : ∃ S, S = fewL 6000 s := ⟨_, rfl⟩
  have hS1 : S.size ≤ 6000 := by rw [hS]; exact fewL_size 6000 s
  have cf := few_any w s hs2
  have cF := fun W => few_any W s hs2
  simp only [← hS] at cF
  clear cf hS
  have cRV := fun W => rvalid_any W S (by omega)
  have cV := fun W hW => qvalid_any W S (by omega) hW
  unfold validS at cV
  have cR := fun W => qrunes_any W S (by omega)
  have cRP := fun W => rparts_any W S (by omega)
  have cC := fun W => qcut_any W S f t (by omega)
  have cRC := fun W => rcut_any W S f t (by omega)
  have cRQ := fun W => rquote_any W S (by omega)
  have cQ := fun W hv => qquote_any W S (by omega) hv
  obtain ⟨L, hL⟩ : ∃ L, L = S.data.toList := ⟨_, rfl⟩
  simp only [← hL] at cRV cV cR cRP cC cRC cRQ cQ
  unfold PartsPost at cRP
  obtain ⟨V, hV⟩ : ∃ V, V = Lib.validD L := ⟨_, rfl⟩
  simp only [← hV] at cRV cV cQ
  obtain ⟨N, hN⟩ : ∃ N, N = (partsL L).length := ⟨_, rfl⟩
  simp only [← hN] at cR cRP
  obtain ⟨C, hC⟩ : ∃ C, C = cutL L f t := ⟨_, rfl⟩
  simp only [← hC] at cC cRC
  obtain ⟨Q, hQ⟩ : ∃ Q, Q = quoteL L := ⟨_, rfl⟩
  simp only [← hQ] at cQ cRQ
  clear hL hV hN hC hQ
  go_enter Tryd.func7, Tryd.ntmps7
  go_wp2_with fail
  refine (shown_any w hT).mono ?_
  rintro e w1 ⟨rfl, k1⟩
  go_wp2_with fail
  refine (cF _).mono ?_
  rintro e w2 ⟨rfl, rfl⟩
  have hT1 := hT.kept k1
  go_wp2_with fail
  refine (cRV _).mono ?_
  rintro e w3 ⟨rfl, rfl⟩
  cases V with
  | false =>
    go_wp2_with fail
    refine (cV _ hT1).mono ?_
    rintro e w4 ⟨rfl, k4⟩
    go_wp2_with fail
    refine (cR _).mono ?_
    rintro e w5 ⟨rfl, k5⟩
    go_wp2_with fail
    refine (cRP _).mono ?_
    rintro e w6 ⟨v, rfl, ho, hn⟩
    obtain ⟨A, c, rfl, -⟩ := ho.shape
    have k6 := hn.kp
    clear hn ho
    go_wp2_with fail
    refine (cC _).mono ?_
    rintro e w7 ⟨rfl, k7⟩
    go_wp2_with fail
    refine (cRC _).mono ?_
    rintro e w8 ⟨rfl, k8⟩
    have HF := hid (((((k1.nil k4).nil k5).nil k6).nil k7).nil k8)
    clear k4 k5 k6 k7 k8
    go_wp2_with fail
    go_ret
    exact ⟨rfl, HF.out⟩
  | true =>
    go_wp2_with fail
    refine (cV _ hT1).mono ?_
    rintro e w4 ⟨rfl, k4⟩
    go_wp2_with fail
    refine (cR _).mono ?_
    rintro e w5 ⟨rfl, k5⟩
    go_wp2_with fail
    refine (cRP _).mono ?_
    rintro e w6 ⟨v, rfl, ho, hn⟩
    obtain ⟨A, c, rfl, -⟩ := ho.shape
    have k6 := hn.kp
    clear hn ho
    go_wp2_with fail
    refine (cC _).mono ?_
    rintro e w7 ⟨rfl, k7⟩
    go_wp2_with fail
    refine (cRC _).mono ?_
    rintro e w8 ⟨rfl, k8⟩
    go_wp2_with fail
    refine (cQ _ trivial).mono ?_
    rintro e w9 ⟨rfl, k9⟩
    go_wp2_with fail
    refine (cRQ _).mono ?_
    rintro e w10 ⟨rfl, k10⟩
    have HF := hid (((((((k1.nil k4).nil k5).nil k6).nil k7).nil k8).nil k9).nil k10)
    clear k4 k5 k6 k7 k8 k9 k10
    go_wp2_with fail
    go_ret
    exact ⟨rfl, HF.out⟩
end Go.Proofs.YtdmajeidggjalaaDoor
