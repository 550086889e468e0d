/- QuoteReads: any bytes are read as a quoted text, or refused, as the document says. -/
import Derived.Test.YtdmajeidggjalaaDoorQLists
import Derived.Test.YtdmajeidggjalaaDoorQRefUnq
namespace Go.Proofs.YtdmajeidggjalaaDoor
open Go Go.RowKit

set_option maxRecDepth 100000 in
set_option maxHeartbeats 6400000 in
theorem reads_any (w : World) (hT : Tabs w) (s : ByteArray) (hs : s.size ≤ maxLen) : Calls Tryd.prog 3 #[.string s] w (YesPost w) := by
  have hs2 : s.size ≤ 9223372036854775807 := hs
  clear hs
  obtain ⟨S, hS⟩ : ∃ S, S = fewL 6000 s := ⟨_, rfl⟩
  have hS1 : S.size ≤ 6000 := by rw [hS]; exact fewL_size 6000 s
  have cF := fun W => few_any W s hs2
  simp only [← hS] at cF
  clear hS
  have cU := fun W hW => qunq_any W S (by omega) hW
  have cR := fun W => runq_any W S (by omega)
  unfold UnqPost at cU cR
  obtain ⟨A, hA⟩ : ∃ A, A = (unq S.data.toList).1 := ⟨_, rfl⟩
  obtain ⟨B, hB⟩ : ∃ B, B = (unq S.data.toList).2.1 := ⟨_, rfl⟩
  obtain ⟨C, hC⟩ : ∃ C, C = (unq S.data.toList).2.2 := ⟨_, rfl⟩
  simp only [← hA, ← hB, ← hC] at cU cR
  clear hA hB hC
  go_enter Tryd.func3, Tryd.ntmps3
  go_wp2_with fail
  refine (shown_any w hT).mono ?_
  rintro e w1 ⟨rfl, k1⟩
  have hT1 := hT.kept k1
  go_wp2_with fail
  refine (cF _).mono ?_
  rintro e w2 ⟨rfl, rfl⟩
  go_wp2_with fail
  refine (cU _ hT1).mono ?_
  rintro e w3 ⟨rfl, k3⟩
  go_wp2_with fail
  refine (cF _).mono ?_
  rintro e w4 ⟨rfl, rfl⟩
  go_wp2_with fail
  refine (cR _).mono ?_
  rintro e w5 ⟨rfl, k5⟩
  have HF := hid ((k1.nil k3).nil k5)
  clear k3 k5
  go_wp2_with fail
  go_ret
  exact ⟨rfl, HF.out⟩
end Go.Proofs.YtdmajeidggjalaaDoor
