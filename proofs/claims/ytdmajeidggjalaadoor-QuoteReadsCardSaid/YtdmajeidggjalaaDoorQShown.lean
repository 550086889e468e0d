/- Layer 3's examples answer true; a text of at most 6000 bytes. -/
import Derived.Test.YtdmajeidggjalaaDoorQUnquote
import Derived.Test.YtdmajeidggjalaaDoorQQuote
namespace Go.Proofs.YtdmajeidggjalaaDoor
open Go Go.RowKit

def YesPost (w : World) (e : Ending) (w' : World) : Prop := e = .returned (.bool true) ∧ Kp [] w w'
set_option maxRecDepth 100000 in
theorem unq_shown : unq [34, 92, 117, 48, 48, 101, 57, 92, 117, 100, 56, 51, 100, 92, 117, 100, 101, 48, 48, 34, 32, 114, 101, 115, 116] = ([195, 169, 240, 159, 152, 128], 20, 0) := by decide +kernel
theorem quote_shown : quoteL [10, 195, 169, 34] = [34, 92, 110, 195, 169, 92, 34, 34] := by decide +kernel
theorem runes_shown : (partsL [195, 169, 240, 159, 152, 128]).length = 2 := by decide +kernel
theorem valid_shown : Lib.validD [10, 195, 169, 34] = true := by decide +kernel
set_option maxRecDepth 100000 in
set_option maxHeartbeats 1000000 in
theorem shown_any (w : World) (hT : Tabs w) : Calls Tryd.prog 9 #[] w (YesPost w) := by
  have h1 := qunq_any w ⟨#[34, 92, 117, 48, 48, 101, 57, 92, 117, 100, 56, 51, 100, 92, 117, 100, 101, 48, 48, 34, 32, 114, 101, 115, 116]⟩ (by decide) hT
  have e1 : unq (⟨#[34, 92, 117, 48, 48, 101, 57, 92, 117, 100, 56, 51, 100, 92, 117, 100, 101, 48, 48, 34, 32, 114, 101, 115, 116]⟩ : ByteArray).data.toList = ([195, 169, 240, 159, 152, 128], 20, 0) := unq_shown
  unfold UnqPost at h1
  rw [e1] at h1
  have h2 := fun w => qquote_any w ⟨#[10, 195, 169, 34]⟩ (by decide) valid_shown
  have e2 : quoteL (⟨#[10, 195, 169, 34]⟩ : ByteArray).data.toList = [34, 92, 110, 195, 169, 92, 34, 34] := quote_shown
  rw [e2] at h2
  have h3 := fun w => qrunes_any w ⟨#[195, 169, 240, 159, 152, 128]⟩ (by decide)
  have e3 : (partsL (⟨#[195, 169, 240, 159, 152, 128]⟩ : ByteArray).data.toList).length = 2 := runes_shown
  rw [e3] at h3
  clear e1 e2 e3
  go_enter Tryd.func9, Tryd.ntmps9
  go_wp2_with fail
  refine h1.mono ?_
  rintro e w1 ⟨rfl, k1⟩
  go_wp2_with fail
  refine (h2 _).mono ?_
  rintro e w2 ⟨rfl, k2⟩
  go_wp2_with fail
  refine (h3 _).mono ?_
  rintro e w3 ⟨rfl, k3⟩
  go_wp2_with fail
  go_ret
  exact ⟨rfl, (k1.nil k2).nil k3⟩
/-- At most so many bytes of a text. -/
def fewL (n : Nat) (s : ByteArray) : ByteArray := if n < s.size then s.extract 0 n else s
theorem fewL_size (n : Nat) (s : ByteArray) : (fewL n s).size ≤ n := by
  unfold fewL
  split
  · rw [ByteArray.size_extract]; omega
  · omega
theorem few_any (w : World) (s : ByteArray) (hs : s.size ≤ 9223372036854775807) : Calls Tryd.prog 11 #[.string s] w fun e w' => e = .returned (.string (fewL 6000 s)) ∧ w' = w := by
  by_cases h : 6000 < s.size
  · have hf := hid (show fewL 6000 s = s.extract 0 6000 from if_pos h)
    go_enter Tryd.func11, Tryd.ntmps11
    go_wp2_with fail
    go_ret
    exact ⟨by rw [hf.out]; rfl, rfl⟩
  · have hf := hid (show fewL 6000 s = s from if_neg h)
    go_enter Tryd.func11, Tryd.ntmps11
    go_wp2_with fail
    go_ret
    exact ⟨by rw [hf.out]; rfl, rfl⟩
end Go.Proofs.YtdmajeidggjalaaDoor
