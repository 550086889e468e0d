/- Layer 10: the document's example; a text of at most so many bytes. -/
import Derived.Test.YtgjffkblhhkjmaaDoorLAll
namespace Go.Proofs.YtgjffkblhhkjmaaDoor
open Go Go.RowKit Go.Lib

theorem own_at {w : World} {e : TypeId} {s : Nat} {v : Value} {n : Nat} {xs : List Value} (h : OwnN w e s v n xs) (h0 : xs ≠ []) :
    ∃ g c, v = .slice (some ⟨g, 0, none⟩) n c ∧ n ≤ c ∧ c ≤ 9223372036854775807 ∧ ∀ (j : Nat) u, xs[j]? = some u → w.cell? ⟨g, j, none⟩ = some u := by
  obtain ⟨A, c, rfl, hs, h1, h2, hA⟩ := h.shape
  obtain ⟨ad, rfl, _⟩ := hs.get (j := 0) (List.length_pos_iff.2 h0)
  obtain ⟨had, _⟩ := hA ad rfl
  refine ⟨ad.block, c, by rw [← had], h1, h2, fun j u hj => ?_⟩
  obtain ⟨ad2, e2, hc⟩ := hs j u hj
  injection e2 with e2
  rw [← e2, had] at hc
  rcases Nat.eq_zero_or_pos j with hj0 | hj0
  · subst hj0; simpa [Addr.add] using hc
  · simpa [Addr.add, Nat.ne_of_gt hj0] using hc
def exT : Txt := [46, 97, 44, 36, 120, 62, 61, 49, 46, 53]
def exL : List Tk := [⟨3, [97], none, 0⟩, ⟨6, [44], none, 2⟩, ⟨2, [120], none, 3⟩, ⟨6, [62, 61], none, 5⟩, ⟨4, [], some ⟨false, 15, 1⟩, 7⟩]
theorem ex_all : allL exT = (0, exL) := by kernel_rfl
theorem ex_txt : dtxt 15 = [49, 53] := by kernel_rfl
set_option maxRecDepth 100000 in
set_option maxHeartbeats 6400000 in
theorem shown10_any (w : World) (hT : Tabs w) : Calls Tryd.prog 26 #[] w fun e w' => e = .returned (.bool true) ∧ Kp [] w w' := by
  have q := all_any w exT (by decide) hT
  unfold AllPost at q
  rw [ex_all] at q
  clear hT
  go_enter Tryd.func26, Tryd.ntmps26
  go_wp2_with fail
  refine q.mono ?_
  rintro e w1 ⟨v, rfl, ho, k1⟩
  obtain ⟨g, c, rfl, hc, hc2, hcell⟩ := own_at ho (by simp [toksC, exL, tkC, tokC])
  have a0 : w1.cell? ⟨g, 0, none⟩ = some (.int .i64 3) := hcell 0 _ rfl
  have a2 : w1.cell? ⟨g, 2, none⟩ = some (.string ⟨#[97]⟩) := hcell 2 _ rfl
  have a12 : w1.cell? ⟨g, 12, none⟩ = some (.int .i64 2) := hcell 12 _ rfl
  have a20 : w1.cell? ⟨g, 20, none⟩ = some (.string ⟨#[62, 61]⟩) := hcell 20 _ rfl
  have a27 : w1.cell? ⟨g, 27, none⟩ = some (.bool false) := hcell 27 _ rfl
  have a28 : w1.cell? ⟨g, 28, none⟩ = some (.string ⟨#[49, 53]⟩) := by have := hcell 28 _ rfl; rw [this]; simp only [tL, ex_txt]
  have a29 : w1.cell? ⟨g, 29, none⟩ = some (.int .i64 1) := hcell 29 _ rfl
  have hl : exL.length = 5 := rfl
  rw [hl] at hc ⊢
  have HK := hid k1
  clear ho hcell k1 q
  go_wp2_with fail
  go_ret
  exact ⟨rfl, HK.out⟩
def few21 (L : Txt) : Txt := if 2100 < L.length then L.take 2100 else L
theorem few21_len (L : Txt) : (few21 L).length ≤ 2100 := by
  unfold few21
  split
  · rw [List.length_take]; omega
  · omega
set_option maxRecDepth 100000 in
theorem few10_any (w : World) (x : Txt) (hx : x.length ≤ 9223372036854775807) :
    Calls Tryd.prog 29 #[.string ⟨x.toArray⟩] w fun e w' => e = .returned (.string ⟨(few21 x).toArray⟩) ∧ w' = w := by
  have hsz : (⟨x.toArray⟩ : ByteArray).size = x.length := size_mk _
  have he := extract_mk x 0 2100
  rw [List.drop_zero] at he
  by_cases h : 2100 < x.length
  · have hr : few21 x = x.take 2100 := by unfold few21; rw [if_pos h]
    rw [hr]
    obtain ⟨y, hy⟩ : ∃ y, y = x.take 2100 := ⟨_, rfl⟩
    rw [← hy] at he ⊢
    clear hr hy
    go_enter Tryd.func29, Tryd.ntmps29
    go_wp2_with fail
    go_ret
    exact ⟨rfl, rfl⟩
  · have hr : few21 x = x := by unfold few21; rw [if_neg h]
    rw [hr]
    clear hr he
    go_enter Tryd.func29, Tryd.ntmps29
    go_wp2_with fail
    go_ret
    exact ⟨rfl, rfl⟩
end Go.Proofs.YtgjffkblhhkjmaaDoor
