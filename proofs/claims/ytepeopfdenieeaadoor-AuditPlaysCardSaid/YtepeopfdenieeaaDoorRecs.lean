/- Rows of records that a call has made: what they are, that they may be appended to. -/
import Derived.Test.YtepeopfdenieeaaDoorSame
import Derived.Test.YtepeopfdenieeaaDoorWide
import Derived.Test.YtepeopfdenieeaaDoorRecNew
namespace Go.Proofs.YtepeopfdenieeaaDoor
open Go Go.RowKit

theorem infoRec : (Tryd.prog.info? 24).map (fun i => (i.zero, i.size, i.bytes)) = some (some (.agg #[.int .i64 0, .int .i64 0, .int .i64 0, .slice none 0 0]), 4, 48) := by kernel_rfl
/-- The cells of a row of records; where their holes lie they do not tell. -/
def recCells (r : Rec) (A : Option Addr) (c : Nat) : List Value := [.int .i64 r.doc, .int .i64 r.out, .int .i64 r.len, .slice A r.holes.length c]
def RecsX (w : World) (v : Value) (rs : List Rec) (xs : List Value) : Prop :=
  OwnN w 24 4 v rs.length xs ∧ ∀ k r, rs[k]? = some r → ∃ A c, (xs.drop (k * 4)).take 4 = recCells r A c ∧ Span w A (r.holes.map .string) ∧ r.holes.length ≤ c ∧ c ≤ 9223372036854775807 ∧
    (r.holes ≠ [] → ∀ ad, A = some ad → v.ownBlock ≠ some ad.block)
def RecsOwn (w : World) (v : Value) (rs : List Rec) : Prop := ∃ xs, RecsX w v rs xs
theorem recCells_one (r : Rec) (A : Option Addr) (c : Nat) : ∀ u ∈ recCells r A c, u.oneCell' = true := by
  intro u hu
  simp only [recCells, List.mem_cons, List.not_mem_nil, or_false] at hu
  rcases hu with rfl | rfl | rfl | rfl <;> rfl
section
variable {w w' : World} {v v' : Value} {rs : List Rec} {S : List Nat}
theorem RecsOwn.nil (w : World) : RecsOwn w (.slice none 0 0) [] := ⟨[], OwnN.nil _ _ _, fun k r h => by simp at h⟩
theorem RecsOwn.of_empty {g : Nat} (h : Cells w g 24 []) : RecsOwn w (.slice (some ⟨g, 0, none⟩) 0 0) [] := ⟨[], OwnN.of_cells h rfl (by omega), fun k r h => by simp at h⟩
theorem RecsX.kept {xs : List Value} (h : RecsX w v rs xs) (k : Kp [] w w') : RecsX w' v rs xs := by
  obtain ⟨h1, h2⟩ := h
  refine ⟨h1.kept k, fun i r hi => ?_⟩
  obtain ⟨A, c, a1, a2, a3, a4, a5⟩ := h2 i r hi
  exact ⟨A, c, a1, a2.kept k, a3, a4, a5⟩
theorem RecsOwn.kept (h : RecsOwn w v rs) (k : Kp [] w w') : RecsOwn w' v rs := by
  obtain ⟨xs, h1, h2⟩ := h
  refine ⟨xs, h1.kept k, fun i r hi => ?_⟩
  obtain ⟨A, c, a1, a2, a3, a4, a5⟩ := h2 i r hi
  exact ⟨A, c, a1, a2.kept k, a3, a4, a5⟩
theorem RecsOwn.lt (h : RecsOwn w v rs) : ∀ k, v.ownBlock = some k → k < w.heap.size := by
  obtain ⟨xs, h1, _⟩ := h
  exact h1.lt
theorem span_old {A : Option Addr} {xs : List Value} (h : Span w A xs) (hx : xs ≠ []) {ad : Addr} (he : A = some ad) : ad.block < w.heap.size := h.old (List.length_pos_iff.2 hx) ad he
theorem RecsX.snoc {xs : List Value} (hx : RecsX w v rs xs) {r : Rec} {A : Option Addr} {c : Nat} (ho : OwnN w' 24 4 v' (rs.length + 1) (xs ++ recCells r A c)) (kp : Kp v.ownBlock.toList w w')
    (hb : v'.ownBlock = v.ownBlock ∨ v'.ownBlock = some w.heap.size) (hs : Span w A (r.holes.map .string)) (h1 : r.holes.length ≤ c) (h2 : c ≤ 9223372036854775807) (hA : r.holes ≠ [] → ∀ ad, A = some ad → v.ownBlock ≠ some ad.block) : RecsOwn w' v' (rs ++ [r]) := by
  obtain ⟨hx, hk⟩ := hx
  have hl := hx.length
  have one : ∀ (q : Rec) (B : Option Addr), Span w B (q.holes.map .string) → (q.holes ≠ [] → ∀ ad, B = some ad → v.ownBlock ≠ some ad.block) →
      Span w' B (q.holes.map .string) ∧ (q.holes ≠ [] → ∀ ad, B = some ad → v'.ownBlock ≠ some ad.block) := by
    intro q B s n
    by_cases hq : q.holes = []
    · rw [hq]
      exact ⟨Span.nil _ _, fun h => absurd rfl h⟩
    · refine ⟨s.keep kp (fun ad he hm => ?_), fun _ ad he => ?_⟩
      · exact n hq ad he (by simpa using hm)
      · rcases hb with hb | hb
        · rw [hb]; exact n hq ad he
        · rw [hb]
          have := span_old s (by simpa using hq) he
          simp; omega
  refine ⟨_, by simpa using ho, fun i q hi => ?_⟩
  by_cases hlt : i < rs.length
  · rw [List.getElem?_append_left hlt] at hi
    obtain ⟨B, d, a1, a2, a3, a4, a5⟩ := hk i q hi
    obtain ⟨b1, b2⟩ := one q B a2 a5
    refine ⟨B, d, ?_, b1, a3, a4, b2⟩
    rw [List.drop_append_of_le_length (by omega), List.take_append_of_le_length (by rw [List.length_drop]; omega), a1]
  · have hi2 : i = rs.length := by
      have := (List.getElem?_eq_some_iff.1 hi).1
      simp at this
      omega
    subst hi2
    simp only [List.getElem?_append_right (Nat.le_refl _), Nat.sub_self, List.getElem?_cons_zero, Option.some.injEq] at hi
    subst hi
    obtain ⟨b1, b2⟩ := one r A hs hA
    refine ⟨A, c, ?_, b1, h1, h2, b2⟩
    rw [← hl, List.drop_left]
    rfl
theorem RecsOwn.shape (h : RecsOwn w v rs) : ∃ A c, v = .slice A rs.length c ∧ RecsAt w A rs ∧ rs.length ≤ c ∧ c ≤ 9223372036854775807 := by
  obtain ⟨xs, h1, h2⟩ := h
  obtain ⟨A, c, rfl, sp, h3, h4, h5⟩ := h1.shape
  have hl := h1.length
  refine ⟨A, c, rfl, fun k r hk => ?_, h3, h4⟩
  have hlt := (List.getElem?_eq_some_iff.1 hk).1
  obtain ⟨B, d, a1, a2, a3, a4, a5⟩ := h2 k r hk
  have hg : ∀ j, j < 4 → xs[k * 4 + j]? = (recCells r B d)[j]? := by
    intro j hj
    rw [← a1, List.getElem?_take, if_pos hj, List.getElem?_drop]
  obtain ⟨ad, rfl, _⟩ := sp.get (j := k * 4) (by omega)
  have hc : ∀ j, j < 4 → w.cell? (ad.add (k * 4 + j)) = (recCells r B d)[j]? := by
    intro j hj
    obtain ⟨ad', e, hc⟩ := sp (k * 4 + j) _ ((hg j hj).trans (List.getElem?_eq_getElem (by simpa [recCells] using hj)))
    injection e with e
    subst e
    rw [hc, List.getElem?_eq_getElem]
  obtain ⟨he, _⟩ := h5 ad rfl
  have hadd : ∀ m, ad.add m = ⟨ad.block, m, none⟩ := by
    intro m
    rw [he]
    rcases Nat.eq_zero_or_pos m with h0 | h0
    · subst h0; simp [Addr.add]
    · simp [Addr.add, Nat.ne_of_gt h0]
  refine ⟨ad, rfl, B, d, ?_, ?_, ?_, ?_, a2, a3, a4⟩
  · exact hc 0 (by omega)
  · have := hc 1 (by omega); rw [hadd] at this ⊢; exact this
  · have := hc 2 (by omega); rw [hadd] at this ⊢; exact this
  · have := hc 3 (by omega); rw [hadd] at this ⊢; exact this
end
end Go.Proofs.YtepeopfdenieeaaDoor
