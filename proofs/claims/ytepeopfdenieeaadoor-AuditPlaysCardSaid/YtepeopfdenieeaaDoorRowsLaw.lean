/- Plain: records in a row that are cut anywhere; and the words for a row of records that a loop makes. -/
import Derived.Test.YtepeopfdenieeaaDoorAll
import Derived.Test.YtepeopfdenieeaaDoorFew17
namespace Go.Proofs.YtepeopfdenieeaaDoor
open Go Go.RowKit

theorem putAll_cons (r : Rec) (rs : List Rec) : putAll (r :: rs) = putB r ++ putAll rs := by simp [putAll]
theorem putAll_append (rs qs : List Rec) : putAll (rs ++ qs) = putAll rs ++ putAll qs := by simp [putAll]
/-- What a cut leaves: as many as are whole. -/
theorem cut_rows {qs : List Rec} {K wh P : Nat} (hm : ∀ r ∈ qs, mayOf r = 0) (hP : P = (putAll (qs.take wh)).length) (h1 : P ≤ K) (h2 : wh < qs.length → K < (putAll (qs.take (wh + 1))).length) :
    Rows ((putAll qs).take K) (qs.take wh) (((putAll qs).take K).drop P) := by
  have e : putAll qs = putAll (qs.take wh) ++ putAll (qs.drop wh) := by rw [← putAll_append, List.take_append_drop]
  have e2 : (putAll qs).take K = putAll (qs.take wh) ++ (putAll (qs.drop wh)).take (K - P) := by
    rw [e, List.take_append, List.take_of_length_le (by omega), hP]
  have e3 : ((putAll qs).take K).drop P = (putAll (qs.drop wh)).take (K - P) := by
    rw [e2, hP, List.drop_left]
  refine ⟨fun r hr => hm r (List.mem_of_mem_take hr), by rw [e3, e2], fun r hb => ?_⟩
  rw [e3] at hb
  obtain ⟨hr, t, ht⟩ := hb
  by_cases hw : wh < qs.length
  · obtain ⟨q, hq⟩ : ∃ q, qs.drop wh = q :: qs.drop (wh + 1) := ⟨_, List.drop_eq_getElem_cons hw⟩
    have hqm : q ∈ qs := List.mem_of_mem_drop (by rw [hq]; simp)
    have hlt := h2 hw
    have hq1 : qs.take (wh + 1) = qs.take wh ++ [q] := by
      rw [List.take_add_one]
      congr 1
      have : qs[wh]? = some q := by
        have h := congrArg (fun l => l[0]?) hq
        simpa [List.getElem?_drop] using h
      rw [this]
      rfl
    rw [hq1, putAll_snoc, List.length_append, ← hP] at hlt
    rw [hq, putAll_cons, List.take_append_of_le_length (by omega)] at ht
    have hfull : putB r ++ (t ++ (putB q).drop (K - P)) = putB q ++ [] := by
      rw [← List.append_assoc, ← ht, List.take_append_drop, List.append_nil]
    obtain ⟨rfl, _⟩ := putB_free hr (hm q hqm) _ _ hfull
    have h5 := congrArg List.length ht
    rw [List.length_append, List.length_take] at h5
    omega
  · rw [List.drop_eq_nil_of_le (by omega)] at ht
    have h5 := congrArg List.length ht
    have h6 := putB_len r
    rw [List.length_append] at h5
    simp [putAll] at h5
    omega
/-- The ends of records in a row. -/
def endsOf (qs : List Rec) : List Value := (List.range qs.length).map fun i => Value.int .i64 ((putAll (qs.take (i + 1))).length : Nat)
theorem endsOf_snoc (qs : List Rec) (q : Rec) : endsOf (qs ++ [q]) = endsOf qs ++ [.int .i64 ((putAll (qs ++ [q])).length : Nat)] := by
  unfold endsOf
  rw [List.length_append, List.length_singleton, List.range_succ, List.map_append]
  congr 1
  · apply List.map_congr_left
    intro i hi
    rw [List.take_append_of_le_length (by have := List.mem_range.1 hi; omega)]
  · simp only [List.map_cons, List.map_nil]
    rw [List.take_of_length_le (by simp)]
theorem length_endsOf (qs : List Rec) : (endsOf qs).length = qs.length := by simp [endsOf]
theorem endsOf_get (qs : List Rec) (i : Nat) (h : i < qs.length) : (endsOf qs)[i]? = some (.int .i64 ((putAll (qs.take (i + 1))).length : Nat)) := by
  unfold endsOf
  rw [List.getElem?_map, List.getElem?_range h]
  rfl

section
variable {w w' : World} {e t : TypeId} {s s2 : Nat} {u v : Value} {n m : Nat} {xs ys : List Value}
theorem OwnN.ne (h : OwnN w e s v n xs) (h2 : OwnN w t s2 u m ys) (hne : e ≠ t) : ∀ g, v.ownBlock = some g → u.ownBlock ≠ some g := by
  intro g hg hu
  rcases h.2 with ⟨rfl, _⟩ | ⟨g1, c1, cur1, rfl, _, hg1, _⟩
  · simp [Value.ownBlock] at hg
  rcases h2.2 with ⟨rfl, _⟩ | ⟨g2, c2, cur2, rfl, _, hg2, _⟩
  · simp [Value.ownBlock] at hu
  have e1 : g1 = g := by simpa [Value.ownBlock] using hg
  have e2 : g2 = g := by simpa [Value.ownBlock] using hu
  subst e1 e2
  rw [hg1] at hg2
  injection hg2 with hg2
  injection hg2 with _ ht
  exact hne ht
theorem OwnN.keep_other (h : OwnN w e s v n xs) (h2 : OwnN w t s2 u m ys) (hne : e ≠ t) (k : Kp u.ownBlock.toList w w') : OwnN w' e s v n xs :=
  h.keep k (fun g hg hm => h.ne h2 hne g hg (by simpa using hm))
end
/-- A row of records; their holes in blocks of their own. -/
def RowT (w : World) (v : Value) (qs : List Rec) : Prop :=
  ∃ xs, OwnN w 24 4 v qs.length xs ∧ ∀ k r, qs[k]? = some r → ∃ A c, (xs.drop (k * 4)).take 4 = recCells r A c ∧ OwnN w 9 1 (.slice A r.holes.length c) r.holes.length (r.holes.map .string)
section
variable {w w' : World} {u v v' : Value} {qs : List Rec} {m s2 : Nat} {t : TypeId} {ys : List Value}
theorem RowT.kept (h : RowT w v qs) (k : Kp [] w w') : RowT w' v qs := by
  obtain ⟨xs, h1, h2⟩ := h
  refine ⟨xs, h1.kept k, fun i r hi => ?_⟩
  obtain ⟨A, c, a1, a2⟩ := h2 i r hi
  exact ⟨A, c, a1, a2.kept k⟩
theorem RowT.keep_other (h : RowT w v qs) (h2 : OwnN w t s2 u m ys) (h3 : 24 ≠ t) (h4 : 9 ≠ t) (k : Kp u.ownBlock.toList w w') : RowT w' v qs := by
  obtain ⟨xs, h1, h5⟩ := h
  refine ⟨xs, h1.keep_other h2 h3 k, fun i r hi => ?_⟩
  obtain ⟨A, c, a1, a2⟩ := h5 i r hi
  exact ⟨A, c, a1, a2.keep_other h2 h4 k⟩
theorem RowT.of_empty {g : Nat} (h : Cells w g 24 []) : RowT w (.slice (some ⟨g, 0, none⟩) 0 0) [] := ⟨[], OwnN.of_cells h rfl (by omega), fun k r h => by simp at h⟩
theorem RowT.own (h : RowT w v qs) : ∃ xs, OwnN w 24 4 v qs.length xs := by
  obtain ⟨xs, h1, _⟩ := h
  exact ⟨xs, h1⟩
theorem RowT.snoc {xs : List Value} (hx : OwnN w 24 4 v qs.length xs ∧ ∀ k r, qs[k]? = some r → ∃ A c, (xs.drop (k * 4)).take 4 = recCells r A c ∧ OwnN w 9 1 (.slice A r.holes.length c) r.holes.length (r.holes.map .string))
    {r : Rec} {A : Option Addr} {c : Nat} (ho : OwnN w' 24 4 v' (qs.length + 1) (xs ++ recCells r A c)) (kp : Kp v.ownBlock.toList w w') (hs : OwnN w 9 1 (.slice A r.holes.length c) r.holes.length (r.holes.map .string)) : RowT w' v' (qs ++ [r]) := by
  obtain ⟨h1, h2⟩ := hx
  have hl := h1.length
  refine ⟨_, by simpa using ho, fun i q hi => ?_⟩
  by_cases hlt : i < qs.length
  · rw [List.getElem?_append_left hlt] at hi
    obtain ⟨B, d, a1, a2⟩ := h2 i q hi
    refine ⟨B, d, ?_, a2.keep_other h1 (by decide) kp⟩
    rw [List.drop_append_of_le_length (by omega), List.take_append_of_le_length (by rw [List.length_drop]; omega), a1]
  · have hi2 : i = qs.length := by
      have := (List.getElem?_eq_some_iff.1 hi).1
      simp at this
      omega
    subst hi2
    simp only [List.getElem?_append_right (Nat.le_refl _), Nat.sub_self, List.getElem?_cons_zero, Option.some.injEq] at hi
    subst hi
    refine ⟨A, c, ?_, hs.keep_other h1 (by decide) kp⟩
    rw [← hl, List.drop_left]
    rfl
theorem RowT.recs (h : RowT w v qs) : RecsOwn w v qs := by
  obtain ⟨xs, h1, h2⟩ := h
  refine ⟨xs, h1, fun k r hk => ?_⟩
  obtain ⟨A, c, a1, a2⟩ := h2 k r hk
  obtain ⟨B, d, e1, sp, g1, g2, g3⟩ := a2.shape
  injection e1 with e1 _ e3
  subst e1 e3
  exact ⟨A, c, a1, sp, g1, g2, fun _ ad he hv => h1.ne a2 (by decide) _ hv ((g3 ad he).2)⟩
end
theorem RecsAt.take {w : World} {A : Option Addr} {rs : List Rec} (h : RecsAt w A rs) (m : Nat) : RecsAt w A (rs.take m) := fun k r hk => h k r (by
  rw [List.getElem?_take] at hk
  split at hk
  · exact hk
  · cases hk)
end Go.Proofs.YtepeopfdenieeaaDoor
