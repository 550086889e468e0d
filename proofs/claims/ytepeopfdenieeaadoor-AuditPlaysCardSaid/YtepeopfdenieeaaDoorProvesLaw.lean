/- Plain: whatever sinks, what is out is noted. -/
import Derived.Test.YtepeopfdenieeaaDoorRightLaw
import Derived.Test.YtepeopfdenieeaaDoorRowsLaw
namespace Go.Proofs.YtepeopfdenieeaaDoor
open Go

/-- A beginning of a frame begins no record. -/
theorem begins_part {r : Rec} (hr : mayOf r = 0) {m : Nat} (hm : m < (putB r).length) (q : Rec) : ¬ Begins ((putB r).take m) q := by
  rintro ⟨hq, t, ht⟩
  have hfull : putB q ++ (t ++ (putB r).drop m) = putB r ++ [] := by
    rw [← List.append_assoc, ← ht, List.take_append_drop, List.append_nil]
  obtain ⟨rfl, _⟩ := putB_free hq hr _ _ hfull
  have h5 := congrArg List.length ht
  rw [List.length_append, List.length_take] at h5
  omega
theorem begins_nil (q : Rec) : ¬ Begins [] q := by
  rintro ⟨_, t, ht⟩
  have h1 := congrArg List.length ht
  have h2 := putB_len q
  rw [List.length_append] at h1
  simp at h1
  omega
/-- How a log and outputs may stand. -/
def Fin (s : AK) (ds : List Rec) (ws : List UInt8) : Prop :=
  (∃ t, s.log.xs = putAll ds ++ t ∧ (∀ r, ¬ Begins t r) ∧ s.out.xs = ws) ∨
  ∃ r u, s.log.xs = putAll (ds ++ [r]) ∧ mayOf r = 0 ∧ s.out.xs = ws ++ u ∧ (u.length : Int) ≤ r.len
structure ProvInv (s : AK) (ds : List Rec) (ws : List UInt8) : Prop where
  may : ∀ r ∈ ds, mayOf r = 0
  sum : sumLen ds = ws.length
  live : s.code = 0 → s.log.xs = putAll ds ∧ s.out.xs = ws
  fin : Fin s ds ws
theorem ProvInv.start (a b c d : Int) : ProvInv ⟨SK.make a b, SK.make c d, 0⟩ [] [] :=
  ⟨by simp, rfl, fun _ => ⟨rfl, rfl⟩, .inl ⟨[], rfl, begins_nil, rfl⟩⟩
theorem SK.write_ok {s : SK} {ys : List UInt8} (h : (s.write ys).2.2 = 0) : (s.write ys).1.xs = s.xs ++ ys := by
  unfold SK.write at h ⊢
  split at h
  · simp at h
  · rename_i hd
    rw [if_neg hd]
    split at h
    · simp at h
    · rename_i hl
      rw [if_neg hl]
      split at h
      · simp at h
      · rename_i hr
        rw [if_neg hr]
theorem SK.write_bad {s : SK} {ys : List UInt8} (h : (s.write ys).2.2 ≠ 0) : (s.write ys).1.xs = s.xs ∨ ∃ m, m < ys.length ∧ (s.write ys).1.xs = s.xs ++ ys.take m := by
  unfold SK.write at h ⊢
  split
  · exact .inl rfl
  · rename_i hd
    rw [if_neg hd] at h
    split
    · rename_i hl
      exact .inr ⟨s.left.toNat, by omega, rfl⟩
    · rename_i hl
      rw [if_neg hl] at h
      split
      · exact .inl rfl
      · rename_i hr
        rw [if_neg hr] at h
        simp at h
/-- One more piece. -/
theorem ProvInv.step {s : AK} {ds : List Rec} {ws : List UInt8} (h : ProvInv s ds ws) (r : Rec) (ys : List UInt8) :
    (s.code ≠ 0 ∧ s.release r ys = (s, s.code)) ∨
    (s.code = 0 ∧ (s.release r ys).2 ≠ 0 ∧ ProvInv (s.release r ys).1 ds ws) ∨
    (s.code = 0 ∧ (s.release r ys).2 = 0 ∧ r.len = ys.length ∧ mayOf r = 0 ∧ ProvInv (s.release r ys).1 (ds ++ [r]) (ws ++ ys) ∧ (s.release r ys).1.code = 0) := by
  obtain ⟨h1, h2, h3, h4⟩ := h
  by_cases hc : s.code = 0
  · obtain ⟨h5, h6⟩ := h3 hc
    right
    unfold AK.release
    rw [if_neg (by simpa using hc)]
    by_cases hm : mayOf r = 0
    · rw [if_neg (by simpa using hm)]
      by_cases hl : r.len = ys.length
      · rw [if_neg (by simpa using hl)]
        by_cases he : (s.log.write (putB r)).2.2 = 0
        · rw [if_neg (by simpa using he)]
          have hx := SK.write_ok he
          rw [h5, ← putAll_snoc] at hx
          by_cases hf : (s.out.write ys).2.2 = 0
          · right
            have hy := SK.write_ok hf
            rw [h6] at hy
            refine ⟨hc, hf, hl, hm, ⟨?_, ?_, fun _ => ⟨hx, hy⟩, .inl ⟨[], by rw [hx, List.append_nil], begins_nil, hy⟩⟩, hf⟩
            · intro q hq
              rcases List.mem_append.1 hq with hq | hq
              · exact h1 q hq
              · rw [List.mem_singleton.1 hq]; exact hm
            · rw [sumLen_snoc, h2, hl, List.length_append]; omega
          · left
            refine ⟨hc, hf, h1, h2, fun e => absurd e hf, .inr ⟨r, ?_⟩⟩
            rcases SK.write_bad hf with hy | ⟨m, hm2, hy⟩
            · exact ⟨[], hx, hm, by rw [hy, h6, List.append_nil], by rw [hl]; simp⟩
            · exact ⟨ys.take m, hx, hm, by rw [hy, h6], by rw [hl, List.length_take]; omega⟩
        · rw [if_pos (by simpa using he)]
          left
          refine ⟨hc, he, h1, h2, fun e => absurd e he, .inl ?_⟩
          rcases SK.write_bad he with hx | ⟨m, hm2, hx⟩
          · exact ⟨[], by rw [hx, h5, List.append_nil], begins_nil, h6⟩
          · exact ⟨(putB r).take m, by rw [hx, h5], begins_part hm hm2, h6⟩
      · rw [if_pos (by simpa using hl)]
        left
        exact ⟨hc, by simp, h1, h2, h3, h4⟩
    · rw [if_pos (by simpa using hm)]
      left
      exact ⟨hc, hm, h1, h2, h3, h4⟩
  · left
    refine ⟨hc, ?_⟩
    unfold AK.release
    rw [if_pos hc]
/-- What the log then tells. -/
theorem ProvInv.end_ {s : AK} {ds : List Rec} {ws : List UInt8} (h : ProvInv s ds ws) :
    (∃ rest, Rows s.log.xs ds rest ∧ s.out.xs = ws) ∨ ∃ r u, Rows s.log.xs (ds ++ [r]) [] ∧ s.out.xs = ws ++ u ∧ (u.length : Int) ≤ r.len ∧ 0 ≤ r.len ∧ r.len ≤ 1073741824 := by
  obtain ⟨h1, h2, h3, h4⟩ := h
  rcases h4 with ⟨t, e1, e2, e3⟩ | ⟨r, u, e1, e2, e3, e4⟩
  · exact .inl ⟨t, ⟨h1, e1, e2⟩, e3⟩
  · refine .inr ⟨r, u, ?_, e3, e4, ?_⟩
    · rw [e1]
      refine rows_whole (fun q hq => ?_)
      rcases List.mem_append.1 hq with hq | hq
      · exact h1 q hq
      · rw [List.mem_singleton.1 hq]; exact e2
    · obtain ⟨_, _, h, _⟩ := may_zero e2
      exact h
theorem ProvInv.tells {s : AK} {ds : List Rec} {ws : List UInt8} (h : ProvInv s ds ws) : ∃ us rest, Rows s.log.xs us rest ∧ us.take ds.length = ds ∧ ds.length ≤ us.length ∧ us.length ≤ ds.length + 1 ∧ (∃ u, s.out.xs = ws ++ u) ∧ (s.out.xs.length : Int) ≤ sumLen us ∧
    (s.out.xs.length = ws.length ∨ (s.out.xs.length ≠ ws.length ∧ us.length = ds.length + 1 ∧ ∃ r, us[ds.length]? = some r ∧ (s.out.xs.length : Int) ≤ ws.length + r.len ∧ r.len ≤ 1073741824)) := by
  have hsum := h.sum
  rcases h.end_ with ⟨rest, h1, h2⟩ | ⟨r, u, h1, h2, h3, h4, h5⟩
  · exact ⟨ds, rest, h1, by simp, by omega, by omega, ⟨[], by rw [h2, List.append_nil]⟩, by rw [h2, hsum]; omega, .inl (by rw [h2])⟩
  · refine ⟨ds ++ [r], [], h1, by simp, by simp, by simp, ⟨u, h2⟩, ?_, ?_⟩
    · rw [h2, sumLen_snoc, hsum, List.length_append]; omega
    · by_cases hu : u = []
      · left; rw [h2, hu, List.append_nil]
      · right
        have hul : 0 < u.length := List.length_pos_iff.2 hu
        refine ⟨by rw [h2, List.length_append]; omega, by simp, r, by simp, ?_, h5⟩
        rw [h2, List.length_append]; omega
theorem text_size (l : List UInt8) : (ByteArray.mk l.toArray).size = l.length := by simp [ByteArray.size]
theorem text_cut (l m : List UInt8) : (ByteArray.mk (l ++ m).toArray).extract 0 l.length = ⟨l.toArray⟩ := by
  apply data_inj
  rw [ByteArray.data_extract]
  simp
end Go.Proofs.YtepeopfdenieeaaDoor
