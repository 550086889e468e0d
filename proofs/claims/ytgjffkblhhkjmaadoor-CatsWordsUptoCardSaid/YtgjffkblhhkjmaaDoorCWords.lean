/- Layer 6, the document's answer: the words of a text, names read as a mask, a mask written as names. -/
import Derived.Test.YtgjffkblhhkjmaaDoorCRef
namespace Go.Proofs.YtgjffkblhhkjmaaDoor
open Go Go.RowKit Go.Maps

theorem words_end {L : Txt} {fr i : Nat} (hfi : fr ≤ i) (hi : i = L.length) (hno : (32 : UInt8) ∉ (L.drop fr).take (i - fr)) : wordsL (L.drop fr) = if i = fr then [] else [(L.take i).drop fr] := by
  have e : (L.drop fr).take (i - fr) = L.drop fr := List.take_of_length_le (by rw [List.length_drop]; omega)
  rw [e] at hno
  rw [words_none hno]
  subst hi
  rw [List.take_length]
  by_cases h : L.length = fr
  · rw [if_pos h, if_pos (by rw [List.drop_eq_nil_of_le (by omega)])]
  · rw [if_neg h, if_neg]
    intro h2
    have := congrArg List.length h2
    rw [List.length_drop] at this
    simp at this
    omega
theorem words_blank_at {L : Txt} {fr i : Nat} (hfi : fr ≤ i) (hi : i < L.length) (hc : L[i] = 32) (hno : (32 : UInt8) ∉ (L.drop fr).take (i - fr)) : wordsL (L.drop fr) = (if i = fr then [] else [(L.take i).drop fr]) ++ wordsL (L.drop (i + 1)) := by
  have e : L.drop fr = (L.drop fr).take (i - fr) ++ 32 :: L.drop (i + 1) := by
    conv => lhs; rw [← List.take_append_drop (i - fr) (L.drop fr)]
    rw [List.drop_drop, show fr + (i - fr) = i by omega, List.drop_eq_getElem_cons hi, hc]
  rw [e, words_cut _ hno]
  congr 1
  rw [List.drop_take]
  by_cases h : i = fr
  · rw [if_pos h, if_pos (by rw [h, Nat.sub_self, List.take_zero])]
  · rw [if_neg h, if_neg]
    intro h2
    have := congrArg List.length h2
    rw [List.length_take, List.length_drop] at this
    simp at this
    omega
theorem no_blank_step {L : Txt} {fr i : Nat} (hfi : fr ≤ i) (hi : i < L.length) (hc : L[i] ≠ 32) (hno : (32 : UInt8) ∉ (L.drop fr).take (i - fr)) : (32 : UInt8) ∉ (L.drop fr).take (i + 1 - fr) := by
  rw [show i + 1 - fr = (i - fr) + 1 by omega, List.take_add_one, List.mem_append]
  rintro (h | h)
  · exact hno h
  · rw [List.getElem?_drop, show fr + (i - fr) = i by omega, List.getElem?_eq_getElem hi] at h
    simp at h
    exact hc h.symm
/-- How far the text's words are told. -/
def Told (L : Txt) (i fr : Nat) (W : List Txt) : Prop := (i ≤ L.length → fr ≤ i ∧ (32 : UInt8) ∉ (L.drop fr).take (i - fr) ∧ wordsL L = W ++ wordsL (L.drop fr)) ∧ (i = L.length + 1 → W = wordsL L)
theorem words_count (L : Txt) : (wordsL L).length ≤ L.length + 1 := by
  unfold wordsL
  exact Nat.le_trans (List.length_filter_le _ _) (pieces_len L)
theorem words_short (L : Txt) : ∀ x ∈ wordsL L, x.length ≤ L.length := fun x hx => pieces_short L x (List.mem_filter.1 hx).1

set_option maxRecDepth 100000 in
set_option maxHeartbeats 6400000 in
theorem rwords_any (w : World) (L : Txt) (hL : L.length ≤ 100000000) :
    Calls Tryd.prog 25 #[.string ⟨L.toArray⟩] w fun e w' => ∃ v, e = .returned v ∧ Own w' 9 v (wordsL L).length (strs (wordsL L)) ∧ Kp [] w w' := by
  have hsz : (⟨L.toArray⟩ : ByteArray).size = L.length := size_mk _
  obtain ⟨N, hN⟩ : ∃ N, N = L.length := ⟨_, rfl⟩
  rw [← hN] at hsz hL
  have HN := hid hN
  clear hN
  go_enter Tryd.func25, Tryd.ntmps25
  go_wp2_with fail
  have o3 : Own (w.alloc (.cells #[] 9)) 9 (.slice (some ⟨w.heap.size, 0, none⟩) 0 0) 0 (strs []) := Own.of_cells (Cells.fresh w 9 []) (Nat.zero_le _)
  have n3 : New w (w.alloc (.cells #[] 9)) (.slice (some ⟨w.heap.size, 0, none⟩) 0 0) := ⟨(Kp.refl _ _).alloc _, by intro g hg; have : w.heap.size = g := (by simpa [Value.ownBlock] using hg); omega⟩
  go_loopw [3, 4, 5] (fun v vf vi wr => ∃ (i fr : Nat) (W : List Txt), i ≤ N + 1 ∧ vi = .int .i64 (i : Int) ∧ vf = .int .i64 (fr : Int) ∧ fr ≤ N + 1 ∧ Told L i fr W ∧ Own wr 9 v W.length (strs W) ∧ New w wr v) (fun _ _ vi _ => N + 1 - (intOf vi).toNat)
  case atStart => exact ⟨0, 0, [], Nat.zero_le _, rfl, rfl, Nat.zero_le _, ⟨fun _ => ⟨Nat.le_refl _, by simp, by simp⟩, fun h => by omega⟩, o3, n3⟩
  case round =>
    clear o3 n3
    obtain ⟨i, fr, W, hi, rfl, rfl, hfr, ht, ho, hnw⟩ := hrel
    by_cases hle : i ≤ N
    · obtain ⟨hfi, hno, hwd⟩ := ht.1 (by rw [← HN.out]; exact hle)
      have hwl : W.length ≤ 100000001 := by
        have := congrArg List.length hwd
        rw [List.length_append] at this
        have := words_count L
        rw [← HN.out] at this
        omega
      obtain ⟨m, hm⟩ : ∃ m, m = W.length := ⟨_, rfl⟩
      rw [← hm] at ho hwl
      have hx := extract_mk L fr i
      obtain ⟨X, hX⟩ : ∃ X, X = (L.take i).drop fr := ⟨_, rfl⟩
      rw [← hX] at hx
      have HT := hid (And.intro hno (And.intro hwd (And.intro hm hX)))
      have hfi2 : (fr : Int) ≤ (i : Int) := by omega
      have hiN : (i : Int) ≤ (N : Int) := by omega
      have hf0 : (0 : Int) ≤ (fr : Int) := by omega
      clear hno hwd hm hX ht
      -- the word behind, or none, and then the rest
      have close : ∀ W2, (wordsL (L.drop fr) = (if i = fr then [] else [X]) ++ W2) → (W2 = if i = N then [] else wordsL (L.drop (i + 1))) → (i < N → (32 : UInt8) ∉ (L.drop (i + 1)).take (i + 1 - (i + 1))) →
          Told L (i + 1) (i + 1) (W ++ if i = fr then [] else [X]) := by
        intro W2 h1 h2 h3
        constructor
        · intro h
          rw [← HN.out] at h
          refine ⟨Nat.le_refl _, h3 (by omega), ?_⟩
          have h4 : W2 = wordsL (L.drop (i + 1)) := by rw [h2, if_neg (show ¬ i = N by omega)]
          rw [HT.out.2.1, h1, h4, List.append_assoc]
        · intro h
          rw [← HN.out] at h
          have h4 : W2 = [] := by rw [h2, if_pos (show i = N by omega)]
          rw [HT.out.2.1, h1, h4, List.append_nil]
      have HC := hid close
      clear close
      by_cases hend : i = N
      · have be : ((i : Int) == (N : Int)) = true := by rw [hend]; simp
        have Hc := hid (HC.out [] (by rw [List.append_nil, HT.out.2.2.2]; exact words_end hfi (by rw [← HN.out]; exact hend) HT.out.1) (by rw [if_pos hend]) (by omega))
        clear HC
        by_cases hif : i = fr
        · have bg : decide ((fr : Int) < (i : Int)) = false := decide_eq_false (by omega)
          have bgn : decide (fr < i) = false := decide_eq_false (by omega)
          have hn2 := Hc.out
          rw [if_pos hif, List.append_nil] at hn2
          have Hn := hid hn2
          clear hn2 hif hend Hc
          go_wp2_with fail
          go_roundw
          case rel => exact ⟨i + 1, i + 1, W, by omega, by go_num, by go_num, by omega, Hn.out, by rw [← HT.out.2.2.1]; exact ho, hnw⟩
          case measure => simp [intOf]; omega
        · have bg : decide ((fr : Int) < (i : Int)) = true := decide_eq_true (by omega)
          have bgn : decide (fr < i) = true := decide_eq_true (by omega)
          have hn2 := Hc.out
          rw [if_neg hif] at hn2
          have Hn := hid hn2
          clear hn2 hif hend Hc
          go_wp2_with (at_builtin; go_must (refine wpList_append1 rfl _ _ 22 rfl 9 (.string ⟨#[]⟩) 16 Tryd.underlying22 cinfoStr rfl _ _ _ rfl (ho.kept ((Kp.refl _ _).alloc _)) _ 1 1 [.string ⟨X.toArray⟩] rfl (Span.of_new wr _ _ _) rfl (cone_string _) ?_ ?_ ?_))
          · omega
          · omega
          intro v1 w1 ho1 hk1 hb1
          go_wp2_with fail
          go_roundw
          case rel => exact ⟨i + 1, i + 1, W ++ [X], by omega, by go_num, by go_num, by omega, Hn.out, by simpa [strs, ← HT.out.2.2.1] using ho1, (hnw.kept ((Kp.refl _ _).alloc _)).append hk1 hb1 (by simp)⟩
          case measure => simp [intOf]; omega
      · have hlt : i < L.length := by rw [← HN.out]; omega
        have be : ((i : Int) == (N : Int)) = false := by rw [beq_eq_false_iff_ne]; omega
        have hiN2 : (i : Int) < (N : Int) := by omega
        obtain ⟨b, hb⟩ : ∃ b, b = (L[i]'hlt).toNat := ⟨_, rfl⟩
        have i0 := cbyte_in L i b hlt hb
        by_cases h32 : b = 32
        · have hc : L[i] = 32 := UInt8.toNat_inj.1 (by rw [← hb, h32]; rfl)
          have b1 : ((b : Int) == 32) = true := by rw [h32]; rfl
          have Hc := hid (HC.out (wordsL (L.drop (i + 1))) (by rw [HT.out.2.2.2]; exact words_blank_at hfi hlt hc HT.out.1) (by rw [if_neg hend]) (by intro _; rw [Nat.sub_self]; simp))
          clear HC hc h32 hb
          by_cases hif : i = fr
          · have bg : decide ((fr : Int) < (i : Int)) = false := decide_eq_false (by omega)
            have bgn : decide (fr < i) = false := decide_eq_false (by omega)
            have hn2 := Hc.out
            rw [if_pos hif, List.append_nil] at hn2
            have Hn := hid hn2
            clear hn2 hif hend Hc
            go_wp2_with fail
            go_roundw
            case rel => exact ⟨i + 1, i + 1, W, by omega, by go_num, by go_num, by omega, Hn.out, by rw [← HT.out.2.2.1]; exact ho, hnw⟩
            case measure => simp [intOf]; omega
          · have bg : decide ((fr : Int) < (i : Int)) = true := decide_eq_true (by omega)
            have bgn : decide (fr < i) = true := decide_eq_true (by omega)
            have hn2 := Hc.out
            rw [if_neg hif] at hn2
            have Hn := hid hn2
            clear hn2 hif hend Hc
            go_wp2_with (at_builtin; go_must (refine wpList_append1 rfl _ _ 22 rfl 9 (.string ⟨#[]⟩) 16 Tryd.underlying22 cinfoStr rfl _ _ _ rfl (ho.kept ((Kp.refl _ _).alloc _)) _ 1 1 [.string ⟨X.toArray⟩] rfl (Span.of_new wr _ _ _) rfl (cone_string _) ?_ ?_ ?_))
            · omega
            · omega
            intro v1 w1 ho1 hk1 hb1
            go_wp2_with fail
            go_roundw
            case rel => exact ⟨i + 1, i + 1, W ++ [X], by omega, by go_num, by go_num, by omega, Hn.out, by simpa [strs, ← HT.out.2.2.1] using ho1, (hnw.kept ((Kp.refl _ _).alloc _)).append hk1 hb1 (by simp)⟩
            case measure => simp [intOf]; omega
        · have hc : L[i] ≠ 32 := fun e => h32 (by rw [hb, e]; rfl)
          have b1 : ((b : Int) == 32) = false := by rw [beq_eq_false_iff_ne]; omega
          have hn2 : Told L (i + 1) fr W := ⟨fun _ => ⟨by omega, no_blank_step hfi hlt hc HT.out.1, HT.out.2.1⟩, fun h => by rw [← HN.out] at h; omega⟩
          have Hn := hid hn2
          clear hn2 HC hc h32 hb hend
          go_wp2_with fail
          go_roundw
          case rel => exact ⟨i + 1, fr, W, by omega, by go_num, rfl, hfr, Hn.out, by rw [← HT.out.2.2.1]; exact ho, hnw⟩
          case measure => simp [intOf]; omega
    · have hW := ht.2 (by rw [← HN.out]; omega)
      have HW := hid hW
      have Hkp := hid hnw.kp
      clear ht hW hnw
      go_wp2_with fail
      go_ret
      exact ⟨_, rfl, by rw [← HW.out]; exact ho, Hkp.out⟩
end Go.Proofs.YtgjffkblhhkjmaaDoor
