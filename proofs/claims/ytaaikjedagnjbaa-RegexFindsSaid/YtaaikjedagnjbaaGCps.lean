/- The runes of a text, and the conversion to them. -/
import Derived.Test.YtaaikjedagnjbaaQParts
import Derived.Test.YtaaikjedagnjbaaLaws
import Derived.Laws.IdiomStrings
import Derived.Lib.TrimUEq
namespace Go.Proofs.Ytaaikjedagnjbaa
open Go Go.RowKit Go.Lib

/-- A text's runes. -/
def cpsL (l : List UInt8) : List Nat := (partsL l).map fun p => (decodeL p).1
theorem cps_nil : cpsL [] = [] := rfl
theorem decode_head (l : List UInt8) (h : l ≠ []) : (decodeL (l.take (wd l))).1 = (decodeL l).1 := by
  by_cases hb : Bad l
  · obtain ⟨c, t, rfl⟩ := List.exists_cons_of_ne_nil h
    have h1 : wd (c :: t) = 1 := hb.2
    rw [h1, hb.1]
    have hc : 128 ≤ c.toNat := by
      rcases Nat.lt_or_ge c.toNat 128 with hlt | hge
      · have h2 := hb.1
        rw [decodeL_N, decodeN_mk1 (by simpa using hlt)] at h2
        simp at h2
        omega
      · exact hge
    have e : (c :: t).take 1 = [c] := rfl
    rw [e, decodeL_N]
    unfold decodeN
    simp only [List.getD_cons_zero, List.length_singleton]
    rw [if_neg (by omega), if_neg (by omega), if_neg (by omega), if_neg (by omega)]
  · have := decode_front (m := []) hb h
    rw [List.append_nil] at this
    rw [this]
theorem cps_cons {l : List UInt8} (h : l ≠ []) : cpsL l = (decodeL l).1 :: cpsL (l.drop (wd l)) := by
  unfold cpsL
  rw [parts_cons h, List.map_cons, decode_head l h]
theorem cps_len (l : List UInt8) : (cpsL l).length ≤ l.length := by
  unfold cpsL
  rw [List.length_map]
  exact (length_parts_le l).1
theorem cps_lt : ∀ l : List UInt8, ∀ c ∈ cpsL l, c < 1114112 := by
  refine parts_ind (fun c h => by cases h) ?_
  intro l h ih c hc
  rw [cps_cons h] at hc
  rcases List.mem_cons.1 hc with hc | hc
  · rw [hc, decodeL_N]
    rcases decodeN_shape l.length (l.getD 0 0).toNat (l.getD 1 0).toNat (l.getD 2 0).toNat (l.getD 3 0).toNat with ⟨c, e⟩ | ⟨c1, c2, c3, cv, e⟩ | ⟨c1, c2, c3, c4, cv, cs, e⟩ | ⟨c1, c2, c3, c4, c5, cv, cw, e⟩ | e
    all_goals (rw [e]; dsimp only; omega)
  · exact ih c hc
theorem cps_append {a : List UInt8} (h : validD a = true) (b : List UInt8) : cpsL (a ++ b) = cpsL a ++ cpsL b := by
  unfold cpsL
  rw [parts_front a h b, List.map_append]
theorem cps_ascii : ∀ l : List UInt8, (∀ b ∈ l, b.toNat < 128) → cpsL l = l.map UInt8.toNat
  | [], _ => rfl
  | c :: t, h => by
    have hc := h c List.mem_cons_self
    have e : decodeL (c :: t) = (c.toNat, 1) := by rw [decodeL_N, decodeN_mk1 (by simpa using hc)]; rfl
    rw [cps_cons (List.cons_ne_nil _ _), e]
    have hw : wd (c :: t) = 1 := by unfold wd; rw [e]
    rw [hw]
    show c.toNat :: cpsL t = _
    rw [cps_ascii t (fun b hb => h b (List.mem_cons_of_mem _ hb))]
    rfl
def runeV (c : Nat) : Value := .int .i32 (c : Int)
theorem runesFrom_cps (s : ByteArray) : ∀ (bound i : Nat) (acc : Array Value), s.size - i ≤ bound → i ≤ s.size → Conv.runesFrom s bound i acc = acc ++ ((cpsL (s.data.toList.drop i)).map runeV).toArray := by
  intro bound
  induction bound with
  | zero =>
    intro i acc h hi
    have e : s.data.toList.drop i = [] := List.drop_eq_nil_of_le (by have : s.data.toList.length = s.size := rfl; omega)
    rw [e]
    simp [Conv.runesFrom, cps_nil]
  | succ n ih =>
    intro i acc h hi
    unfold Conv.runesFrom
    by_cases hlt : i < s.size
    · rw [if_pos hlt]
      have hne : s.data.toList.drop i ≠ [] := fun e => by
        have := congrArg List.length e
        rw [List.length_drop] at this
        have h2 : s.data.toList.length = s.size := rfl
        simp only [List.length_nil] at this
        omega
      have hw := wd_pos (s.data.toList.drop i)
      have hw2 := wd_le _ hne
      have hd : decodeL (s.data.toList.drop i) = Utf8.decode s i := decodeL_drop s i
      have hwd : wd (s.data.toList.drop i) = (Utf8.decode s i).2 := by unfold wd; rw [hd]
      rw [List.length_drop] at hw2
      have h2 : s.data.toList.length = s.size := rfl
      rw [cps_cons hne, hd, List.drop_drop, hwd]
      dsimp only
      rw [ih (i + (Utf8.decode s i).2) _ (by omega) (by omega)]
      simp [runeV]
    · rw [if_neg hlt]
      have e : s.data.toList.drop i = [] := List.drop_eq_nil_of_le (by have : s.data.toList.length = s.size := rfl; omega)
      rw [e]
      simp [cps_nil]
/-- '[]rune(s)'. -/
theorem run_cps {P : Program} (w : World) (src dst e : TypeId) (s : ByteArray) (hs : P.underlying src = some .string) (hd : P.underlying dst = some (.slice e)) (he : P.underlying e = some (.int .i32)) (hn : s.size ≤ 1000000) :
    ∃ c w', (convert src dst (.string s)).run P w = .ok (.slice (some ⟨w.heap.size, 0, none⟩) (cpsL s.data.toList).length c) w' ∧ Kp [] w w' ∧ Span w' (some ⟨w.heap.size, 0, none⟩) ((cpsL s.data.toList).map runeV) ∧ (cpsL s.data.toList).length ≤ c ∧ c ≤ 9223372036854775807 ∧ w.heap.size < w'.heap.size := by
  have hr := runesFrom_cps s s.size 0 #[] (by omega) (by omega)
  rw [List.drop_zero] at hr
  have hsz : (Conv.runesFrom s s.size 0 #[]).size = (cpsL s.data.toList).length := by rw [hr]; simp
  have hl := cps_len s.data.toList
  have h2 : s.data.toList.length = s.size := rfl
  have hrun := run_runes_of_string (P := P) w src dst e s hs hd he (by rw [hsz]; omega)
  rw [hsz] at hrun
  refine ⟨_, _, hrun, ((Kp.refl [] w).drew).alloc _, ?_, grownCap_ge _ _ _ _, grownCap_le_maxLen _ _ _ _ (by unfold maxLen; omega), by show w.heap.size < (w.heap.push _).size; rw [Array.size_push]; omega⟩
  rw [hr]
  have h3 := Span.of_new w.drew e (0, 0) ((cpsL s.data.toList).map runeV ++ List.replicate (grownCap w (cpsL s.data.toList).length 0 e - (cpsL s.data.toList).length) (.int .i32 0))
  have h4 := h3.take ((cpsL s.data.toList).map runeV).length
  rw [List.take_left] at h4
  have e5 : ((cpsL s.data.toList).map runeV ++ List.replicate (grownCap w (cpsL s.data.toList).length 0 e - (cpsL s.data.toList).length) (Value.int .i32 0)).toArray = #[] ++ ((cpsL s.data.toList).map runeV).toArray ++ Array.replicate (grownCap w (cpsL s.data.toList).length 0 e - (cpsL s.data.toList).length) (Value.int .i32 0) := by simp
  rw [← e5]
  exact h4
end Go.Proofs.Ytaaikjedagnjbaa
