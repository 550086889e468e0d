/- Patterns that look at nothing around; parts of a text. Plain. -/
import Derived.Test.YtaaikjedagnjbaaGWordLaw
import Derived.Test.YtaaikjedagnjbaaQParts
namespace Go.Proofs.Ytaaikjedagnjbaa
open Go Go.RowKit Go.Lib

theorem valid_take : ∀ l, validD l = true → ∀ k, validD (l.take (offs l k)) = true ∧ partsL (l.take (offs l k)) = (partsL l).take k := by
  refine valid_ind (fun k => by simp [parts_nil]; rfl) ?_
  intro l hne hb hv ih k
  cases k with
  | zero => simp [offs_zero, parts_nil]; rfl
  | succ k =>
    have e : offs l (k + 1) = wd l + offs (l.drop (wd l)) k := by
      unfold offs
      rw [parts_cons hne, List.take_succ_cons, List.flatten_cons, List.length_append, List.length_take]
      have := wd_le l hne
      rw [Nat.min_eq_left this]
    have e2 : l.take (wd l + offs (l.drop (wd l)) k) = l.take (wd l) ++ (l.drop (wd l)).take (offs (l.drop (wd l)) k) := List.take_add
    obtain ⟨i1, i2⟩ := ih k
    rw [e, e2]
    refine ⟨by rw [valid_front hb hne]; exact i1, ?_⟩
    rw [parts_cons (front_ne hne), wd_front hb hne, drop_front hne, take_app (wd_le l hne), i2, parts_cons hne, List.take_succ_cons]
theorem valid_drop (l : List UInt8) (hv : validD l = true) (k : Nat) : validD (l.drop (offs l k)) = true := by
  have h := valid_append _ (valid_take l hv k).1 (l.drop (offs l k))
  rw [List.take_append_drop, hv] at h
  exact h.symm
/-- The two parts of a text cut at a place. -/
theorem offs_take {l : List UInt8} (hv : validD l = true) {a b : Nat} (h : a ≤ b) : offs (l.take (offs l b)) a = offs l a := by
  show ((partsL (l.take (offs l b))).take a).flatten.length = ((partsL l).take a).flatten.length
  rw [(valid_take l hv b).2, List.take_take, Nat.min_eq_left h]
/-- A cut's runes. -/
theorem cps_cut {l : List UInt8} (hv : validD l = true) {a b : Nat} (h : a ≤ b) (hb : b ≤ (partsL l).length) : validD (cutL l (a : Int) (b : Int)) = true ∧ cpsL (cutL l (a : Int) (b : Int)) = ((cpsL l).take b).drop a := by
  have e1 : fromN (partsL l).length (a : Int) = a := by unfold fromN; omega
  have e2 : toN (partsL l).length (a : Int) (b : Int) = b := by unfold toN; rw [e1]; omega
  have e3 : cutL l (a : Int) (b : Int) = (l.take (offs l b)).drop (offs (l.take (offs l b)) a) := by
    unfold cutL
    rw [e1, e2, offs_take hv h]
    rfl
  obtain ⟨h1, h2⟩ := valid_take l hv b
  refine ⟨by rw [e3]; exact valid_drop _ h1 a, ?_⟩
  unfold cpsL
  rw [e3, ← parts_drop, h2, List.map_drop, List.map_take]
/-- It looks at nothing around. -/
def noEdge : Re → Prop
  | .eps => True
  | .seq a b => noEdge a ∧ noEdge b
  | .alt a b => noEdge a ∧ noEdge b
  | .star a => noEdge a
  | .plus a => noEdge a
  | .opt a => noEdge a
  | .cls _ => True
  | .bol => False
  | .eol => False
theorem mt_shift {S : List Nat} {r : Re} {i j : Nat} (h : Mt S r i j) : noEdge r → ∀ (T : List Nat) (k : Nat), (∀ m, i + m < j → T[k + m]? = S[i + m]?) → Mt T r k (k + (j - i)) := by
  induction h with
  | eps i => intro _ T k _; rw [Nat.sub_self]; exact .eps _
  | @seq a b i m j h1 h2 ih1 ih2 =>
    intro hn T k hT
    have l1 := mt_le h1
    have l2 := mt_le h2
    have := ih2 hn.2 T (k + (m - i)) (fun x hx => by rw [show k + (m - i) + x = k + (m - i + x) by omega, hT (m - i + x) (by omega)]; congr 1; omega)
    rw [show k + (j - i) = k + (m - i) + (j - m) by omega]
    exact .seq (ih1 hn.1 T k (fun x hx => hT x (by omega))) this
  | altl _ ih => intro hn T k hT; exact .altl (ih hn.1 T k hT)
  | altr _ ih => intro hn T k hT; exact .altr (ih hn.2 T k hT)
  | star0 i => intro _ T k _; rw [Nat.sub_self]; exact .star0 _
  | @star1 a i m j h1 h2 ih1 ih2 =>
    intro hn T k hT
    have l1 := mt_le h1
    have l2 := mt_le h2
    have := ih2 hn T (k + (m - i)) (fun x hx => by rw [show k + (m - i) + x = k + (m - i + x) by omega, hT (m - i + x) (by omega)]; congr 1; omega)
    rw [show k + (j - i) = k + (m - i) + (j - m) by omega]
    exact .star1 (ih1 hn T k (fun x hx => hT x (by omega))) this
  | @plus a i m j h1 h2 ih1 ih2 =>
    intro hn T k hT
    have l1 := mt_le h1
    have l2 := mt_le h2
    have := ih2 hn T (k + (m - i)) (fun x hx => by rw [show k + (m - i) + x = k + (m - i + x) by omega, hT (m - i + x) (by omega)]; congr 1; omega)
    rw [show k + (j - i) = k + (m - i) + (j - m) by omega]
    exact .plus (ih1 hn T k (fun x hx => hT x (by omega))) this
  | opt0 i => intro _ T k _; rw [Nat.sub_self]; exact .opt0 _
  | opt1 _ ih => intro hn T k hT; exact .opt1 (ih hn T k hT)
  | cls hc hf =>
    intro _ T k hT
    rename_i i c _
    rw [show k + (i + 1 - i) = k + 1 by omega]
    have h0 := hT 0 (by omega)
    rw [Nat.add_zero, Nat.add_zero, hc] at h0
    exact .cls h0 hf
  | bol => intro hn; exact absurd hn (by simp [noEdge])
  | eol => intro hn; exact absurd hn (by simp [noEdge])
def Free (l : List Nat) : Prop := ∀ c ∈ l, c ≠ 94 ∧ c ≠ 36
theorem Free.right {p r : List Nat} (h : Free (p ++ r)) : Free r := fun c hc => h c (List.mem_append.2 (.inr hc))
theorem sign_edge {re : Re} {l : List Nat} (h : noEdge re) : noEdge (signR re l).1 := by
  cases l with
  | nil => exact h
  | cons c l =>
    rw [sign_cons]
    split
    · exact h
    · split
      · exact h
      · split <;> exact h
theorem free_all : ∀ f : Nat,
    (∀ d L x r, altF f d L = some (x, r) → Free L → noEdge x) ∧ (∀ d a L x r, barF f d a L = some (x, r) → Free L → noEdge a → noEdge x) ∧
    (∀ d a L x r, seqF f d a L = some (x, r) → Free L → noEdge a → noEdge x) ∧ (∀ d L x r, atomF f d L = some (x, r) → Free L → noEdge x) := by
  intro f
  induction f with
  | zero => exact ⟨fun d L x r h => (by unfold altF at h; cases h), fun d a L x r h => (by unfold barF at h; cases h), fun d a L x r h => (by unfold seqF at h; cases h), fun d L x r h => (by unfold atomF at h; cases h)⟩
  | succ f ih =>
    obtain ⟨ihA, ihB, ihS, ihT⟩ := ih
    obtain ⟨tA, tB, tS, tT⟩ := tail_all f
    refine ⟨fun d L x r h hL => ?_, fun d a L x r h hL ha => ?_, fun d a L x r h hL ha => ?_, fun d L x r h hL => ?_⟩
    · unfold altF at h
      split at h
      · cases h
      · rename_i r1 l1 hs
        obtain ⟨_, pre, e, _⟩ := tS _ _ _ _ _ hs
        rw [e] at hL
        exact ihB _ _ _ _ _ h hL.right (ihS _ _ _ _ _ hs (by rw [e]; exact hL) trivial)
    · unfold barF at h
      cases L with
      | nil =>
        injection h with h
        injection h with e1 _
        rw [← e1]; exact ha
      | cons c l1 =>
        dsimp only at h
        split at h
        · split at h
          · cases h
          · rename_i r2 l2 hs
            have hL1 : Free l1 := fun x hx => hL x (List.mem_cons_of_mem _ hx)
            obtain ⟨_, pre, e, _⟩ := tS _ _ _ _ _ hs
            have hL2 : Free l2 := by rw [e] at hL1; exact hL1.right
            exact ihB _ _ _ _ _ h hL2 ⟨ha, ihS _ _ _ _ _ hs hL1 trivial⟩
        · injection h with h
          injection h with e1 _
          rw [← e1]; exact ha
    · unfold seqF at h
      cases L with
      | nil =>
        injection h with h
        injection h with e1 _
        rw [← e1]; exact ha
      | cons c l1 =>
        dsimp only at h
        split at h
        · injection h with h
          injection h with e1 _
          rw [← e1]; exact ha
        · split at h
          · cases h
          · rename_i re l2 hat
            obtain ⟨pre, e, _, _⟩ := tT _ _ _ _ hat
            have hL2 : Free l2 := by rw [e] at hL; exact hL.right
            obtain ⟨pre2, e2, _⟩ := sign_pre re l2
            have hL3 : Free (signR re l2).2 := by rw [e2] at hL2; exact hL2.right
            exact ihS _ _ _ _ _ h hL3 ⟨ha, sign_edge (ihT _ _ _ _ hat hL)⟩
    · unfold atomF at h
      cases L with
      | nil => cases h
      | cons c l1 =>
        have hc := hL c List.mem_cons_self
        have hL1 : Free l1 := fun x hx => hL x (List.mem_cons_of_mem _ hx)
        dsimp only at h
        split at h
        · split at h
          · cases h
          · split at h
            · cases h
            · rename_i r1 l2 ha
              cases l2 with
              | nil => cases h
              | cons e' l3 =>
                dsimp only at h
                split at h
                · injection h with h
                  injection h with e1 _
                  rw [← e1]
                  exact ihA _ _ _ _ ha hL1
                · cases h
        · split at h
          · unfold brackR at h
            split at h
            · cases h
            · split at h
              · cases h
              · injection h with h
                injection h with e1 _
                rw [← e1]; trivial
          · split at h
            · injection h with h
              injection h with e1 _
              rw [← e1]; trivial
            · split at h
              · rename_i h94
                exact absurd h94 hc.1
              · split at h
                · rename_i h36
                  exact absurd h36 hc.2
                · split at h
                  · cases l1 with
                    | nil => cases h
                    | cons e q =>
                      rw [slash_cons] at h
                      split at h
                      · injection h with h
                        injection h with e1 _
                        rw [← e1]; trivial
                      · obtain ⟨y, hy, e⟩ := Option.map_eq_some_iff.1 h
                        injection e with e1 _
                        rw [← e1]; trivial
                  · split at h
                    · cases h
                    · injection h with h
                      injection h with e1 _
                      rw [← e1]; trivial
theorem parse_free {l : List Nat} {r : Re} (h : parseR l = some r) (hl : Free l) : noEdge r := by
  unfold parseR at h
  obtain ⟨p, hp, e⟩ := Option.bind_eq_some_iff.1 h
  split at e
  · injection e with e
    rw [← e]
    exact (free_all _).1 _ _ _ _ hp hl
  · cases e
/-- A rune below 128 is a byte of the text. -/
theorem low_mem : ∀ l : List UInt8, validD l = true → ∀ c ∈ cpsL l, c < 128 → ∃ b ∈ l, b.toNat = c := by
  refine valid_ind (fun c hc => by cases hc) ?_
  intro l hne hb hv ih c hc h128
  rw [cps_cons hne] at hc
  rcases List.mem_cons.1 hc with h | h
  · obtain ⟨b, e1, e2⟩ := low_part hb hne (by rw [← h]; exact h128)
    refine ⟨b, ?_, by rw [e2, h]⟩
    have : b ∈ l.take (wd l) := by rw [e1]; exact List.mem_singleton.2 rfl
    exact List.mem_of_mem_take this
  · obtain ⟨b, h1, h2⟩ := ih c h h128
    exact ⟨b, List.mem_of_mem_drop h1, h2⟩
section
variable {S : List Nat} {r : Re} (hr : noEdge r)
include hr
theorem row_empty (h : ∀ i j, i ≤ S.length → ¬ Mt S r i j) : ¬ Mt [] r 0 0 := fun hm => by
  have := mt_shift hm hr S 0 (fun m hx => by omega)
  exact h 0 0 (Nat.zero_le _) this
theorem row_found {a b : Nat} (hm : Mt S r a b) (hb : b ≤ S.length) : Mt ((S.take b).drop a) r 0 ((S.take b).drop a).length := by
  have hab := mt_le hm
  have := mt_shift hm hr ((S.take b).drop a) 0 (fun m hx => by rw [List.getElem?_drop, Nat.zero_add, List.getElem?_take, if_pos hx])
  rw [Nat.zero_add] at this
  have e : ((S.take b).drop a).length = b - a := by rw [List.length_drop, List.length_take]; omega
  rw [e]
  exact this
theorem row_none {a : Nat} (h : ∀ i j, i < a → ¬ Mt S r i j) (ha : a ≤ S.length) {p q : Int} (hf : FoundR ((S.take a).drop 0) r p q) (h0 : a ≠ 0) : ¬ 0 ≤ p := fun hp => by
  rw [List.drop_zero] at hf
  have hl : (S.take a).length = a := by rw [List.length_take]; omega
  rcases hf with ⟨h1, _⟩ | ⟨x, y, h1, h2, h3, h4, _⟩
  · omega
  · have hxy := mt_le h4
    have hy := mt_top h4 h3
    rw [hl] at h3 hy
    have hm := mt_shift h4 hr S x (fun m hx => by rw [List.getElem?_take, if_pos (by omega)])
    rcases Nat.lt_or_ge x a with hx | hx
    · exact h x _ hx hm
    · have : y - x = 0 := by omega
      rw [this, Nat.add_zero] at hm
      have h00 := mt_shift hm hr S 0 (fun m hx => by omega)
      rw [Nat.sub_self] at h00
      exact h 0 _ (by omega) h00
theorem row_rest {a b : Nat} (h : ∀ j, Mt S r a j → j ≤ b) (ha : a ≤ S.length) (hm : Mt ((S.take S.length).drop a) r 0 ((S.take S.length).drop a).length) : S.length ≤ b := by
  rw [List.take_length] at hm
  have := mt_shift hm hr S a (fun m hx => by rw [List.getElem?_drop, Nat.zero_add])
  rw [List.length_drop, Nat.sub_zero] at this
  have := h _ this
  omega
end
end Go.Proofs.Ytaaikjedagnjbaa
