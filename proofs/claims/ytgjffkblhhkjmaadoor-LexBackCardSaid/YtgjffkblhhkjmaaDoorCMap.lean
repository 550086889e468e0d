/- Plain: a map of names by their places, as the model reads it. Over any program. -/
import Derived.Test.YtgjffkblhhkjmaaDoorCLaw
import Derived.Test.YtgjffkblhhkjmaaDoorLib
import Derived.Maps.RangeWalk
import Derived.Maps.OwnSet
namespace Go.Proofs.YtgjffkblhhkjmaaDoor
open Go Go.RowKit Go.Maps

theorem snoc_ind {α : Type} {p : List α → Prop} (h0 : p []) (h1 : ∀ l x, p l → p (l ++ [x])) : ∀ l, p l := by
  have key : ∀ (n : Nat) (l : List α), l.length = n → p l := by
    intro n
    induction n with
    | zero => intro l hl; rw [List.length_eq_zero_iff.1 hl]; exact h0
    | succ n ih =>
      intro l hl
      rcases List.eq_nil_or_concat l with rfl | ⟨L, b, rfl⟩
      · simp at hl
      · rw [List.concat_eq_append] at hl ⊢
        exact h1 L b (ih L (by simpa using hl))
  exact fun l => key _ l rfl

def sl (x : Txt) : Lit := .string x
def nd (i : Nat) : DataW Unit := .lit (.int .i64 (i : Int))
theorem key_sl (x : Txt) : WideAt.IsKeyLit (sl x) := by unfold sl; trivial
theorem sl_inj {x y : Txt} (h : sl x = sl y) : x = y := by injection h
/-- The map of names by their places, filled in order. -/
def placesD : List Txt → DataW Unit := fun C => ((C.foldl (fun (p : DataW Unit × Nat) x => (p.1.put (sl x) (nd p.2), p.2 + 1)) (.map [], 0))).1
theorem fold_snd (C : List Txt) : ∀ p : DataW Unit × Nat, (C.foldl (fun (p : DataW Unit × Nat) x => (p.1.put (sl x) (nd p.2), p.2 + 1)) p).2 = p.2 + C.length := by
  induction C with
  | nil => intro p; rfl
  | cons x r ih => intro p; rw [List.foldl_cons, ih]; simp; omega
theorem places_nil : placesD [] = .map [] := rfl
theorem places_snoc (C : List Txt) (x : Txt) : placesD (C ++ [x]) = (placesD C).put (sl x) (nd C.length) := by
  unfold placesD
  rw [List.foldl_append, List.foldl_cons, List.foldl_nil, fold_snd]
  simp
theorem tidy_places (C : List Txt) : Tidy (placesD C) := by
  induction C using snoc_ind with
  | h0 => exact tidy_empty
  | h1 l x ih => rw [places_snoc]; exact ih.put (key_sl x) _
theorem has_places (C : List Txt) (y : Txt) : Maps.has (placesD C) (sl y) = decide (y ∈ C) := by
  induction C using snoc_ind with
  | h0 => rfl
  | h1 l x ih =>
    rw [places_snoc]
    by_cases h : y = x
    · subst h
      rw [has_put_same (tidy_places l).isMap (key_sl y)]
      simp
    · rw [has_put_other (fun e => h (sl_inj e)), ih]
      simp [h]
theorem size_places (C : List Txt) : Maps.size (placesD C) ≤ C.length ∧ (Maps.size (placesD C) = C.length ↔ C.Nodup) := by
  induction C using snoc_ind with
  | h0 => exact ⟨Nat.le_refl _, by simp [places_nil, Maps.size]⟩
  | h1 l x ih =>
    rw [places_snoc, size_put (tidy_places l), has_places]
    obtain ⟨h1, h2⟩ := ih
    rw [List.nodup_append, List.length_append]
    by_cases hx : x ∈ l
    · simp [hx]
      constructor
      · omega
      · constructor
        · omega
        · rintro ⟨_, h3⟩
          exact absurd rfl (h3 x hx)
    · simp [hx]
      constructor
      · omega
      · rw [← h2]
        constructor
        · intro h
          exact ⟨by omega, fun a ha e => hx (e ▸ ha)⟩
        · rintro ⟨h, _⟩
          omega
theorem at_places (C : List Txt) (hn : C.Nodup) (i : Nat) (x : Txt) (h : C[i]? = some x) (z : DataW Unit) : (placesD C).atKey (sl x) z = nd i := by
  induction C using snoc_ind generalizing i with
  | h0 => simp at h
  | h1 l y ih =>
    rw [List.nodup_append] at hn
    rw [places_snoc]
    by_cases hi : i < l.length
    · rw [List.getElem?_append_left hi] at h
      have hne : x ≠ y := hn.2.2 x (List.mem_of_getElem? h) y (by simp)
      rw [atKey_put_other (fun e => hne (sl_inj e))]
      exact ih hn.1 i h
    · have hil : i = l.length := by
        have := (List.getElem?_eq_some_iff.1 h).1
        simp at this
        omega
      subst hil
      rw [List.getElem?_append_right (Nat.le_refl _)] at h
      simp at h
      subst h
      exact atKey_put_same (tidy_places l).isMap (key_sl _) _ _
theorem at_not (C : List Txt) (x : Txt) (h : x ∉ C) (z : DataW Unit) : (placesD C).atKey (sl x) z = z :=
  atKey_of_not_has (by rw [has_places]; exact decide_eq_false h) z

/-- What reads as a key of a text's type IS that text. -/
theorem keyOf_str_inv {P : Program} {k : TypeId} (hk : P.underlying k = some .string) {key : Value} {kl : Lit} (h : keyOf P k key = some kl) : ∃ s : ByteArray, key = .string s ∧ kl = .string s.data.toList ∧ s.size ≤ maxLen := by
  cases key <;> simp [keyOf, hk, mapKey] at h
  rename_i s
  obtain ⟨h1, h2⟩ := h
  exact ⟨s, rfl, h2.symm, h1⟩
end Go.Proofs.YtgjffkblhhkjmaaDoor
