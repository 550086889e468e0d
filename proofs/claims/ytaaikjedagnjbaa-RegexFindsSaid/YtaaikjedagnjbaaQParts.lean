/- Plain: the parts of a text: each rune's bytes (a byte that is none stands by itself); how many; some of them. -/
import Derived.Test.YtaaikjedagnjbaaQLaw
namespace Go.Proofs.Ytaaikjedagnjbaa
open Go Go.Lib

def partsGo : Nat → List UInt8 → List (List UInt8)
  | 0, _ => []
  | f + 1, l => if l = [] then [] else l.take (wd l) :: partsGo f (l.drop (wd l))
def partsL (l : List UInt8) : List (List UInt8) := partsGo l.length l
theorem partsGo_fuel : ∀ (f : Nat) (l : List UInt8), l.length ≤ f → partsGo f l = partsL l := by
  have key : ∀ (f g : Nat) (l : List UInt8), l.length ≤ f → l.length ≤ g → partsGo f l = partsGo g l := by
    intro f
    induction f with
    | zero =>
      intro g l h1 h2
      have : l = [] := List.eq_nil_of_length_eq_zero (by omega)
      subst this
      cases g <;> simp [partsGo]
    | succ f ih =>
      intro g l h1 h2
      by_cases h : l = []
      · subst h
        cases g <;> simp [partsGo]
      · have hp : 0 < l.length := List.length_pos_iff.2 h
        obtain ⟨g', rfl⟩ : ∃ g', g = g' + 1 := ⟨g - 1, by omega⟩
        have hw := wd_pos l
        simp only [partsGo, if_neg h]
        rw [ih g' (l.drop (wd l)) (by rw [List.length_drop]; omega) (by rw [List.length_drop]; omega)]
  intro f l h
  exact key f l.length l h (Nat.le_refl _)
theorem parts_nil : partsL [] = [] := rfl
theorem parts_cons {l : List UInt8} (h : l ≠ []) : partsL l = l.take (wd l) :: partsL (l.drop (wd l)) := by
  have hp : 0 < l.length := List.length_pos_iff.2 h
  have hw := wd_pos l
  obtain ⟨n, hn⟩ : ∃ n, l.length = n + 1 := ⟨l.length - 1, by omega⟩
  show partsGo l.length l = _
  rw [hn]
  simp only [partsGo, if_neg h]
  rw [partsGo_fuel n _ (by rw [List.length_drop]; omega)]
/-- By a text's parts, from the head on. -/
theorem parts_ind {P : List UInt8 → Prop} (h0 : P []) (h1 : ∀ l, l ≠ [] → P (l.drop (wd l)) → P l) : ∀ l, P l := by
  have key : ∀ n (l : List UInt8), l.length ≤ n → P l := by
    intro n
    induction n with
    | zero =>
      intro l h
      have : l = [] := List.eq_nil_of_length_eq_zero (by omega)
      exact this ▸ h0
    | succ n ih =>
      intro l h
      by_cases hl : l = []
      · exact hl ▸ h0
      · have hw := wd_pos l
        exact h1 l hl (ih _ (by rw [List.length_drop]; omega))
  exact fun l => key l.length l (Nat.le_refl _)
theorem parts_flat : ∀ l, (partsL l).flatten = l := by
  refine parts_ind rfl ?_
  intro l h ih
  rw [parts_cons h, List.flatten_cons, ih, List.take_append_drop]
/-- Where the part of number k begins. -/
def offs (l : List UInt8) (k : Nat) : Nat := ((partsL l).take k).flatten.length
theorem parts_drop (k : Nat) : ∀ l, (partsL l).drop k = partsL (l.drop (offs l k)) := by
  induction k with
  | zero => intro l; simp [offs]
  | succ k ih =>
    intro l
    by_cases h : l = []
    · subst h; simp [parts_nil]
    · have e : offs l (k + 1) = wd l + offs (l.drop (wd l)) k := by
        unfold offs
        rw [parts_cons h, List.take_succ_cons, List.flatten_cons, List.length_append, List.length_take]
        have := wd_le l h
        rw [Nat.min_eq_left this]
      rw [e, parts_cons h, List.drop_succ_cons, ih, List.drop_drop]
theorem offs_zero (l : List UInt8) : offs l 0 = 0 := rfl
theorem offs_step {l : List UInt8} {k : Nat} (h : offs l k < l.length) : k < (partsL l).length ∧ offs l (k + 1) = offs l k + wd (l.drop (offs l k)) ∧ (partsL l)[k]? = some ((l.drop (offs l k)).take (wd (l.drop (offs l k)))) := by
  have hne : l.drop (offs l k) ≠ [] := by
    intro e
    have := congrArg List.length e
    rw [List.length_drop] at this
    simp at this
    omega
  have hd := parts_drop k l
  rw [parts_cons hne] at hd
  have hk : (partsL l)[k]? = some ((l.drop (offs l k)).take (wd (l.drop (offs l k)))) := by
    have := List.getElem?_drop (xs := partsL l) (i := k) (j := 0)
    rw [hd] at this
    simpa using this.symm
  obtain ⟨hlt, hget⟩ := List.getElem?_eq_some_iff.1 hk
  refine ⟨hlt, ?_, hk⟩
  have e : (partsL l).take (k + 1) = (partsL l).take k ++ [(partsL l)[k]] := (List.take_append_getElem hlt).symm
  show ((partsL l).take (k + 1)).flatten.length = _
  rw [e, List.flatten_append, List.length_append, hget]
  simp only [List.flatten_cons, List.flatten_nil, List.append_nil, List.length_take]
  rw [Nat.min_eq_left (wd_le _ hne)]
  rfl
theorem offs_end {l : List UInt8} {k : Nat} (h : l.length ≤ offs l k) : (partsL l).length ≤ k := by
  have hd := parts_drop k l
  rw [List.drop_eq_nil_of_le h, parts_nil] at hd
  exact List.drop_eq_nil_iff.1 hd
theorem offs_le (l : List UInt8) (k : Nat) : offs l k ≤ l.length := by
  have h1 := congrArg List.length (parts_flat l)
  have h2 := congrArg List.length (congrArg List.flatten (List.take_append_drop k (partsL l)))
  rw [List.flatten_append, List.length_append] at h2
  unfold offs
  omega
theorem offs_all {l : List UInt8} {k : Nat} (h : (partsL l).length ≤ k) : offs l k = l.length := by
  unfold offs
  rw [List.take_of_length_le h, parts_flat]
theorem take_offs (l : List UInt8) (k : Nat) : ((partsL l).take k).flatten = l.take (offs l k) := by
  have h := parts_flat l
  have h2 := congrArg List.flatten (List.take_append_drop k (partsL l))
  rw [List.flatten_append, h] at h2
  have h3 : l.take (offs l k) = (((partsL l).take k).flatten ++ ((partsL l).drop k).flatten).take (offs l k) := by rw [h2]
  rw [h3]
  exact (List.take_left).symm
theorem drop_offs (l : List UInt8) (k : Nat) : ((partsL l).drop k).flatten = l.drop (offs l k) := by rw [parts_drop, parts_flat]
theorem offs_mono (l : List UInt8) {j k : Nat} (h : j ≤ k) : offs l j ≤ offs l k := by
  have e : (partsL l).take j = ((partsL l).take k).take j := by rw [List.take_take, Nat.min_eq_left h]
  have h2 := congrArg List.flatten (List.take_append_drop j ((partsL l).take k))
  have h3 := congrArg List.length h2
  rw [List.flatten_append, List.length_append] at h3
  unfold offs
  rw [e]
  omega
/-- The parts from number a to number b, as one text. -/
def cutN (l : List UInt8) (a b : Nat) : List UInt8 := (l.take (offs l b)).drop (offs l a)
theorem cutN_parts (l : List UInt8) (a b : Nat) (h : a ≤ b) : cutN l a b = (((partsL l).take b).drop a).flatten := by
  unfold cutN
  have e : ((partsL l).take b).flatten = ((partsL l).take a).flatten ++ (((partsL l).take b).drop a).flatten := by
    rw [← List.flatten_append]
    congr 1
    have e2 : (partsL l).take a = ((partsL l).take b).take a := by rw [List.take_take, Nat.min_eq_left h]
    rw [e2, List.take_append_drop]
  rw [← take_offs, e]
  show List.drop ((partsL l).take a).flatten.length _ = _
  rw [List.drop_left]
/-- A place, held between two. -/
def fromN (n : Nat) (from_ : Int) : Nat := min from_.toNat n
def toN (n : Nat) (from_ to : Int) : Nat := min (max to.toNat (fromN n from_)) n
def cutL (l : List UInt8) (from_ to : Int) : List UInt8 := cutN l (fromN (partsL l).length from_) (toN (partsL l).length from_ to)
theorem length_parts_le (l : List UInt8) : (partsL l).length ≤ l.length ∧ l.length ≤ 4 * (partsL l).length := by
  revert l
  refine parts_ind ⟨Nat.le_refl _, Nat.le_refl _⟩ ?_
  intro l h ih
  rw [parts_cons h, List.length_cons]
  rw [List.length_drop] at ih
  have h1 := wd_pos l
  have h2 := wd_4 l
  have h3 := wd_le l h
  omega
theorem runeCount_parts (s : ByteArray) : runeCount s = (partsL s.data.toList).length := by
  have key : ∀ (f pos : Nat), s.size - pos ≤ f → runeCountFrom s f pos = (partsGo f (s.data.toList.drop pos)).length := by
    intro f
    induction f with
    | zero => intro pos _; rfl
    | succ f ih =>
      intro pos h
      have hlen : (s.data.toList.drop pos).length = s.size - pos := by rw [List.length_drop, Array.length_toList]; rfl
      unfold runeCountFrom partsGo
      by_cases hp : pos < s.size
      · have hne : s.data.toList.drop pos ≠ [] := by
          intro e
          rw [e] at hlen
          simp at hlen
          omega
        have hw : wd (s.data.toList.drop pos) = (Utf8.decode s pos).2 := by unfold wd; rw [decodeL_drop]
        have hw1 := wd_pos (s.data.toList.drop pos)
        rw [if_pos hp, if_neg hne, List.length_cons, List.drop_drop, hw, ih _ (by omega)]
        omega
      · have he : s.data.toList.drop pos = [] := List.eq_nil_of_length_eq_zero (by omega)
        rw [if_neg hp, if_pos he]
        rfl
  have h := key s.size 0 (by omega)
  rw [List.drop_zero] at h
  unfold runeCount
  rw [h]
  rfl
theorem parts_front : ∀ a, validD a = true → ∀ b, partsL (a ++ b) = partsL a ++ partsL b := by
  refine valid_ind (fun b => by simp [parts_nil]) ?_
  intro l hne hb hv ih b
  have e : l ++ b = l.take (wd l) ++ (l.drop (wd l) ++ b) := by rw [← List.append_assoc, List.take_append_drop]
  have hwd := wd_front (m := l.drop (wd l) ++ b) hb hne
  have hdr := drop_front (m := l.drop (wd l) ++ b) hne
  have hta : (l.take (wd l) ++ (l.drop (wd l) ++ b)).take (wd l) = l.take (wd l) := take_app (wd_le l hne)
  have hn2 : l ++ b ≠ [] := by simp [hne]
  rw [← e] at hwd hdr hta
  rw [parts_cons hn2, hwd, hdr, hta, ih b, parts_cons hne]
  rfl
end Go.Proofs.Ytaaikjedagnjbaa
