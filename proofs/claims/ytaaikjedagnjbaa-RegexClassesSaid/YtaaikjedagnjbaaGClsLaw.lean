/- Classes between two letters; whatever rune. Plain. -/
import Derived.Test.YtaaikjedagnjbaaGShown
namespace Go.Proofs.Ytaaikjedagnjbaa
open Go Go.RowKit Go.Lib

theorem parse_one {c : Nat} {l : List Nat} {re : Re} (hc : ¬ (c = 124 ∨ c = 41)) (h : atomR 0 (c :: l) = some (re, [])) : parseR (c :: l) = some (.seq .eps re) := by
  unfold parseR
  rw [alt_step, seq_go hc h]
  show ((seqR 0 (.seq .eps re) []).bind fun p => barR 0 p.1 p.2).bind _ = _
  rw [seq_nil]
  show (barR 0 (.seq .eps re) []).bind _ = _
  rw [bar_nil]
  rfl
theorem pair_letters {lo hi : Nat} (r : List Nat) (h1 : 97 ≤ lo) (h2 : lo ≤ hi) (h3 : hi ≤ 122) : pairR (lo :: 45 :: hi :: r) = some ((lo, hi), r) := by
  unfold pairR
  rw [single_cons, if_neg (by omega), if_neg (by omega)]
  dsimp only
  rw [if_pos rfl, single_cons, if_neg (by omega), if_neg (by omega)]
  dsimp only
  rw [if_neg (by omega)]
theorem items_letters {lo hi : Nat} (r : List Nat) (h1 : 97 ≤ lo) (h2 : lo ≤ hi) (h3 : hi ≤ 122) : itemsOf [] (lo :: 45 :: hi :: 93 :: r) = some ([(lo, hi)], r) := by
  have hc : clsB (lo :: 45 :: hi :: 93 :: r) = false := by
    unfold clsB
    refine decide_eq_false fun h => ?_
    have := h.1
    simp at this
    omega
  rw [itemsOf_cons [] _ (by omega), item_pair hc, pair_letters _ h1 h2 h3]
  show itemsOf ([] ++ [(lo, hi)]) (93 :: r) = _
  rw [itemsOf_end]
  rfl
theorem parse_in {lo hi : Nat} (h1 : 97 ≤ lo) (h2 : lo ≤ hi) (h3 : hi ≤ 122) : parseR [91, lo, 45, hi, 93] = some (.seq .eps (.cls fun c => inR [(lo, hi)] c != false)) := by
  refine parse_one (by omega) ?_
  rw [atom_cons, if_neg (by omega), if_pos rfl, brack_of _ false (by show false = (!false && ([94] : List UInt8).any fun b => b.toNat == lo); simp; omega)]
  show brackOf false (itemsOf [] [lo, 45, hi, 93]) = _
  rw [items_letters [] h1 h2 h3]
  rfl
theorem parse_notin {lo hi : Nat} (h1 : 97 ≤ lo) (h2 : lo ≤ hi) (h3 : hi ≤ 122) : parseR [91, 94, lo, 45, hi, 93] = some (.seq .eps (.cls fun c => inR [(lo, hi)] c != true)) := by
  refine parse_one (by omega) ?_
  rw [atom_cons, if_neg (by omega), if_pos rfl, brack_of _ true rfl]
  show brackOf true (itemsOf [] [lo, 45, hi, 93]) = _
  rw [items_letters [] h1 h2 h3]
  rfl
/-- Any rune, or a newline. -/
def anyR : Re := .alt (.seq .eps (.cls fun x => decide (x ≠ 10))) (.seq .eps (.cls fun c => decide (c = 10)))
theorem parse_all : reR ⟨#[40, 46, 124, 92, 110, 41, 42]⟩ = some (.seq .eps (.star anyR)) := (re_of (by decide) (cps_ascii _ (by decide))).trans (by kernel_rfl)
theorem parse_end : reR ⟨#[94, 40, 46, 124, 92, 110, 41, 42, 36]⟩ = some (.seq (.seq (.seq .eps .bol) (.star anyR)) .eol) := (re_of (by decide) (cps_ascii _ (by decide))).trans (by kernel_rfl)
theorem mt_any (S : List Nat) (i j : Nat) : Mt S anyR i j ↔ j = i + 1 ∧ ∃ c, S[i]? = some c := by
  unfold anyR
  rw [mt_alt, mt_epsl, mt_epsl, mt_cls, mt_cls]
  constructor
  · rintro (⟨h, c, hc, _⟩ | ⟨h, c, hc, _⟩) <;> exact ⟨h, c, hc⟩
  · rintro ⟨h, c, hc⟩
    by_cases h10 : c = 10
    · exact .inr ⟨h, c, hc, decide_eq_true h10⟩
    · exact .inl ⟨h, c, hc, decide_eq_true h10⟩
theorem mt_all (S : List Nat) : Mt S (.star anyR) 0 S.length :=
  (mt_star_one (mt_any S)).2 ⟨Nat.zero_le _, fun m _ h => ⟨_, List.getElem?_eq_getElem h⟩⟩
theorem whole_all {s : ByteArray} {b : Bool} (h : WholeP ⟨#[40, 46, 124, 92, 110, 41, 42]⟩ s b) : b = true := by
  unfold WholeP at h
  rw [parse_all] at h
  exact (show _ ↔ _ from h).2 (mt_epsl.2 (mt_all _))
theorem whole_end {s : ByteArray} {b : Bool} (h : WholeP ⟨#[94, 40, 46, 124, 92, 110, 41, 42, 36]⟩ s b) : b = true := by
  unfold WholeP at h
  rw [parse_end] at h
  exact (show _ ↔ _ from h).2 (.seq (.seq (.seq (.eps 0) (.bol 0 rfl)) (mt_all _)) (.eol _ rfl))
theorem whole_cls {re s : ByteArray} {g : Nat → Bool} {c : Nat} {b : Bool} (hr : reR re = some (.seq .eps (.cls g))) (hs : cps s = [c]) (h : WholeP re s b) : b = g c := by
  unfold WholeP at h
  rw [hr] at h
  have h : b = true ↔ Mt (cps s) (.seq .eps (.cls g)) 0 (cps s).length := h
  rw [hs, mt_epsl, mt_cls] at h
  rw [Bool.eq_iff_iff, h]
  constructor
  · rintro ⟨_, d, hd, hg⟩
    have : d = c := by simpa using hd.symm
    rw [← this]; exact hg
  · exact fun hg => ⟨rfl, c, rfl, hg⟩
end Go.Proofs.Ytaaikjedagnjbaa
