/- Laws of what is taken: classes in a row, what is found is one; the document's example. Plain but for FoundR's text. -/
import Derived.Test.YtaaikjedagnjbaaRH
namespace Go.Proofs.Ytaaikjedagnjbaa
open Go Go.RowKit Go.Lib

theorem found_one {S : List Nat} {r : Re} {p q p' q' : Int} (h : FoundR S r p q) (h' : FoundR S r p' q') : p = p' ∧ q = q' := by
  rcases h with ⟨h1, h2, h3⟩ | ⟨a, b, h1, h2, h3, h4, h5, h6⟩
  · rcases h' with ⟨k1, k2, k3⟩ | ⟨a', b', k1, k2, k3, k4, k5, k6⟩
    · exact ⟨h1.trans k1.symm, h2.trans k2.symm⟩
    · exact absurd k4 (h3 a' b' k3)
  · rcases h' with ⟨k1, k2, k3⟩ | ⟨a', b', k1, k2, k3, k4, k5, k6⟩
    · exact absurd h4 (k3 a b h3)
    · have ha : a = a' := by
        rcases Nat.lt_trichotomy a a' with h | h | h
        · exact absurd h4 (k5 a b h)
        · exact h
        · exact absurd k4 (h5 a' b' h)
      subst ha
      have hb : b = b' := Nat.le_antisymm (k6 b h4) (h6 b' k4)
      subst hb
      exact ⟨h1.trans k1.symm, h2.trans k2.symm⟩
variable {S : List Nat}
theorem mt_cls {f : Nat → Bool} {i j : Nat} : Mt S (.cls f) i j ↔ j = i + 1 ∧ ∃ c, S[i]? = some c ∧ f c = true := by
  constructor
  · intro h
    cases h with
    | cls hc hf => exact ⟨rfl, _, hc, hf⟩
  · rintro ⟨rfl, c, hc, hf⟩
    exact .cls hc hf
theorem mt_seq {a b : Re} {i k : Nat} : Mt S (.seq a b) i k ↔ ∃ j, Mt S a i j ∧ Mt S b j k := by
  constructor
  · intro h
    cases h with
    | seq h1 h2 => exact ⟨_, h1, h2⟩
  · rintro ⟨j, h1, h2⟩
    exact .seq h1 h2
theorem mt_alt {a b : Re} {i k : Nat} : Mt S (.alt a b) i k ↔ Mt S a i k ∨ Mt S b i k := by
  constructor
  · intro h
    cases h with
    | altl h => exact .inl h
    | altr h => exact .inr h
  · rintro (h | h)
    · exact .altl h
    · exact .altr h
theorem mt_eps {i j : Nat} : Mt S .eps i j ↔ j = i := by
  constructor
  · intro h
    cases h with
    | eps => rfl
  · rintro rfl
    exact .eps _
theorem mt_opt {a : Re} {i k : Nat} : Mt S (.opt a) i k ↔ k = i ∨ Mt S a i k := by
  constructor
  · intro h
    cases h with
    | opt0 => exact .inl rfl
    | opt1 h => exact .inr h
  · rintro (rfl | h)
    · exact .opt0 _
    · exact .opt1 h
theorem mt_plus {a : Re} {i k : Nat} : Mt S (.plus a) i k ↔ ∃ j, Mt S a i j ∧ Mt S (.star a) j k := by
  constructor
  · intro h
    cases h with
    | plus h1 h2 => exact ⟨_, h1, h2⟩
  · rintro ⟨j, h1, h2⟩
    exact .plus h1 h2
theorem mt_epsl {a : Re} {i k : Nat} : Mt S (.seq .eps a) i k ↔ Mt S a i k := by
  rw [mt_seq]
  constructor
  · rintro ⟨j, h1, h2⟩
    rw [mt_eps] at h1
    subst h1
    exact h2
  · exact fun h => ⟨i, .eps i, h⟩
/-- As often as it likes one rune of a class. -/
theorem mt_star_one {a : Re} {P : Nat → Prop} (ha : ∀ i j, Mt S a i j ↔ j = i + 1 ∧ P i) {i j : Nat} : Mt S (.star a) i j ↔ i ≤ j ∧ ∀ m, i ≤ m → m < j → P m := by
  constructor
  · intro h
    generalize hr : Re.star a = r at h
    induction h with
    | star0 i => exact ⟨Nat.le_refl _, fun m h1 h2 => by omega⟩
    | star1 h1 _ _ ih =>
      injection hr with hr
      subst hr
      obtain ⟨h2, h3⟩ := (ha _ _).1 h1
      obtain ⟨h4, h5⟩ := ih rfl
      subst h2
      refine ⟨by omega, fun m h6 h7 => ?_⟩
      rcases Nat.lt_or_ge _ m with h | h
      · exact h5 m h h7
      · obtain rfl := Nat.le_antisymm h h6
        exact h3
    | _ => cases hr
  · rintro ⟨h1, h2⟩
    obtain ⟨n, rfl⟩ : ∃ n, j = i + n := ⟨j - i, by omega⟩
    clear h1
    induction n generalizing i with
    | zero => exact .star0 _
    | succ n ih =>
      refine .star1 ((ha i (i + 1)).2 ⟨rfl, h2 i (Nat.le_refl _) (by omega)⟩) ?_
      have := ih (i := i + 1) (fun m h3 h4 => h2 m (by omega) (by omega))
      rw [show i + (n + 1) = i + 1 + n by omega]
      exact this
theorem re_of {s : ByteArray} {l : List Nat} (h : ¬ 100 < s.size) (hl : cps s = l) : reR s = parseR l := by
  unfold reR
  rw [if_neg h]
  show parseR (cps s) = _
  rw [hl]
/-- The document's example: [a-c]+d? -/
def exR : Re := .seq (.seq .eps (.plus (.cls fun c => inR [(97, 99)] c != false))) (.opt (.cls fun c => decide (c = 100)))
theorem ex_parse : reR ⟨#[91, 97, 45, 99, 93, 43, 100, 63]⟩ = some exR := (re_of (by decide) (cps_ascii _ (by decide))).trans (by kernel_rfl)
theorem ex_text : cps ⟨#[120, 97, 98, 99, 100, 120]⟩ = [120, 97, 98, 99, 100, 120] := cps_ascii _ (by decide)
theorem ex_found : FoundR [120, 97, 98, 99, 100, 120] exR 1 5 := by
  have hc : ∀ i j, Mt [120, 97, 98, 99, 100, 120] (.cls fun c => inR [(97, 99)] c != false) i j ↔ j = i + 1 ∧ (∃ c, [120, 97, 98, 99, 100, 120][i]? = some c ∧ (inR [(97, 99)] c != false) = true) := fun i j => mt_cls
  have h4 : ∀ {c : Nat}, [120, 97, 98, 99, 100, 120][4]? = some c → c = 100 := fun h => by simpa using h.symm
  refine .inr ⟨1, 5, rfl, rfl, by decide, ?_, fun i j hi h => ?_, fun j h => ?_⟩
  · refine .seq (j := 4) (.seq (.eps 1) (.plus (j := 2) ((hc 1 2).2 ⟨rfl, 97, rfl, rfl⟩) ((mt_star_one hc).2 ⟨by decide, fun m h1 h2 => ?_⟩))) (.opt1 (.cls (c := 100) rfl rfl))
    rcases (show m = 2 ∨ m = 3 by omega) with rfl | rfl
    · exact ⟨98, rfl, rfl⟩
    · exact ⟨99, rfl, rfl⟩
  · obtain rfl : i = 0 := by omega
    obtain ⟨k, h1, h2⟩ := mt_seq.1 h
    obtain ⟨m, h3, _⟩ := mt_plus.1 (mt_epsl.1 h1)
    obtain ⟨_, c, h5, h6⟩ := (hc _ _).1 h3
    have : c = 120 := by simpa using h5.symm
    subst this
    cases h6
  · obtain ⟨k, h1, h2⟩ := mt_seq.1 h
    obtain ⟨m, h3, h4'⟩ := mt_plus.1 (mt_epsl.1 h1)
    obtain ⟨hm, _⟩ := (hc _ _).1 h3
    obtain ⟨hle, hall⟩ := (mt_star_one hc).1 h4'
    have hk : k ≤ 4 := by
      rcases Nat.lt_or_ge 4 k with hx | hx
      · obtain ⟨c, h5, h6⟩ := hall 4 (by omega) hx
        rw [h4 h5] at h6
        cases h6
      · exact hx
    rcases mt_opt.1 h2 with rfl | h7
    · omega
    · have := (mt_cls.1 h7).1
      omega
theorem ex2_parse : reR ⟨#[94, 97]⟩ = some (.seq (.seq .eps .bol) (.cls fun c => decide (c = 97))) := (re_of (by decide) (cps_ascii _ (by decide))).trans (by kernel_rfl)
theorem ex2_none {p q : Int} (h : FoundR [98, 97] (.seq (.seq .eps .bol) (.cls fun c => decide (c = 97))) p q) : p = -1 := by
  rcases h with ⟨h1, _⟩ | ⟨a, b, h1, h2, h3, h4, _⟩
  · exact h1
  · exfalso
    obtain ⟨k, h5, h6⟩ := mt_seq.1 h4
    have h5 := mt_epsl.1 h5
    obtain ⟨rfl, h7⟩ := (mt_bol _ _ _).1 h5
    have h7 := of_decide_eq_true h7
    subst h7
    obtain ⟨_, c, h8, h9⟩ := mt_cls.1 h6
    have : c = 98 := by simpa using h8.symm
    subst this
    cases h9
theorem ex3_none : reR ⟨#[40]⟩ = none := (re_of (by decide) (cps_ascii _ (by decide))).trans (by kernel_rfl)
end Go.Proofs.Ytaaikjedagnjbaa
