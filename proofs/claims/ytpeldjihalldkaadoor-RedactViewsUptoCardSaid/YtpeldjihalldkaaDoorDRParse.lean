/- The document's answer for layer 1: a text read as a decimal. -/
import Derived.Test.YtpeldjihalldkaaDoorRH
import Derived.Deep.Cut
import Derived.IntWalk
namespace Go.Proofs.YtpeldjihalldkaaDoor
open Go Go.RowKit Go.Lib

theorem nil_or (L : List UInt8) : L = [] ∨ ∃ c t, L = c :: t := by cases L <;> simp
theorem sign_at (L : List UInt8) : (signL L).2 = L.drop (if (signL L).1 then 1 else 0) := by
  rcases L with _ | ⟨c, t⟩
  · rfl
  · by_cases h : c = 45
    · subst h; rfl
    · have e : signL (c :: t) = (false, c :: t) := by
        unfold signL
        split
        · rename_i h2; injection h2 with h2; exact absurd h2 h
        · rfl
      rw [e]
      rfl
theorem sign_head (L : List UInt8) : (signL L).1 = true ↔ ∃ t, L = 45 :: t := by
  rcases L with _ | ⟨c, t⟩
  · simp [signL]
  · by_cases h : c = 45
    · subst h; simp [signL]
    · have e : signL (c :: t) = (false, c :: t) := by
        unfold signL
        split
        · rename_i h2; injection h2 with h2; exact absurd h2 h
        · rfl
      rw [e]
      simp [h]
theorem plain_bad {X : List UInt8} (h : lead X = [] ∨ (1 < (lead X).length ∧ (lead X).head? = some 48)) : plainN X = none := by
  unfold plainN
  split
  · rfl
  · split
    · rfl
    · rw [if_pos h]
theorem lead_len (X : List UInt8) : X.take (lead X).length = lead X ∧ X.drop (lead X).length = rest X := by
  have h := lead_rest X
  constructor
  · conv => lhs; arg 2; rw [← h]
    exact List.take_left' rfl
  · conv => lhs; arg 2; rw [← h]
    exact List.drop_left' rfl
theorem plain_good {X P E : List UInt8} (hl : ¬ (lead X = [] ∨ (1 < (lead X).length ∧ (lead X).head? = some 48))) (hp : partL (rest X) = some (P, E)) {up : Int} (hu : expoL E = some up) :
    plainN X = if (P.length : Int) - up < 0 then some (val (lead X ++ P) * 10 ^ (up - P.length).toNat, 0) else some (val (lead X ++ P), ((P.length : Int) - up).toNat) := by
  unfold plainN
  rw [hp]
  simp only [hu]
  rw [if_neg hl]
theorem plain_none {X P E : List UInt8} (hp : partL (rest X) = some (P, E)) (hu : expoL E = none) : plainN X = none := by
  unfold plainN
  rw [hp]
  simp only [hu]
theorem plain_part {X : List UInt8} (hp : partL (rest X) = none) : plainN X = none := by
  unfold plainN
  rw [hp]
theorem rexpo_not (c : UInt8) (V : List UInt8) (hc : c ≠ 101) (h2 : c ≠ 69) : expoL (c :: V) = none := by
  show (if c ≠ 101 ∧ c ≠ 69 then none else (match V with | 45 :: u => (expoS u).map (fun x => -x) | 43 :: u => expoS u | _ => expoS V)) = none
  rw [if_pos ⟨hc, h2⟩]
theorem part_dot' (t : List UInt8) : partL (46 :: t) = if lead t = [] then none else some (lead t, rest t) := rfl
theorem part_not {R : List UInt8} (h : ∀ t, R ≠ 46 :: t) : partL R = some ([], R) := by
  unfold partL
  split
  · exact absurd rfl (h _)
  · rfl
theorem part_split {R P E : List UInt8} (hp : partL R = some (P, E)) : (P = [] ∧ E = R ∧ ∀ t, R ≠ 46 :: t) ∨ ∃ t, R = 46 :: t ∧ P = lead t ∧ E = rest t ∧ P ≠ [] := by
  by_cases h : ∃ t, R = 46 :: t
  · obtain ⟨t, rfl⟩ := h
    rw [part_dot'] at hp
    by_cases hl : lead t = []
    · rw [if_pos hl] at hp; cases hp
    · rw [if_neg hl] at hp
      injection hp with hp
      injection hp with h1 h2
      exact .inr ⟨t, rfl, h1.symm, h2.symm, by rw [← h1]; exact hl⟩
  · have hn : ∀ t, R ≠ 46 :: t := fun t e => h ⟨t, e⟩
    rw [part_not hn] at hp
    injection hp with hp
    injection hp with h1 h2
    exact .inl ⟨h1.symm, h2.symm, hn⟩
theorem lead_at {L V : List UInt8} {a k : Nat} (h : L.drop a = V) (hk : k < (lead V).length) : ∃ hp : a + k < L.length, L[a + k]'hp = (lead V)[k]'hk := by
  have h1 : L[a + k]? = some ((lead V)[k]'hk) := by
    have h2 : (L.drop a)[k]? = L[a + k]? := List.getElem?_drop
    rw [← h2, h]
    have h3 := lead_rest V
    have h4 : V[k]? = (lead V ++ rest V)[k]? := by rw [h3]
    rw [h4, List.getElem?_append_left hk, List.getElem?_eq_getElem hk]
  obtain ⟨hp, he⟩ := List.getElem?_eq_some_iff.1 h1
  exact ⟨hp, he⟩
theorem drop_more {L X : List UInt8} {a n : Nat} (h : L.drop a = X) : L.drop (a + n) = X.drop n := by rw [← h, List.drop_drop]
theorem slice_at {L X : List UInt8} {a n : Nat} (h : L.drop a = X) : (L.take (a + n)).drop a = X.take n := by
  rw [← h, List.drop_take]
  congr 1
  omega
theorem val_take_lt {D : List UInt8} {k : Nat} (hD : Digs D) (hk : k < D.length) (h2 : D.length ≤ 2) : val (D.take k) ≤ 9 := by
  have h := val_lt (D.take k) (hD.take k)
  have hl : (D.take k).length ≤ 1 := by rw [List.length_take]; omega
  have : 10 ^ (D.take k).length ≤ 10 ^ 1 := Nat.pow_le_pow_right (by decide) hl
  omega
theorem val_step {D : List UInt8} {k : Nat} (hk : k < D.length) : val (D.take (k + 1)) = val (D.take k) * 10 + ((D[k]'hk).toNat - 48) := by
  rw [← List.take_append_getElem hk, val_snoc]
theorem val_zeros_behind (D : List UInt8) (k : Nat) : val (D ++ List.replicate k 48) = val D * 10 ^ k := by
  induction k with
  | zero => simp
  | succ k ih => rw [List.replicate_succ', ← List.append_assoc, val_snoc, ih, Nat.pow_succ]; show _ * 10 + 0 = _; rw [Nat.add_zero, Nat.mul_assoc]
theorem two_lt {D : List UInt8} (hD : Digs D) (h2 : D.length ≤ 2) : val D ≤ 99 := by
  have h := val_lt D hD
  have : 10 ^ D.length ≤ 10 ^ 2 := Nat.pow_le_pow_right (by decide) h2
  omega
/-- What stands behind e: is it below 0, is there a sign, and the rest. -/
def dnU (U : List UInt8) : Bool := match U with | 45 :: _ => true | _ => false
def sgU (U : List UInt8) : Bool := match U with | 45 :: _ => true | 43 :: _ => true | _ => false
def exE (E : List UInt8) : Bool := match E with | c :: _ => decide (c.toNat = 101 ∨ c.toNat = 69) | [] => false
theorem sg_cases (U : List UInt8) : (dnU U = true ∧ sgU U = true ∧ ∃ V, U = 45 :: V) ∨ (dnU U = false ∧ sgU U = true ∧ ∃ V, U = 43 :: V) ∨ (dnU U = false ∧ sgU U = false ∧ (∀ V, U ≠ 45 :: V) ∧ ∀ V, U ≠ 43 :: V) := by
  by_cases h1 : ∃ V, U = 45 :: V
  · obtain ⟨V, rfl⟩ := h1
    exact .inl ⟨rfl, rfl, V, rfl⟩
  · by_cases h2 : ∃ V, U = 43 :: V
    · obtain ⟨V, rfl⟩ := h2
      exact .inr (.inl ⟨rfl, rfl, V, rfl⟩)
    · have n1 : ∀ V, U ≠ 45 :: V := fun V e => h1 ⟨V, e⟩
      have n2 : ∀ V, U ≠ 43 :: V := fun V e => h2 ⟨V, e⟩
      refine .inr (.inr ⟨?_, ?_, n1, n2⟩)
      · unfold dnU
        split
        · exact absurd rfl (n1 _)
        · rfl
      · unfold sgU
        split
        · exact absurd rfl (n1 _)
        · exact absurd rfl (n2 _)
        · rfl
def vU (U : List UInt8) : List UInt8 := U.drop (if sgU U then 1 else 0)
theorem expo_e {c : UInt8} (hc : c.toNat = 101 ∨ c.toNat = 69) (U : List UInt8) : expoL (c :: U) = (expoS (vU U)).map (fun x => if dnU U then -x else x) := by
  unfold vU
  rcases sg_cases U with ⟨h1, h2, V, rfl⟩ | ⟨h1, h2, V, rfl⟩ | ⟨h1, h2, n1, n2⟩
  · rw [h1, h2, expo_minus hc]; rfl
  · rw [h1, h2, expo_plus hc]; rfl
  · rw [h1, h2, expo_else hc U n1 n2]; rfl
set_option maxRecDepth 100000 in
set_option maxHeartbeats 25600000 in
theorem rparse_any (w : World) (L : List UInt8) (hL : L.length ≤ 100000) :
    Calls Tryd.prog 35 #[.string ⟨L.toArray⟩] w fun e w' => e = .returned (match parseL L with | none => .tuple #[.agg #[.bool false, .string ⟨#[]⟩, .int .i64 0], .int .i64 4] | some r => resV r 3) ∧ Kp [] w w' := by
  have hsz : (⟨L.toArray⟩ : ByteArray).size = L.length := size_mk _
  obtain ⟨X, hX⟩ : ∃ X, X = (signL L).2 := ⟨_, rfl⟩
  have hXa := sign_at L
  have hXh := sign_head L
  have hcode : parseL L = (plainN X).map fun x => norm (signL L).1 x.1 x.2 := by rw [hX]; rfl
  rw [← hX] at hXa
  obtain ⟨r, hr⟩ : ∃ r, r = (match parseL L with | none => Value.tuple #[.agg #[.bool false, .string ⟨#[]⟩, .int .i64 0], .int .i64 4] | some r => resV r 3) := ⟨_, rfl⟩
  rw [hcode] at hr
  rw [hcode, ← hr]
  obtain ⟨ng, hng⟩ : ∃ b, b = (signL L).1 := ⟨_, rfl⟩
  rw [← hng] at hr hXa hXh
  have hrn : plainN X = none → r = Value.tuple #[.agg #[.bool false, .string ⟨#[]⟩, .int .i64 0], .int .i64 4] := fun h => by rw [hr, h]; rfl
  have hrs : ∀ v s, plainN X = some (v, s) → r = resV (norm ng v s) 3 := fun v s h => by rw [hr, h]; rfl
  have hDlen : (lead X).length ≤ X.length := by have := congrArg List.length (lead_rest X); rw [List.length_append] at this; omega
  have hXl : X.length ≤ L.length := by rw [hXa, List.length_drop]; omega
  obtain ⟨a, haD⟩ : ∃ a : Nat, a = (if ng then 1 else 0) := ⟨_, rfl⟩
  rw [← haD] at hXa
  have ha1 : a ≤ 1 := by rw [haD]; split <;> omega
  have haL : a ≤ L.length := by
    cases hn : ng with
    | false => rw [haD, hn]; exact Nat.zero_le _
    | true =>
      obtain ⟨t, ht⟩ := hXh.1 hn
      rw [haD, hn, ht]
      simp
  have HR := hid (And.intro hrn (And.intro hrs (And.intro hXa (And.intro hXh haD))))
  have HK := hid ((Kp.refl [] w).alloc (.cells #[.bool false, .string ⟨#[]⟩, .int .i64 0] 26))
  have HM := hid (Room.fresh w (.bool false) (.string ⟨#[]⟩) (.int .i64 0))
  have qrun := fun W => rrun_any W L a (by omega) haL
  rw [← hXa] at qrun
  obtain ⟨n, hnD⟩ : ∃ n, n = (lead X).length := ⟨_, rfl⟩
  simp only [← hnD] at qrun
  have HN := hid hnD
  rw [← hnD] at hDlen
  have hn9 : n ≤ 100000 := by omega
  clear hX hXa hXh hcode hr hng hrn hrs haD hnD
  go_enter Tryd.func35, Tryd.ntmps35
  go_upto_region 2 with fail
  go_cut [5] (fun v wx => v = .bool ng ∧ wx = w.alloc (.cells #[.bool false, .string ⟨#[]⟩, .int .i64 0] 26))
  case first => as_aux_lemma =>
    rcases nil_or L with hLs | ⟨c, t, hLs⟩
    · have hn0 : ng = false := by
        cases h : ng with
        | false => rfl
        | true => obtain ⟨t, ht⟩ := HR.out.2.2.2.1.1 h; rw [hLs] at ht; cases ht
      have b0 : decide (0 < L.length) = false := by rw [hLs]; rfl
      have HQ := hid hn0
      clear hn0 hLs
      go_wp2_with fail
      go_meet
      exact ⟨by rw [HQ.out], rfl⟩
    · have b0 : decide (0 < L.length) = true := by rw [hLs]; rfl
      have hl0 : 0 < L.length := by rw [hLs]; simp
      have i0 := byte_in L 0 c.toNat hl0 (by simp only [hLs]; rfl)
      have hc9 : c.toNat < 256 := UInt8.toNat_lt _
      obtain ⟨m, hm⟩ : ∃ m, m = c.toNat := ⟨_, rfl⟩
      rw [← hm] at i0 hc9
      have hp0 : (0 : Int) < (L.length : Int) := by omega
      by_cases h45 : c = 45
      · have hn1 : ng = true := HR.out.2.2.2.1.2 ⟨t, by rw [hLs, h45]⟩
        have hm45 : m = 45 := by rw [hm, h45]; rfl
        have HQ := hid hn1
        have b1 : ((m : Int) == 45) = true := by rw [beq_iff_eq]; omega
        clear hn1 hLs hm45 hm h45
        go_wp2_with fail
        go_meet
        exact ⟨by rw [HQ.out], rfl⟩
      · have hn1 : ng = false := by
          cases h : ng with
          | false => rfl
          | true => obtain ⟨t2, ht⟩ := HR.out.2.2.2.1.1 h; rw [hLs] at ht; injection ht with ht; exact absurd ht h45
        have hm45 : m ≠ 45 := fun h => h45 (UInt8.toNat_inj.1 (by rw [← hm, h]; rfl))
        have HQ := hid hn1
        have b1 : ((m : Int) == 45) = false := by rw [beq_eq_false_iff_ne]; omega
        clear hn1 hLs hm45 hm h45
        go_wp2_with fail
        go_meet
        exact ⟨by rw [HQ.out], rfl⟩
  case rest =>
    obtain ⟨rfl, rfl⟩ := hcut
    go_upto_if 20 with fail
    go_cut [4, 5, 20] (fun v u _ wx => v = .int .i64 (a : Int) ∧ u = .bool ng ∧ wx = w.alloc (.cells #[.bool false, .string ⟨#[]⟩, .int .i64 0] 26))
    case first => as_aux_lemma =>
      cases ng
      all_goals
        go_wp2_with fail
        go_meet
        exact ⟨by rw [HR.out.2.2.2.2]; rfl, rfl, rfl⟩
    case rest =>
      obtain ⟨rfl, rfl, rfl⟩ := hcut
      go_wp2_with fail
      (with_reducible refine (qrun _).mono ?_)
      rintro e w1 ⟨rfl, rfl⟩
      clear qrun
      by_cases hn0 : n = 0
      · have HE := hid (HR.out.1 (plain_bad (.inl (List.length_eq_zero_iff.1 (HN.out.symm.trans hn0)))))
        have b1 : ((n : Int) == 0) = true := by rw [beq_iff_eq]; omega
        clear hn0
        go_wp2_with fail
        exact bodyPost_ret (v := .tuple #[.agg #[.bool false, .string ⟨#[]⟩, .int .i64 0], .int .i64 4]) (by simp [results, Tryd.results35, go_sem]) rfl ⟨by rw [HE.out], (Kp.refl [] w).alloc _⟩
      have b1 : ((n : Int) == 0) = false := by rw [beq_eq_false_iff_ne]; omega
      obtain ⟨c0, t0, hX0⟩ : ∃ c t, X = c :: t := by
        rcases nil_or X with h | h
        · rw [h] at hDlen; simp at hDlen; omega
        · exact h
      obtain ⟨hpa, hca, -⟩ := drop_cons (HR.out.2.2.1.symm.trans hX0)
      obtain ⟨m0, hm0⟩ : ∃ m, m = c0.toNat := ⟨_, rfl⟩
      have hm9 : m0 < 256 := by rw [hm0]; exact UInt8.toNat_lt _
      have ia := byte_in L a m0 hpa (by rw [hca]; exact hm0)
      have hhead : (lead X).head? = some c0 := by
        have h := lead_rest X
        rcases nil_or (lead X) with h2 | ⟨d, u, h2⟩
        · exact absurd (by rw [HN.out, h2]; rfl) hn0
        · rw [h2, hX0] at h; injection h with h _; rw [h2, h]; rfl
      have hpi : (a : Int) < (L.length : Int) := by omega
      have hai : (0 : Int) ≤ (a : Int) := by omega
      by_cases hbad : 1 < n ∧ m0 = 48
      · obtain ⟨h1, h2⟩ := hbad
        have HE := hid (HR.out.1 (plain_bad (.inr ⟨by rw [← HN.out]; exact h1, by rw [hhead, show c0 = 48 from UInt8.toNat_inj.1 (by rw [← hm0, h2]; rfl)]⟩)))
        subst h2
        clear hm0 hX0 hca hhead hn0
        go_wp2_with fail
        exact bodyPost_ret (v := .tuple #[.agg #[.bool false, .string ⟨#[]⟩, .int .i64 0], .int .i64 4]) (by simp [results, Tryd.results35, go_sem]) rfl ⟨by rw [HE.out], (Kp.refl [] w).alloc _⟩
      have Hbad := hid hbad
      have hlb : ¬ (lead X = [] ∨ (1 < (lead X).length ∧ (lead X).head? = some 48)) := by
        rintro (h | ⟨h1, h2⟩)
        · exact hn0 (by rw [HN.out, h]; rfl)
        · rw [hhead] at h2; exact Hbad.out ⟨by rw [HN.out]; exact h1, by rw [hm0]; injection h2 with h2; rw [h2]; rfl⟩
      have Hlb := hid hlb
      clear hlb hbad hm0 hX0 hca hhead hn0
      go_upto_region 6 with fail
      go_cut [35] (fun v wx => v = .bool false ∧ wx = w.alloc (.cells #[.bool false, .string ⟨#[]⟩, .int .i64 0] 26))
      case first => as_aux_lemma =>
        by_cases hn1 : 1 < n
        · have b2 : ((m0 : Int) == 48) = false := by rw [beq_eq_false_iff_ne]; intro h; exact Hbad.out ⟨hn1, by omega⟩
          go_wp2_with fail
          go_meet
          exact ⟨rfl, rfl⟩
        · go_wp2_with fail
          go_meet
          exact ⟨rfl, rfl⟩
      case rest =>
        obtain ⟨rfl, rfl⟩ := hcut
        clear ia hm9 Hbad hpi hpa b1
        obtain ⟨a1, ha1D⟩ : ∃ a1, a1 = a + n := ⟨_, rfl⟩
        have e1 : (a : Int) + (n : Int) = (a1 : Int) := by omega
        have ha1L : a1 ≤ L.length := by have := congrArg List.length HR.out.2.2.1; rw [List.length_drop] at this; omega
        have hD1 := extract_mk L a a1
        rw [ha1D, slice_at HR.out.2.2.1.symm, HN.out, (lead_len X).1, ← HN.out, ← ha1D] at hD1
        have hR1 : L.drop a1 = rest X := by rw [ha1D, drop_more HR.out.2.2.1.symm, HN.out, (lead_len X).2]
        obtain ⟨D1, hD1D⟩ : ∃ D, D = lead X := ⟨_, rfl⟩
        obtain ⟨R, hRD⟩ : ∃ R, R = rest X := ⟨_, rfl⟩
        rw [← hD1D] at hD1
        rw [← hRD] at hR1
        have hDl : D1.length ≤ 100000 := by rw [hD1D, ← HN.out]; exact hn9
        have dD1 : Digs D1 := by rw [hD1D]; exact digs_lead X
        have ha01 : (a : Int) ≤ (a1 : Int) := by omega
        have ha1i : (a1 : Int) ≤ (L.length : Int) := by omega
        have ha10 : (0 : Int) ≤ (a1 : Int) := by omega
        have HS := hid (And.intro hD1D (And.intro hRD (And.intro dD1 hR1)))
        clear ha1D hD1D hRD dD1
        go_upto_region 9 with fail
        go_cut [4] (fun v wx => v = .int .i64 (a1 : Int) ∧ wx = w.alloc (.cells #[.bool false, .string ⟨#[]⟩, .int .i64 0] 26))
        case first => as_aux_lemma =>
          go_wp2_with fail
          go_meet
          exact ⟨rfl, rfl⟩
        case rest =>
          obtain ⟨rfl, rfl⟩ := hcut
          clear e1 hD1 ha01
          rcases hp : partL R with _ | ⟨P, E⟩
          · obtain ⟨t, ht⟩ : ∃ t, R = 46 :: t := by
              by_cases h : ∃ t, R = 46 :: t
              · exact h
              · rw [part_not (fun t e => h ⟨t, e⟩)] at hp; cases hp
            have HE := hid (HR.out.1 (plain_part (by rw [← HS.out.2.1]; exact hp)))
            rw [ht, part_dot'] at hp
            have hlt0 : lead t = [] := by
              by_cases h : lead t = []
              · exact h
              · rw [if_neg h] at hp; cases hp
            obtain ⟨hp1, hc1, hd1⟩ := drop_cons (hR1.trans ht)
            have i1 := byte_in L a1 46 hp1 (by rw [hc1]; rfl)
            have q2 := fun W => rrun_any W L (a1 + 1) (by omega) (by omega)
            rw [hd1, hlt0] at q2
            have hp1i : (a1 : Int) < (L.length : Int) := by omega
            have ea : ((a1 + 1 : Nat) : Int) = (a1 : Int) + 1 := by omega
            rw [ea] at q2
            clear hp hlt0 hd1 hc1 ht hR1 ea
            go_wp2_with fail
            (with_reducible refine (q2 _).mono ?_)
            rintro e w1 ⟨rfl, rfl⟩
            go_wp2_with fail
            exact bodyPost_ret (v := .tuple #[.agg #[.bool false, .string ⟨#[]⟩, .int .i64 0], .int .i64 4]) (by simp [results, Tryd.results35, go_sem]) rfl ⟨by rw [HE.out], (Kp.refl [] w).alloc _⟩
          have hPE : P.length ≤ L.length ∧ E.length ≤ L.length := by
            have h0 := congrArg List.length hR1
            rw [List.length_drop] at h0
            rcases part_split hp with ⟨h1, h2, _⟩ | ⟨t, h1, h2, h3, _⟩
            · rw [h1, h2]; simp; omega
            · have h4 := congrArg List.length (lead_rest t)
              rw [List.length_append, ← h2, ← h3] at h4
              rw [h1, List.length_cons] at h0
              omega
          obtain ⟨sc, hscD⟩ : ∃ sc, sc = P.length := ⟨_, rfl⟩
          obtain ⟨D2, hD2D⟩ : ∃ D, D = D1 ++ P := ⟨_, rfl⟩
          obtain ⟨dt, hdt⟩ : ∃ b, b = decide (P ≠ []) := ⟨_, rfl⟩
          have dP : Digs P := by
            rcases part_split hp with ⟨h1, _, _⟩ | ⟨t, _, h2, _, _⟩
            · rw [h1]; exact Digs.nil
            · rw [h2]; exact digs_lead t
          have ha2x : ∃ a2, a2 ≤ L.length ∧ L.drop a2 = E ∧ (P = [] → a2 = a1) ∧ (∀ t, R = 46 :: t → P = lead t → E = rest t → P ≠ [] → a2 = a1 + 1 + sc) := by
            rcases part_split hp with ⟨h1, h2, h3⟩ | ⟨t, h1, h2, h3, h4⟩
            · exact ⟨a1, ha1L, by rw [h2]; exact hR1, fun _ => rfl, fun t e => absurd e (h3 t)⟩
            · obtain ⟨hp1, hc1, hd1⟩ := drop_cons (hR1.trans h1)
              refine ⟨a1 + 1 + sc, ?_, by rw [drop_more hd1, hscD, h2, (lead_len t).2, h3], fun e => absurd e h4, fun _ _ _ _ _ => rfl⟩
              have h5 := congrArg List.length (lead_rest t)
              have h6 := congrArg List.length hd1
              rw [List.length_append, ← h2, ← hscD] at h5
              rw [List.length_drop] at h6
              omega
          obtain ⟨a2, ha2L, hE2, ha2n, ha2d⟩ := ha2x
          have hsc9 : sc ≤ 100000 := by omega
          have hD2l : D2.length ≤ 200000 := by rw [hD2D, List.length_append]; omega
          have dD2 : Digs D2 := by rw [hD2D]; exact HS.out.2.2.1.append dP
          have HP := hid (And.intro (show partL (rest X) = some (P, E) by rw [← HS.out.2.1]; exact hp) (And.intro hscD (And.intro hD2D (And.intro hdt (And.intro ha2n ha2d)))))
          have HPE := hid hPE
          have Hp := hid hp
          have HR1 := hid hR1
          have HE2 := hid hE2
          clear hPE dP hscD hD2D hdt ha2n ha2d hp hR1 hE2
          go_upto_region 11 with fail
          go_cut [55] (fun v wx => v = .bool dt ∧ wx = w.alloc (.cells #[.bool false, .string ⟨#[]⟩, .int .i64 0] 26))
          case first => as_aux_lemma =>
            rcases part_split Hp.out with ⟨h1, h2, h3⟩ | ⟨t, h1, h2, h3, h4⟩
            · have Hd := hid (show dt = false by rw [HP.out.2.2.2.1]; exact decide_eq_false (fun h => h h1))
              rcases nil_or R with hR | ⟨c, t, hR⟩
              · have bl : decide (a1 < L.length) = false := decide_eq_false (by have := congrArg List.length (HR1.out.trans hR); rw [List.length_drop] at this; simp at this; omega)
                clear h1 h2 h3 hR
                go_wp2_with fail
                go_meet
                exact ⟨by rw [Hd.out], rfl⟩
              · obtain ⟨hp1, hc1, -⟩ := drop_cons (HR1.out.trans hR)
                obtain ⟨m, hm⟩ : ∃ m, m = c.toNat := ⟨_, rfl⟩
                have i1 := byte_in L a1 m hp1 (by rw [hc1]; exact hm)
                have hm9 : m < 256 := by rw [hm]; exact UInt8.toNat_lt _
                have b46 : ((m : Int) == 46) = false := by
                  rw [beq_eq_false_iff_ne]
                  intro h
                  refine h3 t ?_
                  rw [hR, show c = 46 from UInt8.toNat_inj.1 (by rw [← hm]; exact Int.ofNat.inj h)]
                have hp1i : (a1 : Int) < (L.length : Int) := by omega
                clear h1 h2 h3 hR hc1 hm
                go_wp2_with fail
                go_meet
                exact ⟨by rw [Hd.out], rfl⟩
            · have Hd := hid (show dt = true by rw [HP.out.2.2.2.1]; exact decide_eq_true h4)
              obtain ⟨hp1, hc1, -⟩ := drop_cons (HR1.out.trans h1)
              have i1 := byte_in L a1 46 hp1 (by rw [hc1]; rfl)
              have hp1i : (a1 : Int) < (L.length : Int) := by omega
              clear h1 h2 h3 h4 hc1
              go_wp2_with fail
              go_meet
              exact ⟨by rw [Hd.out], rfl⟩
          case rest =>
            obtain ⟨rfl, rfl⟩ := hcut
            go_upto_if 55 with fail
            go_cut [4, 7, 8, 55] (fun v4 v7 v8 _ wx => v4 = .int .i64 (a2 : Int) ∧ v7 = .string ⟨D2.toArray⟩ ∧ v8 = .int .i64 (sc : Int) ∧ wx = w.alloc (.cells #[.bool false, .string ⟨#[]⟩, .int .i64 0] 26))
            case first => as_aux_lemma =>
              cases dt
              · have hP0 : P = [] := by
                  have := HP.out.2.2.2.1
                  by_cases h : P = []
                  · exact h
                  · rw [decide_eq_true h] at this; cases this
                have Hx := hid (And.intro (HP.out.2.2.2.2.1 hP0) (And.intro (show D2 = D1 by rw [HP.out.2.2.1, hP0, List.append_nil]) (show sc = 0 by rw [HP.out.2.1, hP0]; rfl)))
                clear hP0
                go_wp2_with fail
                go_meet
                exact ⟨by rw [Hx.out.1], by rw [Hx.out.2.1], by rw [Hx.out.2.2]; rfl, rfl⟩
              · have hPn : P ≠ [] := of_decide_eq_true HP.out.2.2.2.1.symm
                rcases part_split Hp.out with ⟨h1, _, _⟩ | ⟨t, h1, h2, h3, h4⟩
                · exact absurd h1 hPn
                obtain ⟨hp1, hc1, hd1⟩ := drop_cons (HR1.out.trans h1)
                have q2 := fun W => rrun_any W L (a1 + 1) (by omega) (by omega)
                rw [hd1, ← h2, ← HP.out.2.1] at q2
                have ea : ((a1 + 1 : Nat) : Int) = (a1 : Int) + 1 := by omega
                rw [ea] at q2
                have hp1i : (a1 : Int) < (L.length : Int) := by omega
                have hsc1 : 0 < sc := by
                  rw [HP.out.2.1]
                  rcases nil_or P with h | ⟨_, _, h⟩
                  · exact absurd h hPn
                  · rw [h]; simp
                have bs : ((sc : Int) == 0) = false := by rw [beq_eq_false_iff_ne]; omega
                have ha2D := HP.out.2.2.2.2.2 t h1 h2 h3 h4
                have e2 : (a1 : Int) + 1 + (sc : Int) = (a2 : Int) := by omega
                have hx2 := extract_mk L (a1 + 1) a2
                rw [ha2D, slice_at hd1, HP.out.2.1, h2, (lead_len t).1, ← h2, ← HP.out.2.1, ← ha2D] at hx2
                have hP9 : P.length ≤ 100000 := by have := HPE.out.1; omega
                have hadd := fun W => run_add_text (P := Tryd.prog) D1 P D2 HP.out.2.2.1 (by omega) W
                have ha12 : (a1 : Int) + 1 ≤ (a2 : Int) := by omega
                have ha22 : (a2 : Int) ≤ (L.length : Int) := by omega
                have ez : ((a1 : Int) + 1).toNat = a1 + 1 := by omega
                clear h1 h2 h3 h4 hc1 hd1 ea hPn ha2D hsc1
                go_wp2_with fail
                (with_reducible refine (q2 _).mono ?_)
                rintro e w1 ⟨rfl, rfl⟩
                clear q2
                go_wp2_with fail
                go_meet
                exact ⟨rfl, rfl, rfl, rfl⟩
            case rest =>
              obtain ⟨rfl, rfl, rfl, rfl⟩ := hcut
              clear hDl ha1L ha1i ha10
              obtain ⟨U, hUD⟩ : ∃ U, U = E.drop 1 := ⟨_, rfl⟩
              obtain ⟨V, hVD⟩ : ∃ V, V = vU U := ⟨_, rfl⟩
              obtain ⟨ex, hex⟩ : ∃ b, b = exE E := ⟨_, rfl⟩
              obtain ⟨sg, hsg⟩ : ∃ b, b = sgU U := ⟨_, rfl⟩
              obtain ⟨dn, hdn⟩ : ∃ b, b = dnU U := ⟨_, rfl⟩
              obtain ⟨n2, hn2⟩ : ∃ n, n = (lead V).length := ⟨_, rfl⟩
              obtain ⟨a5, ha5⟩ : ∃ a, a = (if ex then a2 + 1 + (if sg then 1 else 0) + n2 else a2) := ⟨_, rfl⟩
              obtain ⟨up, hup⟩ : ∃ u : Int, u = (if ex then (if dn then -(val (lead V) : Int) else (val (lead V) : Int)) else 0) := ⟨_, rfl⟩
              have hEx : ex = true → ∃ c, E = c :: U ∧ (c.toNat = 101 ∨ c.toNat = 69) := fun h => by
                rw [hex] at h
                rcases nil_or E with h2 | ⟨c, t, h2⟩
                · rw [h2] at h; cases h
                · refine ⟨c, by rw [hUD, h2]; rfl, ?_⟩
                  rw [h2] at h
                  exact of_decide_eq_true h
              have HX := hid (And.intro hUD (And.intro hVD (And.intro hex (And.intro hsg (And.intro hdn (And.intro hn2 (And.intro ha5 (And.intro hup hEx))))))))
              clear hUD hVD hex hsg hdn hn2 ha5 hup hEx
              go_upto_region 18 with fail
              go_cut [92] (fun v wx => v = .bool ex ∧ wx = w.alloc (.cells #[.bool false, .string ⟨#[]⟩, .int .i64 0] 26))
              case first => as_aux_lemma =>
                rcases nil_or E with hE | ⟨c, t, hE⟩
                · have Hd := hid (show ex = false by rw [HX.out.2.2.1, hE]; rfl)
                  have bl : decide (a2 < L.length) = false := decide_eq_false (by have := congrArg List.length (HE2.out.trans hE); rw [List.length_drop] at this; simp at this; omega)
                  clear hE
                  go_wp2_with fail
                  go_meet
                  exact ⟨by rw [Hd.out], rfl⟩
                · obtain ⟨hp1, hc1, -⟩ := drop_cons (HE2.out.trans hE)
                  obtain ⟨m, hm⟩ : ∃ m, m = c.toNat := ⟨_, rfl⟩
                  have i1 := byte_in L a2 m hp1 (by rw [hc1]; exact hm)
                  have hm9 : m < 256 := by rw [hm]; exact UInt8.toNat_lt _
                  have hp1i : (a2 : Int) < (L.length : Int) := by omega
                  have hd : ex = decide (m = 101 ∨ m = 69) := by rw [HX.out.2.2.1, hE, hm]; rfl
                  clear hE hc1 hm
                  by_cases h101 : m = 101
                  · have Hd := hid (show ex = true by rw [hd]; exact decide_eq_true (.inl h101))
                    clear hd
                    subst h101
                    go_wp2_with fail
                    go_meet
                    exact ⟨by rw [Hd.out], rfl⟩
                  have b1 : ((m : Int) == 101) = false := by rw [beq_eq_false_iff_ne]; omega
                  by_cases h69 : m = 69
                  · have Hd := hid (show ex = true by rw [hd]; exact decide_eq_true (.inr h69))
                    clear hd b1 h101
                    subst h69
                    go_wp2_with fail
                    go_meet
                    exact ⟨by rw [Hd.out], rfl⟩
                  have b2 : ((m : Int) == 69) = false := by rw [beq_eq_false_iff_ne]; omega
                  have Hd := hid (show ex = false by rw [hd]; exact decide_eq_false (by omega))
                  clear hd
                  go_wp2_with fail
                  go_meet
                  exact ⟨by rw [Hd.out], rfl⟩
              case rest =>
                obtain ⟨rfl, rfl⟩ := hcut
                go_upto_if 92 with fail
                go_cut [4, 6, 9, 10, 11, 92] (fun v4 _ v9 _ _ _ wx => v4 = .int .i64 (a5 : Int) ∧ v9 = .int .i64 up ∧ wx = w.alloc (.cells #[.bool false, .string ⟨#[]⟩, .int .i64 0] 26) ∧ (ex = true → 1 ≤ n2 ∧ n2 ≤ 2))
                case first => as_aux_lemma =>
                  cases ex
                  · have Ha := hid (show a5 = a2 from HX.out.2.2.2.2.2.2.1)
                    have Hu := hid (show up = 0 from HX.out.2.2.2.2.2.2.2.1)
                    go_wp2_with fail
                    go_meet
                    exact ⟨by rw [Ha.out], by rw [Hu.out], rfl, fun h => by cases h⟩
                  · obtain ⟨c, hEc, hce⟩ := HX.out.2.2.2.2.2.2.2.2 rfl
                    obtain ⟨hp1, hc1, hU⟩ := drop_cons (HE2.out.trans hEc)
                    obtain ⟨a3, ha3⟩ : ∃ a3, a3 = a2 + 1 := ⟨_, rfl⟩
                    rw [← ha3] at hU
                    have e3 : (a2 : Int) + 1 = (a3 : Int) := by omega
                    have ha3L : a3 ≤ L.length := by omega
                    have HU := hid hU
                    have HA3 := hid ha3
                    have Hce := hid (And.intro hEc hce)
                    clear hEc hce hp1 hc1 hU ha3
                    go_upto_region 20 with fail
                    go_cut [10] (fun v wx => v = .bool dn ∧ wx = w.alloc (.cells #[.bool false, .string ⟨#[]⟩, .int .i64 0] 26))
                    case first => as_aux_lemma =>
                      rcases sg_cases U with ⟨h1, h2, V2, h3⟩ | ⟨h1, h2, V2, h3⟩ | ⟨h1, h2, h3, h4⟩
                      · have Hd := hid (show dn = true by rw [HX.out.2.2.2.2.1]; exact h1)
                        obtain ⟨hp2, hc2, -⟩ := drop_cons (HU.out.trans h3)
                        have i2 := byte_in L a3 45 hp2 (by rw [hc2]; rfl)
                        have hp2i : (a3 : Int) < (L.length : Int) := by omega
                        clear h1 h2 h3 hc2
                        go_wp2_with fail
                        go_meet
                        exact ⟨by rw [Hd.out], rfl⟩
                      · have Hd := hid (show dn = false by rw [HX.out.2.2.2.2.1]; exact h1)
                        obtain ⟨hp2, hc2, -⟩ := drop_cons (HU.out.trans h3)
                        have i2 := byte_in L a3 43 hp2 (by rw [hc2]; rfl)
                        have hp2i : (a3 : Int) < (L.length : Int) := by omega
                        clear h1 h2 h3 hc2
                        go_wp2_with fail
                        go_meet
                        exact ⟨by rw [Hd.out], rfl⟩
                      · have Hd := hid (show dn = false by rw [HX.out.2.2.2.2.1]; exact h1)
                        rcases nil_or U with hU0 | ⟨c2, t2, hU0⟩
                        · have bl : decide (a3 < L.length) = false := decide_eq_false (by have := congrArg List.length (HU.out.trans hU0); rw [List.length_drop] at this; simp at this; omega)
                          clear h1 h2 h3 h4 hU0
                          go_wp2_with fail
                          go_meet
                          exact ⟨by rw [Hd.out], rfl⟩
                        · obtain ⟨hp2, hc2, -⟩ := drop_cons (HU.out.trans hU0)
                          obtain ⟨m, hm⟩ : ∃ m, m = c2.toNat := ⟨_, rfl⟩
                          have i2 := byte_in L a3 m hp2 (by rw [hc2]; exact hm)
                          have hm9 : m < 256 := by rw [hm]; exact UInt8.toNat_lt _
                          have hp2i : (a3 : Int) < (L.length : Int) := by omega
                          have b1 : ((m : Int) == 45) = false := by
                            rw [beq_eq_false_iff_ne]
                            intro h
                            exact h3 t2 (by rw [hU0, show c2 = 45 from UInt8.toNat_inj.1 (by rw [← hm]; exact Int.ofNat.inj h)])
                          have b2 : ((m : Int) == 43) = false := by
                            rw [beq_eq_false_iff_ne]
                            intro h
                            exact h4 t2 (by rw [hU0, show c2 = 43 from UInt8.toNat_inj.1 (by rw [← hm]; exact Int.ofNat.inj h)])
                          clear h1 h2 h3 h4 hU0 hc2 hm
                          go_wp2_with fail
                          go_meet
                          exact ⟨by rw [Hd.out], rfl⟩
                    case rest =>
                      obtain ⟨rfl, rfl⟩ := hcut
                      clear e3
                      go_upto_region 21 with fail
                      go_cut [120] (fun v wx => v = .bool sg ∧ wx = w.alloc (.cells #[.bool false, .string ⟨#[]⟩, .int .i64 0] 26))
                      case first => as_aux_lemma =>
                        rcases sg_cases U with ⟨h1, h2, V2, h3⟩ | ⟨h1, h2, V2, h3⟩ | ⟨h1, h2, h3, h4⟩
                        · have Hd := hid (show sg = true by rw [HX.out.2.2.2.1]; exact h2)
                          obtain ⟨hp2, hc2, -⟩ := drop_cons (HU.out.trans h3)
                          have i2 := byte_in L a3 45 hp2 (by rw [hc2]; rfl)
                          have hp2i : (a3 : Int) < (L.length : Int) := by omega
                          clear h1 h2 h3 hc2
                          go_wp2_with fail
                          go_meet
                          exact ⟨by rw [Hd.out], rfl⟩
                        · have Hd := hid (show sg = true by rw [HX.out.2.2.2.1]; exact h2)
                          obtain ⟨hp2, hc2, -⟩ := drop_cons (HU.out.trans h3)
                          have i2 := byte_in L a3 43 hp2 (by rw [hc2]; rfl)
                          have hp2i : (a3 : Int) < (L.length : Int) := by omega
                          clear h1 h2 h3 hc2
                          go_wp2_with fail
                          go_meet
                          exact ⟨by rw [Hd.out], rfl⟩
                        · have Hd := hid (show sg = false by rw [HX.out.2.2.2.1]; exact h2)
                          rcases nil_or U with hU0 | ⟨c2, t2, hU0⟩
                          · have bl : decide (a3 < L.length) = false := decide_eq_false (by have := congrArg List.length (HU.out.trans hU0); rw [List.length_drop] at this; simp at this; omega)
                            clear h1 h2 h3 h4 hU0
                            go_wp2_with fail
                            go_meet
                            exact ⟨by rw [Hd.out], rfl⟩
                          · obtain ⟨hp2, hc2, -⟩ := drop_cons (HU.out.trans hU0)
                            obtain ⟨m, hm⟩ : ∃ m, m = c2.toNat := ⟨_, rfl⟩
                            have i2 := byte_in L a3 m hp2 (by rw [hc2]; exact hm)
                            have hm9 : m < 256 := by rw [hm]; exact UInt8.toNat_lt _
                            have hp2i : (a3 : Int) < (L.length : Int) := by omega
                            have b1 : ((m : Int) == 45) = false := by
                              rw [beq_eq_false_iff_ne]
                              intro h
                              exact h3 t2 (by rw [hU0, show c2 = 45 from UInt8.toNat_inj.1 (by rw [← hm]; exact Int.ofNat.inj h)])
                            have b2 : ((m : Int) == 43) = false := by
                              rw [beq_eq_false_iff_ne]
                              intro h
                              exact h4 t2 (by rw [hU0, show c2 = 43 from UInt8.toNat_inj.1 (by rw [← hm]; exact Int.ofNat.inj h)])
                            clear h1 h2 h3 h4 hU0 hc2 hm
                            go_wp2_with fail
                            go_meet
                            exact ⟨by rw [Hd.out], rfl⟩
                      case rest =>
                        obtain ⟨rfl, rfl⟩ := hcut
                        obtain ⟨a4, ha4⟩ : ∃ a4, a4 = a3 + (if sg then 1 else 0) := ⟨_, rfl⟩
                        have hV : L.drop a4 = V := by rw [ha4, drop_more HU.out, HX.out.2.1]; unfold vU; rw [← HX.out.2.2.2.1]
                        have ha4L : a4 ≤ L.length := by
                          rcases sg_cases U with ⟨_, h2, V2, h3⟩ | ⟨_, h2, V2, h3⟩ | ⟨_, h2, _, _⟩
                          · have := congrArg List.length (HU.out.trans h3); rw [List.length_drop, List.length_cons] at this; rw [ha4]; split <;> omega
                          · have := congrArg List.length (HU.out.trans h3); rw [List.length_drop, List.length_cons] at this; rw [ha4]; split <;> omega
                          · rw [ha4, HX.out.2.2.2.1, h2]; exact ha3L
                        have HA4 := hid (And.intro ha4 hV)
                        clear ha4 hV
                        go_upto_if 120 with fail
                        go_cut [4, 120] (fun v _ wx => v = .int .i64 (a4 : Int) ∧ wx = w.alloc (.cells #[.bool false, .string ⟨#[]⟩, .int .i64 0] 26))
                        case first => as_aux_lemma =>
                          cases sg
                          all_goals
                            have Ha := hid HA4.out.1
                            go_wp2_with fail
                            go_meet
                            exact ⟨by rw [Ha.out]; first | rfl | (congr 1; simp), rfl⟩
                        case rest =>
                          obtain ⟨rfl, rfl⟩ := hcut
                          have qv := fun W => rrun_any W L a4 (by omega) ha4L
                          rw [HA4.out.2, ← HX.out.2.2.2.2.2.1] at qv
                          go_wp2_with fail
                          (with_reducible refine (qv _).mono ?_)
                          rintro e w1 ⟨rfl, rfl⟩
                          clear qv
                          by_cases hlo : n2 < 1
                          · have HE := hid (HR.out.1 (plain_none HP.out.1 (by rw [Hce.out.1, expo_e Hce.out.2, ← HX.out.2.1, expoS_bad (.inr (.inl (by rw [← HX.out.2.2.2.2.2.1]; exact hlo)))]; rfl)))
                            have b1 : decide ((n2 : Int) < 1) = true := decide_eq_true (by omega)
                            go_wp2_with fail
                            exact bodyPost_ret (v := .tuple #[.agg #[.bool false, .string ⟨#[]⟩, .int .i64 0], .int .i64 4]) (by simp [results, Tryd.results35, go_sem]) rfl ⟨by rw [HE.out], (Kp.refl [] w).alloc _⟩
                          have b1 : decide ((n2 : Int) < 1) = false := decide_eq_false (by omega)
                          by_cases hhi : 2 < n2
                          · have HE := hid (HR.out.1 (plain_none HP.out.1 (by rw [Hce.out.1, expo_e Hce.out.2, ← HX.out.2.1, expoS_bad (.inr (.inr (by rw [← HX.out.2.2.2.2.2.1]; exact hhi)))]; rfl)))
                            have b2 : decide ((2 : Int) < (n2 : Int)) = true := decide_eq_true (by omega)
                            go_wp2_with fail
                            exact bodyPost_ret (v := .tuple #[.agg #[.bool false, .string ⟨#[]⟩, .int .i64 0], .int .i64 4]) (by simp [results, Tryd.results35, go_sem]) rfl ⟨by rw [HE.out], (Kp.refl [] w).alloc _⟩
                          have b2 : decide ((2 : Int) < (n2 : Int)) = false := decide_eq_false (by omega)
                          go_wp2_with fail
                          clear b1 b2
                          go_loopw [9, 11] (fun v9 v11 wr => wr = w.alloc (.cells #[.bool false, .string ⟨#[]⟩, .int .i64 0] 26) ∧ ∃ k : Nat, v11 = .int .i64 (k : Int) ∧ k ≤ n2 ∧ v9 = .int .i64 ((val ((lead V).take k) : Nat) : Int)) (fun _ v11 _ => n2 - (intOf v11).toNat)
                          case atStart => exact ⟨rfl, 0, rfl, Nat.zero_le _, rfl⟩
                          case round =>
                            obtain ⟨rfl, k, rfl, hk, rfl⟩ := hrel
                            by_cases hlt : k < n2
                            · have hk2 : k < (lead V).length := by rw [← HX.out.2.2.2.2.2.1]; exact hlt
                              obtain ⟨hp3, hg3⟩ := lead_at HA4.out.2 hk2
                              obtain ⟨p, hp⟩ : ∃ p, p = a4 + k := ⟨_, rfl⟩
                              have hpl : p < L.length := by omega
                              obtain ⟨m, hm⟩ : ∃ m, m = (L[p]'hpl).toNat := ⟨_, rfl⟩
                              have i3 := byte_in L p m hpl hm
                              have hmD : m = ((lead V)[k]'hk2).toNat := by rw [hm, ← hg3]; congr 1; simp only [hp]
                              have dm : 48 ≤ m ∧ m ≤ 57 := by rw [hmD]; exact digs_lead V _ (List.getElem_mem hk2)
                              have hv9 := val_take_lt (digs_lead V) hk2 (by rw [← HX.out.2.2.2.2.2.1]; omega)
                              have hst := val_step hk2
                              rw [← hmD] at hst
                              obtain ⟨v, hv⟩ : ∃ v, v = val ((lead V).take k) := ⟨_, rfl⟩
                              rw [← hv] at hst hv9 ⊢
                              obtain ⟨x, hx⟩ : ∃ x, x = m - 48 := ⟨_, rfl⟩
                              rw [← hx] at hst
                              have u1 : IntKind.u8.wrap ((m : Int) - 48) = (x : Int) := by rw [show (m : Int) - 48 = x by omega]; exact IntWalk.u8_in _ (by omega)
                              have hx9 : x ≤ 9 := by omega
                              have e5 : (a4 : Int) + (k : Int) = (p : Int) := by omega
                              have p0 : (0 : Int) ≤ (p : Int) := by omega
                              have p1 : (p : Int) < (L.length : Int) := by omega
                              have HN2 := hid hst
                              clear hst hv hx hmD hm hp hg3 hp3 hk2
                              go_wp2_with fail
                              go_roundw
                              case rel => exact ⟨trivial, k + 1, by go_num, by omega, by rw [HN2.out]; congr 1; omega⟩
                              case measure => simp [intOf]; omega
                            · have hkn : k = n2 := by omega
                              have htk : (lead V).take k = lead V := List.take_of_length_le (by rw [← HX.out.2.2.2.2.2.1]; omega)
                              rw [htk]
                              obtain ⟨v, hv⟩ : ∃ v, v = val (lead V) := ⟨_, rfl⟩
                              rw [← hv]
                              have hv99 : v ≤ 99 := by rw [hv]; exact two_lt (digs_lead V) (by rw [← HX.out.2.2.2.2.2.1]; omega)
                              have Hv := hid hv
                              have Ha5 := hid (show a5 = a4 + n2 by rw [HX.out.2.2.2.2.2.2.1, HA4.out.1, HA3.out]; simp)
                              clear hv htk hkn
                              cases dn
                              all_goals
                                have Hu := hid HX.out.2.2.2.2.2.2.2.1
                                go_wp2_with fail
                                go_meet
                                exact ⟨by rw [Ha5.out]; congr 1, by rw [Hu.out, Hv.out]; rfl, rfl, fun _ => ⟨by omega, by omega⟩⟩
                case rest =>
                  obtain ⟨rfl, rfl, rfl, hn12⟩ := hcut
                  have hout : (a5 = L.length → expoL E = some up) ∧ (a5 ≠ L.length → expoL E = none) := by
                    have hE := congrArg List.length HE2.out
                    rw [List.length_drop] at hE
                    cases hx : ex with
                    | false =>
                      have h5 : a5 = a2 := by rw [HX.out.2.2.2.2.2.2.1, hx]; rfl
                      have hu : up = 0 := by rw [HX.out.2.2.2.2.2.2.2.1, hx]; rfl
                      refine ⟨fun h => ?_, fun h => ?_⟩
                      · rw [List.length_eq_zero_iff.1 (show E.length = 0 by omega), hu]
                        rfl
                      · rcases nil_or E with h2 | ⟨c, t, h2⟩
                        · rw [h2] at hE; simp at hE; omega
                        · have h3 : exE E = false := by rw [← HX.out.2.2.1]; exact hx
                          rw [h2] at h3 ⊢
                          have h4 : ¬ (c.toNat = 101 ∨ c.toNat = 69) := of_decide_eq_false h3
                          exact rexpo_not c t (fun e => h4 (.inl (by rw [e]; rfl))) (fun e => h4 (.inr (by rw [e]; rfl)))
                    | true =>
                      obtain ⟨c, hEc, hce⟩ := HX.out.2.2.2.2.2.2.2.2 hx
                      obtain ⟨h1, h2⟩ := hn12 hx
                      have hU : L.drop (a2 + 1) = U := by have := drop_more HE2.out (n := 1); rw [this, hEc]; rfl
                      have hV : L.drop (a2 + 1 + (if sg then 1 else 0)) = V := by rw [drop_more hU, HX.out.2.1]; unfold vU; rw [← HX.out.2.2.2.1]
                      have hR : L.drop a5 = rest V := by rw [HX.out.2.2.2.2.2.2.1, hx, if_pos rfl, drop_more hV, HX.out.2.2.2.2.2.1, (lead_len V).2]
                      have hlV := congrArg List.length (lead_rest V)
                      rw [List.length_append, ← HX.out.2.2.2.2.2.1] at hlV
                      have hV2 := congrArg List.length hV
                      rw [List.length_drop] at hV2
                      have h5 : a5 = a2 + 1 + (if sg then 1 else 0) + n2 := by rw [HX.out.2.2.2.2.2.2.1, hx, if_pos rfl]
                      have hR2 := congrArg List.length hR
                      rw [List.length_drop] at hR2
                      rw [hEc, expo_e hce, ← HX.out.2.1, ← HX.out.2.2.2.2.1]
                      refine ⟨fun h => ?_, fun h => ?_⟩
                      · have hr0 : rest V = [] := List.length_eq_zero_iff.1 (by omega)
                        rw [expoS_ok (by rintro (h3 | h3 | h3); exact h3 hr0; rw [← HX.out.2.2.2.2.2.1] at h3; omega; rw [← HX.out.2.2.2.2.2.1] at h3; omega), HX.out.2.2.2.2.2.2.2.1, hx]
                        rfl
                      · rw [expoS_bad (.inl (fun h3 => by rw [h3] at hR2; simp at hR2; omega))]
                        rfl
                  have hupb : -99 ≤ up ∧ up ≤ 99 := by
                    rw [HX.out.2.2.2.2.2.2.2.1]
                    split
                    · rename_i hx
                      have := two_lt (digs_lead V) (by rw [← HX.out.2.2.2.2.2.1]; exact (hn12 hx).2)
                      split <;> omega
                    · omega
                  have Hout := hid hout
                  clear hout hn12
                  obtain ⟨hup1, hup2⟩ := hupb
                  by_cases hne : a5 = L.length
                  rotate_left
                  · have HE := hid (HR.out.1 (plain_none HP.out.1 (Hout.out.2 hne)))
                    have bn : ((a5 : Int) != (L.length : Int)) = true := by rw [bne_iff_ne]; omega
                    have bn3 : (a5 != L.length) = true := by rw [bne_iff_ne]; exact hne
                    go_wp2_with fail
                    exact bodyPost_ret (v := .tuple #[.agg #[.bool false, .string ⟨#[]⟩, .int .i64 0], .int .i64 4]) (by simp [results, Tryd.results35, go_sem]) rfl ⟨by rw [HE.out], (Kp.refl [] w).alloc _⟩
                  have hpg := plain_good Hlb.out HP.out.1 (Hout.out.1 hne)
                  rw [← HS.out.1, ← HP.out.2.2.1, ← HP.out.2.1] at hpg
                  have bn : ((a5 : Int) != (L.length : Int)) = false := by rw [hne]; simp
                  have bn3 : (a5 != L.length) = false := by rw [hne]; simp
                  obtain ⟨z, hz⟩ : ∃ z : Int, z = (sc : Int) - up := ⟨_, rfl⟩
                  rw [← hz] at hpg
                  have ez : (sc : Int) - up = z := hz.symm
                  have hz1 : -99 ≤ z := by omega
                  have hz2 : z ≤ 100099 := by omega
                  have hk9 : (up - (sc : Int)).toNat = (-z).toNat := by omega
                  have Hpg := hid hpg
                  have Hk9 := hid hk9
                  clear hpg hz hne hk9
                  go_upto_region 35 with fail
                  go_cut [8] (fun v wx => v = .int .i64 z ∧ wx = w.alloc (.cells #[.bool false, .string ⟨#[]⟩, .int .i64 0] 26))
                  case first => as_aux_lemma =>
                    go_wp2_with fail
                    go_meet
                    exact ⟨rfl, rfl⟩
                  case rest =>
                    obtain ⟨rfl, rfl⟩ := hcut
                    clear ez bn bn3
                    by_cases hzn : z < 0
                    · obtain ⟨K, hK⟩ : ∃ K : Nat, K = (-z).toNat := ⟨_, rfl⟩
                      have hKz : -z = (K : Int) := by omega
                      have hK9 : K ≤ 1000 := by omega
                      have hp2 := Hpg.out
                      rw [if_pos hzn, Hk9.out, ← hK] at hp2
                      obtain ⟨T, hT⟩ : ∃ T, T = D2 ++ List.replicate K 48 := ⟨_, rfl⟩
                      have hvT : val D2 * 10 ^ K = val T := by rw [hT, val_zeros_behind]
                      rw [hvT] at hp2
                      have dT : Digs T := by rw [hT]; exact dD2.append (Digs.zeros K)
                      have hTl : T.length ≤ 300000 := by rw [hT, List.length_append, List.length_replicate]; omega
                      have hadd := fun W => run_add_text (P := Tryd.prog) D2 (List.replicate K 48) T hT (by rw [List.length_replicate]; omega) W
                      have qz := fun W => rzeros_any W K (by omega)
                      obtain ⟨Z, hZ⟩ : ∃ Z : List UInt8, Z = List.replicate K 48 := ⟨_, rfl⟩
                      simp only [← hZ] at hadd qz
                      have hpl : plainN X = some (val T, 0) := hp2
                      have hre := HR.out.2.1 _ _ hpl
                      obtain ⟨O, hO⟩ : ∃ O, O = norm ng (val T) 0 := ⟨_, rfl⟩
                      rw [← hO, resV_is] at hre
                      have qn : ∀ W, Calls Tryd.prog 65 #[.bool ng, .string ⟨(T).toArray⟩, .int .i64 0] W fun e w' => e = .returned (.tuple #[.agg #[.bool (oN O), .string ⟨(oL O).toArray⟩, .int .i64 (oS O)], .int .i64 (oE O)]) ∧ Kp [] W w' := fun W => (rnorm_any W ng T (by first | exact dD2 | exact dT) (by omega) 0 (by omega)).mono fun e w' ⟨h1, h2⟩ => ⟨by rw [h1, ← hO, resV_is], h2⟩
                      have Hre := hid hre
                      clear hpl hre hO
                      have bz : decide (z < 0) = true := decide_eq_true hzn
                      clear hK hT hvT hp2 hZ
                      go_wp2_with fail
                      (with_reducible refine (qz _).mono ?_)
                      rintro e w1 ⟨rfl, rfl⟩
                      clear qz
                      go_wp2_with fail
                      (with_reducible refine (qn _).mono ?_)
                      rintro e w2 ⟨rfl, k2⟩
                      obtain ⟨_, _, _, c0, c1, c2, f0, f1, f2⟩ := (HM.out.kept k2).cells
                      have HK2 := hid (HK.out.nil k2)
                      clear k2 qn
                      dsimp only
                      iterate 18 (first | go_values | go_skip | go_guarded | go_step | go_upon | go_back)
                      exact bodyPost_ret (v := .tuple #[.agg #[.bool (oN O), .string ⟨(oL O).toArray⟩, .int .i64 (oS O)], .int .i64 (oE O)]) (by simp [results, Tryd.results35, go_sem, c0, c1, c2]) rfl ⟨by rw [Hre.out], kp_room HK2.out _ _ _⟩
                    · obtain ⟨S, hS⟩ : ∃ S : Nat, z = (S : Int) := ⟨z.toNat, by omega⟩
                      subst hS
                      have hp2 := Hpg.out
                      rw [if_neg hzn, Int.toNat_natCast] at hp2
                      have hpl : plainN X = some (val D2, S) := hp2
                      have hre := HR.out.2.1 _ _ hpl
                      obtain ⟨O, hO⟩ : ∃ O, O = norm ng (val D2) S := ⟨_, rfl⟩
                      rw [← hO, resV_is] at hre
                      have qn : ∀ W, Calls Tryd.prog 65 #[.bool ng, .string ⟨(D2).toArray⟩, .int .i64 ((S : Nat) : Int)] W fun e w' => e = .returned (.tuple #[.agg #[.bool (oN O), .string ⟨(oL O).toArray⟩, .int .i64 (oS O)], .int .i64 (oE O)]) ∧ Kp [] W w' := fun W => (rnorm_any W ng D2 (by first | exact dD2 | exact dT) (by omega) S (by omega)).mono fun e w' ⟨h1, h2⟩ => ⟨by rw [h1, ← hO, resV_is], h2⟩
                      have Hre := hid hre
                      clear hpl hre hO
                      have bz : decide ((S : Int) < 0) = false := decide_eq_false hzn
                      clear hp2
                      go_wp2_with fail
                      (with_reducible refine (qn _).mono ?_)
                      rintro e w2 ⟨rfl, k2⟩
                      obtain ⟨_, _, _, c0, c1, c2, f0, f1, f2⟩ := (HM.out.kept k2).cells
                      have HK2 := hid (HK.out.nil k2)
                      clear k2 qn
                      dsimp only
                      iterate 18 (first | go_values | go_skip | go_guarded | go_step | go_upon | go_back)
                      exact bodyPost_ret (v := .tuple #[.agg #[.bool (oN O), .string ⟨(oL O).toArray⟩, .int .i64 (oS O)], .int .i64 (oE O)]) (by simp [results, Tryd.results35, go_sem, c0, c1, c2]) rfl ⟨by rw [Hre.out], kp_room HK2.out _ _ _⟩
end Go.Proofs.YtpeldjihalldkaaDoor
