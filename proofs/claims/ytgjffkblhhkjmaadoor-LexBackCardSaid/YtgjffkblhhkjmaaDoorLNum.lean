/- Layer 10: how many bytes of a number a text begins with. -/
import Derived.Test.YtgjffkblhhkjmaaDoorLSpan
namespace Go.Proofs.YtgjffkblhhkjmaaDoor
open Go Go.RowKit Go.Lib

theorem nil_or (L : List UInt8) : L = [] ∨ ∃ c t, L = c :: t := by cases L <;> simp
theorem frac_cut (s : Txt) : (fracL s).1 ++ (fracL s).2 = s := by
  cases s with
  | nil => rfl
  | cons c t =>
    unfold fracL
    dsimp only
    split
    · rename_i h
      split
      · rfl
      · rw [h]; show 46 :: (lead t ++ rest t) = _; rw [lead_rest]
    · rfl
theorem sgn_cut (s : Txt) : (sgnL s).1 ++ (sgnL s).2 = s := by
  cases s with
  | nil => rfl
  | cons c t =>
    unfold sgnL
    dsimp only
    split <;> rfl
theorem drop_app {L A B : Txt} {n : Nat} (h : L.drop n = A ++ B) : L.drop (n + A.length) = B := by
  rw [← List.drop_drop, h]
  exact List.drop_left' rfl
theorem drop_at {L t : Txt} {n : Nat} {c : UInt8} (h : L.drop n = c :: t) : ∃ hp : n < L.length, L[n]'hp = c ∧ L.drop (n + 1) = t := by
  have hp : n < L.length := by
    rcases Nat.lt_or_ge n L.length with h2 | h2
    · exact h2
    · rw [List.drop_eq_nil_of_le h2] at h; cases h
  rw [List.drop_eq_getElem_cons hp] at h
  injection h with h1 h2
  exact ⟨hp, h1, h2⟩
theorem cutp_any (w : World) (L : Txt) : Calls Tryd.prog 75 #[.string ⟨L.toArray⟩, .string ⟨#[46]⟩] w fun e w' => e = .returned (.tuple #[.string ⟨(Lib.trimPrefix L [46]).toArray⟩, .bool (Lib.hasPrefix L [46])]) ∧ w' = w := Tryd.strings_CutPrefix ⟨L.toArray⟩ ⟨#[46]⟩ w
theorem cutp_yes (t : Txt) : Lib.trimPrefix (46 :: t) [46] = t ∧ Lib.hasPrefix (46 :: t) [46] = true := by
  constructor <;> simp [Lib.trimPrefix, Lib.hasPrefix, List.isPrefixOf]
theorem cutp_no (L : Txt) (h : ∀ t, L ≠ 46 :: t) : Lib.trimPrefix L [46] = L ∧ Lib.hasPrefix L [46] = false := by
  have h2 : Lib.hasPrefix L [46] = false := by
    cases L with
    | nil => rfl
    | cons c t =>
      have : ¬ c = 46 := fun e => h t (by rw [e])
      simp [Lib.hasPrefix, List.isPrefixOf, Ne.symm this]
  exact ⟨by simp [Lib.trimPrefix, h2], h2⟩
theorem frac_not (L : Txt) (h : ∀ t, L ≠ 46 :: t) : fracL L = ([], L) := by
  cases L with
  | nil => rfl
  | cons c t =>
    have : ¬ c = 46 := fun e => h t (by rw [e])
    unfold fracL
    dsimp only
    rw [if_neg this]
theorem frac_dot (t : Txt) : fracL (46 :: t) = if lead t = [] then ([], 46 :: t) else (46 :: lead t, rest t) := by
  unfold fracL
  dsimp only
  rw [if_pos rfl]
theorem slice_to (L : Txt) (n : Nat) : (⟨L.toArray⟩ : ByteArray).extract n L.length = ⟨(L.drop n).toArray⟩ := by
  rw [extract_mk, List.take_length]
set_option maxRecDepth 100000 in
set_option maxHeartbeats 12800000 in
theorem number_any (w : World) (L : Txt) (hL : L.length ≤ 1000000) :
    Calls Tryd.prog 56 #[.string ⟨L.toArray⟩] w fun e w' => e = .returned (.int .i64 ((numT L).length : Int)) ∧ Kp [] w w' := by
  have hsz : (⟨L.toArray⟩ : ByteArray).size = L.length := size_mk _
  have q0 : ∀ W, Calls Tryd.prog 37 #[.string ⟨L.toArray⟩, .string ⟨#[48, 49, 50, 51, 52, 53, 54, 55, 56, 57]⟩] W fun e w' => e = .returned (.int .i64 ((lead L).length : Int)) ∧ Kp [] W w' := fun W => span_dig W L hL
  have hlr := lead_rest L
  have hd0 : L.drop (lead L).length = rest L := by
    conv => lhs; arg 2; rw [← hlr]
    exact List.drop_left' rfl
  have hnum : (numT L).length = (lead L).length + ((fracL (rest L)).1.length + (expL (fracL (rest L)).2).1.length) := by unfold numT; rw [List.length_append, List.length_append]
  have hle := num_le L
  obtain ⟨n0, hn0⟩ : ∃ n, n = (lead L).length := ⟨_, rfl⟩
  obtain ⟨R, hR⟩ : ∃ R, R = rest L := ⟨_, rfl⟩
  rw [← hR] at hd0 hnum
  rw [← hn0] at hd0 hnum
  simp only [← hn0] at q0
  have hs0 := slice_to L n0
  rw [hd0] at hs0
  have hfc := frac_cut R
  have hn0L : n0 ≤ L.length := by rw [hn0]; have := lead_le L; omega
  have hRl : n0 + R.length = L.length := by rw [← hd0, List.length_drop]; omega
  obtain ⟨n1, hn1⟩ : ∃ n, n = n0 + (fracL R).1.length := ⟨_, rfl⟩
  have hd1 : L.drop n1 = (fracL R).2 := by rw [hn1]; exact drop_app (by rw [hd0, hfc])
  have hn1L : n1 ≤ L.length := by rw [hn1]; have := frac_le R; omega
  have hres : (numT L).length = n1 + (expL (fracL R).2).1.length := by rw [hnum, hn1]; omega
  obtain ⟨N, hN⟩ : ∃ n, n = (numT L).length := ⟨_, rfl⟩
  rw [← hN] at hres hle ⊢
  have hn0i : (n0 : Int) ≤ (L.length : Int) := by omega
  have HF := hid (And.intro hn1 (And.intro hd1 hres))
  have HRl := hid hRl
  clear hlr hnum hn0 hR hfc hn1 hd1 hres hN hd0
  -- what CutPrefix gives, and what stands behind the point
  obtain ⟨T, hT⟩ : ∃ T, T = Lib.trimPrefix R [46] := ⟨_, rfl⟩
  obtain ⟨ok, hok⟩ : ∃ b, b = Lib.hasPrefix R [46] := ⟨_, rfl⟩
  have qc := fun W => cutp_any W R
  simp only [← hT, ← hok] at qc
  have hfacts : n1 = n0 + (if (ok && decide (0 < (lead T).length)) = true then 1 + (lead T).length else 0) ∧ T.length ≤ R.length ∧ (lead T).length ≤ T.length := by
    refine ⟨?_, ?_, by have := lead_le T; omega⟩
    · rw [HF.out.1]
      congr 1
      by_cases hdot : ∃ t, R = 46 :: t
      · obtain ⟨t, ht⟩ := hdot
        have hcy := cutp_yes t
        rw [← ht] at hcy
        rw [hT, hok, hcy.1, hcy.2, ht, frac_dot]
        by_cases h : lead t = []
        · rw [if_pos h, h]; rfl
        · have : 0 < (lead t).length := List.length_pos_iff.2 h
          rw [if_neg h, decide_eq_true this]; simp; omega
      · have hn : ∀ t, R ≠ 46 :: t := fun t e => hdot ⟨t, e⟩
        have hcn := cutp_no R hn
        rw [hok, hcn.2, frac_not R hn]; rfl
    · by_cases hdot : ∃ t, R = 46 :: t
      · obtain ⟨t, ht⟩ := hdot
        have hcy := cutp_yes t
        rw [← ht] at hcy
        rw [hT, hcy.1, ht]; simp
      · have hcn := cutp_no R (fun t e => hdot ⟨t, e⟩)
        rw [hT, hcn.1]; exact Nat.le_refl _
  obtain ⟨hf1, hf2, hf3⟩ := hfacts
  have htl : T.length ≤ 1000000 := by have := HRl.out; omega
  have qs : ∀ W, Calls Tryd.prog 37 #[.string ⟨T.toArray⟩, .string ⟨#[48, 49, 50, 51, 52, 53, 54, 55, 56, 57]⟩] W fun e w' => e = .returned (.int .i64 ((lead T).length : Int)) ∧ Kp [] W w' := fun W => span_dig W T htl
  obtain ⟨k0, hk0⟩ : ∃ k, k = (lead T).length := ⟨_, rfl⟩
  simp only [← hk0] at qs
  rw [← hk0] at hf1 hf3
  obtain ⟨fr, hfr⟩ : ∃ b, b = (ok && decide (0 < k0)) := ⟨_, rfl⟩
  rw [← hfr] at hf1
  have HFr := hid (And.intro hfr (And.intro hf1 (And.intro hn1L hRl)))
  have hk0l : k0 ≤ 1000000 := by omega
  have HF1 := hid hf1
  clear hT hok hk0 hfr hf1 hf2 hf3
  go_enter Tryd.func56, Tryd.ntmps56
  go_wp2_with fail
  (with_reducible refine (q0 _).mono ?_)
  rintro e w1 ⟨rfl, k1⟩
  have Hk1 := hid k1
  clear k1 q0
  go_wp2_with fail
  (with_reducible refine (qc _).mono ?_)
  rintro e w2 ⟨rfl, rfl⟩
  clear qc
  go_upto_region 3 with fail
  go_cut [22] (fun v wx => v = .bool fr ∧ Kp [] w wx)
  case first => as_aux_lemma =>
    cases ok
    · have Hr := hid (show fr = false by rw [HFr.out.1]; rfl)
      go_wp2_with fail
      go_meet
      exact ⟨by rw [Hr.out], Hk1.out⟩
    · by_cases h0 : 0 < k0
      · have Hr := hid (show fr = true by rw [HFr.out.1]; simp [h0])
        have b0 : decide ((0 : Int) < (k0 : Int)) = true := decide_eq_true (by omega)
        have b1 : decide (0 < k0) = true := decide_eq_true h0
        go_wp2_with fail
        (with_reducible refine (qs _).mono ?_)
        rintro e w3 ⟨rfl, k3⟩
        have Hk3 := hid (Hk1.out.nil k3)
        clear k3
        go_wp2_with fail
        go_meet
        exact ⟨by rw [Hr.out], Hk3.out⟩
      · have Hr := hid (show fr = false by rw [HFr.out.1]; simp [h0])
        have b0 : decide ((0 : Int) < (k0 : Int)) = false := decide_eq_false (by omega)
        have b1 : decide (0 < k0) = false := decide_eq_false h0
        go_wp2_with fail
        (with_reducible refine (qs _).mono ?_)
        rintro e w3 ⟨rfl, k3⟩
        have Hk3 := hid (Hk1.out.nil k3)
        clear k3
        go_wp2_with fail
        go_meet
        exact ⟨by rw [Hr.out], Hk3.out⟩
  case rest =>
  obtain ⟨rfl, hk9⟩ := hcut
  have Hk9 := hid hk9
  clear hk9
  go_upto_if 22 with fail
  go_cut [3, 22] (fun v3 _ wx => v3 = .int .i64 (n1 : Int) ∧ Kp [] w wx)
  case first => as_aux_lemma =>
    cases fr
    · have He := hid (show n1 = n0 by rw [HF1.out]; rfl)
      go_wp2_with fail
      go_meet
      exact ⟨by rw [He.out], Hk9.out⟩
    · have He := hid (show n1 = n0 + (1 + k0) by rw [HF1.out]; rfl)
      go_wp2_with fail
      (with_reducible refine (qs _).mono ?_)
      rintro e w4 ⟨rfl, k4⟩
      have Hk4 := hid (Hk9.out.nil k4)
      clear k4
      go_wp2_with fail
      go_meet
      exact ⟨by rw [He.out]; first | rfl | (congr 1; omega), Hk4.out⟩
  case rest =>
    obtain ⟨rfl, hk2⟩ := hcut
    have Hk2 := hid hk2
    clear hk2 hs0 hn0i qs
    obtain ⟨R2, hR2⟩ : ∃ x, x = (fracL R).2 := ⟨_, rfl⟩
    have hd1 := HF.out.2.1
    have hres := HF.out.2.2
    rw [← hR2] at hd1 hres
    have hlen := congrArg List.length hd1
    rw [List.length_drop] at hlen
    clear HF hR2 HRl HFr HF1
    rcases nil_or R2 with hR2 | ⟨c, t, hR2⟩
    · have he : N = n1 := by rw [hres, hR2]; rfl
      have hend : n1 = L.length := by rw [hR2] at hlen; simp at hlen; omega
      have b0 : ((n1 : Int) == (L.length : Int)) = true := by rw [hend]; simp
      have b1 : (n1 == L.length) = true := by rw [hend]; simp
      have He := hid he
      clear hd1 hres hlen hR2 he hend
      go_wp2_with fail
      go_ret
      exact ⟨by rw [He.out]; rfl, Hk2.out⟩
    · rw [hR2] at hd1 hres
      obtain ⟨hp, hc, hdt⟩ := drop_at hd1
      obtain ⟨m, hm⟩ : ∃ m, m = c.toNat := ⟨_, rfl⟩
      have i0 := cbyte_in L n1 m hp (by rw [hc]; exact hm)
      have hm9 : m < 256 := by rw [hm]; exact UInt8.toNat_lt _
      have hpi : (n1 : Int) < (L.length : Int) := by omega
      have b0 : ((n1 : Int) == (L.length : Int)) = false := by rw [beq_eq_false_iff_ne]; omega
      have b1 : (n1 == L.length) = false := by rw [beq_eq_false_iff_ne]; omega
      by_cases hE : c = 101 ∨ c = 69
      · have hmE : m = 101 ∨ m = 69 := by rcases hE with h | h <;> rw [hm, h] <;> simp
        have hex : expL (c :: t) = if lead (sgnL t).2 = [] then ([], c :: t) else (c :: ((sgnL t).1 ++ lead (sgnL t).2), rest (sgnL t).2) := by
          unfold expL
          dsimp only
          rw [if_pos hE]
        rw [hex] at hres
        have hsc := sgn_cut t
        obtain ⟨u, hu⟩ : ∃ u, u = (sgnL t).2 := ⟨_, rfl⟩
        obtain ⟨g, hg⟩ : ∃ g, g = (sgnL t).1.length := ⟨_, rfl⟩
        have hdu : L.drop (n1 + 1 + g) = u := by rw [hg, hu]; exact drop_app (by rw [hdt, hsc])
        have hsl := sgn_le t
        rw [← hu] at hres hsl
        rw [← hg] at hsl
        have htl : n1 + 1 + t.length = L.length := by have := congrArg List.length hdt; rw [List.length_drop] at this; omega
        have hgl : ∀ x, (c :: ((sgnL t).1 ++ x)).length = 1 + g + x.length := by intro x; rw [hg]; simp; omega
        have hres2 : N = n1 + if lead u = [] then 0 else 1 + g + (lead u).length := by
          rw [hres]
          split
          · rfl
          · rw [hgl]
        have hsg : (∃ d v, t = d :: v ∧ (d = 43 ∨ d = 45) ∧ g = 1) ∨ (g = 0 ∧ ∀ d v, t = d :: v → ¬ (d = 43 ∨ d = 45)) := by
          cases ht : t with
          | nil => right; exact ⟨by rw [hg, ht]; rfl, by simp⟩
          | cons d v =>
            by_cases hd : d = 43 ∨ d = 45
            · left; exact ⟨d, v, rfl, hd, by rw [hg, ht]; unfold sgnL; dsimp only; rw [if_pos hd]; rfl⟩
            · right
              refine ⟨by rw [hg, ht]; unfold sgnL; dsimp only; rw [if_neg hd]; rfl, ?_⟩
              intro d2 v2 e
              injection e with e1 e2
              rw [← e1]; exact hd
        obtain ⟨m2, hm2⟩ : ∃ x, x = n1 + 1 + g := ⟨_, rfl⟩
        rw [← hm2] at hdu
        have hm2L : m2 ≤ L.length := by omega
        have hul : u.length ≤ 1000000 := by omega
        have qs : ∀ W, Calls Tryd.prog 37 #[.string ⟨u.toArray⟩, .string ⟨#[48, 49, 50, 51, 52, 53, 54, 55, 56, 57]⟩] W fun e w' => e = .returned (.int .i64 ((lead u).length : Int)) ∧ Kp [] W w' := fun W => span_dig W u hul
        have hs2 := slice_to L m2
        rw [hdu] at hs2
        obtain ⟨k, hk⟩ : ∃ k, k = (lead u).length := ⟨_, rfl⟩
        simp only [← hk] at qs
        have hku : k ≤ u.length := by rw [hk]; have := lead_le u; omega
        have hres3 : N = if k = 0 then n1 else m2 + k := by
          rw [hres2, hm2]
          by_cases h0 : lead u = []
          · rw [if_pos h0, if_pos (by rw [hk, h0]; rfl)]; rfl
          · rw [if_neg h0, if_neg (fun e => h0 (List.length_eq_zero_iff.1 (hk.symm.trans e))), hk]; omega
        have hm2k : m2 + k ≤ 1000000 := by have := congrArg List.length hdu; rw [List.length_drop] at this; omega
        have HS := hid (And.intro hsg (And.intro hm2 (And.intro hdt htl)))
        have HN := hid hres3
        have hm2i : (m2 : Int) ≤ (L.length : Int) := by omega
        have hone : (n1 : Int) + 1 ≤ (L.length : Int) := by omega
        clear hd1 hres hlen hR2 hc hm hex hsc hu hg hdu hsl htl hgl hres2 hsg hm2 hk hres3 hdt hE
        go_upto_region 5 with fail
        go_cut [43] (fun v wx => v = .bool false ∧ Kp [] w wx)
        case first => as_aux_lemma =>
          rcases hmE with h | h
          · have t1 : ((m : Int) != 101) = false := by rw [h]; rfl
            clear h
            go_wp2_with fail
            go_meet
            exact ⟨rfl, Hk2.out⟩
          · have t1 : ((m : Int) != 101) = true := by rw [h]; rfl
            have t2 : ((m : Int) != 69) = false := by rw [h]; rfl
            clear h
            go_wp2_with fail
            go_meet
            exact ⟨rfl, Hk2.out⟩
        case rest =>
          obtain ⟨rfl, hk5⟩ := hcut
          have Hk5 := hid hk5
          clear hk5 hmE i0 b0 b1
          obtain ⟨sb, hsb⟩ : ∃ b, b = decide (g = 1) := ⟨_, rfl⟩
          have HSb := hid hsb
          clear hsb
          go_upto_region 8 with fail
          go_cut [62] (fun v wx => v = .bool sb ∧ Kp [] w wx)
          case first => as_aux_lemma =>
            obtain ⟨hsg, hm2, hdt, htl⟩ := HS.out
            rcases nil_or t with ht | ⟨d, v, ht⟩
            · have hg0 : g = 0 := by
                rcases hsg with ⟨d, v, h1, _, _⟩ | ⟨h, _⟩
                · rw [ht] at h1; cases h1
                · exact h
              have He := hid (show sb = false by rw [HSb.out, hg0]; rfl)
              have hend : n1 + 1 = L.length := by rw [ht] at htl; simpa using htl
              have b2 : decide ((n1 : Int) + 1 < (L.length : Int)) = false := decide_eq_false (by omega)
              clear hsg hm2 hdt htl hg0 ht hend
              go_wp2_with fail
              go_meet
              exact ⟨by rw [He.out], Hk5.out⟩
            · rw [ht] at hdt
              obtain ⟨hp2, hc2, -⟩ := drop_at hdt
              obtain ⟨md, hmd⟩ : ∃ m, m = d.toNat := ⟨_, rfl⟩
              obtain ⟨n2, hn2⟩ : ∃ x, x = n1 + 1 := ⟨_, rfl⟩
              have hp22 : n2 < L.length := by omega
              have i2 := cbyte_in L n2 md hp22 (by rw [hmd, ← hc2]; simp only [hn2])
              have e2 : (n1 : Int) + 1 = (n2 : Int) := by omega
              have b2 : decide ((n2 : Int) < (L.length : Int)) = true := decide_eq_true (by omega)
              have b2n : decide (n2 < L.length) = true := decide_eq_true (by omega)
              have hp3 : (n2 : Int) < (L.length : Int) := by omega
              rcases hsg with ⟨d2, v2, h1, h2, h3⟩ | ⟨h3, h2⟩
              · rw [ht] at h1
                injection h1 with h1 _
                have He := hid (show sb = true by rw [HSb.out, h3]; rfl)
                rcases h2 with h2 | h2
                · have t1 : ((md : Int) == 43) = true := by rw [hmd, h1, h2]; rfl
                  clear hm2 hdt htl ht hmd hc2 h1 h2 h3 hn2 hp2
                  go_wp2_with fail
                  go_meet
                  exact ⟨by rw [He.out], Hk5.out⟩
                · have t1 : ((md : Int) == 43) = false := by rw [hmd, h1, h2]; rfl
                  have t2 : ((md : Int) == 45) = true := by rw [hmd, h1, h2]; rfl
                  clear hm2 hdt htl ht hmd hc2 h1 h2 h3 hn2 hp2
                  go_wp2_with fail
                  go_meet
                  exact ⟨by rw [He.out], Hk5.out⟩
              · have hnd := h2 d v ht
                have He := hid (show sb = false by rw [HSb.out, h3]; rfl)
                have t1 : ((md : Int) == 43) = false := by
                  rw [beq_eq_false_iff_ne]
                  exact fun e => hnd (.inl (UInt8.toNat_inj.1 (by rw [← hmd]; exact Int.ofNat.inj e)))
                have t2 : ((md : Int) == 45) = false := by
                  rw [beq_eq_false_iff_ne]
                  exact fun e => hnd (.inr (UInt8.toNat_inj.1 (by rw [← hmd]; exact Int.ofNat.inj e)))
                clear hm2 hdt htl ht hmd hc2 h2 h3 hn2 hp2 hnd
                go_wp2_with fail
                go_meet
                exact ⟨by rw [He.out], Hk5.out⟩
          case rest =>
          obtain ⟨rfl, hk55⟩ := hcut
          have Hk55 := hid hk55
          clear hk55
          go_upto_if 62 with fail
          go_cut [6, 62] (fun v6 _ wx => v6 = .int .i64 (m2 : Int) ∧ Kp [] w wx)
          case first => as_aux_lemma =>
            have hg1 : g = 0 ∨ g = 1 := by
              rcases HS.out.1 with ⟨_, _, _, _, h⟩ | ⟨h, _⟩
              · exact .inr h
              · exact .inl h
            cases sb
            · have hg : g = 0 := by
                rcases hg1 with h | h
                · exact h
                · have := HSb.out; rw [h] at this; cases this
              have He := hid (show m2 = n1 + 1 by rw [HS.out.2.1, hg])
              clear hg1 hg
              go_wp2_with fail
              go_meet
              exact ⟨by rw [He.out]; first | rfl | (congr 1), Hk55.out⟩
            · have hg : g = 1 := of_decide_eq_true HSb.out.symm
              have He := hid (show m2 = n1 + 1 + 1 by rw [HS.out.2.1, hg])
              clear hg1 hg
              go_wp2_with fail
              go_meet
              exact ⟨by rw [He.out]; first | rfl | (congr 1), Hk55.out⟩
          case rest =>
            obtain ⟨rfl, hk6⟩ := hcut
            have Hk6 := hid hk6
            clear hk6 HS hone hp hpi HSb
            go_wp2_with fail
            (with_reducible refine (qs _).mono ?_)
            rintro e w7 ⟨rfl, k7⟩
            have Hk7 := hid (Hk6.out.nil k7)
            clear k7 qs
            by_cases hk0 : k = 0
            · have b3 : decide ((0 : Int) < (k : Int)) = false := decide_eq_false (by omega)
              have b3n : decide (0 < k) = false := decide_eq_false (by omega)
              have He := hid (show N = n1 by rw [HN.out, if_pos hk0])
              clear hk0
              go_wp2_with fail
              go_ret
              exact ⟨by rw [He.out]; rfl, Hk7.out⟩
            · have b3 : decide ((0 : Int) < (k : Int)) = true := decide_eq_true (by omega)
              have b3n : decide (0 < k) = true := decide_eq_true (by omega)
              have He := hid (show N = m2 + k by rw [HN.out, if_neg hk0])
              clear hk0
              go_wp2_with fail
              go_ret
              exact ⟨by rw [He.out]; rfl, Hk7.out⟩
      · have he : N = n1 := by
          rw [hres]
          unfold expL
          dsimp only
          rw [if_neg hE]
          rfl
        have t1 : ((m : Int) != 101) = true := by
          rw [bne_iff_ne]
          exact fun e => hE (.inl (UInt8.toNat_inj.1 (by rw [← hm]; exact Int.ofNat.inj e)))
        have t2 : ((m : Int) != 69) = true := by
          rw [bne_iff_ne]
          exact fun e => hE (.inr (UInt8.toNat_inj.1 (by rw [← hm]; exact Int.ofNat.inj e)))
        have He := hid he
        clear hd1 hres hlen hR2 hc hm hE he hdt
        go_wp2_with fail
        go_ret
        exact ⟨by rw [He.out]; rfl, Hk2.out⟩
end Go.Proofs.YtgjffkblhhkjmaaDoor
