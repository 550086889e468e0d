/- Parse of layer 1. -/
import Derived.Test.YtgjffkblhhkjmaaDoorDExpo
import Derived.Test.YtgjffkblhhkjmaaDoorDRoom
namespace Go.Proofs.YtgjffkblhhkjmaaDoor
open Go Go.RowKit Go.Lib

def parV (o : Option (Option Dc)) : Value := match o with | none => .tuple #[noneV, .int .i64 4] | some r => resV r 3
def ParsePost (w : World) (o : Option (Option Dc)) (e : Ending) (w' : World) : Prop := e = .returned (parV o) ∧ Kp [] w w'
theorem sign_cut (l : List UInt8) : signL l = (Lib.hasPrefix l [45], Lib.trimPrefix l [45]) := by
  unfold Lib.trimPrefix
  rw [pre_one]
  rcases l with _ | ⟨c, t⟩
  · rfl
  · by_cases h : c = 45
    · subst h; rfl
    · have hb : (45 == c) = false := by rw [beq_eq_false_iff_ne]; exact fun e => h e.symm
      simp only [hb]
      unfold signL
      split
      · rename_i h2; injection h2 with h2; exact absurd h2 h
      · rfl
theorem cut_any (w : World) (l : List UInt8) (c : UInt8) : Calls Tryd.prog 75 #[.string ⟨l.toArray⟩, .string ⟨#[c]⟩] w fun e w' => e = .returned (.tuple #[.string ⟨(Lib.trimPrefix l [c]).toArray⟩, .bool (Lib.hasPrefix l [c])]) ∧ w' = w :=
  Tryd.strings_CutPrefix ⟨l.toArray⟩ ⟨#[c]⟩ w
theorem cut_len (l : List UInt8) (c : UInt8) : (Lib.trimPrefix l [c]).length ≤ l.length := by
  unfold Lib.trimPrefix
  split
  · rw [List.length_drop]; omega
  · exact Nat.le_refl _
theorem rest_len (l : List UInt8) : (lead l).length + (rest l).length = l.length := by
  have := congrArg List.length (lead_rest l)
  rwa [List.length_append] at this
theorem part_dot (r : List UInt8) (h : Lib.hasPrefix r [46] = true) : partL r = if lead (Lib.trimPrefix r [46]) = [] then none else some (lead (Lib.trimPrefix r [46]), rest (Lib.trimPrefix r [46])) := by
  rw [pre_one] at h
  rcases r with _ | ⟨c, t⟩
  · cases h
  · have hc : 46 = c := by simpa using h
    subst hc
    rfl
theorem part_none (r : List UInt8) (h : Lib.hasPrefix r [46] = false) : partL r = some ([], r) := by
  rw [pre_one] at h
  rcases r with _ | ⟨c, t⟩
  · rfl
  · have hc : ¬ c = 46 := by intro e; subst e; simp at h
    unfold partL
    split
    · rename_i h2; injection h2 with h2; exact absurd h2 hc
    · rfl
theorem plain_parts {l P R : List UInt8} (h : partL (rest l) = some (P, R)) : plainN l = match expoL R with
    | none => none
    | some up => if lead l = [] ∨ (1 < (lead l).length ∧ (lead l).head? = some 48) then none else
      if (P.length : Int) - up < 0 then some (val (lead l ++ P) * 10 ^ (up - P.length).toNat, 0) else some (val (lead l ++ P), ((P.length : Int) - up).toNat) := by
  unfold plainN
  rw [h]
  rfl
theorem plain_no {l : List UInt8} (h : partL (rest l) = none) : plainN l = none := by
  unfold plainN
  rw [h]
theorem digs_part {r P R : List UInt8} (h : partL r = some (P, R)) : Digs P := by
  by_cases hp : Lib.hasPrefix r [46] = true
  · rw [part_dot r hp] at h
    split at h
    · cases h
    · injection h with h
      injection h with h _
      rw [← h]
      exact digs_lead _
  · rw [part_none r (by simpa using hp)] at h
    injection h with h
    injection h with h _
    rw [← h]
    exact Digs.nil
theorem expo_range {l : List UInt8} {x : Int} (h : expoL l = some x) : -99 ≤ x ∧ x ≤ 99 := by
  have hS : ∀ u y, expoS u = some y → 0 ≤ y ∧ y ≤ 99 := by
    intro u y h
    by_cases hb : rest u ≠ [] ∨ (lead u).length < 1 ∨ 2 < (lead u).length
    · rw [expoS_bad hb] at h; cases h
    · rw [expoS_ok hb] at h
      injection h with h
      have hv := val_lt _ (digs_lead u)
      have : 10 ^ (lead u).length ≤ 10 ^ 2 := Nat.pow_le_pow_right (by decide) (by omega)
      omega
  rcases l with _ | ⟨c, t⟩
  · injection h with h; omega
  · by_cases hc : c.toNat = 101 ∨ c.toNat = 69
    · rcases (show (∃ U, t = 45 :: U) ∨ (∃ U, t = 43 :: U) ∨ ((∀ U, t ≠ 45 :: U) ∧ ∀ U, t ≠ 43 :: U) from by
        by_cases h1 : ∃ U, t = 45 :: U
        · exact .inl h1
        · by_cases h2 : ∃ U, t = 43 :: U
          · exact .inr (.inl h2)
          · exact .inr (.inr ⟨fun U h => h1 ⟨U, h⟩, fun U h => h2 ⟨U, h⟩⟩)) with ⟨U, rfl⟩ | ⟨U, rfl⟩ | ⟨h1, h2⟩
      · rw [expo_minus hc] at h
        obtain ⟨y, hy, rfl⟩ := Option.map_eq_some_iff.1 h
        have := hS _ _ hy
        omega
      · rw [expo_plus hc] at h
        obtain ⟨y, hy, rfl⟩ := Option.map_eq_some_iff.1 h
        have := hS _ _ hy
        omega
      · rw [expo_else hc t h1 h2] at h
        obtain ⟨y, hy, rfl⟩ := Option.map_eq_some_iff.1 h
        have := hS _ _ hy
        omega
    · rw [head_none (by omega)] at h
      cases h
theorem par_no {w w' : World} (k : Kp [] w w') {o : Option (Option Dc)} (h : o = none) : ParsePost w o (.returned (.tuple #[.agg #[.bool false, .string ⟨#[]⟩, .int .i64 0], .int .i64 4])) w' := by subst h; exact ⟨rfl, k⟩
theorem par_big {w w' : World} (k : Kp [] w w') {o : Option (Option Dc)} (h : o = some none) : ParsePost w o (.returned (.tuple #[.agg #[.bool false, .string ⟨#[]⟩, .int .i64 0], .int .i64 3])) w' := by subst h; exact ⟨rfl, k⟩
theorem par_dec {w w' : World} (k : Kp [] w w') {o : Option (Option Dc)} {d : Dc} (h : o = some (some d)) : ParsePost w o (.returned (.tuple #[.agg #[.bool d.neg, .string ⟨(dtxt d.n).toArray⟩, .int .i64 (d.s : Int)], .int .i64 0])) w' := by subst h; exact ⟨rfl, k⟩
theorem head_get {D : List UInt8} (h : 0 < D.length) : ∀ g : 0 < (⟨D.toArray⟩ : ByteArray).size, (⟨D.toArray⟩ : ByteArray)[0]'g = D[0]'h := fun _ => rfl
set_option maxRecDepth 100000 in
set_option maxHeartbeats 12800000 in
theorem parse_any (w : World) (L : List UInt8) (hs : L.length ≤ 100000) : Calls Tryd.prog 57 #[.string ⟨L.toArray⟩] w (ParsePost w (parseL L)) := by
  have hO : parseL L = (plainN (signL L).2).map fun x => norm (signL L).1 x.1 x.2 := rfl
  rw [sign_cut] at hO
  have q1 := fun W => cut_any W L 45
  have l1 := cut_len L 45
  obtain ⟨neg, hneg⟩ : ∃ neg, neg = Lib.hasPrefix L [45] := ⟨_, rfl⟩
  obtain ⟨l, hl⟩ : ∃ l, l = Lib.trimPrefix L [45] := ⟨_, rfl⟩
  simp only [← hneg, ← hl] at q1 l1 hO
  obtain ⟨O, hOO⟩ : ∃ O, O = parseL L := ⟨_, rfl⟩
  rw [← hOO] at hO ⊢
  clear hneg hl hOO
  have q2 := fun W => leading_any W l (by omega)
  have rl := rest_len l
  have dW := digs_lead l
  have hpn := fun P R h => plain_parts (l := l) (P := P) (R := R) h
  have hno := fun h => plain_no (l := l) h
  obtain ⟨W, hW⟩ : ∃ W, W = lead l := ⟨_, rfl⟩
  obtain ⟨R0, hR0⟩ : ∃ R0, R0 = rest l := ⟨_, rfl⟩
  simp only [← hW, ← hR0] at q2 rl dW hpn hno
  clear hW hR0
  have q3 := fun W => cut_any W R0 46
  have l3 := cut_len R0 46
  have HO := hid hO
  have HdW := hid dW
  have Hpn := hid hpn
  have Hno := hid hno
  have hWs : (⟨W.toArray⟩ : ByteArray).size = W.length := size_mk _
  clear hO dW hpn hno
  have fin : ∀ (P R : List UInt8) (w9 : World), partL R0 = some (P, R) → P.length ≤ 100000 → R.length ≤ 100000 → True := fun _ _ _ _ _ _ => trivial
  clear fin
  have hroom := Room.fresh w (.bool false) (.string ⟨#[]⟩) (.int .i64 0)
  have Hroom := hid hroom
  clear hroom
  by_cases hdot : Lib.hasPrefix R0 [46] = true
  · have hp := part_dot R0 hdot
    rw [hdot] at q3
    have hts : (Lib.trimPrefix R0 [46]).length ≤ 100000 := by omega
    obtain ⟨t, ht⟩ : ∃ t, t = Lib.trimPrefix R0 [46] := ⟨_, rfl⟩
    simp only [← ht] at q3 hp hts
    have q4 := fun W => leading_any W t (by omega)
    have rl2 := rest_len t
    obtain ⟨P, hP⟩ : ∃ P, P = lead t := ⟨_, rfl⟩
    obtain ⟨R, hR⟩ : ∃ R, R = rest t := ⟨_, rfl⟩
    simp only [← hP, ← hR] at q4 hp rl2
    clear ht hP hR hdot l3
    by_cases hP0 : P = []
    · rw [if_pos hP0] at hp
      have HN : Hid (O = none) := by rw [HO.out, Hno.out hp]; exact hid rfl
      subst hP0
      clear hp
      go_enter Tryd.func57, Tryd.ntmps57
      go_wp2_with fail
      refine (q1 _).mono ?_
      rintro e w1 ⟨rfl, rfl⟩
      go_wp2_with fail
      refine (q2 _).mono ?_
      rintro e w2 ⟨rfl, k2⟩
      have R2 := Hroom.out.kept k2
      have K2 := ((Kp.refl [] w).alloc (.cells #[.bool false, .string ⟨#[]⟩, .int .i64 0] 47)).nil k2
      have HK2 := hid (And.intro R2 K2)
      clear R2 K2 k2
      go_wp2_with fail
      refine (q3 _).mono ?_
      rintro e w3 ⟨rfl, rfl⟩
      go_wp2_with fail
      refine (q4 _).mono ?_
      rintro e w4 ⟨rfl, k4⟩
      obtain ⟨x0, x1, x2, c0, c1, c2, f0, f1, f2⟩ := (HK2.out.1.kept k4).cells
      have HK4 := hid (HK2.out.2.nil k4)
      clear k4
      go_wp2_with fail
      exact bodyPost_ret (v := .tuple #[.agg #[.bool false, .string ⟨#[]⟩, .int .i64 0], .int .i64 4]) (by simp [results, Tryd.results57, go_sem, c0, c1, c2]) rfl (par_no (kp_room HK4.out _ _ _) HN.out)
    · rw [if_neg hP0] at hp
      have hPe : P.isEmpty = false := by cases P with | nil => exact absurd rfl hP0 | cons _ _ => rfl

      have dP := digs_part hp
      have qE := fun W => expo_any W R (by omega)
      unfold ExpoPost at qE
      have hps : (⟨P.toArray⟩ : ByteArray).size = P.length := size_mk _
      have HP := hid hp
      have HdP := hid dP
      clear hp dP
      go_enter Tryd.func57, Tryd.ntmps57
      go_wp2_with fail
      refine (q1 _).mono ?_
      rintro e w1 ⟨rfl, rfl⟩
      go_wp2_with fail
      refine (q2 _).mono ?_
      rintro e w2 ⟨rfl, k2⟩
      have R2 := Hroom.out.kept k2
      have K2 := ((Kp.refl [] w).alloc (.cells #[.bool false, .string ⟨#[]⟩, .int .i64 0] 47)).nil k2
      have HK2 := hid (And.intro R2 K2)
      clear R2 K2 k2
      go_wp2_with fail
      refine (q3 _).mono ?_
      rintro e w3 ⟨rfl, rfl⟩
      go_wp2_with fail
      refine (q4 _).mono ?_
      rintro e w4 ⟨rfl, k4⟩
      have HK4 := hid (And.intro (HK2.out.1.kept k4) (HK2.out.2.nil k4))
      clear k4 HK2
      go_wp2_with fail

      rcases hx : expoL R with _ | u
      · simp only [hx, Option.getD, Option.isSome] at qE
        have hX : plainN l = none := by rw [Hpn.out P R HP.out, hx]
        clear hx
        refine (qE _).mono ?_
        rintro e w5 ⟨rfl, k5⟩
        have HK6 := hid (And.intro (HK4.out.1.kept k5) (HK4.out.2.nil k5))
        clear k5
        have HN : Hid (O = none) := by rw [HO.out, hX]; exact hid rfl
        obtain ⟨x0, x1, x2, c0, c1, c2, f0, f1, f2⟩ := HK6.out.1.cells
        clear hX
        go_wp2_with fail
        exact bodyPost_ret (v := .tuple #[.agg #[.bool false, .string ⟨#[]⟩, .int .i64 0], .int .i64 4]) (by simp [results, Tryd.results57, go_sem, c0, c1, c2]) rfl (par_no (kp_room HK6.out.2 _ _ _) HN.out)
      · simp only [hx, Option.getD, Option.isSome] at qE
        have hur := expo_range hx
        have hX : plainN l = if W = [] ∨ (1 < W.length ∧ W.head? = some 48) then none else
            if (P.length : Int) - u < 0 then some (val (W ++ P) * 10 ^ (u - P.length).toNat, 0) else some (val (W ++ P), ((P.length : Int) - u).toNat) := by rw [Hpn.out P R HP.out, hx]
        clear hx
        refine (qE _).mono ?_
        rintro e w5 ⟨rfl, k5⟩
        have HK6 := hid (And.intro (HK4.out.1.kept k5) (HK4.out.2.nil k5))
        clear k5 HK4
        by_cases hW0 : W = []
        · rw [if_pos (.inl hW0)] at hX
          subst hW0
          have HN : Hid (O = none) := by rw [HO.out, hX]; exact hid rfl
          obtain ⟨x0, x1, x2, c0, c1, c2, f0, f1, f2⟩ := HK6.out.1.cells
          clear hX
          go_wp2_with fail
          exact bodyPost_ret (v := .tuple #[.agg #[.bool false, .string ⟨#[]⟩, .int .i64 0], .int .i64 4]) (by simp [results, Tryd.results57, go_sem, c0, c1, c2]) rfl (par_no (kp_room HK6.out.2 _ _ _) HN.out)
        · have hWe : W.isEmpty = false := by cases W with | nil => exact absurd rfl hW0 | cons _ _ => rfl
          have hWl : 0 < W.length := List.length_pos_iff.2 hW0
          obtain ⟨m, hm⟩ : ∃ m, m = (W[0]'hWl).toNat := ⟨_, rfl⟩
          have hgm : ∀ g : 0 < (⟨W.toArray⟩ : ByteArray).size, ((⟨W.toArray⟩ : ByteArray)[0]'g).toNat = m := fun g => by rw [hm]; rfl
          have hm2 : m < 256 := by rw [hm]; exact (W[0]'hWl).toNat_lt
          have hhd : W.head? = some (W[0]'hWl) := by cases W with | nil => exact absurd rfl hW0 | cons _ _ => rfl
          rcases (show W.length = 1 ∨ (1 < W.length ∧ m = 48) ∨ (1 < W.length ∧ m ≠ 48) from by omega) with h1 | ⟨h1, h2⟩ | ⟨h1, h2⟩
          · rw [if_neg (by rintro (h | ⟨h, _⟩); exact hW0 h; omega)] at hX
            have b1 : decide ((1 : Int) < (W.length : Int)) = false := decide_eq_false (by omega)
            clear hm hhd hgm hW0
            have hsc : (P.length : Int) - u < 0 ∨ 0 ≤ (P.length : Int) - u := by omega
            have hDD : Digs (W ++ P) := HdW.out.append HdP.out
            have hadd := fun X => run_add_text (P := Tryd.prog) W P (W ++ P) rfl (by omega) X
            rcases hsc with hsc | hsc
            · obtain ⟨n, hn⟩ : ∃ n, n = (u - (P.length : Int)).toNat := ⟨_, rfl⟩
              rw [if_pos hsc, ← hn] at hX
              have hz := val_append (W ++ P) (List.replicate n 48)
              rw [val_zeros, List.length_replicate, Nat.add_zero] at hz
              have hlz : (W ++ P ++ List.replicate n 48).length ≤ 1000000 := by rw [List.length_append, List.length_append, List.length_replicate]; omega
              have qM := fun X => made_form X neg (W ++ P ++ List.replicate n 48) (hDD.append (Digs.zeros n)) hlz 0 (by omega)
              rw [hz] at qM
              have HV : Hid (O = some (norm neg (val (W ++ P) * 10 ^ n) 0)) := by rw [HO.out, hX]; exact hid rfl
              obtain ⟨V, hV⟩ : ∃ V, V = norm neg (val (W ++ P) * 10 ^ n) 0 := ⟨_, rfl⟩
              simp only [← hV] at qM HV
              have qR := fun X => repeat_any X n (by omega)
              have hneg : -((P.length : Int) - u) = (n : Int) := by omega
              have hadd2 := fun X => run_add_text (P := Tryd.prog) (W ++ P) (List.replicate n 48) (W ++ P ++ List.replicate n 48) rfl (by rw [List.length_append] at hlz; omega) X
              obtain ⟨Z, hZ⟩ : ∃ Z : List UInt8, Z = List.replicate n 48 := ⟨_, rfl⟩
              simp only [← hZ] at qR hadd2 qM
              obtain ⟨J, hJ⟩ : ∃ J, J = W ++ P := ⟨_, rfl⟩
              simp only [← hJ] at hadd hadd2 qM
              obtain ⟨J2, hJ2⟩ : ∃ J2, J2 = J ++ Z := ⟨_, rfl⟩
              simp only [← hJ2] at hadd2 qM
              have bs : decide ((P.length : Int) - u < 0) = true := decide_eq_true hsc
              clear hn hz hlz hV hZ hJ hJ2 hX hDD
              go_wp2_with fail
              refine (qR _).mono ?_
              rintro e w6 ⟨rfl, k6⟩
              have HK6b := hid (And.intro (HK6.out.1.kept k6) (HK6.out.2.nil k6))
              clear k6 HK6
              have HK6 := HK6b
              go_wp2_with fail
              refine (qM _).mono ?_
              rintro e w7 ⟨k7, ⟨hn, rfl⟩ | ⟨d, hn, rfl⟩⟩
              · have HN : Hid (O = some none) := by rw [HV.out, hn]; exact hid rfl
                obtain ⟨x0, x1, x2, c0, c1, c2, f0, f1, f2⟩ := (HK6.out.1.kept k7).cells
                have HK7 := hid (HK6.out.2.nil k7)
                clear k7 hn
                go_wp2_with fail
                exact bodyPost_ret (v := .tuple #[.agg #[.bool false, .string ⟨#[]⟩, .int .i64 0], .int .i64 3]) (by simp [results, Tryd.results57, go_sem, c0, c1, c2]) rfl (par_big (kp_room HK7.out _ _ _) HN.out)
              · have HN : Hid (O = some (some d)) := by rw [HV.out, hn]; exact hid rfl
                obtain ⟨x0, x1, x2, c0, c1, c2, f0, f1, f2⟩ := (HK6.out.1.kept k7).cells
                have HK7 := hid (HK6.out.2.nil k7)
                clear k7 hn
                go_wp2_with fail
                exact bodyPost_ret (v := .tuple #[.agg #[.bool d.neg, .string ⟨(dtxt d.n).toArray⟩, .int .i64 (d.s : Int)], .int .i64 0]) (by simp [results, Tryd.results57, go_sem, c0, c1, c2]) rfl (par_dec (kp_room HK7.out _ _ _) HN.out)
            · obtain ⟨n, hn⟩ : ∃ n : Nat, (n : Int) = (P.length : Int) - u := ⟨((P.length : Int) - u).toNat, by omega⟩
              have hn2 : ((P.length : Int) - u).toNat = n := by omega
              rw [if_neg (by omega), hn2] at hX
              have qM := fun X => made_form X neg (W ++ P) hDD (by rw [List.length_append]; omega) n (by omega)
              have HV : Hid (O = some (norm neg (val (W ++ P)) n)) := by rw [HO.out, hX]; exact hid rfl
              obtain ⟨V, hV⟩ : ∃ V, V = norm neg (val (W ++ P)) n := ⟨_, rfl⟩
              simp only [← hV] at qM HV
              have hsub : (P.length : Int) - u = (n : Int) := hn.symm
              obtain ⟨J, hJ⟩ : ∃ J, J = W ++ P := ⟨_, rfl⟩
              simp only [← hJ] at hadd qM
              have bs : decide ((n : Int) < 0) = false := decide_eq_false (by omega)
              have hn9 : n ≤ 200000 := by omega
              clear hn hn2 hV hJ hX hDD hsc
              go_wp2_with fail
              refine (qM _).mono ?_
              rintro e w7 ⟨k7, ⟨hn, rfl⟩ | ⟨d, hn, rfl⟩⟩
              · have HN : Hid (O = some none) := by rw [HV.out, hn]; exact hid rfl
                obtain ⟨x0, x1, x2, c0, c1, c2, f0, f1, f2⟩ := (HK6.out.1.kept k7).cells
                have HK7 := hid (HK6.out.2.nil k7)
                clear k7 hn
                go_wp2_with fail
                exact bodyPost_ret (v := .tuple #[.agg #[.bool false, .string ⟨#[]⟩, .int .i64 0], .int .i64 3]) (by simp [results, Tryd.results57, go_sem, c0, c1, c2]) rfl (par_big (kp_room HK7.out _ _ _) HN.out)
              · have HN : Hid (O = some (some d)) := by rw [HV.out, hn]; exact hid rfl
                obtain ⟨x0, x1, x2, c0, c1, c2, f0, f1, f2⟩ := (HK6.out.1.kept k7).cells
                have HK7 := hid (HK6.out.2.nil k7)
                clear k7 hn
                go_wp2_with fail
                exact bodyPost_ret (v := .tuple #[.agg #[.bool d.neg, .string ⟨(dtxt d.n).toArray⟩, .int .i64 (d.s : Int)], .int .i64 0]) (by simp [results, Tryd.results57, go_sem, c0, c1, c2]) rfl (par_dec (kp_room HK7.out _ _ _) HN.out)
          · have h48 : W[0]'hWl = 48 := UInt8.toNat_inj.1 (by rw [← hm, h2]; rfl)
            rw [if_pos (.inr ⟨h1, by rw [hhd, h48]⟩)] at hX
            have b1 : decide ((1 : Int) < (W.length : Int)) = true := decide_eq_true (by omega)
            subst h2
            clear h48 hhd hm hW0
            have HN : Hid (O = none) := by rw [HO.out, hX]; exact hid rfl
            obtain ⟨x0, x1, x2, c0, c1, c2, f0, f1, f2⟩ := HK6.out.1.cells
            clear hX
            go_wp2_with fail
            exact bodyPost_ret (v := .tuple #[.agg #[.bool false, .string ⟨#[]⟩, .int .i64 0], .int .i64 4]) (by simp [results, Tryd.results57, go_sem, c0, c1, c2]) rfl (par_no (kp_room HK6.out.2 _ _ _) HN.out)
          · have h48 : ¬ (W[0]'hWl = 48) := fun e => h2 (by rw [hm, e]; rfl)
            rw [if_neg (by rintro (h | ⟨_, h⟩); exact hW0 h; exact h48 (by rw [hhd] at h; injection h))] at hX
            have b1 : decide ((1 : Int) < (W.length : Int)) = true := decide_eq_true (by omega)
            have b2 : ((m : Int) == 48) = false := by rw [beq_eq_false_iff_ne]; omega
            clear hm hhd h48 hW0
            have hsc : (P.length : Int) - u < 0 ∨ 0 ≤ (P.length : Int) - u := by omega
            have hDD : Digs (W ++ P) := HdW.out.append HdP.out
            have hadd := fun X => run_add_text (P := Tryd.prog) W P (W ++ P) rfl (by omega) X
            rcases hsc with hsc | hsc
            · obtain ⟨n, hn⟩ : ∃ n, n = (u - (P.length : Int)).toNat := ⟨_, rfl⟩
              rw [if_pos hsc, ← hn] at hX
              have hz := val_append (W ++ P) (List.replicate n 48)
              rw [val_zeros, List.length_replicate, Nat.add_zero] at hz
              have hlz : (W ++ P ++ List.replicate n 48).length ≤ 1000000 := by rw [List.length_append, List.length_append, List.length_replicate]; omega
              have qM := fun X => made_form X neg (W ++ P ++ List.replicate n 48) (hDD.append (Digs.zeros n)) hlz 0 (by omega)
              rw [hz] at qM
              have HV : Hid (O = some (norm neg (val (W ++ P) * 10 ^ n) 0)) := by rw [HO.out, hX]; exact hid rfl
              obtain ⟨V, hV⟩ : ∃ V, V = norm neg (val (W ++ P) * 10 ^ n) 0 := ⟨_, rfl⟩
              simp only [← hV] at qM HV
              have qR := fun X => repeat_any X n (by omega)
              have hneg : -((P.length : Int) - u) = (n : Int) := by omega
              have hadd2 := fun X => run_add_text (P := Tryd.prog) (W ++ P) (List.replicate n 48) (W ++ P ++ List.replicate n 48) rfl (by rw [List.length_append] at hlz; omega) X
              obtain ⟨Z, hZ⟩ : ∃ Z : List UInt8, Z = List.replicate n 48 := ⟨_, rfl⟩
              simp only [← hZ] at qR hadd2 qM
              obtain ⟨J, hJ⟩ : ∃ J, J = W ++ P := ⟨_, rfl⟩
              simp only [← hJ] at hadd hadd2 qM
              obtain ⟨J2, hJ2⟩ : ∃ J2, J2 = J ++ Z := ⟨_, rfl⟩
              simp only [← hJ2] at hadd2 qM
              have bs : decide ((P.length : Int) - u < 0) = true := decide_eq_true hsc
              clear hn hz hlz hV hZ hJ hJ2 hX hDD
              go_wp2_with fail
              refine (qR _).mono ?_
              rintro e w6 ⟨rfl, k6⟩
              have HK6b := hid (And.intro (HK6.out.1.kept k6) (HK6.out.2.nil k6))
              clear k6 HK6
              have HK6 := HK6b
              go_wp2_with fail
              refine (qM _).mono ?_
              rintro e w7 ⟨k7, ⟨hn, rfl⟩ | ⟨d, hn, rfl⟩⟩
              · have HN : Hid (O = some none) := by rw [HV.out, hn]; exact hid rfl
                obtain ⟨x0, x1, x2, c0, c1, c2, f0, f1, f2⟩ := (HK6.out.1.kept k7).cells
                have HK7 := hid (HK6.out.2.nil k7)
                clear k7 hn
                go_wp2_with fail
                exact bodyPost_ret (v := .tuple #[.agg #[.bool false, .string ⟨#[]⟩, .int .i64 0], .int .i64 3]) (by simp [results, Tryd.results57, go_sem, c0, c1, c2]) rfl (par_big (kp_room HK7.out _ _ _) HN.out)
              · have HN : Hid (O = some (some d)) := by rw [HV.out, hn]; exact hid rfl
                obtain ⟨x0, x1, x2, c0, c1, c2, f0, f1, f2⟩ := (HK6.out.1.kept k7).cells
                have HK7 := hid (HK6.out.2.nil k7)
                clear k7 hn
                go_wp2_with fail
                exact bodyPost_ret (v := .tuple #[.agg #[.bool d.neg, .string ⟨(dtxt d.n).toArray⟩, .int .i64 (d.s : Int)], .int .i64 0]) (by simp [results, Tryd.results57, go_sem, c0, c1, c2]) rfl (par_dec (kp_room HK7.out _ _ _) HN.out)
            · obtain ⟨n, hn⟩ : ∃ n : Nat, (n : Int) = (P.length : Int) - u := ⟨((P.length : Int) - u).toNat, by omega⟩
              have hn2 : ((P.length : Int) - u).toNat = n := by omega
              rw [if_neg (by omega), hn2] at hX
              have qM := fun X => made_form X neg (W ++ P) hDD (by rw [List.length_append]; omega) n (by omega)
              have HV : Hid (O = some (norm neg (val (W ++ P)) n)) := by rw [HO.out, hX]; exact hid rfl
              obtain ⟨V, hV⟩ : ∃ V, V = norm neg (val (W ++ P)) n := ⟨_, rfl⟩
              simp only [← hV] at qM HV
              have hsub : (P.length : Int) - u = (n : Int) := hn.symm
              obtain ⟨J, hJ⟩ : ∃ J, J = W ++ P := ⟨_, rfl⟩
              simp only [← hJ] at hadd qM
              have bs : decide ((n : Int) < 0) = false := decide_eq_false (by omega)
              have hn9 : n ≤ 200000 := by omega
              clear hn hn2 hV hJ hX hDD hsc
              go_wp2_with fail
              refine (qM _).mono ?_
              rintro e w7 ⟨k7, ⟨hn, rfl⟩ | ⟨d, hn, rfl⟩⟩
              · have HN : Hid (O = some none) := by rw [HV.out, hn]; exact hid rfl
                obtain ⟨x0, x1, x2, c0, c1, c2, f0, f1, f2⟩ := (HK6.out.1.kept k7).cells
                have HK7 := hid (HK6.out.2.nil k7)
                clear k7 hn
                go_wp2_with fail
                exact bodyPost_ret (v := .tuple #[.agg #[.bool false, .string ⟨#[]⟩, .int .i64 0], .int .i64 3]) (by simp [results, Tryd.results57, go_sem, c0, c1, c2]) rfl (par_big (kp_room HK7.out _ _ _) HN.out)
              · have HN : Hid (O = some (some d)) := by rw [HV.out, hn]; exact hid rfl
                obtain ⟨x0, x1, x2, c0, c1, c2, f0, f1, f2⟩ := (HK6.out.1.kept k7).cells
                have HK7 := hid (HK6.out.2.nil k7)
                clear k7 hn
                go_wp2_with fail
                exact bodyPost_ret (v := .tuple #[.agg #[.bool d.neg, .string ⟨(dtxt d.n).toArray⟩, .int .i64 (d.s : Int)], .int .i64 0]) (by simp [results, Tryd.results57, go_sem, c0, c1, c2]) rfl (par_dec (kp_room HK7.out _ _ _) HN.out)
  · rw [show Lib.hasPrefix R0 [46] = false by simpa using hdot] at q3
    have hp := part_none R0 (by simpa using hdot)
    have qE := fun W => expo_any W R0 (by omega)
    unfold ExpoPost at qE
    have HP := hid hp
    clear hp
    go_enter Tryd.func57, Tryd.ntmps57
    go_wp2_with fail
    refine (q1 _).mono ?_
    rintro e w1 ⟨rfl, rfl⟩
    go_wp2_with fail
    refine (q2 _).mono ?_
    rintro e w2 ⟨rfl, k2⟩
    have R2 := Hroom.out.kept k2
    have K2 := ((Kp.refl [] w).alloc (.cells #[.bool false, .string ⟨#[]⟩, .int .i64 0] 47)).nil k2
    have HK2 := hid (And.intro R2 K2)
    clear R2 K2 k2
    go_wp2_with fail
    refine (q3 _).mono ?_
    rintro e w3 ⟨rfl, rfl⟩
    go_wp2_with fail
    have HK4 := HK2

    rcases hx : expoL R0 with _ | u
    · simp only [hx, Option.getD, Option.isSome] at qE
      have hX : plainN l = none := by rw [Hpn.out [] R0 HP.out, hx]
      clear hx
      refine (qE _).mono ?_
      rintro e w5 ⟨rfl, k5⟩
      have HK6 := hid (And.intro (HK4.out.1.kept k5) (HK4.out.2.nil k5))
      clear k5
      have HN : Hid (O = none) := by rw [HO.out, hX]; exact hid rfl
      obtain ⟨x0, x1, x2, c0, c1, c2, f0, f1, f2⟩ := HK6.out.1.cells
      clear hX
      go_wp2_with fail
      exact bodyPost_ret (v := .tuple #[.agg #[.bool false, .string ⟨#[]⟩, .int .i64 0], .int .i64 4]) (by simp [results, Tryd.results57, go_sem, c0, c1, c2]) rfl (par_no (kp_room HK6.out.2 _ _ _) HN.out)
    · simp only [hx, Option.getD, Option.isSome] at qE
      have hur := expo_range hx
      have hX : plainN l = if W = [] ∨ (1 < W.length ∧ W.head? = some 48) then none else
          if ((0 : Nat) : Int) - u < 0 then some (val W * 10 ^ (u - ((0 : Nat) : Int)).toNat, 0) else some (val W, (((0 : Nat) : Int) - u).toNat) := by
        rw [Hpn.out [] R0 HP.out, hx]
        simp only [List.append_nil, List.length_nil]
      clear hx
      refine (qE _).mono ?_
      rintro e w5 ⟨rfl, k5⟩
      have HK6 := hid (And.intro (HK4.out.1.kept k5) (HK4.out.2.nil k5))
      clear k5 HK4
      by_cases hW0 : W = []
      · rw [if_pos (.inl hW0)] at hX
        subst hW0
        have HN : Hid (O = none) := by rw [HO.out, hX]; exact hid rfl
        obtain ⟨x0, x1, x2, c0, c1, c2, f0, f1, f2⟩ := HK6.out.1.cells
        clear hX
        go_wp2_with fail
        exact bodyPost_ret (v := .tuple #[.agg #[.bool false, .string ⟨#[]⟩, .int .i64 0], .int .i64 4]) (by simp [results, Tryd.results57, go_sem, c0, c1, c2]) rfl (par_no (kp_room HK6.out.2 _ _ _) HN.out)
      · have hWe : W.isEmpty = false := by cases W with | nil => exact absurd rfl hW0 | cons _ _ => rfl
        have hWl : 0 < W.length := List.length_pos_iff.2 hW0
        obtain ⟨m, hm⟩ : ∃ m, m = (W[0]'hWl).toNat := ⟨_, rfl⟩
        have hgm : ∀ g : 0 < (⟨W.toArray⟩ : ByteArray).size, ((⟨W.toArray⟩ : ByteArray)[0]'g).toNat = m := fun g => by rw [hm]; rfl
        have hm2 : m < 256 := by rw [hm]; exact (W[0]'hWl).toNat_lt
        have hhd : W.head? = some (W[0]'hWl) := by cases W with | nil => exact absurd rfl hW0 | cons _ _ => rfl
        rcases (show W.length = 1 ∨ (1 < W.length ∧ m = 48) ∨ (1 < W.length ∧ m ≠ 48) from by omega) with h1 | ⟨h1, h2⟩ | ⟨h1, h2⟩
        · rw [if_neg (by rintro (h | ⟨h, _⟩); exact hW0 h; omega)] at hX
          have b1 : decide ((1 : Int) < (W.length : Int)) = false := decide_eq_false (by omega)
          clear hm hhd hgm hW0
          have hadd : ∀ X, (Op.stringOp .add ⟨W.toArray⟩ ⟨#[]⟩).run Tryd.prog X = .ok (.string ⟨W.toArray⟩) X := fun X => run_add_text (P := Tryd.prog) W [] W (by simp) (by simp; omega) X
          rcases (show 0 < u ∨ u ≤ 0 from by omega) with hsc | hsc
          · obtain ⟨n, rfl⟩ : ∃ n : Nat, u = (n : Int) := ⟨u.toNat, by omega⟩
            have en : ((n : Int) - ((0 : Nat) : Int)).toNat = n := by omega
            rw [if_pos (by omega), en] at hX
            have hz := val_append W (List.replicate n 48)
            rw [val_zeros, List.length_replicate, Nat.add_zero] at hz
            have hlz : (W ++ List.replicate n 48).length ≤ 1000000 := by rw [List.length_append, List.length_replicate]; omega
            have qM := fun X => made_form X neg (W ++ List.replicate n 48) (HdW.out.append (Digs.zeros n)) hlz 0 (by omega)
            rw [hz] at qM
            have HV : Hid (O = some (norm neg (val W * 10 ^ n) 0)) := by rw [HO.out, hX]; exact hid rfl
            obtain ⟨V, hV⟩ : ∃ V, V = norm neg (val W * 10 ^ n) 0 := ⟨_, rfl⟩
            simp only [← hV] at qM HV
            have qR := fun X => repeat_any X n (by omega)
            have hneg : -(-(n : Int)) = (n : Int) := by omega
            have hneg2 : (0 : Int) - (n : Int) = -(n : Int) := by omega
            have hadd2 := fun X => run_add_text (P := Tryd.prog) W (List.replicate n 48) (W ++ List.replicate n 48) rfl (by rw [List.length_append] at hlz; omega) X
            obtain ⟨Z, hZ⟩ : ∃ Z : List UInt8, Z = List.replicate n 48 := ⟨_, rfl⟩
            simp only [← hZ] at qR hadd2 qM
            obtain ⟨J2, hJ2⟩ : ∃ J2, J2 = W ++ Z := ⟨_, rfl⟩
            simp only [← hJ2] at hadd2 qM
            have bs : decide (-(n : Int) < 0) = true := decide_eq_true (by omega)
            have bs2 : decide ((0 : Int) < (n : Int)) = true := decide_eq_true (by omega)
            have bs3 : decide (0 < n) = true := decide_eq_true (by omega)
            clear hz hlz hV hZ hJ2 hX en
            go_wp2_with fail
            refine (qR _).mono ?_
            rintro e w6 ⟨rfl, k6⟩
            have HK6b := hid (And.intro (HK6.out.1.kept k6) (HK6.out.2.nil k6))
            clear k6 HK6
            have HK6 := HK6b
            go_wp2_with fail
            refine (qM _).mono ?_
            rintro e w7 ⟨k7, ⟨hn, rfl⟩ | ⟨d, hn, rfl⟩⟩
            · have HN : Hid (O = some none) := by rw [HV.out, hn]; exact hid rfl
              obtain ⟨x0, x1, x2, c0, c1, c2, f0, f1, f2⟩ := (HK6.out.1.kept k7).cells
              have HK7 := hid (HK6.out.2.nil k7)
              clear k7 hn
              go_wp2_with fail
              exact bodyPost_ret (v := .tuple #[.agg #[.bool false, .string ⟨#[]⟩, .int .i64 0], .int .i64 3]) (by simp [results, Tryd.results57, go_sem, c0, c1, c2]) rfl (par_big (kp_room HK7.out _ _ _) HN.out)
            · have HN : Hid (O = some (some d)) := by rw [HV.out, hn]; exact hid rfl
              obtain ⟨x0, x1, x2, c0, c1, c2, f0, f1, f2⟩ := (HK6.out.1.kept k7).cells
              have HK7 := hid (HK6.out.2.nil k7)
              clear k7 hn
              go_wp2_with fail
              exact bodyPost_ret (v := .tuple #[.agg #[.bool d.neg, .string ⟨(dtxt d.n).toArray⟩, .int .i64 (d.s : Int)], .int .i64 0]) (by simp [results, Tryd.results57, go_sem, c0, c1, c2]) rfl (par_dec (kp_room HK7.out _ _ _) HN.out)
          · obtain ⟨n, rfl⟩ : ∃ n : Nat, u = -(n : Int) := ⟨(-u).toNat, by omega⟩
            have hn2 : (((0 : Nat) : Int) - -(n : Int)).toNat = n := by omega
            rw [if_neg (by omega), hn2] at hX
            have qM := fun X => made_form X neg W HdW.out (by omega) n (by omega)
            have HV : Hid (O = some (norm neg (val W) n)) := by rw [HO.out, hX]; exact hid rfl
            obtain ⟨V, hV⟩ : ∃ V, V = norm neg (val W) n := ⟨_, rfl⟩
            simp only [← hV] at qM HV
            have hneg : -(-(n : Int)) = (n : Int) := by omega
            have hneg2 : (0 : Int) - -(n : Int) = (n : Int) := by omega
            have bs : decide ((n : Int) < 0) = false := decide_eq_false (by omega)
            have hn9 : n ≤ 200000 := by omega
            clear hn2 hV hX hsc
            go_wp2_with fail
            refine (qM _).mono ?_
            rintro e w7 ⟨k7, ⟨hn, rfl⟩ | ⟨d, hn, rfl⟩⟩
            · have HN : Hid (O = some none) := by rw [HV.out, hn]; exact hid rfl
              obtain ⟨x0, x1, x2, c0, c1, c2, f0, f1, f2⟩ := (HK6.out.1.kept k7).cells
              have HK7 := hid (HK6.out.2.nil k7)
              clear k7 hn
              go_wp2_with fail
              exact bodyPost_ret (v := .tuple #[.agg #[.bool false, .string ⟨#[]⟩, .int .i64 0], .int .i64 3]) (by simp [results, Tryd.results57, go_sem, c0, c1, c2]) rfl (par_big (kp_room HK7.out _ _ _) HN.out)
            · have HN : Hid (O = some (some d)) := by rw [HV.out, hn]; exact hid rfl
              obtain ⟨x0, x1, x2, c0, c1, c2, f0, f1, f2⟩ := (HK6.out.1.kept k7).cells
              have HK7 := hid (HK6.out.2.nil k7)
              clear k7 hn
              go_wp2_with fail
              exact bodyPost_ret (v := .tuple #[.agg #[.bool d.neg, .string ⟨(dtxt d.n).toArray⟩, .int .i64 (d.s : Int)], .int .i64 0]) (by simp [results, Tryd.results57, go_sem, c0, c1, c2]) rfl (par_dec (kp_room HK7.out _ _ _) HN.out)
        · have h48 : W[0]'hWl = 48 := UInt8.toNat_inj.1 (by rw [← hm, h2]; rfl)
          rw [if_pos (.inr ⟨h1, by rw [hhd, h48]⟩)] at hX
          have b1 : decide ((1 : Int) < (W.length : Int)) = true := decide_eq_true (by omega)
          subst h2
          clear h48 hhd hm hW0
          have HN : Hid (O = none) := by rw [HO.out, hX]; exact hid rfl
          obtain ⟨x0, x1, x2, c0, c1, c2, f0, f1, f2⟩ := HK6.out.1.cells
          clear hX
          go_wp2_with fail
          exact bodyPost_ret (v := .tuple #[.agg #[.bool false, .string ⟨#[]⟩, .int .i64 0], .int .i64 4]) (by simp [results, Tryd.results57, go_sem, c0, c1, c2]) rfl (par_no (kp_room HK6.out.2 _ _ _) HN.out)
        · have h48 : ¬ (W[0]'hWl = 48) := fun e => h2 (by rw [hm, e]; rfl)
          rw [if_neg (by rintro (h | ⟨_, h⟩); exact hW0 h; exact h48 (by rw [hhd] at h; injection h))] at hX
          have b1 : decide ((1 : Int) < (W.length : Int)) = true := decide_eq_true (by omega)
          have b2 : ((m : Int) == 48) = false := by rw [beq_eq_false_iff_ne]; omega
          clear hm hhd h48 hW0
          have hadd : ∀ X, (Op.stringOp .add ⟨W.toArray⟩ ⟨#[]⟩).run Tryd.prog X = .ok (.string ⟨W.toArray⟩) X := fun X => run_add_text (P := Tryd.prog) W [] W (by simp) (by simp; omega) X
          rcases (show 0 < u ∨ u ≤ 0 from by omega) with hsc | hsc
          · obtain ⟨n, rfl⟩ : ∃ n : Nat, u = (n : Int) := ⟨u.toNat, by omega⟩
            have en : ((n : Int) - ((0 : Nat) : Int)).toNat = n := by omega
            rw [if_pos (by omega), en] at hX
            have hz := val_append W (List.replicate n 48)
            rw [val_zeros, List.length_replicate, Nat.add_zero] at hz
            have hlz : (W ++ List.replicate n 48).length ≤ 1000000 := by rw [List.length_append, List.length_replicate]; omega
            have qM := fun X => made_form X neg (W ++ List.replicate n 48) (HdW.out.append (Digs.zeros n)) hlz 0 (by omega)
            rw [hz] at qM
            have HV : Hid (O = some (norm neg (val W * 10 ^ n) 0)) := by rw [HO.out, hX]; exact hid rfl
            obtain ⟨V, hV⟩ : ∃ V, V = norm neg (val W * 10 ^ n) 0 := ⟨_, rfl⟩
            simp only [← hV] at qM HV
            have qR := fun X => repeat_any X n (by omega)
            have hneg : -(-(n : Int)) = (n : Int) := by omega
            have hneg2 : (0 : Int) - (n : Int) = -(n : Int) := by omega
            have hadd2 := fun X => run_add_text (P := Tryd.prog) W (List.replicate n 48) (W ++ List.replicate n 48) rfl (by rw [List.length_append] at hlz; omega) X
            obtain ⟨Z, hZ⟩ : ∃ Z : List UInt8, Z = List.replicate n 48 := ⟨_, rfl⟩
            simp only [← hZ] at qR hadd2 qM
            obtain ⟨J2, hJ2⟩ : ∃ J2, J2 = W ++ Z := ⟨_, rfl⟩
            simp only [← hJ2] at hadd2 qM
            have bs : decide (-(n : Int) < 0) = true := decide_eq_true (by omega)
            have bs2 : decide ((0 : Int) < (n : Int)) = true := decide_eq_true (by omega)
            have bs3 : decide (0 < n) = true := decide_eq_true (by omega)
            clear hz hlz hV hZ hJ2 hX en
            go_wp2_with fail
            refine (qR _).mono ?_
            rintro e w6 ⟨rfl, k6⟩
            have HK6b := hid (And.intro (HK6.out.1.kept k6) (HK6.out.2.nil k6))
            clear k6 HK6
            have HK6 := HK6b
            go_wp2_with fail
            refine (qM _).mono ?_
            rintro e w7 ⟨k7, ⟨hn, rfl⟩ | ⟨d, hn, rfl⟩⟩
            · have HN : Hid (O = some none) := by rw [HV.out, hn]; exact hid rfl
              obtain ⟨x0, x1, x2, c0, c1, c2, f0, f1, f2⟩ := (HK6.out.1.kept k7).cells
              have HK7 := hid (HK6.out.2.nil k7)
              clear k7 hn
              go_wp2_with fail
              exact bodyPost_ret (v := .tuple #[.agg #[.bool false, .string ⟨#[]⟩, .int .i64 0], .int .i64 3]) (by simp [results, Tryd.results57, go_sem, c0, c1, c2]) rfl (par_big (kp_room HK7.out _ _ _) HN.out)
            · have HN : Hid (O = some (some d)) := by rw [HV.out, hn]; exact hid rfl
              obtain ⟨x0, x1, x2, c0, c1, c2, f0, f1, f2⟩ := (HK6.out.1.kept k7).cells
              have HK7 := hid (HK6.out.2.nil k7)
              clear k7 hn
              go_wp2_with fail
              exact bodyPost_ret (v := .tuple #[.agg #[.bool d.neg, .string ⟨(dtxt d.n).toArray⟩, .int .i64 (d.s : Int)], .int .i64 0]) (by simp [results, Tryd.results57, go_sem, c0, c1, c2]) rfl (par_dec (kp_room HK7.out _ _ _) HN.out)
          · obtain ⟨n, rfl⟩ : ∃ n : Nat, u = -(n : Int) := ⟨(-u).toNat, by omega⟩
            have hn2 : (((0 : Nat) : Int) - -(n : Int)).toNat = n := by omega
            rw [if_neg (by omega), hn2] at hX
            have qM := fun X => made_form X neg W HdW.out (by omega) n (by omega)
            have HV : Hid (O = some (norm neg (val W) n)) := by rw [HO.out, hX]; exact hid rfl
            obtain ⟨V, hV⟩ : ∃ V, V = norm neg (val W) n := ⟨_, rfl⟩
            simp only [← hV] at qM HV
            have hneg : -(-(n : Int)) = (n : Int) := by omega
            have hneg2 : (0 : Int) - -(n : Int) = (n : Int) := by omega
            have bs : decide ((n : Int) < 0) = false := decide_eq_false (by omega)
            have hn9 : n ≤ 200000 := by omega
            clear hn2 hV hX hsc
            go_wp2_with fail
            refine (qM _).mono ?_
            rintro e w7 ⟨k7, ⟨hn, rfl⟩ | ⟨d, hn, rfl⟩⟩
            · have HN : Hid (O = some none) := by rw [HV.out, hn]; exact hid rfl
              obtain ⟨x0, x1, x2, c0, c1, c2, f0, f1, f2⟩ := (HK6.out.1.kept k7).cells
              have HK7 := hid (HK6.out.2.nil k7)
              clear k7 hn
              go_wp2_with fail
              exact bodyPost_ret (v := .tuple #[.agg #[.bool false, .string ⟨#[]⟩, .int .i64 0], .int .i64 3]) (by simp [results, Tryd.results57, go_sem, c0, c1, c2]) rfl (par_big (kp_room HK7.out _ _ _) HN.out)
            · have HN : Hid (O = some (some d)) := by rw [HV.out, hn]; exact hid rfl
              obtain ⟨x0, x1, x2, c0, c1, c2, f0, f1, f2⟩ := (HK6.out.1.kept k7).cells
              have HK7 := hid (HK6.out.2.nil k7)
              clear k7 hn
              go_wp2_with fail
              exact bodyPost_ret (v := .tuple #[.agg #[.bool d.neg, .string ⟨(dtxt d.n).toArray⟩, .int .i64 (d.s : Int)], .int .i64 0]) (by simp [results, Tryd.results57, go_sem, c0, c1, c2]) rfl (par_dec (kp_room HK7.out _ _ _) HN.out)
end Go.Proofs.YtgjffkblhhkjmaaDoor
