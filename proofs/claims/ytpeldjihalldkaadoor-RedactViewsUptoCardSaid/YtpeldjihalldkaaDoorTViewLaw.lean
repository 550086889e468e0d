/- Plain laws of views: a view tells what is seen; of documents whose masks are told by their places it tells whether they look the same. -/
import Derived.Test.YtpeldjihalldkaaDoorRF
namespace Go.Proofs.YtpeldjihalldkaaDoor
open Go Go.Lib

/-- Of two the same is seen: masks apart. -/
inductive Seen (cl : Nat) : Vl → Vl → Prop where
  | hid (k m : Nat) (num : Option Dc) (t : Txt) (keys : List Txt) (kids : List Vl) (code k' m' : Nat) (num' : Option Dc) (t' : Txt) (keys' : List Txt) (kids' : List Vl) (code' : Nat) (h : hidB m cl = true) (h' : hidB m' cl = true) :
      Seen cl (.mk k m num t keys kids code) (.mk k' m' num' t' keys' kids' code')
  | see (k m m' : Nat) (num : Option Dc) (t : Txt) (keys : List Txt) (kids kids' : List Vl) (code : Nat) (h : hidB m cl = false) (h' : hidB m' cl = false) (hl : kids.length = kids'.length)
      (hs : ∀ (i : Nat) v v', kids[i]? = some v → kids'[i]? = some v' → Seen cl v v') : Seen cl (.mk k m num t keys kids code) (.mk k m' num t keys kids' code)
/-- What may stand behind a view. -/
def Stop (r : Txt) : Prop := ∀ c s, r = c :: s → clsB c = 0
theorem cut_unique {P : UInt8 → Bool} : ∀ {x y r s : Txt}, (∀ c ∈ x, P c = true) → (∀ c ∈ y, P c = true) → (∀ c t, r = c :: t → P c = false) → (∀ c t, s = c :: t → P c = false) → x ++ r = y ++ s → x = y ∧ r = s
  | [], [], r, s, _, _, _, _, h => ⟨rfl, h⟩
  | [], c :: y, r, s, _, hy, hr, _, h => by
    have h1 := hr c (y ++ s) h
    rw [hy c (by simp)] at h1
    cases h1
  | c :: x, [], r, s, hx, _, _, hs, h => by
    have h1 := hs c (x ++ r) h.symm
    rw [hx c (by simp)] at h1
    cases h1
  | c :: x, d :: y, r, s, hx, hy, hr, hs, h => by
    injection h with h1 h2
    have := cut_unique (fun c hc => hx c (by simp [hc])) (fun c hc => hy c (by simp [hc])) hr hs h2
    exact ⟨by rw [h1, this.1], this.2⟩
/-- Bytes of numbers. -/
def numB (c : UInt8) : Bool := decide (clsB c = 4)
theorem num_dig {c : UInt8} (h : Dig c) : numB c = true := decide_eq_true (cls_dig h)
theorem num_stop {r : Txt} (h : Stop r) : ∀ c t, r = c :: t → numB c = false := fun c t e => decide_eq_false (by rw [h c t e]; decide)
theorem num_print (d : Dc) : ∀ c ∈ printL d, numB c = true := by
  obtain ⟨W, P, hW, hP, -, -, e⟩ := print_form d
  intro c hc
  rw [e] at hc
  rcases List.mem_append.1 hc with hc | hc
  · split at hc
    · rw [List.mem_singleton.1 hc]; decide
    · cases hc
  · rcases List.mem_append.1 hc with hc | hc
    · exact num_dig (hW c hc)
    · split at hc
      · cases hc
      · rcases List.mem_cons.1 hc with hc | hc
        · rw [hc]; decide
        · exact num_dig (hP c hc)
theorem code_digs {n : Nat} (h : n < 100) : ∀ c ∈ Go.Lib.decDigits n, numB c = true := by
  have key : ∀ m : Fin 100, ∀ c ∈ Go.Lib.decDigits m.val, numB c = true := by decide +kernel
  exact key ⟨n, h⟩
theorem code_back {n : Nat} (h : n < 100) : (Go.Lib.decDigits n).foldl (fun a c => a * 10 + (c.toNat - 48)) 0 = n := by
  have key : ∀ m : Fin 100, (Go.Lib.decDigits m.val).foldl (fun a c => a * 10 + (c.toNat - 48)) 0 = m.val := by decide +kernel
  exact key ⟨n, h⟩
theorem quote_unique {x y r s : Txt} (hx : x.length ≤ 100 ∧ validD x = true) (hy : y.length ≤ 100 ∧ validD y = true) (h : quoteL x ++ r = quoteL y ++ s) : x = y ∧ r = s := by
  have h1 := unq_back x r hx.2 (by omega)
  have h2 := unq_back y s hy.2 (by omega)
  rw [h, h2] at h1
  injection h1 with h1 _
  subst h1
  exact ⟨rfl, List.append_cancel_left h⟩
/-- Texts of which each has one end, with commas between, behind which stands a bracket. -/
theorem join_unique {z : UInt8} (hz : clsB z = 0) (hz2 : z ≠ 44) : ∀ (xs ys : List Txt) (r s : Txt), (∀ x ∈ xs, ∃ c t, x = c :: t ∧ clsB c ≠ 0) → (∀ x ∈ ys, ∃ c t, x = c :: t ∧ clsB c ≠ 0) →
    (∀ x ∈ xs, ∀ y ∈ ys, ∀ r s, Stop r → Stop s → x ++ r = y ++ s → x = y ∧ r = s) → joinC xs ++ z :: r = joinC ys ++ z :: s → xs = ys ∧ r = s
  | [], [], r, s, _, _, _, h => by
    injection h with _ h
    exact ⟨rfl, h⟩
  | [], y :: ys, r, s, _, hy, _, h => by
    obtain ⟨c, t, rfl, hc⟩ := hy y (by simp)
    cases ys with
    | nil =>
      injection h with h _
      exact absurd (h ▸ hz) hc
    | cons y2 ys =>
      injection h with h _
      exact absurd (h ▸ hz) hc
  | x :: xs, [], r, s, hx, _, _, h => by
    obtain ⟨c, t, rfl, hc⟩ := hx x (by simp)
    cases xs with
    | nil =>
      injection h with h _
      exact absurd (h ▸ hz) hc
    | cons y2 ys =>
      injection h with h _
      exact absurd (h ▸ hz) hc
  | [x], [y], r, s, _, _, hu, h => by
    have hs : ∀ r, Stop (z :: r) := fun r c t e => by injection e with e _; rw [← e]; exact hz
    have h1 := hu x (by simp) y (by simp) (z :: r) (z :: s) (hs r) (hs s) h
    injection h1.2 with _ h2
    exact ⟨by rw [h1.1], h2⟩
  | [x], y :: y2 :: ys, r, s, _, _, hu, h => by
    have hs : Stop (z :: r) := fun c t e => by injection e with e _; rw [← e]; exact hz
    have hc : ∀ r, Stop (44 :: r) := fun r c t e => by injection e with e _; rw [← e]; decide
    have h0 : x ++ z :: r = y ++ 44 :: (joinC (y2 :: ys) ++ z :: s) := by
      rw [show joinC [x] = x from rfl, show joinC (y :: y2 :: ys) = y ++ 44 :: joinC (y2 :: ys) from rfl, List.append_assoc, List.cons_append] at h
      exact h
    have h1 := hu x (by simp) y (by simp) _ _ hs (hc _) h0
    injection h1.2 with h2 _
    exact absurd h2 hz2
  | x :: x2 :: xs, [y], r, s, _, _, hu, h => by
    have hs : Stop (z :: s) := fun c t e => by injection e with e _; rw [← e]; exact hz
    have hc : ∀ r, Stop (44 :: r) := fun r c t e => by injection e with e _; rw [← e]; decide
    have h0 : x ++ 44 :: (joinC (x2 :: xs) ++ z :: r) = y ++ z :: s := by
      rw [show joinC [y] = y from rfl, show joinC (x :: x2 :: xs) = x ++ 44 :: joinC (x2 :: xs) from rfl, List.append_assoc, List.cons_append] at h
      exact h
    have h1 := hu x (by simp) y (by simp) _ _ (hc _) hs h0
    injection h1.2 with h2 _
    exact absurd h2.symm hz2
  | x :: x2 :: xs, y :: y2 :: ys, r, s, hx, hy, hu, h => by
    have hc : ∀ r, Stop (44 :: r) := fun r c t e => by injection e with e _; rw [← e]; decide
    have h0 : x ++ 44 :: (joinC (x2 :: xs) ++ z :: r) = y ++ 44 :: (joinC (y2 :: ys) ++ z :: s) := by
      rw [show joinC (y :: y2 :: ys) = y ++ 44 :: joinC (y2 :: ys) from rfl, show joinC (x :: x2 :: xs) = x ++ 44 :: joinC (x2 :: xs) from rfl, List.append_assoc, List.cons_append, List.append_assoc, List.cons_append] at h
      exact h
    have h1 := hu x (by simp) y (by simp) _ _ (hc _) (hc _) h0
    injection h1.2 with _ h2
    have h3 := join_unique hz hz2 (x2 :: xs) (y2 :: ys) r s (fun a ha => hx a (List.mem_cons_of_mem _ ha)) (fun a ha => hy a (List.mem_cons_of_mem _ ha)) (fun a ha b hb => hu a (List.mem_cons_of_mem _ ha) b (List.mem_cons_of_mem _ hb)) h2
    exact ⟨by rw [h1.1, h3.1], h3.2⟩
theorem list_seen {cl : Nat} : ∀ kids kids' : List Vl, (∀ v ∈ kids, FineV v → ∀ b, FineV b → ∀ r s, Stop r → Stop s → showL cl [35] v ++ r = showL cl [35] b ++ s → r = s ∧ Seen cl v b) → (∀ v ∈ kids, FineV v) → (∀ v ∈ kids', FineV v) →
    kids.map (showL cl [35]) = kids'.map (showL cl [35]) → kids.length = kids'.length ∧ ∀ (i : Nat) v v', kids[i]? = some v → kids'[i]? = some v' → Seen cl v v' := by
  intro kids kids' ih hf hf' h
  have hn : Stop [] := fun c t e => by cases e
  refine ⟨by simpa using congrArg List.length h, fun i v v' hv hv' => ?_⟩
  have h1 := congrArg (·[i]?) h
  simp only [List.getElem?_map, hv, hv', Option.map_some] at h1
  injection h1 with h1
  exact (ih v (at_mem hv) (hf v (at_mem hv)) v' (hf' v' (at_mem hv')) [] [] hn hn (by rw [h1])).2
/-- A view tells what is seen, and where it ends. -/
theorem view_unique (cl : Nat) : ∀ a, FineV a → ∀ b, FineV b → ∀ r s, Stop r → Stop s → showL cl [35] a ++ r = showL cl [35] b ++ s → r = s ∧ Seen cl a b := by
  refine Vl.ind fun k m num t keys kids code ih hf b hfb r s hr hs h => ?_
  obtain ⟨k', m', num', t', keys', kids', code'⟩ := b
  obtain ⟨c, u, e, hc⟩ := show_head cl hf
  obtain ⟨c', u', e', hc'⟩ := show_head cl hfb
  have hcc : clsB c = clsB c' := by
    rw [e, e', List.cons_append, List.cons_append] at h
    injection h with h _
    rw [h]
  rw [hc, hc'] at hcc
  clear hc hc' e e' c u c' u'
  have hf0 := hf
  have hfb0 := hfb
  cases hf with
  | mk _ _ _ _ _ _ _ hk hm hn hn0 ht ht0 hkl hk0 hks hkd hcn hcode hc0 hc8 hmany hff =>
  cases hfb with
  | mk _ _ _ _ _ _ _ hk' hm' hn' hn0' ht' ht0' hkl' hk0' hks' hkd' hcn' hcode' hc0' hc8' hmany' hff' =>
  cases hd : hidB m cl with
  | true =>
    cases hd' : hidB m' cl with
    | true =>
      refine ⟨?_, .hid _ _ _ _ _ _ _ _ _ _ _ _ _ _ hd hd'⟩
      unfold showL at h
      rw [hd, hd'] at h
      simpa using h
    | false =>
      rw [hd, hd'] at hcc
      simp at hcc
      omega
  | false =>
    cases hd' : hidB m' cl with
    | true =>
      rw [hd, hd'] at hcc
      simp at hcc
      omega
    | false =>
      rw [hd, hd'] at hcc
      have hkk : k = k' := by simpa using hcc
      subst hkk
      unfold showL at h
      rw [hd, hd'] at h
      simp only [Bool.false_eq_true, if_false] at h
      by_cases h7 : k = 7
      · subst h7
        rw [if_pos rfl, if_pos rfl] at h
        simp only [List.cons_append, List.append_assoc, List.nil_append] at h
        injection h with _ h
        have hl := hkl rfl
        have hl' := hkl' rfl
        have hkey : ∀ (i : Nat) (ks : List Txt) (vs : List Vl), ks.length = vs.length → (∀ x ∈ ks, x.length ≤ 100 ∧ validD x = true) → (ks[i]?.getD []).length ≤ 100 ∧ validD (ks[i]?.getD []) = true := by
          intro i ks vs _ hks
          cases h : ks[i]? with
          | none => exact ⟨Nat.zero_le _, by decide⟩
          | some x => exact hks x (List.mem_of_getElem? h)
        have hel : ∀ (ks : List Txt) (vs : List Vl) x, x ∈ kidsO cl [35] ks vs → ∃ (i : Nat) (v : Vl), vs[i]? = some v ∧ x = quoteL (ks[i]?.getD []) ++ 58 :: showL cl [35] v := by
          intro ks vs x hx
          obtain ⟨i, hi⟩ := List.getElem?_of_mem hx
          rw [kidsO_get] at hi
          obtain ⟨v, hv, rfl⟩ := Option.map_eq_some_iff.1 hi
          exact ⟨i, v, hv, rfl⟩
        have hh : ∀ (ks : List Txt) (vs : List Vl), ∀ x ∈ kidsO cl [35] ks vs, ∃ c t, x = c :: t ∧ clsB c ≠ 0 := by
          intro ks vs x hx
          obtain ⟨i, v, _, rfl⟩ := hel ks vs x hx
          exact ⟨34, _, rfl, by decide⟩
        have hu : ∀ (i : Nat) v (i' : Nat) v', kids[i]? = some v → kids'[i']? = some v' → ∀ r s, Stop r → Stop s → (quoteL (keys[i]?.getD []) ++ 58 :: showL cl [35] v) ++ r = (quoteL (keys'[i']?.getD []) ++ 58 :: showL cl [35] v') ++ s →
            keys[i]?.getD [] = keys'[i']?.getD [] ∧ showL cl [35] v = showL cl [35] v' ∧ r = s := by
          intro i v i' v' hv hv' r s hr hs h
          rw [List.append_assoc, List.append_assoc] at h
          have h1 := quote_unique (hkey i keys kids hl hks) (hkey i' keys' kids' hl' hks') h
          refine ⟨h1.1, ?_⟩
          have h2 := h1.2
          simp only [List.cons_append] at h2
          injection h2 with _ h2
          have h3 := ih v (at_mem hv) (hff i v hv) v' (hff' i' v' hv') r s hr hs h2
          refine ⟨?_, h3.1⟩
          rw [h3.1] at h2
          exact List.append_cancel_right h2
        obtain ⟨hj, hrs⟩ := join_unique (by decide) (by decide) _ _ r s (hh keys kids) (hh keys' kids') (fun x hx y hy r s hr hs hxy => by
          obtain ⟨i, v, hv, rfl⟩ := hel _ _ x hx
          obtain ⟨i', v', hv', rfl⟩ := hel _ _ y hy
          obtain ⟨g1, g2, g3⟩ := hu i v i' v' hv hv' r s hr hs hxy
          exact ⟨by rw [g1, g2], g3⟩) h
        have hlen : kids.length = kids'.length := by
          have := congrArg List.length hj
          rwa [kidsO_size, kidsO_size] at this
        have hpt : ∀ (i : Nat) v v', kids[i]? = some v → kids'[i]? = some v' → keys[i]?.getD [] = keys'[i]?.getD [] ∧ showL cl [35] v = showL cl [35] v' := by
          intro i v v' hv hv'
          have h1 := congrArg (·[i]?) hj
          simp only [kidsO_get, hv, hv', Option.map_some] at h1
          injection h1 with h1
          have hn : Stop [] := fun c t e => by cases e
          obtain ⟨g1, g2, -⟩ := hu i v i v' hv hv' [] [] hn hn (by rw [h1])
          exact ⟨g1, g2⟩
        have hkeys : keys = keys' := by
          refine List.ext_getElem? fun i => ?_
          rcases Nat.lt_or_ge i kids.length with hi | hi
          · obtain ⟨v, hv⟩ := at_some hi
            obtain ⟨v', hv'⟩ := at_some (hlen ▸ hi)
            have h1 := (hpt i v v' hv hv').1
            rw [List.getElem?_eq_getElem (by omega), List.getElem?_eq_getElem (by omega)] at h1 ⊢
            exact congrArg some h1
          · rw [List.getElem?_eq_none (by omega), List.getElem?_eq_none (by omega)]
        have hnum : num = num' := by rw [hn0 (by decide), hn0' (by decide)]
        have htt : t = t' := by rw [ht0 (by decide), ht0' (by decide)]
        have hcc : code = code' := by rw [hc0 (by decide), hc0' (by decide)]
        subst hkeys hnum htt hcc
        refine ⟨hrs, .see _ _ _ _ _ _ _ _ _ hd hd' hlen fun i v v' hv hv' => ?_⟩
        have hn : Stop [] := fun c t e => by cases e
        exact (ih v (at_mem hv) (hff i v hv) v' (hff' i v' hv') [] [] hn hn (by rw [(hpt i v v' hv hv').2])).2
      · rw [if_neg h7, if_neg h7] at h
        have hkeys : keys = keys' := by rw [hk0 h7, hk0' h7]
        by_cases h6 : k = 6
        · subst h6
          rw [if_pos rfl, if_pos rfl] at h
          simp only [List.cons_append, List.append_assoc, List.nil_append, kidsL_map] at h
          injection h with _ h
          have hh : ∀ (vs : List Vl), (∀ v ∈ vs, FineV v) → ∀ x ∈ vs.map (showL cl [35]), ∃ c t, x = c :: t ∧ clsB c ≠ 0 := by
            intro vs hvs x hx
            obtain ⟨v, hv, rfl⟩ := List.mem_map.1 hx
            have hfv := hvs v hv
            obtain ⟨k1, m1, num1, t1, keys1, kids1, code1⟩ := v
            obtain ⟨c, u, e, hc⟩ := show_head cl hfv
            refine ⟨c, u, e, ?_⟩
            rw [hc]
            cases hfv with
            | mk _ _ _ _ _ _ _ hk1 =>
              split
              · decide
              · omega
          obtain ⟨hj, hrs⟩ := join_unique (by decide) (by decide) _ _ r s (hh kids (fine_kid hf0)) (hh kids' (fine_kid hfb0)) (fun x hx y hy r s hr hs hxy => by
            obtain ⟨v, hv, rfl⟩ := List.mem_map.1 hx
            obtain ⟨v', hv', rfl⟩ := List.mem_map.1 hy
            have h1 := (ih v hv (fine_kid hf0 v hv) v' (fine_kid hfb0 v' hv') r s hr hs hxy).1
            subst h1
            exact ⟨List.append_cancel_right hxy, rfl⟩) h
          have hnum : num = num' := by rw [hn0 (by decide), hn0' (by decide)]
          have htt : t = t' := by rw [ht0 (by decide), ht0' (by decide)]
          have hcc : code = code' := by rw [hc0 (by decide), hc0' (by decide)]
          obtain ⟨hlen, hseen⟩ := list_seen kids kids' ih (fine_kid hf0) (fine_kid hfb0) hj
          subst hkeys hnum htt hcc
          exact ⟨hrs, .see _ _ _ _ _ _ _ _ _ hd hd' hlen hseen⟩
        · rw [if_neg h6, if_neg h6] at h
          have hkids := hcn h6 h7
          have hkids' := hcn' h6 h7
          subst hkids hkids' hkeys
          have fin : num = num' → t = t' → code = code' → Seen cl (.mk k m num t keys [] code) (.mk k m' num' t' keys [] code') := by
            rintro rfl rfl rfl
            exact .see _ _ _ _ _ _ _ _ _ hd hd' rfl fun i v v' hv => by cases hv
          have fnum : k ≠ 4 → num = num' := fun h => by rw [hn0 h, hn0' h]
          have ftxt : k ≠ 5 → t = t' := fun h => by rw [ht0 h, ht0' h]
          have fcode : k ≠ 8 → code = code' := fun h => by rw [hc0 h, hc0' h]
          rcases (show k = 1 ∨ k = 2 ∨ k = 3 ∨ k = 4 ∨ k = 5 ∨ k = 8 by omega) with rfl | rfl | rfl | rfl | rfl | rfl
          · exact ⟨List.append_cancel_left h, fin (fnum (by decide)) (ftxt (by decide)) (fcode (by decide))⟩
          · exact ⟨List.append_cancel_left h, fin (fnum (by decide)) (ftxt (by decide)) (fcode (by decide))⟩
          · exact ⟨List.append_cancel_left h, fin (fnum (by decide)) (ftxt (by decide)) (fcode (by decide))⟩
          · obtain ⟨d, rfl, hd1⟩ := hn rfl
            obtain ⟨d', rfl, hd2⟩ := hn' rfl
            obtain ⟨h1, h2⟩ := cut_unique (num_print d) (num_print d') (num_stop hr) (num_stop hs) h
            have h3 := parse_back hd1
            rw [h1, parse_back hd2] at h3
            injection h3 with h3
            exact ⟨h2, fin h3.symm (ftxt (by decide)) (fcode (by decide))⟩
          · obtain ⟨h1, h2⟩ := quote_unique ht ht' h
            exact ⟨h2, fin (fnum (by decide)) h1 (fcode (by decide))⟩
          · have h : 33 :: Go.Lib.decDigits code ++ r = 33 :: Go.Lib.decDigits code' ++ s := h
            rw [List.cons_append, List.cons_append] at h
            injection h with _ h
            obtain ⟨h1, h2⟩ := cut_unique (code_digs hcode) (code_digs hcode') (num_stop hr) (num_stop hs) h
            have h3 := code_back hcode
            rw [h1, code_back hcode'] at h3
            exact ⟨h2, fin (fnum (by decide)) (ftxt (by decide)) h3.symm⟩
theorem view_seen {cl : Nat} {a b : Vl} (ha : FineV a) (hb : FineV b) (h : showL cl [35] a = showL cl [35] b) : Seen cl a b := by
  have hn : Stop [] := fun c t e => by cases e
  exact (view_unique cl a ha b hb [] [] hn hn (by rw [h])).2
/-- A value whose masks are told by its places. -/
inductive Lab (f : List Stp → Nat) : List Stp → Vl → Prop where
  | mk (at_ : List Stp) (k : Nat) (num : Option Dc) (t : Txt) (keys : List Txt) (kids : List Vl) (code : Nat) (h : ∀ (i : Nat) v, kids[i]? = some v → Lab f (at_ ++ [stp k keys i]) v) : Lab f at_ (.mk k (f at_) num t keys kids code)
theorem seen_lab {cl : Nat} {f : List Stp → Nat} {a b : Vl} (h : Seen cl a b) : ∀ at_, Lab f at_ a → Lab f at_ b → alikeL cl a b = true := by
  induction h with
  | hid k m num t keys kids code k' m' num' t' keys' kids' code' h h' => exact fun at_ _ _ => alike_hid h h'
  | see k m m' num t keys kids kids' code h h' hl hs ih =>
    intro at_ ha hb
    cases ha with
    | mk _ _ _ _ _ _ _ ha =>
      cases hb with
      | mk _ _ _ _ _ _ _ hb => exact alike_seen h hl fun i v v' hv hv' => ih i v v' hv hv' _ (ha i v hv) (hb i v' hv')
/-- Of documents that are marked by a policy the view tells whether they look the same. -/
theorem view_alike {cl : Nat} {f : List Stp → Nat} {a b : Vl} (ha : FineV a) (hb : FineV b) (at_ : List Stp) (la : Lab f at_ a) (lb : Lab f at_ b) : (showL cl [35] a == showL cl [35] b) = alikeL cl a b := by
  rw [Bool.eq_iff_iff, beq_iff_eq]
  exact ⟨fun h => seen_lab (view_seen ha hb h) at_ la lb, alike_show cl [35] a b⟩
theorem alike_holes (cl : Nat) : ∀ a b, alikeL cl a b = true → ∀ at_, holesL cl at_ a = holesL cl at_ b := by
  refine Vl.ind fun k m num t keys kids code ih b hab at_ => ?_
  rcases alike_cases hab with ⟨hm, k', m', num', t', keys', kids', code', rfl, hm'⟩ | ⟨hm, kids', rfl, hl, hk⟩
  · unfold holesL
    rw [if_pos hm, if_pos hm']
  · unfold holesL
    rw [hm]
    simp only [Bool.false_eq_true, if_false]
    have key : ∀ (l l' : List Vl) (i : Nat), l.length = l'.length → (∀ (j : Nat) v v', l[j]? = some v → l'[j]? = some v' → ∀ at_, holesL cl at_ v = holesL cl at_ v') → holesK cl at_ k keys i l = holesK cl at_ k keys i l' := by
      intro l
      induction l with
      | nil =>
        intro l' i hl _
        have : l' = [] := List.eq_nil_of_length_eq_zero hl.symm
        rw [this]
      | cons v r ih2 =>
        intro l' i hl h
        cases l' with
        | nil => cases hl
        | cons v' r' =>
          unfold holesK
          rw [h 0 v v' rfl rfl, ih2 r' (i + 1) (by simpa using hl) fun j u u' hu hu' => h (j + 1) u u' hu hu']
    exact key kids kids' 0 hl fun j v v' hv hv' at_ => ih v (at_mem hv) v' (hk j v v' hv hv') at_
/-- A value with another kid in the place of one. -/
def swapV (v : Vl) (i : Nat) (u : Vl) : Vl := match v with | .mk k m num t keys kids code => .mk k m num t keys (kids.set i u) code
/-- What is hidden as well in the place of something hidden is not seen. -/
theorem swap_hid {cl k m : Nat} {num : Option Dc} {t : Txt} {keys : List Txt} {kids : List Vl} {code i : Nat} {v u : Vl} (hv : kids[i]? = some v) (h : hidB (maskV v) cl = true) (h' : hidB (maskV u) cl = true) :
    alikeL cl (.mk k m num t keys kids code) (.mk k m num t keys (kids.set i u) code) = true := by
  cases hm : hidB m cl with
  | true => exact alike_hid hm hm
  | false =>
    refine alike_seen hm (by simp) fun j a b ha hb => ?_
    rw [List.getElem?_set] at hb
    by_cases hij : i = j
    · subst hij
      rw [if_pos rfl, if_pos (at_len hv)] at hb
      injection hb with hb
      rw [hv] at ha
      injection ha with ha
      subst ha hb
      obtain ⟨k1, m1, num1, t1, keys1, kids1, code1⟩ := v
      obtain ⟨k2, m2, num2, t2, keys2, kids2, code2⟩ := u
      exact alike_hid h h'
    · rw [if_neg hij, ha] at hb
      injection hb with hb
      rw [hb]
      exact alike_refl cl b
/-- What is seen in the place of something seen is seen: the view is the same just if all is. -/
theorem swap_seen {cl k m : Nat} {num : Option Dc} {t : Txt} {keys : List Txt} {kids : List Vl} {code i : Nat} {v : Vl} {x : Txt} (hm : hidB m cl = false) (hv : kids[i]? = some v) (h : hidB (maskV v) cl = false)
    (ha : FineV (.mk k m num t keys kids code)) (hx : x.length ≤ 100 ∧ validD x = true)
    (he : showL cl [35] (.mk k m num t keys kids code) = showL cl [35] (.mk k m num t keys (kids.set i (.mk 5 (maskV v) none x [] [] 0)) code)) : kids.set i (.mk 5 (maskV v) none x [] [] 0) = kids := by
  have hmv : maskV v < 18446744073709551616 := by
    have := fine_kid ha v (at_mem hv)
    obtain ⟨k1, m1, num1, t1, keys1, kids1, code1⟩ := v
    exact fine_mask this
  have hu : FineV (.mk 5 (maskV v) none x [] [] 0) := .mk 5 _ none x [] [] 0 ⟨by decide, by decide⟩ hmv (fun h => absurd h (by decide)) (fun _ => rfl) hx (fun h => absurd rfl h) (fun h => absurd h (by decide)) (fun _ => rfl) (fun x h => by cases h) List.nodup_nil (fun _ _ => rfl) (by decide) (fun _ => rfl) (fun h => absurd h (by decide)) (Nat.zero_le _) (fun i v h => by cases h)
  have hb : FineV (.mk k m num t keys (kids.set i (.mk 5 (maskV v) none x [] [] 0)) code) := by
    cases ha with
    | mk _ _ _ _ _ _ _ hk hm hn hn0 ht ht0 hkl hk0 hks hkd hc hcode hc0 hc8 hmany hf =>
      refine .mk k m num t keys _ code hk hm hn hn0 ht ht0 (fun h => by rw [List.length_set]; exact hkl h) hk0 hks hkd (fun h6 h7 => by rw [hc h6 h7]; rfl) hcode hc0 hc8 (by rw [List.length_set]; exact hmany) fun j u hu' => ?_
      rw [List.getElem?_set] at hu'
      by_cases hij : i = j
      · subst hij
        rw [if_pos rfl, if_pos (at_len hv)] at hu'
        injection hu' with hu'
        rw [← hu']
        exact hu
      · rw [if_neg hij] at hu'
        exact hf j u hu'
  have hs := view_seen ha hb he
  cases hs with
  | hid _ _ _ _ _ _ _ _ _ _ _ _ _ _ h1 _ => rw [hm] at h1; cases h1
  | see _ _ _ _ _ _ _ _ _ _ _ hl hk =>
    have h1 := hk i v (.mk 5 (maskV v) none x [] [] 0) hv (by rw [List.getElem?_set, if_pos rfl, if_pos (at_len hv)])
    refine List.ext_getElem? fun j => ?_
    rw [List.getElem?_set]
    by_cases hij : i = j
    · subst hij
      rw [if_pos rfl, if_pos (at_len hv), hv]
      cases h1 with
      | hid _ _ _ _ _ _ _ _ _ _ _ _ _ _ h2 _ => exact Bool.noConfusion (h2.symm.trans h)
      | see _ _ _ _ _ _ kids1 _ _ _ _ hl2 _ =>
        have : kids1 = [] := List.eq_nil_of_length_eq_zero hl2
        rw [this]
        rfl
    · rw [if_neg hij]
end Go.Proofs.YtpeldjihalldkaaDoor
