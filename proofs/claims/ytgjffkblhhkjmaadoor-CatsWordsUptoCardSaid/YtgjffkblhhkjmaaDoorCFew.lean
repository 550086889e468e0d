/- Layer 6: a mask written as names, as the document says; the laws' few, short, shown. -/
import Derived.Test.YtgjffkblhhkjmaaDoorCRefm
namespace Go.Proofs.YtgjffkblhhkjmaaDoor
open Go Go.RowKit Go.Maps

theorem shr_test (M k : Nat) : (((M / 2 ^ k : Nat) : Int) % 2 == 1) = M.testBit k := by
  rw [Nat.testBit_eq_decide_div_mod_eq, Bool.eq_iff_iff, beq_iff_eq, decide_eq_true_eq]
  omega
set_option maxRecDepth 100000 in
set_option maxHeartbeats 6400000 in
theorem rnames_any (w : World) (A : Option Addr) (c : Nat) (C : List Txt) (hC : Strs w A c C) (h64 : C.length ≤ 64) (hne : [] ∉ C) (M : Nat) (hM : M < 2 ^ 64) :
    Calls Tryd.prog 18 #[.slice A C.length c, .int .u64 (M : Int)] w fun e w' => e = .returned (.string ⟨(joinB (namesL C M)).toArray⟩) ∧ w' = w := by
  obtain ⟨n, hn⟩ : ∃ n, n = C.length := ⟨_, rfl⟩
  have hcap := hC.cap
  have hcap2 := hC.cap2
  rw [← hn] at hcap h64 ⊢
  have Hn := hid (And.intro hn hne)
  clear hn hne
  go_enter Tryd.func18, Tryd.ntmps18
  go_wp2_with fail
  go_loopw [5, 6] (fun v i wr => wr = w ∧ ∃ k : Nat, k ≤ n ∧ i = .int .i64 (k : Int) ∧ v = .string ⟨(joinB (namesF (C.take k) M 0)).toArray⟩) (fun _ i _ => n - (intOf i).toNat)
  case atStart => exact ⟨rfl, 0, Nat.zero_le _, rfl, rfl⟩
  case round =>
    obtain ⟨hwr, k, hk, rfl, rfl⟩ := hrel
    have hwr2 := hwr.symm
    subst hwr2
    obtain ⟨X, hX⟩ : ∃ X, X = namesF (C.take k) M 0 := ⟨_, rfl⟩
    have hsub : ∀ x ∈ X, x ∈ C := by
      intro x hx
      rw [hX] at hx
      exact List.mem_of_mem_take (names_sub x hx)
    have hXl : X.length ≤ k := by rw [hX]; have := namesF_count (C.take k) M 0; rw [List.length_take] at this; omega
    have hjl := joinB_len X (fun x hx => hC.short x (hsub x hx))
    have hj0 := joinB_nil X (fun x hx e => Hn.out.2 (e ▸ hsub x hx))
    rw [← hX]
    by_cases hlt : k < n
    · have hkl : k < C.length := by rw [← Hn.out.1]; exact hlt
      obtain ⟨ad, hA, hcl, hx9⟩ := hC.at k hkl
      subst hA
      have hst := namesF_snoc C M k hkl
      rw [← hX] at hst
      obtain ⟨x, hx⟩ : ∃ x, x = C[k]'hkl := ⟨_, rfl⟩
      rw [← hx] at hcl hx9 hst
      have hb2 := shr_test M k
      have hdiv : ((M : Int) / 2 ^ k) = ((M / 2 ^ k : Nat) : Int) := by rw [Int.natCast_ediv]; simp
      obtain ⟨Q, hQ⟩ : ∃ Q, Q = M / 2 ^ k := ⟨_, rfl⟩
      rw [← hQ] at hb2 hdiv
      have hb3 : ((Q : Int).tmod 2 == 1) = M.testBit k := by rw [Int.tmod_eq_emod_of_nonneg (by omega)]; exact hb2
      obtain ⟨bo, hbo⟩ : ∃ b, b = M.testBit k := ⟨_, rfl⟩
      rw [← hbo] at hb2 hb3 hst
      have hk64 : (k : Int) ≤ 64 := by omega
      obtain ⟨J, hJ⟩ : ∃ J, J = joinB X := ⟨_, rfl⟩
      rw [← hJ] at hjl hj0 ⊢
      have hJl : J.length ≤ 150000000 := by omega
      have hsn := joinB_snoc X x
      rw [← hJ] at hsn
      have Hst := hid (And.intro hst (And.intro hJ hsn))
      have Hj0 := hid hj0
      clear hst hx hQ hbo hX hM hjl hsub hJ hsn hj0
      cases bo
      · go_wp2_with fail
        go_roundw
        case rel => exact ⟨trivial, k + 1, by omega, by go_num, by rw [Hst.out.1]; simp [Hst.out.2.1]⟩
        case measure => simp [intOf]; omega
      · by_cases hX0 : X = []
        · have hJ0 : J = [] := Hj0.out.2 hX0
          have hadd := fun W => run_add_text (P := Tryd.prog) J x x (by rw [hJ0]; rfl) (by omega) W
          have eJ : J.isEmpty = true := by rw [hJ0]; rfl
          have Hrel := hid (show joinB (X ++ [x]) = x by rw [Hst.out.2.2, if_pos hX0])
          clear hJ0 hX0
          go_wp2_with fail
          go_roundw
          case rel => exact ⟨trivial, k + 1, by omega, by go_num, by rw [Hst.out.1]; simp only [if_true]; rw [Hrel.out]⟩
          case measure => simp [intOf]; omega
        · have hJ0 : J ≠ [] := fun e => hX0 (Hj0.out.1 e)
          have eJ : J.isEmpty = false := by cases J with | nil => exact absurd rfl hJ0 | cons _ _ => rfl
          obtain ⟨K, hK⟩ : ∃ K, K = J ++ [32] := ⟨_, rfl⟩
          have hKl : K.length = J.length + 1 := by rw [hK]; simp
          obtain ⟨Z, hZ⟩ : ∃ Z, Z = K ++ x := ⟨_, rfl⟩
          have hadd := fun W => run_add_text (P := Tryd.prog) J [32] K hK (by show J.length + 1 ≤ _; omega) W
          have hadd2 := fun W => run_add_text (P := Tryd.prog) K x Z hZ (by omega) W
          have Hrel := hid (show joinB (X ++ [x]) = Z by rw [Hst.out.2.2, if_neg hX0, hZ, hK]; simp)
          clear hJ0 hX0 hK hZ hKl
          go_wp2_with fail
          go_roundw
          case rel => exact ⟨trivial, k + 1, by omega, by go_num, by rw [Hst.out.1]; simp only [if_true]; rw [Hrel.out]⟩
          case measure => simp [intOf]; omega
    · have hkn : k = n := by omega
      have htk : C.take k = C := List.take_of_length_le (by rw [hkn, Hn.out.1]; exact Nat.le_refl _)
      rw [htk] at hX
      have Hres := hid (show namesL C M = X from hX.symm)
      clear hX htk hsub hjl hj0 hM
      go_wp2_with fail
      go_ret
      exact ⟨by rw [Hres.out]; rfl, rfl⟩

def shortL (x : Txt) : Txt := if 100 < x.length then x.take 100 else x
theorem short_len (x : Txt) : (shortL x).length ≤ 100 := by
  unfold shortL
  split
  · rw [List.length_take]; omega
  · omega
set_option maxRecDepth 100000 in
theorem short6_any (w : World) (x : Txt) (hx : x.length ≤ 9223372036854775807) :
    Calls Tryd.prog 20 #[.string ⟨x.toArray⟩] w fun e w' => e = .returned (.string ⟨(shortL x).toArray⟩) ∧ w' = w := by
  have hsz : (⟨x.toArray⟩ : ByteArray).size = x.length := size_mk _
  have he := extract_mk x 0 100
  rw [List.drop_zero] at he
  by_cases h : 100 < x.length
  · have hr : shortL x = x.take 100 := by unfold shortL; rw [if_pos h]
    rw [hr]
    obtain ⟨y, hy⟩ : ∃ y, y = x.take 100 := ⟨_, rfl⟩
    rw [← hy] at he ⊢
    clear hr hy
    go_enter Tryd.func20, Tryd.ntmps20
    go_wp2_with fail
    go_ret
    exact ⟨rfl, rfl⟩
  · have hr : shortL x = x := by unfold shortL; rw [if_neg h]
    rw [hr]
    clear hr he
    go_enter Tryd.func20, Tryd.ntmps20
    go_wp2_with fail
    go_ret
    exact ⟨rfl, rfl⟩

def fewC (C : List Txt) : List Txt := (C.map shortL).take 70
theorem few_count (C : List Txt) : (fewC C).length ≤ 70 := by unfold fewC; rw [List.length_take, List.length_map]; omega
theorem few_short (C : List Txt) : ∀ x ∈ fewC C, x.length ≤ 2000000 := by
  intro x hx
  unfold fewC at hx
  obtain ⟨y, _, rfl⟩ := List.mem_map.1 (List.mem_of_mem_take hx)
  have := short_len y
  omega
/-- A slice as it came in: any names. -/
structure Raws (w : World) (A : Option Addr) (c : Nat) (C : List Txt) : Prop where
  span : Span w A (strs C)
  cap : C.length ≤ c
  cap2 : c ≤ 9223372036854775807
  short : ∀ x ∈ C, x.length ≤ 9223372036854775807
theorem Raws.kept {w w' : World} {A : Option Addr} {c : Nat} {C : List Txt} (h : Raws w A c C) (k : Kp [] w w') : Raws w' A c C := ⟨h.span.kept k, h.cap, h.cap2, h.short⟩
theorem Raws.at {w : World} {A : Option Addr} {c : Nat} {C : List Txt} (h : Raws w A c C) (k : Nat) (hk : k < C.length) : ∃ ad, A = some ad ∧ w.cell? (ad.add k) = some (.string ⟨(C[k]'hk).toArray⟩) ∧ (C[k]'hk).length ≤ 9223372036854775807 := by
  obtain ⟨ad, h1, h2⟩ := h.span.get (j := k) (by rw [length_strs]; exact hk)
  refine ⟨ad, h1, ?_, h.short _ (List.getElem_mem hk)⟩
  rw [h2]
  simp [strs]
theorem Strs.of_own {w : World} {v : Value} {C : List Txt} (h : Own w 9 v C.length (strs C)) (hf : C.length ≤ 2000000) (hs : ∀ x ∈ C, x.length ≤ 2000000) : ∃ A c, v = .slice A C.length c ∧ Strs w A c C := by
  obtain ⟨A, c, rfl, h1, h2, _, _⟩ := h.shape
  refine ⟨A, c, rfl, h1, h2, ?_, hf, hs⟩
  rcases h.2 with ⟨e, _⟩ | ⟨g, cap, cur, e, _, _, _, h3, _⟩
  · injection e with _ _ e; omega
  · injection e with _ _ e; simp only [maxLen] at h3; omega

set_option maxRecDepth 100000 in
set_option maxHeartbeats 6400000 in
theorem few6_any (w : World) (A : Option Addr) (c : Nat) (C : List Txt) (hC : Raws w A c C) :
    Calls Tryd.prog 13 #[.slice A C.length c] w fun e w' => ∃ v, e = .returned v ∧ Own w' 9 v (fewC C).length (strs (fewC C)) ∧ Kp [] w w' := by
  obtain ⟨n, hn⟩ : ∃ n, n = C.length := ⟨_, rfl⟩
  have hcap := hC.cap
  have hcap2 := hC.cap2
  rw [← hn] at hcap ⊢
  have Hn := hid hn
  clear hn
  go_enter Tryd.func13, Tryd.ntmps13
  go_wp2_with fail
  have o3 : Own (w.alloc (.cells #[] 9)) 9 (.slice (some ⟨w.heap.size, 0, none⟩) 0 0) 0 (strs []) := Own.of_cells (Cells.fresh w 9 []) (Nat.zero_le _)
  have n3 : New w (w.alloc (.cells #[] 9)) (.slice (some ⟨w.heap.size, 0, none⟩) 0 0) := ⟨(Kp.refl _ _).alloc _, by intro g hg; have : w.heap.size = g := (by simpa [Value.ownBlock] using hg); omega⟩
  go_loopw [3, 4] (fun v i wr => ∃ k : Nat, k ≤ n ∧ k ≤ 70 ∧ i = .int .i64 (k : Int) ∧ Own wr 9 v k (strs ((C.map shortL).take k)) ∧ New w wr v) (fun _ i _ => n - (intOf i).toNat)
  case atStart => exact ⟨0, Nat.zero_le _, Nat.zero_le _, rfl, o3, n3⟩
  case round =>
    clear o3 n3
    obtain ⟨k, hk, hk7, rfl, ho, hnw⟩ := hrel
    by_cases hlt : k < n ∧ k < 70
    · obtain ⟨hlt, hlt2⟩ := hlt
      have hkl : k < C.length := by rw [← Hn.out]; exact hlt
      obtain ⟨ad, hA, hcl, hx9⟩ := (hC.kept hnw.kp).at k hkl
      subst hA
      have hst : strs ((C.map shortL).take (k + 1)) = strs ((C.map shortL).take k) ++ [.string ⟨(shortL C[k]).toArray⟩] := by
        rw [List.take_add_one, List.getElem?_map, List.getElem?_eq_getElem hkl]
        simp [strs]
      have qs := fun W => short6_any W (C[k]'hkl) hx9
      obtain ⟨y, hy⟩ : ∃ y, y = shortL C[k] := ⟨_, rfl⟩
      simp only [← hy] at qs hst
      obtain ⟨x, hx⟩ : ∃ x, x = C[k]'hkl := ⟨_, rfl⟩
      simp only [← hx] at hcl hx9 qs
      have Hst := hid hst
      clear hst hx hy
      go_wp2_with fail
      (with_reducible refine (qs _).mono ?_)
      rintro e w1 ⟨rfl, rfl⟩
      go_wp2_with (at_builtin; go_must (refine wpList_append1 rfl _ _ 22 rfl 9 (.string ⟨#[]⟩) 16 Tryd.underlying22 cinfoStr rfl _ _ _ rfl (ho.kept ((Kp.refl _ _).alloc _)) _ 1 1 [.string ⟨y.toArray⟩] rfl (Span.of_new _ _ _ _) rfl (cone_string _) ?_ ?_ ?_))
      · omega
      · omega
      intro v1 w2 ho1 hk1 hb1
      go_wp2_with fail
      go_roundw
      case rel => exact ⟨k + 1, by omega, by omega, by go_num, by rw [Hst.out]; exact ho1, (hnw.kept ((Kp.refl _ _).alloc _)).append hk1 hb1 (by simp)⟩
      case measure => simp [intOf]; omega
    · have hlen : k = (fewC C).length := by
        unfold fewC
        rw [List.length_take, List.length_map, ← Hn.out]
        omega
      have htk : (C.map shortL).take k = (C.map shortL).take 70 := by
        by_cases h : k = 70
        · rw [h]
        · rw [List.take_of_length_le (by rw [List.length_map, ← Hn.out]; omega), List.take_of_length_le (by rw [List.length_map, ← Hn.out]; omega)]
      have hfin := ho
      rw [htk, hlen] at hfin
      have Hfin := hid hfin
      have Hkp := hid hnw.kp
      clear hfin hnw ho hlen htk
      by_cases h1 : k < n
      · have h2 : ¬ k < 70 := fun h => hlt ⟨h1, h⟩
        clear hlt
        go_wp2_with fail
        go_ret
        exact ⟨_, rfl, Hfin.out, Hkp.out⟩
      · clear hlt
        go_wp2_with fail
        go_ret
        exact ⟨_, rfl, Hfin.out, Hkp.out⟩
end Go.Proofs.YtgjffkblhhkjmaaDoor
