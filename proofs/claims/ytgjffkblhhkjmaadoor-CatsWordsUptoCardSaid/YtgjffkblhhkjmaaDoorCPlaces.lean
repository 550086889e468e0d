/- Layer 6: the map of names by their places; which categories may be. -/
import Derived.Test.YtgjffkblhhkjmaaDoorCName
namespace Go.Proofs.YtgjffkblhhkjmaaDoor
open Go Go.RowKit Go.Maps

def strs (C : List Txt) : List Value := C.map fun x => .string ⟨x.toArray⟩
theorem length_strs (C : List Txt) : (strs C).length = C.length := by simp [strs]
theorem law : Keyed Tryd.prog 9 := string_keyed Tryd.underlying9
theorem zeroI (w : World) : (zeroValue 3).run Tryd.prog w = .ok (.int .i64 0) w := by kernel_rfl
theorem key_str (x : Txt) (hx : x.length ≤ 2000000) : keyOf Tryd.prog 9 (.string ⟨x.toArray⟩) = some (sl x) := by
  have h := WideMaps.keyOf_string_mk (P := Tryd.prog) Tryd.underlying9 (s := ⟨x.toArray⟩) (by rw [size_mk]; unfold maxLen; omega)
  simpa [sl] using h
abbrev InMap (w : World) (b n : Nat) (D : DataW Unit) : Prop := w.ownsMap Tryd.prog 9 (plainElem Tryd.prog 3) b n D
/-- A slice that reads as these names. -/
structure Strs (w : World) (A : Option Addr) (c : Nat) (C : List Txt) : Prop where
  span : Span w A (strs C)
  cap : C.length ≤ c
  cap2 : c ≤ 9223372036854775807
  few : C.length ≤ 2000000
  short : ∀ x ∈ C, x.length ≤ 2000000
theorem Strs.kept {w w' : World} {A : Option Addr} {c : Nat} {C : List Txt} (h : Strs w A c C) (k : Kp [] w w') : Strs w' A c C := ⟨h.span.kept k, h.cap, h.cap2, h.few, h.short⟩
theorem Strs.at {w : World} {A : Option Addr} {c : Nat} {C : List Txt} (h : Strs w A c C) (k : Nat) (hk : k < C.length) : ∃ ad, A = some ad ∧ w.cell? (ad.add k) = some (.string ⟨(C[k]'hk).toArray⟩) ∧ (C[k]'hk).length ≤ 2000000 := by
  obtain ⟨ad, h1, h2⟩ := h.span.get (j := k) (by rw [length_strs]; exact hk)
  refine ⟨ad, h1, ?_, h.short _ (List.getElem_mem hk)⟩
  rw [h2]
  simp [strs]

set_option maxRecDepth 100000 in
set_option maxHeartbeats 6400000 in
theorem places_any (w : World) (A : Option Addr) (c : Nat) (C : List Txt) (hC : Strs w A c C) :
    Calls Tryd.prog 32 #[.slice A C.length c] w fun e w' => e = .returned (.tuple #[.map (some w.heap.size), .bool (decide C.Nodup)]) ∧ InMap w' w.heap.size C.length (placesD C) ∧ Kp [] w w' := by
  have hmm := @run_makeMap Tryd.prog
  obtain ⟨n, hn⟩ : ∃ n, n = C.length := ⟨_, rfl⟩
  have hcap := hC.cap
  have hcap2 := hC.cap2
  have hfew := hC.few
  rw [← hn] at hcap hfew ⊢
  have Hn := hid hn
  clear hn
  go_enter Tryd.func32, Tryd.ntmps32
  go_wp2_with fail
  obtain ⟨S, hS⟩ : ∃ S, S = w.heap.size := ⟨_, rfl⟩
  have hm0 : InMap (w.alloc (.map #[] 0)) S 0 (.map []) := by rw [hS]; exact World.ownsMap_made _ _ _ _
  rw [← hS]
  have HS := hid hS
  clear hS
  go_loopw [10] (fun i wr => ∃ k : Nat, k ≤ n ∧ i = .int .i64 k ∧ InMap wr S k (placesD (C.take k)) ∧ Kp [] w wr) (fun i _ => n - (intOf i).toNat)
  case atStart => exact ⟨0, Nat.zero_le _, rfl, hm0, (Kp.refl _ _).alloc _⟩
  case round =>
    obtain ⟨k, hk, rfl, hown, hkp⟩ := hrel
    by_cases hlt : k < n
    · have hkl : k < C.length := by rw [← Hn.out]; exact hlt
      obtain ⟨ad, hA, hcl, hx9⟩ := (hC.kept hkp).at k hkl
      subst hA
      have hst : placesD (C.take (k + 1)) = (placesD (C.take k)).put (sl (C[k]'hkl)) (nd k) := by
        rw [List.take_add_one, List.getElem?_eq_getElem hkl]
        show placesD (C.take k ++ [C[k]]) = _
        rw [places_snoc, List.length_take]
        congr 2
        omega
      obtain ⟨x, hx⟩ : ∃ x, x = C[k]'hkl := ⟨_, rfl⟩
      rw [← hx] at hcl hx9 hst
      have hkey := key_str x hx9
      have Hst := hid hst
      have Hkey := hid hkey
      clear hx hst hkey
      go_wp2_with (first | (at_mapUpdate; go_must (refine wpList_mapUpdate_own _ rfl _ _ _ 53 rfl 9 3 law Tryd.underlying53 _ S k _ rfl hown (by unfold maxLen; omega) _ _ _ rfl rfl Hkey.out _ [] (plainElem_int Tryd.underlying3 (WalkArith.wf_i64 (by omega))) ?_)))
      intro w1 hown1 hg1
      go_wp2_with fail
      go_roundw
      case rel => exact ⟨k + 1, by omega, by go_num, by rw [Hst.out]; exact hown1, hkp.trans (Kp.of_grown (S := [S]) hg1 (by intro j hj _; cases hj; simp)) (by intro y hy hl; rw [List.mem_singleton.1 hy, HS.out] at hl; exact absurd hl (Nat.lt_irrefl _))⟩
      case measure => simp [intOf]; omega
    · have hkn : k = n := by omega
      subst hkn
      have htk : C.take k = C := List.take_of_length_le (by rw [Hn.out]; exact Nat.le_refl _)
      rw [htk] at hown
      have hsz := size_places C
      rw [← Hn.out] at hsz
      obtain ⟨m, hm⟩ : ∃ m, m = Maps.size (placesD C) := ⟨_, rfl⟩
      have hd : ((m : Int) == (k : Int)) = decide C.Nodup := by
        rw [← hm] at hsz
        by_cases hnd : C.Nodup
        · rw [decide_eq_true hnd, beq_iff_eq, hsz.2.2 hnd]
        · rw [decide_eq_false hnd, beq_eq_false_iff_ne]
          intro e
          exact hnd (hsz.2.1 (by omega))
      clear hsz
      go_wp2_with (at_len; refine wpList_len_own _ rfl _ 53 rfl 9 3 Tryd.underlying53 _ S k _ rfl hown ?_; rw [← hm])
      go_ret2
      exact ⟨by rw [← HS.out, ← hd, hm]; rfl, by rw [← HS.out]; exact hown, hkp⟩
/-- What has been seen of the names, as a function of what is still to come. -/
def okL (C : List Txt) (left : Lit → Bool) : Prop := C.Nodup ∧ ∀ x ∈ C, left (sl x) = false → nameL x = true
theorem same_sl (x y : Txt) : (sl x).sameKey (sl y) = decide (x = y) := by
  by_cases h : x = y
  · subst h; rw [decide_eq_true rfl]; simp [sl, Lit.sameKey]
  · rw [decide_eq_false h]; exact sameKey_ne (fun e => h (sl_inj e))
open Classical in
theorem ok_start (C : List Txt) : decide (okL C (Maps.has (placesD C))) = decide C.Nodup := by
  rw [decide_eq_decide]
  unfold okL
  constructor
  · exact fun h => h.1
  · intro h
    refine ⟨h, fun x hx hf => ?_⟩
    rw [has_places, decide_eq_true hx] at hf
    cases hf
open Classical in
theorem ok_bad (C : List Txt) {left : Lit → Bool} {kl : Lit} (h : decide (okL C left) = false) : decide (okL C (fun z => left z && !z.sameKey kl)) = false := by
  rw [decide_eq_false_iff_not] at h ⊢
  exact fun ⟨h1, h2⟩ => h ⟨h1, fun x hx hf => h2 x hx (by simp [hf])⟩
open Classical in
theorem ok_step (C : List Txt) {left : Lit → Bool} {x : Txt} (hx : x ∈ C) (h : decide (okL C left) = true) : decide (okL C (fun z => left z && !z.sameKey (sl x))) = nameL x := by
  have h := of_decide_eq_true h
  rw [Bool.eq_iff_iff, decide_eq_true_eq]
  constructor
  · rintro ⟨_, h2⟩
    exact h2 x hx (by simp [same_sl])
  · intro hn
    refine ⟨h.1, fun y hy hf => ?_⟩
    by_cases e : y = x
    · subst e; exact hn
    · exact h.2 y hy (by simpa [same_sl, e] using hf)
open Classical in
theorem ok_end (C : List Txt) {left : Lit → Bool} (hl : ∀ z, left z = false) (h9 : C.length ≤ 64) : mayC C = if decide (okL C left) = true then 0 else 20 := by
  unfold mayC
  rw [if_neg (by omega)]
  congr 1
  rw [decide_eq_true_eq]
  unfold okL
  simp [hl]

open Classical in
set_option maxRecDepth 100000 in
set_option maxHeartbeats 6400000 in
theorem cmay_any (w : World) (A : Option Addr) (c : Nat) (C : List Txt) (hC : Strs w A c C) :
    Calls Tryd.prog 22 #[.slice A C.length c] w fun e w' => e = .returned (.int .i64 (mayC C)) ∧ Kp [] w w' := by
  have hcap := hC.cap
  have hcap2 := hC.cap2
  have hfew := hC.few
  have qp := places_any w A c C hC
  obtain ⟨n, hn⟩ : ∃ n, n = C.length := ⟨_, rfl⟩
  rw [← hn] at hcap hfew qp ⊢
  have Hn := hid hn
  clear hn
  by_cases h64 : 64 < n
  · have hr : mayC C = 3 := by unfold mayC; rw [if_pos (by rw [← Hn.out]; exact h64)]
    rw [hr]
    clear hr qp
    go_enter Tryd.func22, Tryd.ntmps22
    go_wp2_with fail
    go_ret
    exact ⟨rfl, Kp.refl _ _⟩
  · have HE := fun left (hl : ∀ z, left z = false) => ok_end C (left := left) hl (by rw [← Hn.out]; omega)
    have HE2 := hid HE
    clear HE
    obtain ⟨S, hS⟩ : ∃ S, S = w.heap.size := ⟨_, rfl⟩
    rw [← hS] at qp
    go_enter Tryd.func22, Tryd.ntmps22
    go_wp2_with fail
    (with_reducible refine qp.mono ?_)
    rintro e w1 ⟨rfl, hown, k1⟩
    have Hk1 := hid k1
    have HS := hid hS
    clear k1 hS qp
    go_wp2_with (at_range; go_must (refine wpList_range_own _ rfl _ 53 rfl 9 3 law Tryd.underlying53 _ S n _ rfl hown ?_); intro w0 hrg0 hg0 hs0)
    go_frame
    rw [← ok_start]
    obtain ⟨R, hR⟩ : ∃ R, R = w1.heap.size := ⟨_, rfl⟩
    rw [← hR] at hrg0 ⊢
    have HR := hid hR
    clear hR
    have k0 : Kp [] w w0 := Hk1.out.nil (Kp.of_grown hg0 (by simp))
    have hSR : w.heap.size ≤ R := by rw [HR.out]; exact Hk1.out.size
    go_loopw [4] (fun v wr => ∃ (left : Lit → Bool) (cnt : Nat), wr.ranges Tryd.prog 9 (plainElem Tryd.prog 3) S R n (placesD C) left cnt ∧ v = .bool (decide (okL C left)) ∧ Kp [] w wr) (fun _ wr => wr.rangeLeft S R)
    case atStart => exact ⟨_, _, hrg0, rfl, k0⟩
    case round =>
      clear hrg0 hg0 hs0 k0 hown
      obtain ⟨left, cnt, hrg, rfl, hkp⟩ := hrel
      obtain ⟨bo, hbo⟩ : ∃ b, b = decide (okL C left) := ⟨_, rfl⟩
      rw [← hbo]
      have Hbo := hid hbo
      clear hbo
      go_wp2_with (at_next; go_must (refine wpList_next_ranges wr rfl _ rfl 9 law (plainElem Tryd.prog 3) Value.string (Value.int .i64) (fun key kl h => by obtain ⟨x, rfl, _⟩ := keyOf_str_inv Tryd.underlying9 h; exact ⟨x, rfl⟩) (fun v y hv => by obtain ⟨c, rfl, _⟩ := plainElem_int_inv Tryd.underlying3 hv; exact ⟨c, rfl⟩) S R n _ _ _ rfl hrg ?_ ?_))
      · intro _ hl0
        have hm := HE2.out left hl0
        rw [← Hbo.out] at hm
        cases bo
        all_goals
          have hm2 : mayC C = _ := hm
          simp only [if_true, Bool.false_eq_true, if_false] at hm2
          have HM := hid hm2
          clear hm hm2
          go_wp2_with fail
          go_ret
          exact ⟨by rw [HM.out]; rfl, hkp⟩
      · intro x cx kl y1 y2 w2 cnt2 hkey hlx hRv hat hrg2 hlt hg2 hs2 hen
        obtain ⟨x2, hx2, rfl, hx9⟩ := keyOf_str_inv Tryd.underlying9 hkey
        injection hx2 with hx2
        subst hx2
        have hxC : x.data.toList ∈ C := by
          have h := has_true_of_atKey hat
          have h2 := has_places C x.data.toList
          unfold sl at h2
          rw [h] at h2
          exact of_decide_eq_true h2.symm
        have hkp2 : Kp [] w w2 := hkp.fresh (Kp.of_grown (S := [R]) hg2 (by intro j hj _; cases hj; simp)) hSR
        obtain ⟨X, hX⟩ : ∃ X, X = x.data.toList := ⟨_, rfl⟩
        have hxX : x = ⟨X.toArray⟩ := by rw [hX]
        rw [← hX] at hrg2 hxC
        have hXl : X.length ≤ 9223372036854775807 := by rw [hX, Array.length_toList]; unfold maxLen at hx9; exact hx9
        subst hxX
        have qn := fun W => cname_any W X hXl
        have Hst := hid (ok_step C (left := left) hxC)
        have Hbad := hid (ok_bad C (left := left) (kl := sl X))
        have Hold := hid hrg
        have Hlt := hid hlt
        have Hrg := hid hrg2
        have Hkp := hid hkp2
        clear hX hkey hlx hRv hat hg2 hs2 hrg hlt hrg2 hkp2 hkp hx9 hxC
        cases bo
        · go_wp2_with fail
          go_roundw
          case rel => exact ⟨_, cnt2, Hrg.out, by congr 1; exact (Hbad.out Hbo.out.symm).symm, Hkp.out⟩
          case measure => rw [Hrg.out.left_eq, Hold.out.left_eq]; exact Hlt.out
        · go_wp2_with fail
          (with_reducible refine (qn _).mono ?_)
          rintro e w3 ⟨rfl, k3⟩
          have Hk3 := hid k3
          clear k3
          go_wp2_with fail
          go_roundw
          case rel => exact ⟨_, cnt2, Hrg.out.kept (row := none) ⟨Hk3.out.os, Hk3.out.tape, Hk3.out.output, Hk3.out.size, fun i hi _ => Hk3.out.block i hi (by simp)⟩ (by simp) (by simp), by congr 1; exact (Hst.out Hbo.out.symm).symm, Hkp.out.nil Hk3.out⟩
          case measure =>
            rw [(Hrg.out.kept (row := none) ⟨Hk3.out.os, Hk3.out.tape, Hk3.out.output, Hk3.out.size, fun i hi _ => Hk3.out.block i hi (by simp)⟩ (by simp) (by simp)).left_eq, Hold.out.left_eq]; exact Hlt.out
end Go.Proofs.YtgjffkblhhkjmaaDoor
