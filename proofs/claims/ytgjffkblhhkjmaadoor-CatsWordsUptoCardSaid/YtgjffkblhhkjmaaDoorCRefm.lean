/- Layer 6, the document's answer: names read as a mask, a mask written as names. -/
import Derived.Test.YtgjffkblhhkjmaaDoorCWords
namespace Go.Proofs.YtgjffkblhhkjmaaDoor
open Go Go.RowKit Go.Maps

theorem maskW_place (C : List Txt) (x : Txt) (M : Nat) : maskW C [x] M = if placeL C x < 0 then none else some (M ||| 2 ^ (placeL C x).toNat) := by
  unfold placeL
  rw [maskW]
  cases h : C.findIdx? (· == x) with
  | none => rfl
  | some i =>
    show some (M ||| 2 ^ i) = if (i : Int) < 0 then none else some (M ||| 2 ^ (i : Int).toNat)
    rw [if_neg (by omega), Int.toNat_natCast]
theorem maskW_take (C : List Txt) (ws : List Txt) (k : Nat) (h : k < ws.length) : maskW C (ws.take (k + 1)) 0 = (maskW C (ws.take k) 0).bind fun M => maskW C [ws[k]] M := by
  rw [List.take_add_one, List.getElem?_eq_getElem h]
  exact maskW_snoc C _ 0 _
theorem maskW_none_on (C : List Txt) : ∀ (ws : List Txt) (m k : Nat), maskW C (ws.take k) m = none → maskW C ws m = none
  | [], m, k, h => by simpa using h
  | x :: r, m, 0, h => by simp [maskW] at h
  | x :: r, m, k + 1, h => by
    rw [List.take_succ_cons, maskW] at h
    rw [maskW]
    cases hi : C.findIdx? (· == x) with
    | none => rfl
    | some i => rw [hi] at h; exact maskW_none_on C r _ k h

set_option maxRecDepth 100000 in
set_option maxHeartbeats 6400000 in
theorem rmask_any (w : World) (A : Option Addr) (c : Nat) (C : List Txt) (hC : Strs w A c C) (h64 : C.length ≤ 64) (L : Txt) (hL : L.length ≤ 2000000) :
    Calls Tryd.prog 16 #[.slice A C.length c, .string ⟨L.toArray⟩] w fun e w' => e = .returned (maskV (maskL C L)) ∧ Kp [] w w' := by
  have hsz : (⟨L.toArray⟩ : ByteArray).size = L.length := size_mk _
  have qp := fun W (k : Kp [] w W) X => place_any W A c C (hC.kept k) X
  have qw := rwords_any w L (by omega)
  obtain ⟨Ws, hWs⟩ : ∃ P, P = wordsL L := ⟨_, rfl⟩
  have hWl : Ws.length ≤ 2000001 := by rw [hWs]; have := words_count L; omega
  obtain ⟨n, hn⟩ : ∃ n, n = C.length := ⟨_, rfl⟩
  obtain ⟨N, hN⟩ : ∃ N, N = Ws.length := ⟨_, rfl⟩
  simp only [← hWs, ← hN] at qw
  simp only [← hn] at qp
  rw [← hn] at h64 ⊢
  rw [← hN] at hWl
  obtain ⟨r, hr⟩ : ∃ r, r = maskV (maskL C L) := ⟨_, rfl⟩
  rw [← hr]
  have HP := hid (And.intro hWs (And.intro hn (And.intro hN hr)))
  clear hWs hn hN hr
  go_enter Tryd.func16, Tryd.ntmps16
  go_wp2_with fail
  (with_reducible refine qw.mono ?_)
  rintro e w1 ⟨v, rfl, ho, k1⟩
  obtain ⟨B, d, rfl, hsp, hd, -, -⟩ := ho.shape
  have Hk1 := hid k1
  have Hsp := hid hsp
  clear ho k1 hsp qw
  go_wp2_with fail
  go_loopw [6, 8] (fun v6 v8 wr => wr = w1 ∧ ∃ k M : Nat, k ≤ N ∧ v8 = .int .i64 (k : Int) ∧ v6 = .int .u64 (M : Int) ∧ M < 2 ^ 64 ∧ maskW C (Ws.take k) 0 = some M) (fun _ v8 _ => N - (intOf v8).toNat)
  case atStart => exact ⟨rfl, 0, 0, Nat.zero_le _, rfl, rfl, by decide, rfl⟩
  case round =>
    obtain ⟨hwr, k, M, hk, rfl, rfl, hM, hmask⟩ := hrel
    have hwr2 := hwr.symm
    subst hwr2
    have HM := hid hmask
    clear hmask
    by_cases hlt : k < N
    · have hkW : k < Ws.length := by rw [← HP.out.2.2.1]; exact hlt
      obtain ⟨ad, hA, hcl⟩ := Hsp.out.get (j := k) (by rw [length_strs]; exact hkW)
      subst hA
      have hst := maskW_take C Ws k hkW
      have hnone := maskW_none_on C Ws 0 (k + 1)
      rw [HM.out, Option.bind_some, maskW_place] at hst
      obtain ⟨X, hX⟩ : ∃ X, X = Ws[k]'hkW := ⟨_, rfl⟩
      have hcl2 : w1.cell? (ad.add k) = some (Value.string ⟨X.toArray⟩) := by
        rw [hcl]
        simp [strs, hX]
      rw [← hX] at hst
      have qx := qp w1 Hk1.out X
      have hpb := place_bounds C X
      obtain ⟨p, hp⟩ : ∃ p, p = placeL C X := ⟨_, rfl⟩
      rw [← hp] at qx hst hpb
      have hpn : p ≤ (n : Int) := by rw [HP.out.2.1]; exact hpb.2
      have hp64 : p < 64 ∨ p = 64 := by omega
      have hplt : 0 ≤ p → p < 64 := by
        intro h0
        rw [hp]
        unfold placeL
        unfold placeL at hp
        cases hi : C.findIdx? (· == X) with
        | none => exact (by decide : (-1 : Int) < 64)
        | some i =>
          have := (List.findIdx?_eq_some_iff_getElem.1 hi).1
          rw [← HP.out.2.1] at this
          show (i : Int) < 64
          omega
      clear hcl hX hp hpb hp64
      by_cases hneg : p < 0
      · have hr : r = maskV none := by
          rw [HP.out.2.2.2]
          congr 1
          unfold maskL
          rw [← HP.out.1]
          exact hnone (by rw [hst, if_pos hneg])
        have Hr := hid hr
        have bn : decide (p < 0) = true := decide_eq_true hneg
        clear hst hnone hr hplt
        go_wp2_with fail
        (with_reducible refine qx.mono ?_)
        rintro e w2 ⟨rfl, rfl⟩
        go_wp2_with fail
        go_ret2
        exact ⟨by rw [Hr.out]; rfl, Hk1.out⟩
      · obtain ⟨i, hi⟩ : ∃ i : Nat, p = (i : Int) := ⟨p.toNat, by omega⟩
        have hi64 : i < 64 := by have := hplt (by omega); omega
        rw [if_neg hneg, hi, Int.toNat_natCast] at hst
        have hor := u64_or_nat M (2 ^ i) (by simpa using hM) (by have : 2 ^ i < 2 ^ 64 := Nat.pow_lt_pow_right (by decide) hi64; simpa using this)
        have hM2 : M ||| 2 ^ i < 2 ^ 64 := Nat.or_lt_two_pow hM (Nat.pow_lt_pow_right (by decide) hi64)
        obtain ⟨M2, hM2e⟩ : ∃ m, m = M ||| 2 ^ i := ⟨_, rfl⟩
        rw [← hM2e] at hor hM2 hst
        have Hst := hid hst
        have hsh := shl_one i hi64
        obtain ⟨Bt, hB⟩ : ∃ B, B = 2 ^ i := ⟨_, rfl⟩
        rw [← hB] at hor hsh
        have hi63 : (i : Int) ≤ 64 := by omega
        subst hi
        have bn : decide ((i : Int) < 0) = false := decide_eq_false hneg
        clear hst hnone hplt hB hM2e hneg hpn
        go_wp2_with fail
        (with_reducible refine qx.mono ?_)
        rintro e w2 ⟨rfl, rfl⟩
        go_wp2_with fail
        go_roundw
        case rel => exact ⟨trivial, k + 1, M2, by omega, by go_num, by first | rfl | congr 1, hM2, Hst.out⟩
        case measure => simp [intOf]; omega
    · have hkN : k = N := by omega
      have hr : r = maskV (some M) := by
        rw [HP.out.2.2.2]
        congr 1
        unfold maskL
        have h := HM.out
        rw [hkN, HP.out.2.2.1, List.take_length, HP.out.1] at h
        exact h
      have Hr := hid hr
      clear hr
      go_wp2_with fail
      go_ret2
      exact ⟨by rw [Hr.out]; rfl, Hk1.out⟩

theorem joinB_snoc : ∀ (X : List Txt) (x : Txt), joinB (X ++ [x]) = if X = [] then x else joinB X ++ 32 :: x
  | [], x => rfl
  | [y], x => rfl
  | y :: z :: r, x => by
    have ih := joinB_snoc (z :: r) x
    rw [if_neg (by simp)] at ih ⊢
    show y ++ 32 :: joinB (z :: r ++ [x]) = (y ++ 32 :: joinB (z :: r)) ++ 32 :: x
    rw [ih]
    simp
theorem joinB_nil : ∀ (X : List Txt), (∀ x ∈ X, x ≠ []) → (joinB X = [] ↔ X = [])
  | [], _ => by simp [joinB]
  | [y], h => by have := h y (by simp); simp [joinB, this]
  | y :: z :: r, h => by
    simp only [reduceCtorEq, iff_false]
    show ¬ y ++ 32 :: joinB (z :: r) = []
    simp
end Go.Proofs.YtgjffkblhhkjmaaDoor
