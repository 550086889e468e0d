/- CatsMasks, walked: names are read as a mask, and a mask is written as names, as the document says. -/
import Derived.Test.YtgjffkblhhkjmaaDoorCFew
import Derived.Test.YtgjffkblhhkjmaaDoorCCards
namespace Go.Proofs.YtgjffkblhhkjmaaDoor
open Go Go.RowKit Go.Maps

def mN (o : Option Nat) : Nat := match o with | some m => m | none => 0
def mE (o : Option Nat) : Int := match o with | some _ => 0 | none => 20
theorem maskV_is (o : Option Nat) : maskV o = .tuple #[.int .u64 ((mN o : Nat) : Int), .int .i64 (mE o)] := by cases o <;> rfl
def exC : List Txt := [[112, 105, 105], [103, 101, 111], [109, 101, 100]]
theorem ex_mask : maskL exC [109, 101, 100, 32, 32, 112, 105, 105] = some 5 := by decide +kernel
set_option maxRecDepth 100000 in
set_option maxHeartbeats 6400000 in
theorem shown6_any (w : World) (hml : ML w) : Calls Tryd.prog 12 #[] w fun e w' => e = .returned (.bool true) ∧ Kp [] w w' := by
  have hrow : Cells (w.alloc (.cells (strs exC).toArray 9)) w.heap.size 9 (strs exC) := Cells.fresh _ _ _
  have k0 : Kp [] w (w.alloc (.cells (strs exC).toArray 9)) := (Kp.refl _ _).alloc _
  have hS : Strs (w.alloc (.cells (strs exC).toArray 9)) (some ⟨w.heap.size, 0, none⟩) 3 exC := ⟨Span.of_cells hrow, by decide, by decide, by decide, by decide⟩
  have q := cmask_any _ _ _ exC hS (by decide) (by decide) (by decide) [109, 101, 100, 32, 32, 112, 105, 105] (by decide) (hml.kept k0)
  rw [ex_mask] at q
  have hw1 := fun W => cwithin_any W 5 7 (by decide) (by decide)
  have hw2 := fun W => cwithin_any W 5 4 (by decide) (by decide)
  have e1 : decide (5 ||| 7 = 7) = true := by decide
  have e2 : decide (5 ||| 4 = 4) = false := by decide
  rw [e1] at hw1
  rw [e2] at hw2
  have Hk0 := hid k0
  clear e1 e2 hrow k0 hS
  go_enter Tryd.func12, Tryd.ntmps12
  go_wp2_with fail
  refine q.mono ?_
  rintro e w1 ⟨rfl, k1⟩
  have Hk1 := hid k1
  clear k1 q
  unfold maskV
  go_wp2_with fail
  refine (hw1 _).mono ?_
  rintro e w2 ⟨rfl, rfl⟩
  go_wp2_with fail
  refine (hw2 _).mono ?_
  rintro e w2 ⟨rfl, rfl⟩
  go_wp2_with fail
  go_ret
  exact ⟨rfl, Hk0.out.nil Hk1.out⟩

def cut500 (L : Txt) : Txt := if 500 < L.length then L.take 500 else L
theorem cut500_len (L : Txt) : (cut500 L).length ≤ 500 := by
  unfold cut500
  split
  · rw [List.length_take]; omega
  · omega
theorem nat_of {a : Int} (h : 0 ≤ a ∧ a ≤ 18446744073709551615) : ∃ M : Nat, a = (M : Int) ∧ M < 2 ^ 64 := ⟨a.toNat, by omega, by have : (2 : Nat) ^ 64 = 18446744073709551616 := rfl; omega⟩
set_option maxRecDepth 100000 in
set_option maxHeartbeats 6400000 in
theorem cmasks_card (W : World) (tabs : Tabs W) (A : Option Addr) (n c : Nat) (C : List Txt) (hC : Raws W A c C) (hn : C.length = n) (s : ByteArray) (ws : s.size ≤ maxLen) (a : Int) (ha : 0 ≤ a ∧ a ≤ 18446744073709551615) :
    Calls Tryd.prog 3 #[.slice A n c, .string s, .int .u64 a] W fun e W' => e = .returned (.bool true) ∧ Kp [] W W' := by
  subst hn
  obtain ⟨M, rfl, hM⟩ := nat_of ha
  obtain ⟨L, rfl⟩ : ∃ L : Txt, s = ⟨L.toArray⟩ := ⟨s.data.toList, by cases s; simp⟩
  have hL : L.length ≤ 9223372036854775807 := by rw [size_mk] at ws; unfold maxLen at ws; exact ws
  have hsz : (⟨L.toArray⟩ : ByteArray).size = L.length := size_mk _
  have qs := shown6_any W tabs
  have Ht := hid tabs
  have HC := hid hC
  clear ws ha tabs hC
  go_enter Tryd.func3, Tryd.ntmps3
  go_wp2_with fail
  (with_reducible refine qs.mono ?_)
  rintro e w1 ⟨rfl, k1⟩
  have qf := few6_any w1 A c C (HC.out.kept k1)
  have Hk1 := hid k1
  clear k1 qs
  go_wp2_with fail
  (with_reducible refine qf.mono ?_)
  rintro e w2 ⟨v, rfl, ho, k2⟩
  obtain ⟨A2, c2, rfl, hS⟩ := Strs.of_own ho (by have := few_count C; omega) (few_short C)
  have Hk2 := hid (Hk1.out.nil k2)
  obtain ⟨D, hD⟩ : ∃ D, D = fewC C := ⟨_, rfl⟩
  rw [← hD] at hS ⊢
  have qm := rmay6_any w2 A2 c2 D hS
  obtain ⟨r, hr⟩ : ∃ r, r = mayC D := ⟨_, rfl⟩
  rw [← hr] at qm
  have HS := hid hS
  clear k2 ho hS hD qf
  by_cases hr0 : r = 0
  · obtain ⟨h64, hnd, hnm⟩ := may_zero (hr.symm.trans hr0)
    have hne : [] ∉ D := fun h => (name_ne (hnm _ h)).1 rfl
    have h5 := cut500_len L
    have qa := fun W2 (k : Kp [] W W2) (k2 : Kp [] w2 W2) => cmask_any W2 A2 c2 D (HS.out.kept k2) hnd h64 hne (cut500 L) (by omega) (Ht.out.kept k)
    have qb := fun W2 (k2 : Kp [] w2 W2) => rmask_any W2 A2 c2 D (HS.out.kept k2) h64 (cut500 L) (by omega)
    have qc := fun W2 (k2 : Kp [] w2 W2) => cnames_any W2 A2 c2 D (HS.out.kept k2) h64 M hM
    have qd := fun W2 (k2 : Kp [] w2 W2) => rnames_any W2 A2 c2 D (HS.out.kept k2) h64 hne M hM
    obtain ⟨O, hO⟩ : ∃ O, O = maskL D (cut500 L) := ⟨_, rfl⟩
    simp only [← hO, maskV_is] at qa qb
    obtain ⟨J, hJ⟩ : ∃ J, J = joinB (namesL D M) := ⟨_, rfl⟩
    simp only [← hJ] at qc qd
    have he := extract_mk L 0 500
    rw [List.drop_zero] at he
    obtain ⟨L5, hL5⟩ : ∃ X, X = cut500 L := ⟨_, rfl⟩
    simp only [← hL5] at qa qb
    have HL5 := hid hL5
    obtain ⟨om, hom⟩ : ∃ x, x = mN O := ⟨_, rfl⟩
    obtain ⟨oe, hoe⟩ : ∃ x, x = mE O := ⟨_, rfl⟩
    simp only [← hom, ← hoe] at qa qb
    subst hr0
    clear hr h64 hnd hnm hne h5 hO hJ hL5 hom hoe
    go_wp2_with fail
    (with_reducible refine qm.mono ?_)
    rintro e w3 ⟨rfl, rfl⟩
    go_upto_if 21 with fail
    go_cut [1, 21] (fun v _ wx => v = .string ⟨L5.toArray⟩ ∧ wx = w3)
    case first => as_aux_lemma =>
      by_cases h : 500 < L.length
      · have Hr := hid (show L5 = L.take 500 by rw [HL5.out]; unfold cut500; rw [if_pos h])
        go_wp2_with fail
        go_meet
        exact ⟨by rw [Hr.out], rfl⟩
      · have Hr := hid (show L5 = L by rw [HL5.out]; unfold cut500; rw [if_neg h])
        go_wp2_with fail
        go_meet
        exact ⟨by rw [Hr.out], rfl⟩
    case rest =>
      obtain ⟨rfl, rfl⟩ := hcut
      clear he qm
      have q1 := qa _ Hk2.out (Kp.refl _ _)
      go_wp2_with fail
      (with_reducible refine q1.mono ?_)
      rintro e w4 ⟨rfl, k4⟩
      have q2 := qb w4 k4
      have Hk4 := hid k4
      clear k4 q1 qa qb
      go_wp2_with fail
      (with_reducible refine q2.mono ?_)
      rintro e w5 ⟨rfl, k5⟩
      have q3 := qc w5 (Hk4.out.nil k5)
      have Hk5 := hid (Hk4.out.nil k5)
      clear k5 q2 qc
      go_wp2_with fail
      (with_reducible refine q3.mono ?_)
      rintro e w6 ⟨rfl, k6⟩
      have q4 := qd w6 (Hk5.out.nil k6)
      have Hk6 := hid (Hk5.out.nil k6)
      clear k6 q3 qd
      go_wp2_with fail
      (with_reducible refine q4.mono ?_)
      rintro e w7 ⟨rfl, rfl⟩
      go_wp2_with fail
      go_ret
      exact ⟨rfl, Hk2.out.nil Hk6.out⟩
  · have bn : (r != 0) = true := by rw [bne_iff_ne]; exact hr0
    clear hr hr0
    go_wp2_with fail
    (with_reducible refine qm.mono ?_)
    rintro e w3 ⟨rfl, rfl⟩
    go_wp2_with fail
    go_ret
    exact ⟨rfl, Hk2.out⟩
end Go.Proofs.YtgjffkblhhkjmaaDoor
