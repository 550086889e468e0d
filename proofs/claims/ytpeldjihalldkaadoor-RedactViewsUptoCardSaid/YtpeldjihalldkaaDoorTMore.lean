/- RedactMore: what is hidden from a clearance is hidden from any lesser one; no fewer bytes for a greater one. -/
import Derived.Test.YtpeldjihalldkaaDoorRL
import Derived.Test.YtpeldjihalldkaaDoorRM
import Derived.Test.YtpeldjihalldkaaDoorTCardBase
namespace Go.Proofs.YtpeldjihalldkaaDoor
open Go Go.RowKit Go.Lib

set_option maxRecDepth 100000 in
set_option maxHeartbeats 12800000 in
theorem more_any (w : World) (A : Option Addr) (c : Nat) (l : List Itm) (hl : ItemsAt w A c l) (a b : Nat) (ha : a < 18446744073709551616) (hb : b < 18446744073709551616) :
    Calls Tryd.prog 7 #[.slice A l.length c, .int .u64 (a : Int), .int .u64 (b : Int)] w fun e w' => e = .returned (.bool true) ∧ Kp [] w w' := by
  have q1 := shown9_any w
  have q2 := fun W (k : Kp [] w W) => built_any W A c l (hl.kept k)
  have hand := u64_and_nat a b (by simpa using ha) (by simpa using hb)
  have hab : a &&& b < 18446744073709551616 := Nat.lt_of_le_of_lt Nat.and_le_left ha
  have hid1 : ∀ m, hidB m a = true → hidB m (a &&& b) = true := fun m => hid_and
  have hid2 : ∀ m, hidB m 18446744073709551615 = true → hidB m a = true := fun m h => by
    have e : a ||| 18446744073709551615 = 18446744073709551615 := by
      have h1 : a ||| 18446744073709551615 < 2 ^ 64 := Nat.or_lt_two_pow (by omega) (by decide)
      have h2 : 18446744073709551615 ≤ a ||| 18446744073709551615 := Nat.right_le_or
      omega
    rw [← e] at h
    exact hid_or h
  obtain ⟨ab, heab⟩ : ∃ ab, ab = a &&& b := ⟨_, rfl⟩
  rw [← heab] at hand hab
  simp only [← heab] at hid1
  have H0 := hid (And.intro hid1 (And.intro hid2 (And.intro ha hab)))
  obtain ⟨N, hN⟩ : ∃ N, N = l.length := ⟨_, rfl⟩
  rw [← hN] at q2 ⊢
  clear heab hl hb hid1 hid2 hab ha hN
  go_enter Tryd.func7, Tryd.ntmps7
  go_wp2_with fail
  (with_reducible refine q1.mono ?_)
  rintro e w1 ⟨rfl, k1⟩
  have qb := q2 _ k1
  have HK1 := hid k1
  clear k1 q1 q2
  go_wp2_with fail
  (with_reducible refine qb.mono ?_)
  rintro e w2 ⟨v, cs, rfl, hrs, hf, hz, k2⟩
  have hrep := hrs.rep
  have HK2 := hid (HK1.out.nil k2)
  have qv := fun W (k : Kp [] w2 W) cl hcl => view_any hrep hf (by omega) W k cl hcl
  have qh := fun W (k : Kp [] w2 W) cl (hcl : cl < 18446744073709551616) => hidden_any hrep hf W cl hcl
  have qa := fun W (k : Kp [] w2 W) => alike_any (hrep.kept k) (hrep.kept k) hf hf a H0.out.2.2.1
  rw [alike_refl] at qa
  have e1 : (showL ab [35] v).length ≤ (showL a [35] v).length := show_le H0.out.1 v hf
  have e2 : (showL a [35] v).length ≤ (showL 18446744073709551615 [35] v).length := show_le H0.out.2.1 v hf
  have hR := hrep
  cases hrep with
  | mk k m num t keys kids code A' ck B cb ks hA hB hr =>
    have e3 := show_sign a hf
    have hh : hidB m a = true → hidB m ab = true := H0.out.1 m
    dsimp only at qh
    have qh1 : ∀ W, Kp [] w2 W → ∀ cl : Nat, cl < 18446744073709551616 → Calls Tryd.prog 16 #[.agg (vC k m (vN num) (vD num) (vS num) t A' keys.length ck B kids.length cb code).toArray, .int .u64 (cl : Int)] W fun e w' => e = .returned (.bool (hidB m cl)) ∧ Kp [] W w' :=
      fun W kk cl hcl => (qh W kk cl hcl).mono fun e w' ⟨⟨b, h1, h2⟩, h3⟩ => ⟨by rw [h1, h2], h3⟩
    obtain ⟨L1, hL1⟩ : ∃ L, L = showL ab [35] (.mk k m num t keys kids code) := ⟨_, rfl⟩
    obtain ⟨L2, hL2⟩ : ∃ L, L = showL a [35] (.mk k m num t keys kids code) := ⟨_, rfl⟩
    obtain ⟨L3, hL3⟩ : ∃ L, L = showL 18446744073709551615 [35] (.mk k m num t keys kids code) := ⟨_, rfl⟩
    have v1 := fun W kk => qv W kk ab H0.out.2.2.2
    have v2 := fun W kk => qv W kk a H0.out.2.2.1
    have v3 := fun W kk => qv W kk 18446744073709551615 (by decide)
    simp only [Int.cast_ofNat_Int] at v3
    have h1 := fun W kk => qh1 W kk a H0.out.2.2.1
    have h2 := fun W kk => qh1 W kk ab H0.out.2.2.2
    obtain ⟨p, hp⟩ : ∃ p, p = hidB m a := ⟨_, rfl⟩
    obtain ⟨p2, hp2⟩ : ∃ p, p = hidB m ab := ⟨_, rfl⟩
    rw [← hL2, ← hp] at e3
    rw [← hL1, ← hL2] at e1
    rw [← hL2, ← hL3] at e2
    simp only [← hL1] at v1
    simp only [← hL2] at v2
    simp only [← hL3] at v3
    simp only [← hp] at h1
    simp only [← hp2] at h2
    rw [← hp, ← hp2] at hh
    have s1 : (⟨L1.toArray⟩ : ByteArray).size = L1.length := size_mk _
    have s2 : (⟨L2.toArray⟩ : ByteArray).size = L2.length := size_mk _
    have s3 : (⟨L3.toArray⟩ : ByteArray).size = L3.length := size_mk _
    have z1 : decide ((L1.length : Int) ≤ (L2.length : Int)) = true := decide_eq_true (by omega)
    have z1n : decide (L1.length ≤ L2.length) = true := decide_eq_true e1
    have z2 : decide ((L2.length : Int) ≤ (L3.length : Int)) = true := decide_eq_true (by omega)
    have z2n : decide (L2.length ≤ L3.length) = true := decide_eq_true e2
    clear qv qh qh1 hL1 hL2 hL3 hp hp2 hA hB hr hf hz hrs hR e1 e2 k2
    unfold vC at v1 v2 v3 h1 h2 qa ⊢
    obtain ⟨nk, hnk⟩ : ∃ x, x = keys.length := ⟨_, rfl⟩
    obtain ⟨nb, hnb⟩ : ∃ x, x = kids.length := ⟨_, rfl⟩
    simp only [← hnk, ← hnb] at v1 v2 v3 h1 h2 qa ⊢
    clear hnk hnb
    obtain ⟨W0, hW0⟩ : ∃ W0, W0 = w2.alloc (.cells #[.int .i64 (k : Int), .int .u64 (m : Int), .bool (vN num), .string ⟨(vD num).toArray⟩, .int .i64 (vS num), .string ⟨t.toArray⟩, .slice A' nk ck, .slice B nb cb, .int .i64 (code : Int)] 31) := ⟨_, rfl⟩
    have hk0 : Kp [] w2 W0 := by rw [hW0]; exact (Kp.refl _ _).alloc _
    have hc0 : Cells W0 w2.heap.size 31 [.int .i64 (k : Int), .int .u64 (m : Int), .bool (vN num), .string ⟨(vD num).toArray⟩, .int .i64 (vS num), .string ⟨t.toArray⟩, .slice A' nk ck, .slice B nb cb, .int .i64 (code : Int)] := by rw [hW0]; exact Cells.fresh w2 31 _
    have HW := hid hW0
    clear hW0
    go_wp2_with fail
    rw [← HW.out]
    have hk := hk0
    have hc := hc0
    have x0 := hc.cell 0
    have x1 := hc.cell 1
    have x2 := hc.cell 2
    have x3 := hc.cell 3
    have x4 := hc.cell 4
    have x5 := hc.cell 5
    have x6 := hc.cell 6
    have x7 := hc.cell 7
    have x8 := hc.cell 8
    (with_reducible refine (v1 _ hk).mono ?_)
    rintro e u1 ⟨rfl, k1⟩
    have hk := hk.nil k1
    have hc := hc.keep k1 (by simp)
    clear x0 x1 x2 x3 x4 x5 x6 x7 x8
    have x0 := hc.cell 0
    have x1 := hc.cell 1
    have x2 := hc.cell 2
    have x3 := hc.cell 3
    have x4 := hc.cell 4
    have x5 := hc.cell 5
    have x6 := hc.cell 6
    have x7 := hc.cell 7
    have x8 := hc.cell 8
    clear k1 v1 hk0 hc0
    go_wp2_with fail
    (with_reducible refine (v2 _ hk).mono ?_)
    rintro e u2 ⟨rfl, k2⟩
    have hk := hk.nil k2
    have hc := hc.keep k2 (by simp)
    clear x0 x1 x2 x3 x4 x5 x6 x7 x8
    have x0 := hc.cell 0
    have x1 := hc.cell 1
    have x2 := hc.cell 2
    have x3 := hc.cell 3
    have x4 := hc.cell 4
    have x5 := hc.cell 5
    have x6 := hc.cell 6
    have x7 := hc.cell 7
    have x8 := hc.cell 8
    clear k2 v2
    go_wp2_with fail
    (with_reducible refine (v3 _ hk).mono ?_)
    rintro e u3 ⟨rfl, k3⟩
    have hk := hk.nil k3
    have hc := hc.keep k3 (by simp)
    clear x0 x1 x2 x3 x4 x5 x6 x7 x8
    have x0 := hc.cell 0
    have x1 := hc.cell 1
    have x2 := hc.cell 2
    have x3 := hc.cell 3
    have x4 := hc.cell 4
    have x5 := hc.cell 5
    have x6 := hc.cell 6
    have x7 := hc.cell 7
    have x8 := hc.cell 8
    clear k3 v3
    cases p with
    | false =>
      have h1' := h1
      go_wp2_with fail
      (with_reducible refine (h1 _ hk).mono ?_)
      rintro e u4 ⟨rfl, k4⟩
      have hk := hk.nil k4
      have hc := hc.keep k4 (by simp)
      clear x0 x1 x2 x3 x4 x5 x6 x7 x8
      have x0 := hc.cell 0
      have x1 := hc.cell 1
      have x2 := hc.cell 2
      have x3 := hc.cell 3
      have x4 := hc.cell 4
      have x5 := hc.cell 5
      have x6 := hc.cell 6
      have x7 := hc.cell 7
      have x8 := hc.cell 8
      clear k4 h1
      go_wp2_with fail
      (with_reducible refine (qa _ hk).mono ?_)
      rintro e u5 ⟨rfl, k5⟩
      have hk := hk.nil k5
      have hc := hc.keep k5 (by simp)
      clear x0 x1 x2 x3 x4 x5 x6 x7 x8
      have x0 := hc.cell 0
      have x1 := hc.cell 1
      have x2 := hc.cell 2
      have x3 := hc.cell 3
      have x4 := hc.cell 4
      have x5 := hc.cell 5
      have x6 := hc.cell 6
      have x7 := hc.cell 7
      have x8 := hc.cell 8
      clear k5 qa
      go_wp2_with fail
      (with_reducible refine (h1' _ hk).mono ?_)
      rintro e u6 ⟨rfl, k6⟩
      have hk := hk.nil k6
      have hc := hc.keep k6 (by simp)
      clear x0 x1 x2 x3 x4 x5 x6 x7 x8
      have x0 := hc.cell 0
      have x1 := hc.cell 1
      have x2 := hc.cell 2
      have x3 := hc.cell 3
      have x4 := hc.cell 4
      have x5 := hc.cell 5
      have x6 := hc.cell 6
      have x7 := hc.cell 7
      have x8 := hc.cell 8
      clear k6 h1'
      clear x0 x1 x2 x3 x4 x5 x6 x7 x8
      have HKE := hid (HK2.out.nil hk)
      clear hk hc
      go_wp2_with fail
      go_ret
      exact ⟨rfl, HKE.out⟩
    | true =>
      have hp2 : p2 = true := hh rfl
      subst hp2
      have h1' := h1
      go_wp2_with fail
      (with_reducible refine (h1 _ hk).mono ?_)
      rintro e u4 ⟨rfl, k4⟩
      have hk := hk.nil k4
      have hc := hc.keep k4 (by simp)
      clear x0 x1 x2 x3 x4 x5 x6 x7 x8
      have x0 := hc.cell 0
      have x1 := hc.cell 1
      have x2 := hc.cell 2
      have x3 := hc.cell 3
      have x4 := hc.cell 4
      have x5 := hc.cell 5
      have x6 := hc.cell 6
      have x7 := hc.cell 7
      have x8 := hc.cell 8
      clear k4 h1
      go_wp2_with fail
      (with_reducible refine (h2 _ hk).mono ?_)
      rintro e u5 ⟨rfl, k5⟩
      have hk := hk.nil k5
      have hc := hc.keep k5 (by simp)
      clear x0 x1 x2 x3 x4 x5 x6 x7 x8
      have x0 := hc.cell 0
      have x1 := hc.cell 1
      have x2 := hc.cell 2
      have x3 := hc.cell 3
      have x4 := hc.cell 4
      have x5 := hc.cell 5
      have x6 := hc.cell 6
      have x7 := hc.cell 7
      have x8 := hc.cell 8
      clear k5 h2
      go_wp2_with fail
      (with_reducible refine (qa _ hk).mono ?_)
      rintro e u6 ⟨rfl, k6⟩
      have hk := hk.nil k6
      have hc := hc.keep k6 (by simp)
      clear x0 x1 x2 x3 x4 x5 x6 x7 x8
      have x0 := hc.cell 0
      have x1 := hc.cell 1
      have x2 := hc.cell 2
      have x3 := hc.cell 3
      have x4 := hc.cell 4
      have x5 := hc.cell 5
      have x6 := hc.cell 6
      have x7 := hc.cell 7
      have x8 := hc.cell 8
      clear k6 qa
      go_wp2_with fail
      (with_reducible refine (h1' _ hk).mono ?_)
      rintro e u7 ⟨rfl, k7⟩
      have hk := hk.nil k7
      have hc := hc.keep k7 (by simp)
      clear x0 x1 x2 x3 x4 x5 x6 x7 x8
      have x0 := hc.cell 0
      have x1 := hc.cell 1
      have x2 := hc.cell 2
      have x3 := hc.cell 3
      have x4 := hc.cell 4
      have x5 := hc.cell 5
      have x6 := hc.cell 6
      have x7 := hc.cell 7
      have x8 := hc.cell 8
      clear k7 h1'
      clear x0 x1 x2 x3 x4 x5 x6 x7 x8
      have HKE := hid (HK2.out.nil hk)
      clear hk hc
      go_wp2_with fail
      go_ret
      exact ⟨rfl, HKE.out⟩
theorem u64_nat {a : Int} (h : 0 ≤ a ∧ a ≤ 18446744073709551615) : ∃ n : Nat, a = (n : Int) ∧ n < 18446744073709551616 := ⟨a.toNat, by omega, by omega⟩
theorem more_law (W : World) (_ : Tabs W) (A : Option Addr) (n c : Nat) (l : List Itm) (x : ItemsAt W A c l) (y : l.length = n) (a : Int) (ha : 0 ≤ a ∧ a ≤ 18446744073709551615) (b : Int) (hb : 0 ≤ b ∧ b ≤ 18446744073709551615) :
    Calls Tryd.prog 7 #[.slice A n c, .int .u64 a, .int .u64 b] W fun e w' => e = .returned (.bool true) ∧ Kp [] W w' := by
  subst y
  obtain ⟨a, rfl, ha'⟩ := u64_nat ha
  obtain ⟨b, rfl, hb'⟩ := u64_nat hb
  exact more_any W A c l x a b ha' hb'
end Go.Proofs.YtpeldjihalldkaaDoor
