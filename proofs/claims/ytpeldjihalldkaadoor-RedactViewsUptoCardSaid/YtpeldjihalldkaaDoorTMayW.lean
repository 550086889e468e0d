/- Whether a policy may be: the document's answer comes back, whatever it is. -/
import Derived.Test.YtpeldjihalldkaaDoorTName
import Derived.Test.YtpeldjihalldkaaDoorTMask
namespace Go.Proofs.YtpeldjihalldkaaDoor
open Go Go.RowKit Go.Lib

theorem place_w (w : World) (A : Option Addr) (c : Nat) (C : List Txt) (hC : RawsAt w A c C) (X : Txt) :
    Calls Tryd.prog 77 #[.slice A C.length c, .string ⟨X.toArray⟩] w fun e w' => (∃ z : Int, e = .returned (.int .i64 z)) ∧ Kp [] w w' := by
  obtain ⟨n, hn⟩ : ∃ n, n = C.length := ⟨_, rfl⟩
  have l1 := hC.le
  have l2 := hC.top
  rw [← hn] at l1 ⊢
  have HC := hid (And.intro hC hn)
  clear hC hn
  go_enter Tryd.func77, Tryd.ntmps77
  go_wp2_with fail
  go_loopw [5] (fun vi wr => ∃ i : Nat, i ≤ n ∧ vi = .int .i64 (i : Int) ∧ Kp [] w wr) (fun vi _ => n - (RowKit.intOf vi).toNat)
  case atStart => exact ⟨0, Nat.zero_le _, rfl, Kp.refl _ _⟩
  case round =>
    obtain ⟨i, hi, rfl, hk⟩ := hrel
    by_cases hlt : i < n
    · obtain ⟨hC, hn⟩ := HC.out
      obtain ⟨x, hx⟩ : ∃ x, C[i]? = some x := ⟨_, List.getElem?_eq_getElem (by omega)⟩
      obtain ⟨ad, rfl, c1⟩ := (hC.kept hk).at_ i x hx
      have z1 : decide ((i : Int) < (n : Int)) = true := decide_eq_true (by omega)
      have z1n : decide (i < n) = true := decide_eq_true hlt
      have jn : (i : Int) < (n : Int) := by omega
      have HK := hid hk
      have HL := hid hlt
      clear hC hn hx hk hi hlt
      by_cases hxX : x = X
      · subst hxX
        go_wp2_with fail
        go_ret
        exact ⟨⟨_, rfl⟩, HK.out⟩
      · have z2 : (x == X) = false := beq_eq_false_iff_ne.2 hxX
        clear hxX
        go_wp2_with fail
        go_roundw
        case rel => exact ⟨i + 1, HL.out, by go_num, HK.out⟩
        case measure => have := HL.out; simp [RowKit.intOf]; omega
    · have z1 : decide ((i : Int) < (n : Int)) = false := decide_eq_false (by omega)
      have z1n : decide (i < n) = false := decide_eq_false hlt
      have HK := hid hk
      clear hk hlt hi
      go_wp2_with fail
      go_ret
      exact ⟨⟨_, rfl⟩, HK.out⟩
set_option maxHeartbeats 3200000 in
theorem may6_w (w : World) (A : Option Addr) (c : Nat) (C : List Txt) (hC : RawsAt w A c C) :
    Calls Tryd.prog 55 #[.slice A C.length c] w fun e w' => (∃ z : Int, e = .returned (.int .i64 z) ∧ (z = 0 → C.length ≤ 64)) ∧ Kp [] w w' := by
  have hpl := fun W (h : Kp [] w W) X => place_w W A c C (hC.kept h) X
  obtain ⟨n, hn⟩ : ∃ n, n = C.length := ⟨_, rfl⟩
  have l1 := hC.le
  have l2 := hC.top
  simp only [← hn] at l1 hpl ⊢
  have HC := hid (And.intro hC (And.intro hn hpl))
  clear hC hn hpl
  by_cases h64 : 64 < n
  · have z0 : decide ((64 : Int) < (n : Int)) = true := decide_eq_true (by omega)
    have z0n : decide (64 < n) = true := decide_eq_true h64
    go_enter Tryd.func55, Tryd.ntmps55
    go_wp2_with fail
    go_ret
    exact ⟨⟨3, rfl, fun h => absurd h (by decide)⟩, Kp.refl _ _⟩
  · have z0 : decide ((64 : Int) < (n : Int)) = false := decide_eq_false (by omega)
    have z0n : decide (64 < n) = false := decide_eq_false h64
    go_enter Tryd.func55, Tryd.ntmps55
    go_wp2_with fail
    go_loopw [3] (fun vi wr => ∃ i : Nat, i ≤ n ∧ vi = .int .i64 (i : Int) ∧ Kp [] w wr) (fun vi _ => n - (RowKit.intOf vi).toNat)
    case atStart => exact ⟨0, Nat.zero_le _, rfl, Kp.refl _ _⟩
    case round =>
      obtain ⟨i, hi, rfl, hk⟩ := hrel
      by_cases hlt : i < n
      · obtain ⟨hC, hn, hpl⟩ := HC.out
        obtain ⟨x, hx⟩ : ∃ x, C[i]? = some x := ⟨_, List.getElem?_eq_getElem (by omega)⟩
        have hxl := hC.short x (List.mem_of_getElem? hx)
        obtain ⟨ad, rfl, c1⟩ := (hC.kept hk).at_ i x hx
        have q1 := rname_any wr x hxl
        have q2 := hpl wr hk x
        obtain ⟨b, hb⟩ : ∃ b, b = nameL x := ⟨_, rfl⟩
        rw [← hb] at q1
        have z1 : decide ((i : Int) < (n : Int)) = true := decide_eq_true (by omega)
        have z1n : decide (i < n) = true := decide_eq_true hlt
        have jn : (i : Int) < (n : Int) := by omega
        have HK := hid hk
        have HL := hid (And.intro hlt (show n ≤ 64 by omega))
        clear hC hn hx hk hi hlt hb hpl h64 hxl
        go_wp2_with fail
        (with_reducible refine q1.mono ?_)
        rintro e w2 ⟨rfl, hw⟩
        have hw := hw.symm
        subst hw
        cases b with
        | false =>
          clear q1 q2
          go_wp2_with fail
          go_ret
          exact ⟨⟨20, rfl, fun h => absurd h (by decide)⟩, HK.out⟩
        | true =>
          clear q1
          go_wp2_with fail
          (with_reducible refine q2.mono ?_)
          rintro e w3 ⟨⟨z, rfl⟩, k3⟩
          have HK3 := hid (HK.out.nil k3)
          clear k3 q2 c1
          by_cases hz : z = (i : Int)
          · have z4 : (z != (i : Int)) = false := by rw [hz]; simp
            clear hz
            go_wp2_with fail
            go_roundw
            case rel => exact ⟨i + 1, HL.out.1, by go_num, HK3.out⟩
            case measure => have := HL.out.1; simp [RowKit.intOf]; omega
          · have z4 : (z != (i : Int)) = true := bne_iff_ne.2 hz
            clear hz
            go_wp2_with fail
            go_ret
            exact ⟨⟨20, rfl, fun h => absurd h (by decide)⟩, HK3.out⟩
      · have z1 : decide ((i : Int) < (n : Int)) = false := decide_eq_false (by omega)
        have z1n : decide (i < n) = false := decide_eq_false hlt
        have HK := hid hk
        have H64 := hid h64
        have hn := hid HC.out.2.1
        clear hk hlt hi h64
        go_wp2_with fail
        go_ret
        exact ⟨⟨0, rfl, fun _ => by have := H64.out; have := hn.out; omega⟩, HK.out⟩
theorem fuel_w (w : World) (a : Int) : Calls Tryd.prog 57 #[.int .i64 a] w fun e w' => (∃ b, e = .returned (.bool b)) ∧ w' = w := by
  by_cases h1 : 1 ≤ a
  · have z1 : decide (1 ≤ a) = true := decide_eq_true h1
    obtain ⟨b, hb⟩ : ∃ b, b = decide (a ≤ 100000) := ⟨_, rfl⟩
    have z2 := hb.symm
    clear h1 hb
    go_enter Tryd.func57, Tryd.ntmps57
    go_wp2_with fail
    go_ret
    exact ⟨⟨_, rfl⟩, rfl⟩
  · have z1 : decide (1 ≤ a) = false := decide_eq_false h1
    clear h1
    go_enter Tryd.func57, Tryd.ntmps57
    go_wp2_with fail
    go_ret
    exact ⟨⟨_, rfl⟩, rfl⟩
set_option maxHeartbeats 3200000 in
theorem stepmay_w (w : World) (t1 : Int) (x : Txt) (tn : Int) (hx : x.length ≤ 9223372036854775000) :
    Calls Tryd.prog 78 #[.agg #[.int .i64 t1, .string ⟨x.toArray⟩, .int .i64 tn]] w fun e w' => (∃ b, e = .returned (.bool b)) ∧ Kp [] w w' := by
  obtain ⟨W1, hW1⟩ : ∃ W1, W1 = w.alloc (.cells #[.int .i64 t1, .string ⟨x.toArray⟩, .int .i64 tn] 42) := ⟨_, rfl⟩
  have hk1 : Kp [] w W1 := by rw [hW1]; exact (Kp.refl _ _).alloc _
  obtain ⟨g, hg⟩ : ∃ g, g = w.heap.size := ⟨_, rfl⟩
  have hc : Cells W1 g 42 [.int .i64 t1, .string ⟨x.toArray⟩, .int .i64 tn] := by rw [hW1, hg]; exact Cells.fresh w 42 _
  have hsz : (⟨x.toArray⟩ : ByteArray).size = x.length := size_mk _
  have qv := rvalid_any W1 ⟨x.toArray⟩ (by rw [hsz]; omega)
  rw [show (⟨x.toArray⟩ : ByteArray).data.toList = x from rfl] at qv
  obtain ⟨bv, hbv⟩ : ∃ b, b = validD x := ⟨_, rfl⟩
  rw [← hbv] at qv
  have x0 := hc.cell 0
  have x1 := hc.cell 1
  have x2 := hc.cell 2
  simp only [List.getElem?_cons_zero, List.getElem?_cons_succ] at x0 x1 x2
  obtain ⟨be, hbe⟩ : ∃ b, b = x.isEmpty := ⟨_, rfl⟩
  have ze := hbe.symm
  obtain ⟨b1, hb1⟩ : ∃ b, b = (t1 == 1) := ⟨_, rfl⟩
  have z1 := hb1.symm
  obtain ⟨b2, hb2⟩ : ∃ b, b = (t1 == 2) := ⟨_, rfl⟩
  have z2 := hb2.symm
  obtain ⟨b0, hb0⟩ : ∃ b, b = (tn == 0) := ⟨_, rfl⟩
  have z0 := hb0.symm
  obtain ⟨b3, hb3⟩ : ∃ b, b = decide (0 ≤ tn) := ⟨_, rfl⟩
  have z3 := hb3.symm
  obtain ⟨b4, hb4⟩ : ∃ b, b = decide (tn ≤ 9999) := ⟨_, rfl⟩
  have z4 := hb4.symm
  obtain ⟨b5, hb5⟩ : ∃ b, b = decide (1 ≤ t1) := ⟨_, rfl⟩
  have z5 := hb5.symm
  obtain ⟨b6, hb6⟩ : ∃ b, b = decide (t1 ≤ 5) := ⟨_, rfl⟩
  have z6 := hb6.symm
  have HK1 := hid hk1
  have HW1 := hid hW1
  have HG := hid hg
  clear hk1 hc hW1 hg hbe hb1 hb2 hb0 hb3 hb4 hb5 hb6 hx hbv
  go_enter Tryd.func78, Tryd.ntmps78
  go_upto_region 1 with fail
  rw [← HW1.out]
  try simp only [← HG.out]
  go_upto_if 10 with fail
  go_cut [3] (fun v wx => (∃ b, v = .bool b) ∧ wx = W1)
  case first =>
    cases b1 with
    | false =>
      go_wp2_with fail
      go_meet
      exact ⟨⟨_, rfl⟩, rfl⟩
    | true =>
      by_cases h24 : x.length ≤ 24
      · have z7 : decide (x.length ≤ 24) = true := decide_eq_true h24
        have z7n : decide ((x.length : Int) ≤ 24) = true := decide_eq_true (by omega)
        clear h24
        go_wp2_with fail
        (with_reducible refine qv.mono ?_)
        rintro e w2 ⟨rfl, hw⟩
        subst hw
        go_wp2_with fail
        go_meet
        exact ⟨⟨_, rfl⟩, rfl⟩
      · have z7 : decide (x.length ≤ 24) = false := decide_eq_false h24
        have z7n : decide ((x.length : Int) ≤ 24) = false := decide_eq_false (by omega)
        clear h24
        go_wp2_with fail
        go_meet
        exact ⟨⟨_, rfl⟩, rfl⟩
  case' rest => obtain ⟨⟨kb, rfl⟩, hwc⟩ := hcut
  case' rest => subst wc
  clear qv ze hsz
  go_upto_if 25 with fail
  go_cut [4] (fun v wx => (∃ b, v = .bool b) ∧ wx = W1)
  case first =>
    cases b2 with
    | false =>
      go_wp2_with fail
      go_meet
      exact ⟨⟨_, rfl⟩, rfl⟩
    | true =>
      cases b3 with
      | false =>
        go_wp2_with fail
        go_meet
        exact ⟨⟨_, rfl⟩, rfl⟩
      | true =>
        go_wp2_with fail
        go_meet
        exact ⟨⟨_, rfl⟩, rfl⟩
  case' rest => obtain ⟨⟨nb, rfl⟩, hwc⟩ := hcut
  case' rest => subst wc
  cases b5 with
  | false =>
    go_wp2_with fail
    go_ret
    exact ⟨⟨_, rfl⟩, HK1.out⟩
  | true =>
    cases b6 with
    | false =>
      go_wp2_with fail
      go_ret
      exact ⟨⟨_, rfl⟩, HK1.out⟩
    | true =>
      cases kb with
      | false =>
        go_wp2_with fail
        go_ret
        exact ⟨⟨_, rfl⟩, HK1.out⟩
      | true =>
        go_wp2_with fail
        go_ret
        exact ⟨⟨_, rfl⟩, HK1.out⟩
set_option maxHeartbeats 3200000 in
theorem may7_w (w : World) (A : Option Addr) (c : Nat) (l : List StI) (hl : PathAt w A c l) (hs : ∀ s ∈ l, s.2.1.length ≤ 9223372036854775000) :
    Calls Tryd.prog 56 #[.slice A l.length c] w fun e w' => (∃ z : Int, e = .returned (.int .i64 z)) ∧ Kp [] w w' := by
  obtain ⟨n, hn⟩ : ∃ n, n = l.length := ⟨_, rfl⟩
  have l1 := hl.le
  have l2 := hl.top
  rw [← hn] at l1 ⊢
  have HC := hid (And.intro hl (And.intro hn hs))
  clear hl hn hs
  by_cases h8 : 8 < n
  · have z0 : decide ((8 : Int) < (n : Int)) = true := decide_eq_true (by omega)
    have z0n : decide (8 < n) = true := decide_eq_true h8
    go_enter Tryd.func56, Tryd.ntmps56
    go_wp2_with fail
    go_ret
    exact ⟨⟨_, rfl⟩, Kp.refl _ _⟩
  · have z0 : decide ((8 : Int) < (n : Int)) = false := decide_eq_false (by omega)
    have z0n : decide (8 < n) = false := decide_eq_false h8
    go_enter Tryd.func56, Tryd.ntmps56
    go_wp2_with fail
    go_loopw [3] (fun vi wr => ∃ i : Nat, i ≤ n ∧ vi = .int .i64 (i : Int) ∧ Kp [] w wr) (fun vi _ => n - (RowKit.intOf vi).toNat)
    case atStart => exact ⟨0, Nat.zero_le _, rfl, Kp.refl _ _⟩
    case round =>
      obtain ⟨i, hi, rfl, hk⟩ := hrel
      by_cases hlt : i < n
      · obtain ⟨hl, hn, hs⟩ := HC.out
        obtain ⟨t, ht⟩ : ∃ t, l[i]? = some t := ⟨_, List.getElem?_eq_getElem (by omega)⟩
        have htl := hs t (List.mem_of_getElem? ht)
        obtain ⟨t1, tx, tn⟩ := t
        obtain ⟨ad, rfl, p0, p1, p2⟩ := (hl.kept hk).at_ i _ ht
        dsimp only at p0 p1 p2 htl
        have q1 := stepmay_w wr t1 tx tn htl
        have z1 : decide ((i : Int) < (n : Int)) = true := decide_eq_true (by omega)
        have z1n : decide (i < n) = true := decide_eq_true hlt
        have jn : (i : Int) < (n : Int) := by omega
        have HK := hid hk
        have HL := hid (And.intro hlt (show n ≤ 8 by omega))
        clear hl hn ht hk hi hlt h8 htl hs
        go_wp2_with fail
        (with_reducible refine q1.mono ?_)
        rintro e w2 ⟨⟨b, rfl⟩, k2⟩
        have HK2 := hid (HK.out.nil k2)
        clear k2 q1 p0 p1 p2
        cases b with
        | false =>
          go_wp2_with fail
          go_ret
          exact ⟨⟨_, rfl⟩, HK2.out⟩
        | true =>
          go_wp2_with fail
          go_roundw
          case rel => exact ⟨i + 1, HL.out.1, by go_num, HK2.out⟩
          case measure => have := HL.out.1; simp [RowKit.intOf]; omega
      · have z1 : decide ((i : Int) < (n : Int)) = false := decide_eq_false (by omega)
        have z1n : decide (i < n) = false := decide_eq_false hlt
        have HK := hid hk
        clear hk hlt hi h8
        go_wp2_with fail
        go_ret
        exact ⟨⟨_, rfl⟩, HK.out⟩
end Go.Proofs.YtpeldjihalldkaaDoor
