/- Pow of layer 2. -/
import Derived.Test.YtampgimmodomoaaDoorDNear
import Derived.Test.YtampgimmodomoaaDoorDMod
namespace Go.Proofs.YtampgimmodomoaaDoor
open Go Go.RowKit Go.Lib

def rawC (d : Dc) : List Value := [.bool d.neg, .string ⟨(dtxt d.n).toArray⟩, .int .i64 (d.s : Int)]
theorem put3 {w : World} {g : Nat} {t : TypeId} {x y z : Value} (h : Cells w g t [x, y, z]) (a b c : Value) : Cells (((w.setCell ⟨g, 0, none⟩ a).setCell ⟨g, 1, none⟩ b).setCell ⟨g, 2, none⟩ c) g t [a, b, c] := ((h.put 0 a).put 1 b).put 2 c
theorem int_one (w : World) : Calls Tryd.prog 33 #[.int .i64 1] w fun e w' => e = .returned (.agg #[.bool false, .string ⟨#[49]⟩, .int .i64 0]) ∧ Kp [] w w' := int_form w 1 (by decide)
theorem pow_arg (w : World) (d : Dc) (n : Int) (hn : n < 0 ∨ 99 < n) (h1 : -9223372036854775808 ≤ n) (h2 : n ≤ 9223372036854775807) :
    Calls Tryd.prog 45 #[.agg #[.bool d.neg, .string ⟨(dtxt d.n).toArray⟩, .int .i64 (d.s : Int)], .int .i64 n] w fun e w' => e = .returned (.tuple #[.agg #[.bool false, .string ⟨#[]⟩, .int .i64 0], .int .i64 1]) ∧ Kp [] w w' := by
  have HK := hid (((Kp.refl [] w).alloc (.cells #[.bool d.neg, .string ⟨(dtxt d.n).toArray⟩, .int .i64 (d.s : Int)] 23)).alloc (.cells #[.bool false, .string ⟨#[]⟩, .int .i64 0] 23))
  by_cases h0 : n < 0
  · have b0 : decide (n < 0) = true := decide_eq_true h0
    clear hn h0
    go_enter Tryd.func45, Tryd.ntmps45
    go_wp2_with fail
    exact bodyPost_ret (v := .tuple #[.agg #[.bool false, .string ⟨#[]⟩, .int .i64 0], .int .i64 1]) (by simp [results, Tryd.results45, go_sem]) rfl ⟨rfl, HK.out⟩
  · have b0 : decide (n < 0) = false := decide_eq_false h0
    have b1 : decide (99 < n) = true := decide_eq_true (by omega)
    clear hn h0
    go_enter Tryd.func45, Tryd.ntmps45
    go_wp2_with fail
    exact bodyPost_ret (v := .tuple #[.agg #[.bool false, .string ⟨#[]⟩, .int .i64 0], .int .i64 1]) (by simp [results, Tryd.results45, go_sem]) rfl ⟨rfl, HK.out⟩
set_option maxRecDepth 100000 in
set_option maxHeartbeats 12800000 in
theorem pow_any (w : World) (d : Dc) (hd : Ok d) (n : Nat) (hn : n ≤ 99) :
    Calls Tryd.prog 45 #[.agg #[.bool d.neg, .string ⟨(dtxt d.n).toArray⟩, .int .i64 (d.s : Int)], .int .i64 (n : Int)] w (MadePost w (powD d n)) := by
  obtain ⟨R, hR⟩ : ∃ R, R = powD d n := ⟨_, rfl⟩
  rw [← hR]
  have q1 := fun W => int_one W
  have qm := fun (p : Dc) (hp : Ok p) => mul_sym hp hd
  have HC := hid ((Cells.fresh w 23 (rawC d)).alloc (.cells #[.bool false, .string ⟨#[]⟩, .int .i64 0] 23))
  have HK := hid (((Kp.refl [] w).alloc (.cells #[.bool d.neg, .string ⟨(dtxt d.n).toArray⟩, .int .i64 (d.s : Int)] 23)).alloc (.cells #[.bool false, .string ⟨#[]⟩, .int .i64 0] 23))
  have HRm : Hid (Room (w.heap.size + 1) ((w.alloc (.cells #[.bool d.neg, .string ⟨(dtxt d.n).toArray⟩, .int .i64 (d.s : Int)] 23)).alloc (.cells #[.bool false, .string ⟨#[]⟩, .int .i64 0] 23))) := hid ⟨_, Cells.fresh1 w _ 23 [.bool false, .string ⟨#[]⟩, .int .i64 0], rfl⟩
  have HR := hid hR
  have Hqm := hid qm
  have HD := hid hd
  have b0 : decide ((n : Int) < 0) = false := decide_eq_false (by omega)
  have b1 : decide ((99 : Int) < (n : Int)) = false := decide_eq_false (by omega)
  clear hR qm hd
  go_enter Tryd.func45, Tryd.ntmps45
  go_wp2_with fail
  (with_reducible refine (q1 _).mono ?_)
  rintro e w1 ⟨rfl, k1⟩
  have hloc : Cells (w1.alloc (.cells #[.bool false, .string ⟨#[49]⟩, .int .i64 0] 23)) w1.heap.size 23 (rawC (intD 1)) := Cells.fresh w1 23 (rawC (intD 1))
  have kl := k1.alloc (.cells #[.bool false, .string ⟨#[49]⟩, .int .i64 0] 23)
  have hgs : w.heap.size + 1 < w1.heap.size := by
    obtain ⟨rs, h, -⟩ := HRm.out.kept k1
    exact h.lt
  obtain ⟨g, hg⟩ : ∃ g, g = w1.heap.size := ⟨_, rfl⟩
  rw [← hg] at hloc hgs
  have H1 := hid (And.intro hloc (And.intro (HK.out.nil kl) (And.intro (HC.out.keep kl (by simp)) (HRm.out.kept kl))))
  have Hg := hid hg
  clear hloc kl k1 q1 HK HC HRm hg b0 b1
  go_wp2_with fail
  rw [← Hg.out]
  go_loopw [18] (fun v wr => ∃ (k : Nat) (p : Dc), v = .int .i64 (k : Int) ∧ k ≤ n ∧ powD d k = some p ∧ Cells wr g 23 (rawC p) ∧ Kp [] w wr ∧ Cells wr w.heap.size 23 (rawC d) ∧ Room (w.heap.size + 1) wr) (fun v _ => n - (intOf v).toNat)
  case atStart => exact ⟨0, intD 1, rfl, Nat.zero_le _, rfl, H1.out⟩
  case round =>
    obtain ⟨k, p, rfl, hk, hpw, hgp, hkp, hcd, hrm⟩ := hrel
    have hpok := pow_ok hpw
    have p0 : wr.cell? ⟨g, 0, none⟩ = some (.bool p.neg) := hgp.cell 0
    have p1 : wr.cell? ⟨g, 1, none⟩ = some (.string ⟨(dtxt p.n).toArray⟩) := hgp.cell 1
    have p2 : wr.cell? ⟨g, 2, none⟩ = some (.int .i64 (p.s : Int)) := hgp.cell 2
    by_cases hlt : k < n
    · have hq := Hqm.out p hpok
      have d0 : wr.cell? ⟨w.heap.size, 0, none⟩ = some (.bool d.neg) := hcd.cell 0
      have d1 : wr.cell? ⟨w.heap.size, 1, none⟩ = some (.string ⟨(dtxt d.n).toArray⟩) := hcd.cell 1
      have d2 : wr.cell? ⟨w.heap.size, 2, none⟩ = some (.int .i64 (d.s : Int)) := hcd.cell 2
      have hst : powD d (k + 1) = mulD p d := by
        show (powD d k).bind _ = _
        rw [hpw]
        rfl
      obtain ⟨O, hO⟩ : ∃ O, O = mulD p d := ⟨_, rfl⟩
      rw [← hO] at hq hst
      have HH := hid (And.intro hgp (And.intro hkp (And.intro hcd (And.intro hrm hst))))
      have hqq := fun W => hq W
      clear hgp hkp hcd hrm hst hpw hpok hO hq
      go_wp2_with fail
      (with_reducible refine (hqq _).mono ?_)
      rintro e w2 ⟨rfl, k2⟩
      obtain ⟨K2, l0, l1, l2⟩ := k2.loc (.bool (oN O)) (.string ⟨(oL O).toArray⟩) (.int .i64 (oS O))
      have hg2 := HH.out.1.keep K2 (by simp)
      have hc2 := HH.out.2.2.1.keep K2 (by simp)
      have hr2 := HH.out.2.2.2.1.kept K2
      have hk2 := HH.out.2.1.nil K2
      have hgl : g < w2.heap.size := Nat.lt_of_lt_of_le HH.out.1.lt k2.size
      clear k2 K2 p0 p1 p2 d0 d1 d2 hqq
      obtain ⟨W5, hW5⟩ : ∃ W5, W5 = w2.alloc (.cells #[.bool (oN O), .string ⟨(oL O).toArray⟩, .int .i64 (oS O)] 23) := ⟨_, rfl⟩
      rw [← hW5] at hg2 hc2 hr2 hk2 l0 l1 l2
      have HW5 := hid hW5
      clear hW5
      go_upto_if 27 with fail
      rw [← HW5.out]
      rcases none_or O with hOn | ⟨o, hOs⟩
      · obtain ⟨b1, b2, b3⟩ := none_err hOn
        obtain ⟨_, _, _, c0, c1, c2, f0, f1, f2⟩ := hr2.cells
        have HZ : Hid (R = none) := by
          have h1 := HH.out.2.2.2.2
          rw [hOn] at h1
          have : ∀ m, k + 1 ≤ m → powD d m = none := by
            intro m hm
            induction m with
            | zero => omega
            | succ m ih =>
              rcases Nat.lt_or_ge k m with h | h
              · show (powD d m).bind _ = _
                rw [ih (by omega)]
                rfl
              · rw [show m = k by omega]; exact h1
          exact hid (HR.out.trans (this n (by omega)))
        have HK2 := hid hk2
        rw [b3] at *
        clear hOn b1 b3 hg2 hc2 hr2 hk2 HH
        go_wp2_with fail
        exact bodyPost_ret (v := .tuple #[.agg #[.bool false, .string ⟨#[]⟩, .int .i64 0], .int .i64 3]) (by simp [results, Tryd.results45, go_sem, c0, c1, c2]) rfl ⟨by rw [HZ.out]; rfl, kp_room3 HK2.out (by omega) _ _ _⟩
      · obtain ⟨b1, b2, b3⟩ := some_err hOs
        obtain ⟨e1, e2, e3⟩ := some_of hOs
        have g0 := hg2.cell 0
        have g1 := hg2.cell 1
        have g2 := hg2.cell 2
        have f0 := hg2.free 0
        have f1 := hg2.free 1
        have f2 := hg2.free 2
        simp only [rawC, List.getElem?_cons_zero, List.getElem?_cons_succ] at g0 g1 g2
        have hput := put3 hg2 (.bool (oN O)) (.string ⟨(oL O).toArray⟩) (.int .i64 (oS O))
        have hkk := kp_room3 hk2 (g := g) (by omega) (.bool (oN O)) (.string ⟨(oL O).toArray⟩) (.int .i64 (oS O))
        have hcc := far_cells (r := g) (.bool (oN O)) (.string ⟨(oL O).toArray⟩) (.int .i64 (oS O)) hc2 (by omega)
        obtain ⟨rs, hrs, hrl⟩ := hr2
        have hrr : Room (w.heap.size + 1) _ := ⟨rs, far_cells (r := g) (.bool (oN O)) (.string ⟨(oL O).toArray⟩) (.int .i64 (oS O)) hrs (by omega), hrl⟩
        have hraw : [Value.bool (oN O), .string ⟨(oL O).toArray⟩, .int .i64 (oS O)] = rawC o := by unfold rawC; rw [e1, e2, e3]
        rw [hraw] at hput
        have HZ := hid (And.intro hput (And.intro hkk (And.intro hcc (And.intro hrr (HH.out.2.2.2.2.trans hOs)))))
        clear hput hkk hcc hrr hraw hrs hrl hg2 hc2 hk2 HH hOs e1 e2 e3 b1 b3
        go_wp2_with fail
        go_roundw
        case rel => exact ⟨k + 1, o, by go_num, by omega, HZ.out.2.2.2.2, HZ.out.1, HZ.out.2.1, HZ.out.2.2.1, HZ.out.2.2.2.1⟩
        case measure => simp [intOf]; omega
    · have hkn : k = n := by omega
      rw [hkn, ← HR.out] at hpw
      obtain ⟨_, _, _, c0, c1, c2, f0, f1, f2⟩ := hrm.cells
      have HZ := hid (And.intro hpw hkp)
      clear hpw hpok hgp hkp hcd hrm hkn
      go_wp2_with fail
      exact bodyPost_ret (v := .tuple #[.agg #[.bool p.neg, .string ⟨(dtxt p.n).toArray⟩, .int .i64 (p.s : Int)], .int .i64 0]) (by simp [results, Tryd.results45, go_sem, c0, c1, c2]) rfl ⟨by rw [HZ.out.1]; rfl, kp_room3 HZ.out.2 (by omega) _ _ _⟩
end Go.Proofs.YtampgimmodomoaaDoor
