/- Whether a policy may be: the document's answer comes back, whatever it is. -/
import Derived.Test.YtpeldjihalldkaaDoorTMayW
import Derived.Test.YtpeldjihalldkaaDoorTRAlike
namespace Go.Proofs.YtpeldjihalldkaaDoor
open Go Go.RowKit Go.Lib

theorem shl_bit (i : Nat) (hi : i < 64) : IntKind.u64.wrap (2 ^ i) = ((2 ^ i : Nat) : Int) := by
  rw [IntKind.wrap_u64]
  have h : 2 ^ i < 2 ^ 64 := Nat.pow_lt_pow_right (by decide) hi
  have e : (2 : Int) ^ i = ((2 ^ i : Nat) : Int) := by simp
  rw [e]
  obtain ⟨B, hB⟩ : ∃ B, B = 2 ^ i := ⟨_, rfl⟩
  rw [← hB] at h ⊢
  omega
set_option maxRecDepth 100000 in
set_option maxHeartbeats 12800000 in
theorem may8_w (w : World) (Ac : Option Addr) (cc : Nat) (C : List Txt) (hC : RawsAt w Ac cc C) (Am : Option Addr) (cm : Nat) (ms : List (List StI × Nat)) (hm : MarksAt w Am cm ms) (hs : ∀ m ∈ ms, ∀ s ∈ m.1, s.2.1.length ≤ 9223372036854775000)
    (tok : Txt) (htok : tok.length ≤ 9223372036854775000) (fu qu : Int) :
    Calls Tryd.prog 26 #[.agg #[.slice Ac C.length cc, .slice Am ms.length cm, .string ⟨tok.toArray⟩, .int .i64 fu, .int .i64 qu]] w fun e w' => (∃ z : Int, e = .returned (.int .i64 z)) ∧ Kp [] w w' := by
  have q6 := fun W (h : Kp [] w W) => may6_w W Ac cc C (hC.kept h)
  have lC1 := hC.le
  have lC2 := hC.top
  have lm1 := hm.le
  have lm2 := hm.top
  obtain ⟨nc, hnc⟩ : ∃ n, n = C.length := ⟨_, rfl⟩
  obtain ⟨nm, hnm⟩ : ∃ n, n = ms.length := ⟨_, rfl⟩
  simp only [← hnc] at q6 lC1 ⊢
  rw [← hnm] at lm1 ⊢
  obtain ⟨W1, hW1⟩ : ∃ W1, W1 = w.alloc (.cells #[.slice Ac nc cc, .slice Am nm cm, .string ⟨tok.toArray⟩, .int .i64 fu, .int .i64 qu] 52) := ⟨_, rfl⟩
  have hk1 : Kp [] w W1 := by rw [hW1]; exact (Kp.refl _ _).alloc _
  obtain ⟨g, hg⟩ : ∃ g, g = w.heap.size := ⟨_, rfl⟩
  have hc : Cells W1 g 52 [.slice Ac nc cc, .slice Am nm cm, .string ⟨tok.toArray⟩, .int .i64 fu, .int .i64 qu] := by rw [hW1, hg]; exact Cells.fresh w 52 _
  have hsz : (⟨tok.toArray⟩ : ByteArray).size = tok.length := size_mk _
  have qv := fun W => rvalid_any W ⟨tok.toArray⟩ (by rw [hsz]; omega)
  rw [show (⟨tok.toArray⟩ : ByteArray).data.toList = tok from rfl] at qv
  obtain ⟨bv, hbv⟩ : ∃ b, b = validD tok := ⟨_, rfl⟩
  simp only [← hbv] at qv
  have q1 := q6 W1 hk1
  have x0 := hc.cell 0
  simp only [List.getElem?_cons_zero] at x0
  have HK1 := hid (And.intro hk1 hc)
  have HW1 := hid hW1
  have HG := hid hg
  have HM := hid (And.intro hm (And.intro hs hnm))
  have HQV := hid qv
  clear hC hm hs hnc hnm hW1 hk1 hg hc htok hbv q6 qv
  go_enter Tryd.func26, Tryd.ntmps26
  go_upto_region 1 with fail
  rw [← HW1.out]
  try simp only [← HG.out]
  go_wp2_with fail
  (with_reducible refine q1.mono ?_)
  rintro e w2 ⟨⟨z, rfl, hz64⟩, k2⟩
  have HK2 := hid (HK1.out.1.nil k2)
  have hc2 := HK1.out.2.keep k2 (by simp)
  have HC2 := hid hc2
  have HZ := hid hz64
  clear x0 q1 k2 hz64
  by_cases hz : z = 0
  · have hn64 := HZ.out hz
    have z0 : (z != 0) = false := by rw [hz]; rfl
    have x1 := hc2.cell 1
    simp only [List.getElem?_cons_zero, List.getElem?_cons_succ] at x1
    clear hz hc2
    by_cases h16 : 16 < nm
    · have z1 : decide ((16 : Int) < (nm : Int)) = true := decide_eq_true (by omega)
      have z1n : decide (16 < nm) = true := decide_eq_true h16
      clear h16
      go_wp2_with fail
      go_ret
      exact ⟨⟨_, rfl⟩, HK2.out⟩
    · have z1 : decide ((16 : Int) < (nm : Int)) = false := decide_eq_false (by omega)
      have z1n : decide (16 < nm) = false := decide_eq_false h16
      have x0 := HC2.out.cell 0
      simp only [List.getElem?_cons_zero] at x0
      clear h16
      go_wp2_with fail
      go_loopw [4, 5] (fun va vi wr => wr = w2 ∧ ∃ i M : Nat, i ≤ nc ∧ vi = .int .i64 (i : Int) ∧ va = .int .u64 (M : Int) ∧ M < 18446744073709551616) (fun _ vi _ => nc - (RowKit.intOf vi).toNat)
      case atStart => exact ⟨rfl, 0, 0, Nat.zero_le _, rfl, rfl, by decide⟩
      case round =>
        obtain ⟨hwr, i, M, hi, rfl, rfl, hM⟩ := hrel
        have hwr2 := hwr.symm
        subst hwr2
        by_cases hlt : i < nc
        · have z2 : decide ((i : Int) < (nc : Int)) = true := decide_eq_true (by omega)
          have z2n : decide (i < nc) = true := decide_eq_true hlt
          have hi64 : i < 64 := by omega
          have hor := u64_or_nat M (2 ^ i) (by simpa using hM) (by have : 2 ^ i < 2 ^ 64 := Nat.pow_lt_pow_right (by decide) hi64; simpa using this)
          have hM2 : M ||| 2 ^ i < 2 ^ 64 := Nat.or_lt_two_pow hM (Nat.pow_lt_pow_right (by decide) hi64)
          obtain ⟨M2, hM2e⟩ : ∃ m, m = M ||| 2 ^ i := ⟨_, rfl⟩
          rw [← hM2e] at hor hM2
          have hsh := shl_bit i hi64
          obtain ⟨Bt, hB⟩ : ∃ B, B = 2 ^ i := ⟨_, rfl⟩
          rw [← hB] at hor hsh
          have bn : decide ((i : Int) < 0) = false := decide_eq_false (by omega)
          have HL := hid (And.intro hlt hM2)
          clear hB hM2e hi hM hM2 hlt
          go_wp2_with fail
          go_roundw
          case rel => exact ⟨trivial, i + 1, M2, HL.out.1, by go_num, by first | rfl | congr 1, HL.out.2⟩
          case measure => have := HL.out.1; simp [RowKit.intOf]; omega
        · have z2 : decide ((i : Int) < (nc : Int)) = false := decide_eq_false (by omega)
          have z2n : decide (i < nc) = false := decide_eq_false hlt
          have hM' := hM
          clear hlt hi
          have HMM := hid hM'
          clear hM hM'
          go_wp2_with fail
          go_loopw [6] (fun vi wr => ∃ j : Nat, j ≤ nm ∧ vi = .int .i64 (j : Int) ∧ Kp [] w2 wr) (fun vi _ => nm - (RowKit.intOf vi).toNat)
          case atStart => exact ⟨0, Nat.zero_le _, rfl, Kp.refl _ _⟩
          case round =>
            obtain ⟨j, hj, rfl, hk⟩ := hrel
            have hcr := HC2.out.keep hk (by simp)
            by_cases hlt2 : j < nm
            · obtain ⟨hm, hs, hnm⟩ := HM.out
              obtain ⟨m, hmj⟩ : ∃ m, ms[j]? = some m := ⟨_, List.getElem?_eq_getElem (by omega)⟩
              have hsm := hs m (List.mem_of_getElem? hmj)
              have hmlt := hm.ok m (List.mem_of_getElem? hmj)
              obtain ⟨ad, rfl, B, cb, p0, p1, hpath⟩ := (hm.kept (HK2.out.nil hk)).at_ j m hmj
              have q7 := fun W (h : Kp [] wr W) => may7_w W B cb m.1 (hpath.kept h) hsm
              obtain ⟨ln, hln⟩ : ∃ ln, ln = m.1.length := ⟨_, rfl⟩
              rw [← hln] at p0
              simp only [← hln] at q7
              obtain ⟨mk, hmk⟩ : ∃ mk, mk = m.2 := ⟨_, rfl⟩
              rw [← hmk] at p1 hmlt
              have qw := fun W => rwithin_any W mk M hmlt HMM.out
              obtain ⟨bw, hbw⟩ : ∃ b, b = !hidB mk M := ⟨_, rfl⟩
              simp only [← hbw] at qw
              have y1 := hcr.cell 1
              simp only [List.getElem?_cons_zero, List.getElem?_cons_succ] at y1
              have z3 : decide ((j : Int) < (nm : Int)) = true := decide_eq_true (by omega)
              have z3n : decide (j < nm) = true := decide_eq_true hlt2
              have jn : (j : Int) < (nm : Int) := by omega
              obtain ⟨gm, hgm⟩ : ∃ gm, gm = wr.heap.size := ⟨_, rfl⟩
              obtain ⟨w4, hw4⟩ : ∃ w4, w4 = wr.alloc (.cells #[.slice B ln cb, .int .u64 (mk : Int)] 87) := ⟨_, rfl⟩
              have hk4 : Kp [] wr w4 := by rw [hw4]; exact (Kp.refl _ _).alloc _
              have hc4 : Cells w4 gm 87 [.slice B ln cb, .int .u64 (mk : Int)] := by rw [hw4, hgm]; exact Cells.fresh wr 87 _
              have q7' := q7 w4 hk4
              have u0 := hc4.cell 0
              simp only [List.getElem?_cons_zero] at u0
              have HW4 := hid hw4
              have HGM := hid hgm
              have HL := hid hlt2
              have H4 := hid (And.intro hc4 (HK2.out.nil (hk.nil hk4)))
              have H4b := hid (hk.nil hk4)
              clear hm hs hnm hmj hsm hmlt hpath q7 hln hmk hbw hw4 hk4 hc4 hgm hj hk hcr hlt2 x0 x1
              go_upto_region 15 with fail
              rw [← HW4.out]
              try simp only [← HGM.out]
              clear y1 p0 p1
              go_wp2_with fail
              (with_reducible refine q7'.mono ?_)
              rintro e w5 ⟨⟨z7, rfl⟩, k5⟩
              have hc5 := H4.out.1.keep k5 (by simp)
              have u1 := hc5.cell 1
              simp only [List.getElem?_cons_zero, List.getElem?_cons_succ] at u1
              have HK5 := hid (And.intro (H4.out.2.nil k5) (H4b.out.nil k5))
              clear k5 hc5 u0 q7'
              by_cases h7 : z7 = 0
              · have z4 : (z7 != 0) = false := by rw [h7]; rfl
                clear h7
                by_cases hmk0 : mk = 0
                · have z5 : ((mk : Int) == 0) = true := by rw [hmk0]; rfl
                  clear hmk0
                  go_wp2_with fail
                  go_ret
                  exact ⟨⟨_, rfl⟩, HK5.out.1⟩
                · have z5 : ((mk : Int) == 0) = false := beq_eq_false_iff_ne.2 (by omega)
                  clear hmk0
                  go_wp2_with fail
                  (with_reducible refine (qw _).mono ?_)
                  rintro e w6 ⟨rfl, hw6⟩
                  have hw6 := hw6.symm
                  subst hw6
                  cases bw with
                  | false =>
                    go_wp2_with fail
                    go_ret
                    exact ⟨⟨_, rfl⟩, HK5.out.1⟩
                  | true =>
                    clear u1 qw
                    go_wp2_with fail
                    go_roundw
                    case rel => exact ⟨j + 1, HL.out, by go_num, HK5.out.2⟩
                    case measure => have := HL.out; simp [RowKit.intOf]; omega
              · have z4 : (z7 != 0) = true := bne_iff_ne.2 h7
                clear h7
                go_wp2_with fail
                go_ret
                exact ⟨⟨_, rfl⟩, HK5.out.1⟩
            · have z3 : decide ((j : Int) < (nm : Int)) = false := decide_eq_false (by omega)
              have z3n : decide (j < nm) = false := decide_eq_false hlt2
              have y1 := hcr.cell 1
              have y2 := hcr.cell 2
              have y3 := hcr.cell 3
              have y4 := hcr.cell 4
              simp only [List.getElem?_cons_zero, List.getElem?_cons_succ] at y1 y2 y3 y4
              have HE := hid (HK2.out.nil hk)
              have qf := fun a => fuel_w wr a
              have qv := HQV.out wr
              clear hj hlt2 hk hcr x0 x1
              by_cases h24 : 24 < tok.length
              · have z4 : decide ((24 : Int) < (tok.length : Int)) = true := decide_eq_true (by omega)
                have z4n : decide (24 < tok.length) = true := decide_eq_true h24
                clear h24 qv qf
                go_wp2_with fail
                go_ret
                exact ⟨⟨_, rfl⟩, HE.out⟩
              · have z4 : decide ((24 : Int) < (tok.length : Int)) = false := decide_eq_false (by omega)
                have z4n : decide (24 < tok.length) = false := decide_eq_false h24
                have QF := hid qf
                clear h24 qf
                go_wp2_with fail
                (with_reducible refine qv.mono ?_)
                rintro e w6 ⟨rfl, hw6⟩
                have hw6 := hw6.symm
                subst hw6
                cases bv with
                | false =>
                  clear qv
                  go_wp2_with fail
                  go_ret
                  exact ⟨⟨_, rfl⟩, HE.out⟩
                | true =>
                  have q8 := QF.out fu
                  clear qv
                  go_wp2_with fail
                  (with_reducible refine q8.mono ?_)
                  rintro e w6 ⟨⟨b8, rfl⟩, hw6⟩
                  have hw6 := hw6.symm
                  subst hw6
                  cases b8 with
                  | false =>
                    clear q8
                    go_wp2_with fail
                    go_ret
                    exact ⟨⟨_, rfl⟩, HE.out⟩
                  | true =>
                    have q9 := QF.out qu
                    clear q8
                    go_wp2_with fail
                    (with_reducible refine q9.mono ?_)
                    rintro e w6 ⟨⟨b9, rfl⟩, hw6⟩
                    have hw6 := hw6.symm
                    subst hw6
                    cases b9 with
                    | false =>
                      clear q9
                      go_wp2_with fail
                      go_ret
                      exact ⟨⟨_, rfl⟩, HE.out⟩
                    | true =>
                      clear q9
                      go_wp2_with fail
                      go_ret
                      exact ⟨⟨_, rfl⟩, HE.out⟩
  · have z0 : (z != 0) = true := bne_iff_ne.2 hz
    clear hz hc2
    go_wp2_with fail
    go_ret
    exact ⟨⟨_, rfl⟩, HK2.out⟩
end Go.Proofs.YtpeldjihalldkaaDoor
