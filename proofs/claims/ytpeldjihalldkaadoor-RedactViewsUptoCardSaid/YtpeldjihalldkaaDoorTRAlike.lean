/- Hidden, Alike: the document's answer. -/
import Derived.Test.YtpeldjihalldkaaDoorTSame
namespace Go.Proofs.YtpeldjihalldkaaDoor
open Go Go.RowKit Go.Lib

theorem andnot_zero (m cl : Nat) (hm : m < 18446744073709551616) (hc : cl < 18446744073709551616) : decide (m &&& (18446744073709551615 - cl) = 0) = !hidB m cl := by
  have key : m &&& (18446744073709551615 - cl) = 0 ↔ m ||| cl = cl := by
    have e : 18446744073709551615 - cl = 2 ^ 64 - (cl + 1) := by omega
    rw [e]
    have hb : ∀ i, (2 ^ 64 - (cl + 1)).testBit i = (decide (i < 64) && !cl.testBit i) := fun i => Nat.testBit_two_pow_sub_succ (show cl < 2 ^ 64 by omega) i
    constructor
    · intro h
      refine Nat.eq_of_testBit_eq fun i => ?_
      have hi := congrArg (·.testBit i) h
      simp only [Nat.testBit_and, hb, Nat.zero_testBit] at hi
      rw [Nat.testBit_or]
      by_cases h64 : i < 64
      · simp only [h64, decide_true, Bool.true_and] at hi
        revert hi
        cases m.testBit i <;> cases cl.testBit i <;> simp
      · have : m.testBit i = false := Nat.testBit_lt_two_pow (Nat.lt_of_lt_of_le (show m < 2 ^ 64 by omega) (Nat.pow_le_pow_right (by decide) (by omega)))
        rw [this, Bool.false_or]
    · intro h
      refine Nat.eq_of_testBit_eq fun i => ?_
      have hi := congrArg (·.testBit i) h
      simp only [Nat.testBit_or] at hi
      rw [Nat.testBit_and, hb, Nat.zero_testBit]
      revert hi
      cases m.testBit i <;> cases cl.testBit i <;> simp
  unfold hidB
  rw [Bool.not_not, decide_eq_decide]
  exact key
set_option maxRecDepth 100000 in
theorem rwithin_any (w : World) (m cl : Nat) (hm : m < 18446744073709551616) (hc : cl < 18446744073709551616) :
    Calls Tryd.prog 44 #[.int .u64 (m : Int), .int .u64 (cl : Int)] w fun e w' => e = .returned (.bool (!hidB m cl)) ∧ w' = w := by
  have h := andnot_zero m cl hm hc
  have hx2 := u64_andNot_nat m cl (by simpa using hm) (by simpa using hc)
  obtain ⟨x, hx⟩ : ∃ x, x = m &&& (18446744073709551615 - cl) := ⟨_, rfl⟩
  rw [← hx] at h hx2
  obtain ⟨b, hb⟩ : ∃ b, b = !hidB m cl := ⟨_, rfl⟩
  rw [← hb] at h ⊢
  have hz : ((x : Int) == 0) = b := by
    rw [← h, Bool.eq_iff_iff, beq_iff_eq, decide_eq_true_eq]
    omega
  clear hx hb hm hc h
  go_enter Tryd.func44, Tryd.ntmps44
  go_wp2_with fail
  go_ret
  exact ⟨rfl, rfl⟩
set_option maxRecDepth 100000 in
theorem rhidden_cells (w : World) (k : Int) (m : Nat) (n : Bool) (l : Txt) (z : Int) (x : Txt) (A : Option Addr) (nk ck : Nat) (B : Option Addr) (nb cb : Nat) (code : Int) (cl : Nat) (hm : m < 18446744073709551616) (hc : cl < 18446744073709551616) :
    Calls Tryd.prog 17 #[.agg #[.int .i64 k, .int .u64 (m : Int), .bool n, .string ⟨l.toArray⟩, .int .i64 z, .string ⟨x.toArray⟩, .slice A nk ck, .slice B nb cb, .int .i64 code], .int .u64 (cl : Int)] w fun e w' => e = .returned (.bool (hidB m cl)) ∧ Kp [] w w' := by
  have q := fun W => rwithin_any W m cl hm hc
  obtain ⟨b, hb⟩ : ∃ b, b = hidB m cl := ⟨_, rfl⟩
  simp only [← hb] at q ⊢
  have hk0 : Kp [] w (w.alloc (.cells #[.int .i64 k, .int .u64 (m : Int), .bool n, .string ⟨l.toArray⟩, .int .i64 z, .string ⟨x.toArray⟩, .slice A nk ck, .slice B nb cb, .int .i64 code] 31)) := (Kp.refl _ _).alloc _
  have HK := hid hk0
  clear hb hm hc hk0
  go_enter Tryd.func17, Tryd.ntmps17
  go_wp2_with fail
  (with_reducible refine (q _).mono ?_)
  rintro e w2 ⟨rfl, hw⟩
  subst hw
  go_wp2_with fail
  go_ret
  exact ⟨by simp, HK.out⟩
theorem bare_rep {w : World} {A : Option Addr} {ck : Nat} {keys : List Txt} (hA : KeysAt w A ck keys) (k m : Nat) (num : Option Dc) (t : Txt) (code : Nat) : Rep w (.mk k m num t keys [] code) (vC k m (vN num) (vD num) (vS num) t A keys.length ck none 0 0 code) :=
  .mk k m num t keys [] code A ck none 0 (fun _ => []) hA ⟨Nat.le_refl _, by decide, fun i h => absurd h (Nat.not_lt_zero _)⟩ (fun i v h => by cases h)
/-- What the document's Alike does for a tree, and any other, at any later world. -/
def RAlikeAt (w : World) (a : Vl) (ca : List Value) : Prop :=
  FineV a → ∀ b cb, Rep w b cb → FineV b → ∀ W, Kp [] w W → ∀ cl : Nat, cl < 18446744073709551616 →
    Calls Tryd.prog 23 #[.agg ca.toArray, .agg cb.toArray, .int .u64 (cl : Int)] W fun e w' => e = .returned (.bool (alikeL cl a b)) ∧ Kp [] W w'
set_option maxRecDepth 100000 in
set_option maxHeartbeats 25600000 in
theorem ralike_step (w : World) (k m : Nat) (num : Option Dc) (t : Txt) (keys : List Txt) (kids : List Vl) (code : Nat) (A : Option Addr) (ck : Nat) (B : Option Addr) (cb : Nat) (ks : Nat → List Value)
    (hA : KeysAt w A ck keys) (hB : KidsAt w B cb kids.length ks) (hr : ∀ (i : Nat) v, kids[i]? = some v → Rep w v (ks i)) (ih : ∀ (i : Nat) v, kids[i]? = some v → RAlikeAt w v (ks i)) :
    RAlikeAt w (.mk k m num t keys kids code) (vC k m (vN num) (vD num) (vS num) t A keys.length ck B kids.length cb code) := by
  intro hf b0 cb0 hb0 hfb W hK cl hcl
  cases hb0 with
  | mk k' m' num' t' keys' kids' code' A' ck' B' cb' ks' hA' hB' hr' =>
    have q1 := fun W' => rhidden_cells W' (k : Int) m (vN num) (vD num) (vS num) t A keys.length ck B kids.length cb (code : Int) cl (fine_mask hf) hcl
    have q2 := fun W' => rhidden_cells W' (k' : Int) m' (vN num') (vD num') (vS num') t' A' keys'.length ck' B' kids'.length cb' (code' : Int) cl (fine_mask hfb) hcl
    have q3 : ∀ W', Kp [] W W' → Calls Tryd.prog 31 #[.agg (vC k m (vN num) (vD num) (vS num) t A keys.length ck none 0 0 code).toArray, .agg (vC k' m' (vN num') (vD num') (vS num') t' A' keys'.length ck' none 0 0 code').toArray] W' fun e w' => e = .returned (.bool (sameV (.mk k m num t keys [] code) (.mk k' m' num' t' keys' [] code'))) ∧ Kp [] W' w' :=
      fun W' h => same_rep (bare_rep ((hA.kept hK).kept h) k m num t code) _ _ (bare_rep ((hA'.kept hK).kept h) k' m' num' t' code') W' (Kp.refl _ _)
    have hq : ∀ (i : Nat) v v', kids[i]? = some v → kids'[i]? = some v' → ∀ W2, Kp [] W W2 → Calls Tryd.prog 23 #[.agg (ks i).toArray, .agg (ks' i).toArray, .int .u64 (cl : Int)] W2 fun e w' => e = .returned (.bool (alikeL cl v v')) ∧ Kp [] W2 w' := by
      intro i v v' hv hv' W2 k2
      have h := ih i v hv
      unfold RAlikeAt at h
      exact h (fine_kid hf v (at_mem hv)) v' (ks' i) (hr' i v' hv') (fine_kid hfb v' (at_mem hv')) W2 (hK.nil k2) cl hcl
    obtain ⟨ha, hha⟩ : ∃ b, b = hidB m cl := ⟨_, rfl⟩
    obtain ⟨hb, hhb⟩ : ∃ b, b = hidB m' cl := ⟨_, rfl⟩
    simp only [← hha] at q1
    simp only [← hhb] at q2
    obtain ⟨b, hb0⟩ : ∃ b, b = alikeL cl (.mk k m num t keys kids code) (.mk k' m' num' t' keys' kids' code') := ⟨_, rfl⟩
    rw [← hb0]
    have hres : b = if ha || hb then ha && hb else decide (k = k' ∧ m = m' ∧ num = num' ∧ t = t' ∧ code = code' ∧ keys = keys') && alikes cl kids kids' := by rw [hb0, hha, hhb]; unfold alikeL; rfl
    obtain ⟨bs, hbs⟩ : ∃ bs, bs = sameV (.mk k m num t keys [] code) (.mk k' m' num' t' keys' [] code') := ⟨_, rfl⟩
    simp only [← hbs] at q3
    have hbs2 : bs = decide (k = k' ∧ m = m' ∧ num = num' ∧ t = t' ∧ code = code' ∧ keys = keys') := by rw [hbs]; unfold sameV samesV; rw [Bool.and_true]
    unfold vC at q3 ⊢
    obtain ⟨nk, hnk⟩ : ∃ x, x = keys.length := ⟨_, rfl⟩
    obtain ⟨n, hnb⟩ : ∃ x, x = kids.length := ⟨_, rfl⟩
    obtain ⟨nk', hnk'⟩ : ∃ x, x = keys'.length := ⟨_, rfl⟩
    obtain ⟨n', hnb'⟩ : ∃ x, x = kids'.length := ⟨_, rfl⟩
    have l1 := hB.le
    have l2 := hB.top
    have m1 := hB'.le
    rw [← hnb] at l1
    rw [← hnb'] at m1
    simp only [← hnk, ← hnb] at q1 q3 ⊢
    simp only [← hnk', ← hnb'] at q2 q3 ⊢
    have hrep : ∀ (i : Nat) v, kids[i]? = some v → Rep W v (ks i) := fun i v hv => (hr i v hv).kept hK
    have hrep' : ∀ (i : Nat) v, kids'[i]? = some v → Rep W v (ks' i) := fun i v hv => (hr' i v hv).kept hK
    have HKD := hid (And.intro (hB.kept hK) (And.intro (hB'.kept hK) (And.intro hrep (And.intro hrep' (And.intro hq (And.intro hnb hnb'))))))
    obtain ⟨W1, hW1⟩ : ∃ W1, W1 = (W.alloc (.cells #[.int .i64 (k : Int), .int .u64 (m : Int), .bool (vN num), .string ⟨(vD num).toArray⟩, .int .i64 (vS num), .string ⟨t.toArray⟩, .slice A nk ck, .slice B n cb, .int .i64 (code : Int)] 31)).alloc (.cells #[.int .i64 (k' : Int), .int .u64 (m' : Int), .bool (vN num'), .string ⟨(vD num').toArray⟩, .int .i64 (vS num'), .string ⟨t'.toArray⟩, .slice A' nk' ck', .slice B' n' cb', .int .i64 (code' : Int)] 31) := ⟨_, rfl⟩
    have hk1 : Kp [] W W1 := by rw [hW1]; exact ((Kp.refl _ _).alloc _).alloc _
    have hca : Cells W1 W.heap.size 31 [.int .i64 (k : Int), .int .u64 (m : Int), .bool (vN num), .string ⟨(vD num).toArray⟩, .int .i64 (vS num), .string ⟨t.toArray⟩, .slice A nk ck, .slice B n cb, .int .i64 (code : Int)] := by rw [hW1]; exact (Cells.fresh W 31 _).alloc _
    have hcb : Cells W1 (W.heap.size + 1) 31 [.int .i64 (k' : Int), .int .u64 (m' : Int), .bool (vN num'), .string ⟨(vD num').toArray⟩, .int .i64 (vS num'), .string ⟨t'.toArray⟩, .slice A' nk' ck', .slice B' n' cb', .int .i64 (code' : Int)] := by rw [hW1]; exact Cells.fresh1 W _ 31 _
    have HR := hid (And.intro hres hbs2)
    have HH := hid (And.intro hk1 (And.intro hca hcb))
    have HW1 := hid hW1
    have Q3 := hid q3
    clear hA hB hr ih hA' hB' hr' hK hb0 hres hbs hbs2 hnk hnk' q3 hW1 hq hrep hrep' hk1 hca hcb hnb hnb' hf hfb hha hhb hcl
    go_enter Tryd.func23, Tryd.ntmps23
    go_wp2_with fail
    rw [← HW1.out]
    obtain ⟨hk1, hca, hcb⟩ := HH.out
    have x0 := hca.cell 0
    have x1 := hca.cell 1
    have x2 := hca.cell 2
    have x3 := hca.cell 3
    have x4 := hca.cell 4
    have x5 := hca.cell 5
    have x6 := hca.cell 6
    have x7 := hca.cell 7
    have x8 := hca.cell 8
    have y0 := hcb.cell 0
    have y1 := hcb.cell 1
    have y2 := hcb.cell 2
    have y3 := hcb.cell 3
    have y4 := hcb.cell 4
    have y5 := hcb.cell 5
    have y6 := hcb.cell 6
    have y7 := hcb.cell 7
    have y8 := hcb.cell 8
    (with_reducible refine (q1 _).mono ?_)
    rintro e w2 ⟨rfl, k2⟩
    have hk2 := hk1.nil k2
    have hca := hca.keep k2 (by simp)
    have hcb := hcb.keep k2 (by simp)
    clear x0 y0 x1 y1 x2 y2 x3 y3 x4 y4 x5 y5 x6 y6 x7 y7 x8 y8
    have x0 := hca.cell 0
    have x1 := hca.cell 1
    have x2 := hca.cell 2
    have x3 := hca.cell 3
    have x4 := hca.cell 4
    have x5 := hca.cell 5
    have x6 := hca.cell 6
    have x7 := hca.cell 7
    have x8 := hca.cell 8
    have y0 := hcb.cell 0
    have y1 := hcb.cell 1
    have y2 := hcb.cell 2
    have y3 := hcb.cell 3
    have y4 := hcb.cell 4
    have y5 := hcb.cell 5
    have y6 := hcb.cell 6
    have y7 := hcb.cell 7
    have y8 := hcb.cell 8
    clear k2
    go_wp2_with fail
    (with_reducible refine (q2 _).mono ?_)
    rintro e w3 ⟨rfl, k3⟩
    have hk3 := hk2.nil k3
    have hca := hca.keep k3 (by simp)
    have hcb := hcb.keep k3 (by simp)
    clear x0 y0 x1 y1 x2 y2 x3 y3 x4 y4 x5 y5 x6 y6 x7 y7 x8 y8
    have x0 := hca.cell 0
    have x1 := hca.cell 1
    have x2 := hca.cell 2
    have x3 := hca.cell 3
    have x4 := hca.cell 4
    have x5 := hca.cell 5
    have x6 := hca.cell 6
    have x7 := hca.cell 7
    have x8 := hca.cell 8
    have y0 := hcb.cell 0
    have y1 := hcb.cell 1
    have y2 := hcb.cell 2
    have y3 := hcb.cell 3
    have y4 := hcb.cell 4
    have y5 := hcb.cell 5
    have y6 := hcb.cell 6
    have y7 := hcb.cell 7
    have y8 := hcb.cell 8
    have HC3 := hid (And.intro hk3 (And.intro hca hcb))
    clear k3 hk1 hk2 hk3 hca hcb q1 q2
    cases ha with
    | true =>
      have hbb : b = hb := by rw [HR.out.1]; simp
      subst hbb
      go_wp2_with fail
      go_ret
      exact ⟨rfl, HC3.out.1⟩
    | false =>
      cases hb with
      | true =>
        have hbb : b = false := by rw [HR.out.1]; simp
        subst hbb
        go_wp2_with fail
        go_ret
        exact ⟨rfl, HC3.out.1⟩
      | false =>
        have yy0 := fun o => ((Kp.refl [] w3).alloc o).cell y0 (by simp)
        have yy1 := fun o => ((Kp.refl [] w3).alloc o).cell y1 (by simp)
        have yy2 := fun o => ((Kp.refl [] w3).alloc o).cell y2 (by simp)
        have yy3 := fun o => ((Kp.refl [] w3).alloc o).cell y3 (by simp)
        have yy4 := fun o => ((Kp.refl [] w3).alloc o).cell y4 (by simp)
        have yy5 := fun o => ((Kp.refl [] w3).alloc o).cell y5 (by simp)
        have yy6 := fun o => ((Kp.refl [] w3).alloc o).cell y6 (by simp)
        have yy7 := fun o => ((Kp.refl [] w3).alloc o).cell y7 (by simp)
        have yy8 := fun o => ((Kp.refl [] w3).alloc o).cell y8 (by simp)
        have hkp : Kp [] w3 ((w3.alloc (.cells #[.int .i64 (k : Int), .int .u64 (m : Int), .bool (vN num), .string ⟨(vD num).toArray⟩, .int .i64 (vS num), .string ⟨t.toArray⟩, .slice A nk ck, .slice none 0 0, .int .i64 (code : Int)] 31)).alloc (.cells #[.int .i64 (k' : Int), .int .u64 (m' : Int), .bool (vN num'), .string ⟨(vD num').toArray⟩, .int .i64 (vS num'), .string ⟨t'.toArray⟩, .slice A' nk' ck', .slice none 0 0, .int .i64 (code' : Int)] 31)) := ((Kp.refl _ _).alloc _).alloc _
        have qs := Q3.out _ (HC3.out.1.nil hkp)
        have HKP := hid hkp
        clear hkp
        go_wp2_with fail
        (with_reducible refine qs.mono ?_)
        rintro e w5 ⟨rfl, k5⟩
        have hk35 := HKP.out.nil k5
        have hk5 := HC3.out.1.nil hk35
        have hca := HC3.out.2.1.keep hk35 (by simp)
        have hcb := HC3.out.2.2.keep hk35 (by simp)
        clear x0 y0 x1 y1 x2 y2 x3 y3 x4 y4 x5 y5 x6 y6 x7 y7 x8 y8
        have x0 := hca.cell 0
        have x1 := hca.cell 1
        have x2 := hca.cell 2
        have x3 := hca.cell 3
        have x4 := hca.cell 4
        have x5 := hca.cell 5
        have x6 := hca.cell 6
        have x7 := hca.cell 7
        have x8 := hca.cell 8
        have y0 := hcb.cell 0
        have y1 := hcb.cell 1
        have y2 := hcb.cell 2
        have y3 := hcb.cell 3
        have y4 := hcb.cell 4
        have y5 := hcb.cell 5
        have y6 := hcb.cell 6
        have y7 := hcb.cell 7
        have y8 := hcb.cell 8
        have HC := hid (And.intro hk5 (And.intro hca hcb))
        clear qs k5 hk35 hk5 hca hcb yy0 yy1 yy2 yy3 yy4 yy5 yy6 yy7 yy8
        have hrb : b = (bs && alikes cl kids kids') := by rw [HR.out.1, HR.out.2]; simp
        cases bs with
        | false =>
          have hbb : b = false := by rw [hrb]; simp
          subst hbb
          clear hrb
          go_wp2_with fail
          go_ret
          exact ⟨rfl, HC.out.1⟩
        | true =>
          by_cases h7 : n = n'
          · subst h7
            have hbS : b = alikes cl kids kids' := by rw [hrb]; simp
            have HBF : Hid (∀ (i : Nat) v v', kids[i]? = some v → kids'[i]? = some v' → alikeL cl v v' = false → b = false) := hid fun i v v' hv hv' h => by
              rw [hbS]
              cases h2 : alikes cl kids kids'
              · rfl
              · rw [((alikes_iff cl kids kids').1 h2).2 i v v' hv hv'] at h; cases h
            have HBT : Hid ((∀ (i : Nat) v v', kids[i]? = some v → kids'[i]? = some v' → alikeL cl v v' = true) → b = true) := hid fun h => by
              rw [hbS]
              exact (alikes_iff cl kids kids').2 ⟨by rw [← HKD.out.2.2.2.2.2.1, ← HKD.out.2.2.2.2.2.2], h⟩
            clear hbS hrb
            go_wp2_with fail
            obtain ⟨WL, hWL⟩ : ∃ WL : World, WL = w5 := ⟨_, rfl⟩
            subst hWL
            obtain ⟨gA, hgA⟩ : ∃ gA, gA = W.heap.size := ⟨_, rfl⟩
            simp only [← hgA] at *
            obtain ⟨gB, hgB⟩ : ∃ gB, gB = gA + 1 := ⟨_, rfl⟩
            simp only [← hgB] at *
            go_loopw [12] (fun vi wr => ∃ j : Nat, j ≤ n ∧ vi = .int .i64 (j : Int) ∧ Kp [] WL wr ∧ ∀ (i : Nat) v v', i < j → kids[i]? = some v → kids'[i]? = some v' → alikeL cl v v' = true) (fun vi _ => n - (RowKit.intOf vi).toNat)
            case atStart => exact ⟨0, Nat.zero_le _, rfl, Kp.refl _ _, fun i _ _ h => absurd h (Nat.not_lt_zero _)⟩
            case round =>
              obtain ⟨j, hj, rfl, hk, hall⟩ := hrel
              have hkw := HC.out.1.nil hk
              have hca := HC.out.2.1.keep hk (by simp)
              have hcb := HC.out.2.2.keep hk (by simp)
              have d7 := hca.cell 7
              have e7 := hcb.cell 7
              obtain ⟨hB, hB', hr, hr', hq, hn1, hn2⟩ := HKD.out
              by_cases hlt : j < n
              · have hlk : j < kids.length := by rw [← hn1]; exact hlt
                have hlk' : j < kids'.length := by rw [← hn2]; exact hlt
                obtain ⟨v, hv⟩ := at_some hlk
                obtain ⟨v', hv'⟩ := at_some hlk'
                obtain ⟨g, rfl, p⟩ := (hB.kept hkw).at_ j hlk
                obtain ⟨g', rfl, r⟩ := (hB'.kept hkw).at_ j hlk'
                have qj := fun W' (k' : Kp [] wr W') => hq j v v' hv hv' W' (hkw.nil k')
                obtain ⟨ak, am, an, ad, az, ax, aA, ank, ack, aB, anb, acb, aco, e1⟩ := (hr j v hv).isV
                obtain ⟨bk, bm, bn, bd, bz, bx, bA, bnk, bck, bB, bnb, bcb, bco, e2⟩ := (hr' j v' hv').isV
                rw [e1] at p qj
                rw [e2] at r qj
                obtain ⟨b1, hb1⟩ : ∃ b1, b1 = alikeL cl v v' := ⟨_, rfl⟩
                simp only [← hb1] at qj
                have p0 := p 0 _ rfl
                have p1 := p 1 _ rfl
                have p2 := p 2 _ rfl
                have p3 := p 3 _ rfl
                have p4 := p 4 _ rfl
                have p5 := p 5 _ rfl
                have p6 := p 6 _ rfl
                have p7 := p 7 _ rfl
                have p8 := p 8 _ rfl
                have r0 := r 0 _ rfl
                have r1 := r 1 _ rfl
                have r2 := r 2 _ rfl
                have r3 := r 3 _ rfl
                have r4 := r 4 _ rfl
                have r5 := r 5 _ rfl
                have r6 := r 6 _ rfl
                have r7 := r 7 _ rfl
                have r8 := r 8 _ rfl
                simp only [Nat.add_zero] at p0 r0
                have e9 : j * 9 = 9 * j := Nat.mul_comm _ _
                have jn : (j : Int) < (n : Int) := by omega
                have z1 : decide ((j : Int) < (n : Int)) = true := decide_eq_true jn
                have z1n : decide (j < n) = true := decide_eq_true hlt
                have HR := hid (And.intro hb1 (And.intro hv (And.intro hv' (And.intro hall hkw))))
                have HK := hid hk
                clear p r e1 e2 hb1 hv hv' hall hkw hlk hlk' hk hB hB' hr hr' hq hn1 hn2 hca hcb
                go_wp2_with fail
                refine lin_start (fun w' => w'.cell? ⟨gA, 7, none⟩ = some (Value.slice (some ⟨g, 0, none⟩) n cb) ∧ w'.cell? ⟨gB, 7, none⟩ = some (Value.slice (some ⟨g', 0, none⟩) n cb') ∧ w'.cell? ⟨g, 9 * j, none⟩ = some (Value.int .i64 ak) ∧ w'.cell? ⟨g, 9 * j + 1, none⟩ = some (Value.int .u64 am) ∧ w'.cell? ⟨g, 9 * j + 2, none⟩ = some (Value.bool an) ∧ w'.cell? ⟨g, 9 * j + 3, none⟩ = some (Value.string ad) ∧ w'.cell? ⟨g, 9 * j + 4, none⟩ = some (Value.int .i64 az) ∧ w'.cell? ⟨g, 9 * j + 5, none⟩ = some (Value.string ax) ∧ w'.cell? ⟨g, 9 * j + 6, none⟩ = some (Value.slice aA ank ack) ∧ w'.cell? ⟨g, 9 * j + 7, none⟩ = some (Value.slice aB anb acb) ∧ w'.cell? ⟨g, 9 * j + 8, none⟩ = some (Value.int .i64 aco) ∧ w'.cell? ⟨g', 9 * j, none⟩ = some (Value.int .i64 bk) ∧ w'.cell? ⟨g', 9 * j + 1, none⟩ = some (Value.int .u64 bm) ∧ w'.cell? ⟨g', 9 * j + 2, none⟩ = some (Value.bool bn) ∧ w'.cell? ⟨g', 9 * j + 3, none⟩ = some (Value.string bd) ∧ w'.cell? ⟨g', 9 * j + 4, none⟩ = some (Value.int .i64 bz) ∧ w'.cell? ⟨g', 9 * j + 5, none⟩ = some (Value.string bx) ∧ w'.cell? ⟨g', 9 * j + 6, none⟩ = some (Value.slice bA bnk bck) ∧ w'.cell? ⟨g', 9 * j + 7, none⟩ = some (Value.slice bB bnb bcb) ∧ w'.cell? ⟨g', 9 * j + 8, none⟩ = some (Value.int .i64 bco) ∧ Kp [] wr w') ((Stays.cell _ _).and ((Stays.cell _ _).and ((Stays.cell _ _).and ((Stays.cell _ _).and ((Stays.cell _ _).and ((Stays.cell _ _).and ((Stays.cell _ _).and ((Stays.cell _ _).and ((Stays.cell _ _).and ((Stays.cell _ _).and ((Stays.cell _ _).and ((Stays.cell _ _).and ((Stays.cell _ _).and ((Stays.cell _ _).and ((Stays.cell _ _).and ((Stays.cell _ _).and ((Stays.cell _ _).and ((Stays.cell _ _).and ((Stays.cell _ _).and ((Stays.cell _ _).and ((Stays.kp _ _)))))))))))))))))))))) (by kernel_rfl) ⟨d7, e7, p0, p1, p2, p3, p4, p5, p6, p7, p8, r0, r1, r2, r3, r4, r5, r6, r7, r8, (Kp.refl _ _).drew⟩ (fun hSS hS => ?_)
                refine lin_val (i := 0) (v := ?_) rfl (by kernel_rfl) (by kernel_rfl) (by kernel_rfl) (fun _ _ _ h => h) hSS hS rfl (fun w hSw => ?_) ?_
                rotate_left
                · obtain ⟨q0, q1, q2, q3, q4, q5, q6, q7, q8, q9, q10, q11, q12, q13, q14, q15, q16, q17, q18, q19, q20⟩ := hSw; go_simp; first | done | with_reducible rfl
                simp only [Act.put, List.setIfInBounds_toArray, List.set_cons_zero, List.set_cons_succ]
                refine lin_val (i := 1) (v := ?_) rfl (by kernel_rfl) (by kernel_rfl) (by kernel_rfl) (fun _ _ _ h => h) hSS hS rfl (fun w hSw => ?_) ?_
                rotate_left
                · obtain ⟨q0, q1, q2, q3, q4, q5, q6, q7, q8, q9, q10, q11, q12, q13, q14, q15, q16, q17, q18, q19, q20⟩ := hSw; go_simp; first | done | with_reducible rfl
                simp only [Act.put, List.setIfInBounds_toArray, List.set_cons_zero, List.set_cons_succ]
                refine lin_val (i := 2) (v := ?_) rfl (by kernel_rfl) (by kernel_rfl) (by kernel_rfl) (fun _ _ _ h => h) hSS hS rfl (fun w hSw => ?_) ?_
                rotate_left
                · obtain ⟨q0, q1, q2, q3, q4, q5, q6, q7, q8, q9, q10, q11, q12, q13, q14, q15, q16, q17, q18, q19, q20⟩ := hSw; go_simp; first | done | with_reducible rfl
                simp only [Act.put, List.setIfInBounds_toArray, List.set_cons_zero, List.set_cons_succ]
                refine lin_val (i := 3) (v := ?_) rfl (by kernel_rfl) (by kernel_rfl) (by kernel_rfl) (fun _ _ _ h => h) hSS hS rfl (fun w hSw => ?_) ?_
                rotate_left
                · obtain ⟨q0, q1, q2, q3, q4, q5, q6, q7, q8, q9, q10, q11, q12, q13, q14, q15, q16, q17, q18, q19, q20⟩ := hSw; go_simp; first | done | with_reducible rfl
                simp only [Act.put, List.setIfInBounds_toArray, List.set_cons_zero, List.set_cons_succ]
                refine lin_val (i := 4) (v := ?_) rfl (by kernel_rfl) (by kernel_rfl) (by kernel_rfl) (fun _ _ _ h => h) hSS hS rfl (fun w hSw => ?_) ?_
                rotate_left
                · obtain ⟨q0, q1, q2, q3, q4, q5, q6, q7, q8, q9, q10, q11, q12, q13, q14, q15, q16, q17, q18, q19, q20⟩ := hSw; go_simp; first | done | with_reducible rfl
                simp only [Act.put, List.setIfInBounds_toArray, List.set_cons_zero, List.set_cons_succ]
                refine lin_val (i := 5) (v := ?_) rfl (by kernel_rfl) (by kernel_rfl) (by kernel_rfl) (fun _ _ _ h => h) hSS hS rfl (fun w hSw => ?_) ?_
                rotate_left
                · obtain ⟨q0, q1, q2, q3, q4, q5, q6, q7, q8, q9, q10, q11, q12, q13, q14, q15, q16, q17, q18, q19, q20⟩ := hSw; go_simp; first | done | with_reducible rfl
                simp only [Act.put, List.setIfInBounds_toArray, List.set_cons_zero, List.set_cons_succ]
                refine lin_val (i := 6) (v := ?_) rfl (by kernel_rfl) (by kernel_rfl) (by kernel_rfl) (fun _ _ _ h => h) hSS hS rfl (fun w hSw => ?_) ?_
                rotate_left
                · obtain ⟨q0, q1, q2, q3, q4, q5, q6, q7, q8, q9, q10, q11, q12, q13, q14, q15, q16, q17, q18, q19, q20⟩ := hSw; go_simp; first | done | with_reducible rfl
                simp only [Act.put, List.setIfInBounds_toArray, List.set_cons_zero, List.set_cons_succ]
                refine lin_val (i := 7) (v := ?_) rfl (by kernel_rfl) (by kernel_rfl) (by kernel_rfl) (fun _ _ _ h => h) hSS hS rfl (fun w hSw => ?_) ?_
                rotate_left
                · obtain ⟨q0, q1, q2, q3, q4, q5, q6, q7, q8, q9, q10, q11, q12, q13, q14, q15, q16, q17, q18, q19, q20⟩ := hSw; go_simp; first | done | with_reducible rfl
                simp only [Act.put, List.setIfInBounds_toArray, List.set_cons_zero, List.set_cons_succ]
                refine lin_val (i := 8) (v := ?_) rfl (by kernel_rfl) (by kernel_rfl) (by kernel_rfl) (fun _ _ _ h => h) hSS hS rfl (fun w hSw => ?_) ?_
                rotate_left
                · obtain ⟨q0, q1, q2, q3, q4, q5, q6, q7, q8, q9, q10, q11, q12, q13, q14, q15, q16, q17, q18, q19, q20⟩ := hSw; go_simp; first | done | with_reducible rfl
                simp only [Act.put, List.setIfInBounds_toArray, List.set_cons_zero, List.set_cons_succ]
                refine lin_val (i := 9) (v := ?_) rfl (by kernel_rfl) (by kernel_rfl) (by kernel_rfl) (fun _ _ _ h => h) hSS hS rfl (fun w hSw => ?_) ?_
                rotate_left
                · obtain ⟨q0, q1, q2, q3, q4, q5, q6, q7, q8, q9, q10, q11, q12, q13, q14, q15, q16, q17, q18, q19, q20⟩ := hSw; go_simp; first | done | with_reducible rfl
                simp only [Act.put, List.setIfInBounds_toArray, List.set_cons_zero, List.set_cons_succ]
                refine lin_val (i := 10) (v := ?_) rfl (by kernel_rfl) (by kernel_rfl) (by kernel_rfl) (fun _ _ _ h => h) hSS hS rfl (fun w hSw => ?_) ?_
                rotate_left
                · obtain ⟨q0, q1, q2, q3, q4, q5, q6, q7, q8, q9, q10, q11, q12, q13, q14, q15, q16, q17, q18, q19, q20⟩ := hSw; go_simp; first | done | with_reducible rfl
                simp only [Act.put, List.setIfInBounds_toArray, List.set_cons_zero, List.set_cons_succ]
                refine lin_call (i := 11) rfl (by kernel_rfl) (by kernel_rfl) (by kernel_rfl) (fun _ _ _ h => h) hSS hS rfl (fun w hSw => by obtain ⟨q0, q1, q2, q3, q4, q5, q6, q7, q8, q9, q10, q11, q12, q13, q14, q15, q16, q17, q18, q19, q20⟩ := hSw; exact qj w q20) (fun w hSw => ?_) ?_
                · obtain ⟨q0, q1, q2, q3, q4, q5, q6, q7, q8, q9, q10, q11, q12, q13, q14, q15, q16, q17, q18, q19, q20⟩ := hSw; go_simp
                simp only [Act.put, List.setIfInBounds_toArray, List.set_cons_zero, List.set_cons_succ]
                refine lin_val (i := 12) (v := ?_) rfl (by kernel_rfl) (by kernel_rfl) (by kernel_rfl) (fun _ _ _ h => h) hSS hS rfl (fun w hSw => ?_) ?_
                rotate_left
                · obtain ⟨q0, q1, q2, q3, q4, q5, q6, q7, q8, q9, q10, q11, q12, q13, q14, q15, q16, q17, q18, q19, q20⟩ := hSw; go_simp; first | done | with_reducible rfl
                simp only [Act.put, List.setIfInBounds_toArray, List.set_cons_zero, List.set_cons_succ]
                refine lin_done (by kernel_rfl) (fun w3 kw3 => ?_) _
                clear hS hSS
                have hk3 : Kp [] WL w3 := HK.out.nil ((Kp.refl _ _).drew.nil kw3)
                have HK3 := hid hk3
                clear p0 r0 p1 r1 p2 r2 p3 r3 p4 r4 p5 r5 p6 r6 p7 r7 p8 r8 d7 e7 kw3 qj hk3
                cases b1 with
                | true =>
                  go_wp2_with fail
                  go_roundw
                  case rel =>
                    refine ⟨j + 1, by omega, by go_num, HK3.out, fun i u u' hi hu hu' => ?_⟩
                    obtain ⟨hb1, hv, hv', hall, -⟩ := HR.out
                    rcases Nat.lt_or_ge i j with h | h
                    · exact hall i u u' h hu hu'
                    · obtain rfl : i = j := by omega
                      rw [hv] at hu
                      rw [hv'] at hu'
                      injection hu with hu
                      injection hu' with hu'
                      rw [← hu, ← hu']
                      exact hb1.symm
                  case measure => simp [RowKit.intOf]; omega
                | false =>
                  have hbf : b = false := by
                    obtain ⟨hb1, hv, hv', hall, -⟩ := HR.out
                    exact HBF.out j v v' hv hv' hb1.symm
                  subst hbf
                  go_wp2_with fail
                  go_ret
                  exact ⟨rfl, HC.out.1.nil HK3.out⟩
              · have hbt : b = true := HBT.out (fun i v v' hv hv' => hall i v v' (by have := at_len hv; omega) hv hv')
                subst hbt
                have z1 : decide ((j : Int) < (n : Int)) = false := decide_eq_false (by omega)
                have z1n : decide (j < n) = false := decide_eq_false hlt
                have HK := hid hkw
                clear hk hall hlt hkw hB hB' hr hr' hq hn1 hn2 hca hcb
                go_wp2_with fail
                go_ret
                exact ⟨rfl, HK.out⟩
          · have hbb : b = false := by
              rw [hrb]
              cases h2 : alikes cl kids kids'
              · rfl
              · have := ((alikes_iff cl kids kids').1 h2).1
                exact absurd (by rw [HKD.out.2.2.2.2.2.1, HKD.out.2.2.2.2.2.2, this]) h7
            subst hbb
            have z1 : ((n : Int) != (n' : Int)) = true := bne_iff_ne.2 (by omega)
            have z1n : (n != n') = true := bne_iff_ne.2 h7
            have z2 : ¬ (n : Int) = (n' : Int) := by omega
            clear hrb
            go_wp2_with fail
            go_ret
            exact ⟨rfl, HC.out.1⟩
theorem ralike_rep {w : World} {a : Vl} {ca : List Value} (h : Rep w a ca) : RAlikeAt w a ca := by
  induction h with
  | mk k m num t keys kids code A ck B cb ks hA hB hr ih => exact ralike_step w k m num t keys kids code A ck B cb ks hA hB hr ih
theorem ralike_any {w : World} {a b : Vl} {ca cb : List Value} (ha : Rep w a ca) (hb : Rep w b cb) (fa : FineV a) (fb : FineV b) (cl : Nat) (hcl : cl < 18446744073709551616) :
    Calls Tryd.prog 23 #[.agg ca.toArray, .agg cb.toArray, .int .u64 (cl : Int)] w fun e w' => e = .returned (.bool (alikeL cl a b)) ∧ Kp [] w w' :=
  ralike_rep ha fa b cb hb fb w (Kp.refl _ _) cl hcl
end Go.Proofs.YtpeldjihalldkaaDoor
