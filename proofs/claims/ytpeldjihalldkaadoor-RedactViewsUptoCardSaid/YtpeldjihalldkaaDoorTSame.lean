/- Texts, Same: the document's answer. -/
import Derived.Test.YtpeldjihalldkaaDoorRM
import Derived.Test.YtpeldjihalldkaaDoorRG
namespace Go.Proofs.YtpeldjihalldkaaDoor
open Go Go.RowKit Go.Lib

theorem dec_neq (n n' : Bool) (l l' : Txt) (z z' : Int) (w : World) : (binOp .neq 26 (.agg #[.bool n, .string ⟨l.toArray⟩, .int .i64 z]) (.agg #[.bool n', .string ⟨l'.toArray⟩, .int .i64 z'])).run Tryd.prog w = .ok (.bool (!decide (n = n' ∧ l = l' ∧ z = z'))) w := by
  by_cases h1 : n = n'
  · subst h1
    by_cases h2 : l = l'
    · subst h2
      simp [go_sem]
      by_cases h3 : z = z' <;> simp [h3]
    · simp [go_sem, h2]
  · simp [go_sem, h1]
attribute [go_sem ↓ high] dec_neq
mutual
def sameV : Vl → Vl → Bool
  | .mk k m num t keys kids code, .mk k' m' num' t' keys' kids' code' => decide (k = k' ∧ m = m' ∧ num = num' ∧ t = t' ∧ code = code' ∧ keys = keys') && samesV kids kids'
def samesV : List Vl → List Vl → Bool
  | [], [] => true
  | v :: r, v' :: r' => sameV v v' && samesV r r'
  | [], _ :: _ => false
  | _ :: _, [] => false
end
theorem sames_iff : ∀ l l' : List Vl, samesV l l' = true ↔ l.length = l'.length ∧ ∀ (i : Nat) v v', l[i]? = some v → l'[i]? = some v' → sameV v v' = true
  | [], [] => by simp [samesV]
  | [], _ :: _ => by simp [samesV]
  | _ :: _, [] => by simp [samesV]
  | v :: r, v' :: r' => by
    unfold samesV
    rw [Bool.and_eq_true, sames_iff r r']
    constructor
    · rintro ⟨h1, h2, h3⟩
      refine ⟨by simp [h2], fun i u u' hu hu' => ?_⟩
      cases i with
      | zero =>
        injection hu with hu
        injection hu' with hu'
        rw [← hu, ← hu']
        exact h1
      | succ i => exact h3 i u u' hu hu'
    · rintro ⟨h1, h2⟩
      exact ⟨h2 0 v v' rfl rfl, by simpa using h1, fun i u u' hu hu' => h2 (i + 1) u u' hu hu'⟩
theorem texts4_any (w : World) (A B : Option Addr) (c d : Nat) (l l' : List Txt) (h1 : KeysAt w A c l) (h2 : KeysAt w B d l') :
    Calls Tryd.prog 61 #[.slice A l.length c, .slice B l'.length d] w fun e w' => e = .returned (.bool (decide (l = l'))) ∧ Kp [] w w' := by
  obtain ⟨n, hn⟩ : ∃ n, n = l.length := ⟨_, rfl⟩
  obtain ⟨m, hm⟩ : ∃ m, m = l'.length := ⟨_, rfl⟩
  have l1 := h1.le
  have l2 := h1.top
  have m1 := h2.le
  rw [← hn] at l1 ⊢
  rw [← hm] at m1 ⊢
  obtain ⟨b, hb⟩ : ∃ b, b = decide (l = l') := ⟨_, rfl⟩
  rw [← hb]
  have HB := hid (And.intro hb (And.intro hn (And.intro hm (And.intro h1 h2))))
  clear hn hm hb h1 h2
  by_cases hnm : n = m
  · subst hnm
    go_enter Tryd.func61, Tryd.ntmps61
    go_wp2_with fail
    go_loopw [5] (fun vi wr => ∃ j : Nat, j ≤ n ∧ vi = .int .i64 (j : Int) ∧ Kp [] w wr ∧ l.take j = l'.take j) (fun vi _ => n - (RowKit.intOf vi).toNat)
    case atStart => exact ⟨0, Nat.zero_le _, rfl, Kp.refl _ _, rfl⟩
    case round =>
      obtain ⟨j, hj, rfl, hk, ht⟩ := hrel
      obtain ⟨hb, hn, hm, h1, h2⟩ := HB.out
      by_cases hlt : j < n
      · obtain ⟨x, hx⟩ : ∃ x, l[j]? = some x := ⟨_, List.getElem?_eq_getElem (by omega)⟩
        obtain ⟨y, hy⟩ : ∃ y, l'[j]? = some y := ⟨_, List.getElem?_eq_getElem (by omega)⟩
        obtain ⟨g, rfl, c1⟩ := (h1.kept hk).at_ j x hx
        obtain ⟨g', rfl, c2⟩ := (h2.kept hk).at_ j y hy
        have jn : (j : Int) < (n : Int) := by omega
        have z1 : decide ((j : Int) < (n : Int)) = true := decide_eq_true jn
        have z1n : decide (j < n) = true := decide_eq_true hlt
        have HR := hid (And.intro hb (And.intro hx (And.intro hy (And.intro ht hk))))
        clear hb hn hm h1 h2 hx hy ht hk
        by_cases hxy : x = y
        · subst hxy
          go_wp2_with fail
          go_quiet (fail)
          generalize nq = n1 at *
          go_wp2_with fail
          go_roundw
          case rel =>
            obtain ⟨hb, hx, hy, ht, hk⟩ := HR.out
            exact ⟨j + 1, by omega, by go_num, hk.nil ((Kp.refl _ _).drewN n1), by rw [List.take_add_one, List.take_add_one, hx, hy, ht]⟩
          case measure => simp [RowKit.intOf]; omega
        · have hbf : b = false := by
            obtain ⟨hb, hx, hy, ht, hk⟩ := HR.out
            rw [hb, decide_eq_false_iff_not]
            rintro rfl
            rw [hx] at hy
            injection hy with hy
            exact hxy hy
          subst hbf
          have z2 : (x == y) = false := by rw [beq_eq_false_iff_ne]; exact hxy
          have z3 : (x != y) = true := bne_iff_ne.2 hxy
          clear hxy
          go_wp2_with fail
          go_quiet (fail)
          generalize nq = n1 at *
          go_wp2_with fail
          go_ret
          exact ⟨rfl, HR.out.2.2.2.2.nil ((Kp.refl _ _).drewN n1)⟩
      · have hbt : b = true := by
          rw [hb, decide_eq_true_eq]
          rw [List.take_of_length_le (by omega), List.take_of_length_le (by omega)] at ht
          exact ht
        subst hbt
        have z1 : decide ((j : Int) < (n : Int)) = false := decide_eq_false (by omega)
        have z1n : decide (j < n) = false := decide_eq_false hlt
        have HK := hid hk
        clear hb hn hm h1 h2 ht hk hlt
        go_wp2_with fail
        go_ret
        exact ⟨rfl, HK.out⟩
  · have hbf : b = false := by
      obtain ⟨hb, hn, hm, h1, h2⟩ := HB.out
      rw [hb, decide_eq_false_iff_not]
      rintro rfl
      omega
    subst hbf
    have z1 : ((n : Int) != (m : Int)) = true := bne_iff_ne.2 (by omega)
    have z1n : (n != m) = true := bne_iff_ne.2 hnm
    have z2 : ¬ (n : Int) = (m : Int) := by omega
    go_enter Tryd.func61, Tryd.ntmps61
    go_wp2_with fail
    go_ret
    exact ⟨rfl, Kp.refl _ _⟩
/-- What Same does for a tree, and any other, at any later world. -/
def SameAt (w : World) (a : Vl) (ca : List Value) : Prop :=
  ∀ b cb, Rep w b cb → ∀ W, Kp [] w W → Calls Tryd.prog 31 #[.agg ca.toArray, .agg cb.toArray] W fun e w' => e = .returned (.bool (sameV a b)) ∧ Kp [] W w'
set_option maxRecDepth 100000 in
set_option maxHeartbeats 25600000 in
theorem same_step (w : World) (k m : Nat) (num : Option Dc) (t : Txt) (keys : List Txt) (kids : List Vl) (code : Nat) (A : Option Addr) (ck : Nat) (B : Option Addr) (cb : Nat) (ks : Nat → List Value)
    (hA : KeysAt w A ck keys) (hB : KidsAt w B cb kids.length ks) (hr : ∀ (i : Nat) v, kids[i]? = some v → Rep w v (ks i)) (ih : ∀ (i : Nat) v, kids[i]? = some v → SameAt w v (ks i)) :
    SameAt w (.mk k m num t keys kids code) (vC k m (vN num) (vD num) (vS num) t A keys.length ck B kids.length cb code) := by
  intro b0 cb0 hb0 W hK
  cases hb0 with
  | mk k' m' num' t' keys' kids' code' A' ck' B' cb' ks' hA' hB' hr' =>
    have q3 := fun W' (h : Kp [] W W') => texts4_any W' A A' ck ck' keys keys' ((hA.kept hK).kept h) ((hA'.kept hK).kept h)
    have hq : ∀ (i : Nat) v v', kids[i]? = some v → kids'[i]? = some v' → ∀ W2, Kp [] W W2 → Calls Tryd.prog 31 #[.agg (ks i).toArray, .agg (ks' i).toArray] W2 fun e w' => e = .returned (.bool (sameV v v')) ∧ Kp [] W2 w' := by
      intro i v v' hv hv' W2 k2
      have h := ih i v hv
      unfold SameAt at h
      exact h v' (ks' i) (hr' i v' hv') W2 (hK.nil k2)
    obtain ⟨b, hb⟩ : ∃ b, b = sameV (.mk k m num t keys kids code) (.mk k' m' num' t' keys' kids' code') := ⟨_, rfl⟩
    rw [← hb]
    have hres : b = (decide (k = k' ∧ m = m' ∧ num = num' ∧ t = t' ∧ code = code' ∧ keys = keys') && samesV kids kids') := by rw [hb]; unfold sameV; rfl
    unfold vC
    obtain ⟨nk, hnk⟩ : ∃ x, x = keys.length := ⟨_, rfl⟩
    obtain ⟨n, hnb⟩ : ∃ x, x = kids.length := ⟨_, rfl⟩
    obtain ⟨nk', hnk'⟩ : ∃ x, x = keys'.length := ⟨_, rfl⟩
    obtain ⟨n', hnb'⟩ : ∃ x, x = kids'.length := ⟨_, rfl⟩
    have l1 := hB.le
    have l2 := hB.top
    have m1 := hB'.le
    rw [← hnb] at l1
    rw [← hnb'] at m1
    simp only [← hnk, ← hnb] at q3 ⊢
    simp only [← hnk', ← hnb'] at q3 ⊢
    obtain ⟨bk, hbk⟩ : ∃ b, b = decide (keys = keys') := ⟨_, rfl⟩
    simp only [← hbk] at q3
    have hrep : ∀ (i : Nat) v, kids[i]? = some v → Rep W v (ks i) := fun i v hv => (hr i v hv).kept hK
    have hrep' : ∀ (i : Nat) v, kids'[i]? = some v → Rep W v (ks' i) := fun i v hv => (hr' i v hv).kept hK
    have HKD := hid (And.intro (hB.kept hK) (And.intro (hB'.kept hK) (And.intro hrep (And.intro hrep' (And.intro hq (And.intro hnb hnb'))))))
    obtain ⟨W1, hW1⟩ : ∃ W1, W1 = (W.alloc (.cells #[.int .i64 (k : Int), .int .u64 (m : Int), .bool (vN num), .string ⟨(vD num).toArray⟩, .int .i64 (vS num), .string ⟨t.toArray⟩, .slice A nk ck, .slice B n cb, .int .i64 (code : Int)] 31)).alloc (.cells #[.int .i64 (k' : Int), .int .u64 (m' : Int), .bool (vN num'), .string ⟨(vD num').toArray⟩, .int .i64 (vS num'), .string ⟨t'.toArray⟩, .slice A' nk' ck', .slice B' n' cb', .int .i64 (code' : Int)] 31) := ⟨_, rfl⟩
    have hk1 : Kp [] W W1 := by rw [hW1]; exact ((Kp.refl _ _).alloc _).alloc _
    have hca : Cells W1 W.heap.size 31 [.int .i64 (k : Int), .int .u64 (m : Int), .bool (vN num), .string ⟨(vD num).toArray⟩, .int .i64 (vS num), .string ⟨t.toArray⟩, .slice A nk ck, .slice B n cb, .int .i64 (code : Int)] := by rw [hW1]; exact (Cells.fresh W 31 _).alloc _
    have hcb : Cells W1 (W.heap.size + 1) 31 [.int .i64 (k' : Int), .int .u64 (m' : Int), .bool (vN num'), .string ⟨(vD num').toArray⟩, .int .i64 (vS num'), .string ⟨t'.toArray⟩, .slice A' nk' ck', .slice B' n' cb', .int .i64 (code' : Int)] := by rw [hW1]; exact Cells.fresh1 W _ 31 _
    have HR := hid (And.intro hres hbk)
    have qk := q3 _ hk1
    have HH := hid (And.intro hk1 (And.intro hca hcb))
    have HW1 := hid hW1
    clear hA hB hr ih hA' hB' hr' hK hb hres hbk hnk hnk' q3 hW1 hq hrep hrep' hk1 hca hcb hnb hnb'
    go_enter Tryd.func31, Tryd.ntmps31
    go_wp2_with fail
    rw [← HW1.out]
    (with_reducible refine qk.mono ?_)
    rintro e w2 ⟨rfl, k2⟩
    have hk2 := HH.out.1.nil k2
    have hca := HH.out.2.1.keep k2 (by simp)
    have hcb := HH.out.2.2.keep k2 (by simp)
    have x0 := hca.cell 0
    have x1 := hca.cell 1
    have x2 := hca.cell 2
    have x3 := hca.cell 3
    have x4 := hca.cell 4
    have x5 := hca.cell 5
    have x6 := hca.cell 6
    have x7 := hca.cell 7
    have x8 := hca.cell 8
    have y0 := hcb.cell 0
    have y1 := hcb.cell 1
    have y2 := hcb.cell 2
    have y3 := hcb.cell 3
    have y4 := hcb.cell 4
    have y5 := hcb.cell 5
    have y6 := hcb.cell 6
    have y7 := hcb.cell 7
    have y8 := hcb.cell 8
    have HC := hid (And.intro hk2 (And.intro hca hcb))
    clear k2 hk2 hca hcb qk
    by_cases hE : k = k' ∧ m = m' ∧ num = num' ∧ t = t' ∧ code = code' ∧ keys = keys' ∧ n = n'
    · obtain ⟨rfl, rfl, rfl, rfl, rfl, hkk, rfl⟩ := hE
      have hbk : bk = true := by rw [HR.out.2, hkk]; simp
      have hbS : b = samesV kids kids' := by rw [HR.out.1, hkk]; simp
      have HBF : Hid (∀ (i : Nat) v v', kids[i]? = some v → kids'[i]? = some v' → sameV v v' = false → b = false) := hid fun i v v' hv hv' h => by
        rw [hbS]
        cases h2 : samesV kids kids'
        · rfl
        · rw [((sames_iff kids kids').1 h2).2 i v v' hv hv'] at h; cases h
      have HBT : Hid ((∀ (i : Nat) v v', kids[i]? = some v → kids'[i]? = some v' → sameV v v' = true) → b = true) := hid fun h => by
        rw [hbS]
        exact (sames_iff kids kids').2 ⟨by rw [← HKD.out.2.2.2.2.2.1, ← HKD.out.2.2.2.2.2.2], h⟩
      subst hbk
      clear hkk hbS
      go_wp2_with fail
      obtain ⟨WL, hWL⟩ : ∃ WL : World, WL = w2 := ⟨_, rfl⟩
      subst hWL
      obtain ⟨gA, hgA⟩ : ∃ gA, gA = W.heap.size := ⟨_, rfl⟩
      simp only [← hgA] at *
      obtain ⟨gB, hgB⟩ : ∃ gB, gB = gA + 1 := ⟨_, rfl⟩
      simp only [← hgB] at *
      go_loopw [6] (fun vi wr => ∃ j : Nat, j ≤ n ∧ vi = .int .i64 (j : Int) ∧ Kp [] WL wr ∧ ∀ (i : Nat) v v', i < j → kids[i]? = some v → kids'[i]? = some v' → sameV v v' = true) (fun vi _ => n - (RowKit.intOf vi).toNat)
      case atStart => exact ⟨0, Nat.zero_le _, rfl, Kp.refl _ _, fun i _ _ h => absurd h (Nat.not_lt_zero _)⟩
      case round =>
        obtain ⟨j, hj, rfl, hk, hall⟩ := hrel
        have hkw := HC.out.1.nil hk
        have hca := HC.out.2.1.keep hk (by simp)
        have hcb := HC.out.2.2.keep hk (by simp)
        have d7 := hca.cell 7
        have e7 := hcb.cell 7
        obtain ⟨hB, hB', hr, hr', hq, hn1, hn2⟩ := HKD.out
        by_cases hlt : j < n
        · have hlk : j < kids.length := by rw [← hn1]; exact hlt
          have hlk' : j < kids'.length := by rw [← hn2]; exact hlt
          obtain ⟨v, hv⟩ := at_some hlk
          obtain ⟨v', hv'⟩ := at_some hlk'
          obtain ⟨g, rfl, p⟩ := (hB.kept hkw).at_ j hlk
          obtain ⟨g', rfl, r⟩ := (hB'.kept hkw).at_ j hlk'
          have qj := fun W' (k' : Kp [] wr W') => hq j v v' hv hv' W' (hkw.nil k')
          obtain ⟨ak, am, an, ad, az, ax, aA, ank, ack, aB, anb, acb, aco, e1⟩ := (hr j v hv).isV
          obtain ⟨bk, bm, bn, bd, bz, bx, bA, bnk, bck, bB, bnb, bcb, bco, e2⟩ := (hr' j v' hv').isV
          rw [e1] at p qj
          rw [e2] at r qj
          obtain ⟨b1, hb1⟩ : ∃ b1, b1 = sameV v v' := ⟨_, rfl⟩
          simp only [← hb1] at qj
          have p0 := p 0 _ rfl
          have p1 := p 1 _ rfl
          have p2 := p 2 _ rfl
          have p3 := p 3 _ rfl
          have p4 := p 4 _ rfl
          have p5 := p 5 _ rfl
          have p6 := p 6 _ rfl
          have p7 := p 7 _ rfl
          have p8 := p 8 _ rfl
          have r0 := r 0 _ rfl
          have r1 := r 1 _ rfl
          have r2 := r 2 _ rfl
          have r3 := r 3 _ rfl
          have r4 := r 4 _ rfl
          have r5 := r 5 _ rfl
          have r6 := r 6 _ rfl
          have r7 := r 7 _ rfl
          have r8 := r 8 _ rfl
          simp only [Nat.add_zero] at p0 r0
          have e9 : j * 9 = 9 * j := Nat.mul_comm _ _
          have jn : (j : Int) < (n : Int) := by omega
          have z1 : decide ((j : Int) < (n : Int)) = true := decide_eq_true jn
          have z1n : decide (j < n) = true := decide_eq_true hlt
          have HR := hid (And.intro hb1 (And.intro hv (And.intro hv' (And.intro hall hkw))))
          have HK := hid hk
          clear p r e1 e2 hb1 hv hv' hall hkw hlk hlk' hk hB hB' hr hr' hq hn1 hn2 hca hcb
          go_wp2_with fail
          refine lin_start (fun w' => w'.cell? ⟨gA, 7, none⟩ = some (Value.slice (some ⟨g, 0, none⟩) n cb) ∧ w'.cell? ⟨gB, 7, none⟩ = some (Value.slice (some ⟨g', 0, none⟩) n cb') ∧ w'.cell? ⟨g, 9 * j, none⟩ = some (Value.int .i64 ak) ∧ w'.cell? ⟨g, 9 * j + 1, none⟩ = some (Value.int .u64 am) ∧ w'.cell? ⟨g, 9 * j + 2, none⟩ = some (Value.bool an) ∧ w'.cell? ⟨g, 9 * j + 3, none⟩ = some (Value.string ad) ∧ w'.cell? ⟨g, 9 * j + 4, none⟩ = some (Value.int .i64 az) ∧ w'.cell? ⟨g, 9 * j + 5, none⟩ = some (Value.string ax) ∧ w'.cell? ⟨g, 9 * j + 6, none⟩ = some (Value.slice aA ank ack) ∧ w'.cell? ⟨g, 9 * j + 7, none⟩ = some (Value.slice aB anb acb) ∧ w'.cell? ⟨g, 9 * j + 8, none⟩ = some (Value.int .i64 aco) ∧ w'.cell? ⟨g', 9 * j, none⟩ = some (Value.int .i64 bk) ∧ w'.cell? ⟨g', 9 * j + 1, none⟩ = some (Value.int .u64 bm) ∧ w'.cell? ⟨g', 9 * j + 2, none⟩ = some (Value.bool bn) ∧ w'.cell? ⟨g', 9 * j + 3, none⟩ = some (Value.string bd) ∧ w'.cell? ⟨g', 9 * j + 4, none⟩ = some (Value.int .i64 bz) ∧ w'.cell? ⟨g', 9 * j + 5, none⟩ = some (Value.string bx) ∧ w'.cell? ⟨g', 9 * j + 6, none⟩ = some (Value.slice bA bnk bck) ∧ w'.cell? ⟨g', 9 * j + 7, none⟩ = some (Value.slice bB bnb bcb) ∧ w'.cell? ⟨g', 9 * j + 8, none⟩ = some (Value.int .i64 bco) ∧ Kp [] wr w') ((Stays.cell _ _).and ((Stays.cell _ _).and ((Stays.cell _ _).and ((Stays.cell _ _).and ((Stays.cell _ _).and ((Stays.cell _ _).and ((Stays.cell _ _).and ((Stays.cell _ _).and ((Stays.cell _ _).and ((Stays.cell _ _).and ((Stays.cell _ _).and ((Stays.cell _ _).and ((Stays.cell _ _).and ((Stays.cell _ _).and ((Stays.cell _ _).and ((Stays.cell _ _).and ((Stays.cell _ _).and ((Stays.cell _ _).and ((Stays.cell _ _).and ((Stays.cell _ _).and ((Stays.kp _ _)))))))))))))))))))))) (by kernel_rfl) ⟨d7, e7, p0, p1, p2, p3, p4, p5, p6, p7, p8, r0, r1, r2, r3, r4, r5, r6, r7, r8, (Kp.refl _ _).drew⟩ (fun hSS hS => ?_)
          refine lin_val (i := 0) (v := ?_) rfl (by kernel_rfl) (by kernel_rfl) (by kernel_rfl) (fun _ _ _ h => h) hSS hS rfl (fun w hSw => ?_) ?_
          rotate_left
          · obtain ⟨q0, q1, q2, q3, q4, q5, q6, q7, q8, q9, q10, q11, q12, q13, q14, q15, q16, q17, q18, q19, q20⟩ := hSw; go_simp; first | done | with_reducible rfl
          simp only [Act.put, List.setIfInBounds_toArray, List.set_cons_zero, List.set_cons_succ]
          refine lin_val (i := 1) (v := ?_) rfl (by kernel_rfl) (by kernel_rfl) (by kernel_rfl) (fun _ _ _ h => h) hSS hS rfl (fun w hSw => ?_) ?_
          rotate_left
          · obtain ⟨q0, q1, q2, q3, q4, q5, q6, q7, q8, q9, q10, q11, q12, q13, q14, q15, q16, q17, q18, q19, q20⟩ := hSw; go_simp; first | done | with_reducible rfl
          simp only [Act.put, List.setIfInBounds_toArray, List.set_cons_zero, List.set_cons_succ]
          refine lin_val (i := 2) (v := ?_) rfl (by kernel_rfl) (by kernel_rfl) (by kernel_rfl) (fun _ _ _ h => h) hSS hS rfl (fun w hSw => ?_) ?_
          rotate_left
          · obtain ⟨q0, q1, q2, q3, q4, q5, q6, q7, q8, q9, q10, q11, q12, q13, q14, q15, q16, q17, q18, q19, q20⟩ := hSw; go_simp; first | done | with_reducible rfl
          simp only [Act.put, List.setIfInBounds_toArray, List.set_cons_zero, List.set_cons_succ]
          refine lin_val (i := 3) (v := ?_) rfl (by kernel_rfl) (by kernel_rfl) (by kernel_rfl) (fun _ _ _ h => h) hSS hS rfl (fun w hSw => ?_) ?_
          rotate_left
          · obtain ⟨q0, q1, q2, q3, q4, q5, q6, q7, q8, q9, q10, q11, q12, q13, q14, q15, q16, q17, q18, q19, q20⟩ := hSw; go_simp; first | done | with_reducible rfl
          simp only [Act.put, List.setIfInBounds_toArray, List.set_cons_zero, List.set_cons_succ]
          refine lin_val (i := 4) (v := ?_) rfl (by kernel_rfl) (by kernel_rfl) (by kernel_rfl) (fun _ _ _ h => h) hSS hS rfl (fun w hSw => ?_) ?_
          rotate_left
          · obtain ⟨q0, q1, q2, q3, q4, q5, q6, q7, q8, q9, q10, q11, q12, q13, q14, q15, q16, q17, q18, q19, q20⟩ := hSw; go_simp; first | done | with_reducible rfl
          simp only [Act.put, List.setIfInBounds_toArray, List.set_cons_zero, List.set_cons_succ]
          refine lin_val (i := 5) (v := ?_) rfl (by kernel_rfl) (by kernel_rfl) (by kernel_rfl) (fun _ _ _ h => h) hSS hS rfl (fun w hSw => ?_) ?_
          rotate_left
          · obtain ⟨q0, q1, q2, q3, q4, q5, q6, q7, q8, q9, q10, q11, q12, q13, q14, q15, q16, q17, q18, q19, q20⟩ := hSw; go_simp; first | done | with_reducible rfl
          simp only [Act.put, List.setIfInBounds_toArray, List.set_cons_zero, List.set_cons_succ]
          refine lin_val (i := 6) (v := ?_) rfl (by kernel_rfl) (by kernel_rfl) (by kernel_rfl) (fun _ _ _ h => h) hSS hS rfl (fun w hSw => ?_) ?_
          rotate_left
          · obtain ⟨q0, q1, q2, q3, q4, q5, q6, q7, q8, q9, q10, q11, q12, q13, q14, q15, q16, q17, q18, q19, q20⟩ := hSw; go_simp; first | done | with_reducible rfl
          simp only [Act.put, List.setIfInBounds_toArray, List.set_cons_zero, List.set_cons_succ]
          refine lin_val (i := 7) (v := ?_) rfl (by kernel_rfl) (by kernel_rfl) (by kernel_rfl) (fun _ _ _ h => h) hSS hS rfl (fun w hSw => ?_) ?_
          rotate_left
          · obtain ⟨q0, q1, q2, q3, q4, q5, q6, q7, q8, q9, q10, q11, q12, q13, q14, q15, q16, q17, q18, q19, q20⟩ := hSw; go_simp; first | done | with_reducible rfl
          simp only [Act.put, List.setIfInBounds_toArray, List.set_cons_zero, List.set_cons_succ]
          refine lin_val (i := 8) (v := ?_) rfl (by kernel_rfl) (by kernel_rfl) (by kernel_rfl) (fun _ _ _ h => h) hSS hS rfl (fun w hSw => ?_) ?_
          rotate_left
          · obtain ⟨q0, q1, q2, q3, q4, q5, q6, q7, q8, q9, q10, q11, q12, q13, q14, q15, q16, q17, q18, q19, q20⟩ := hSw; go_simp; first | done | with_reducible rfl
          simp only [Act.put, List.setIfInBounds_toArray, List.set_cons_zero, List.set_cons_succ]
          refine lin_val (i := 9) (v := ?_) rfl (by kernel_rfl) (by kernel_rfl) (by kernel_rfl) (fun _ _ _ h => h) hSS hS rfl (fun w hSw => ?_) ?_
          rotate_left
          · obtain ⟨q0, q1, q2, q3, q4, q5, q6, q7, q8, q9, q10, q11, q12, q13, q14, q15, q16, q17, q18, q19, q20⟩ := hSw; go_simp; first | done | with_reducible rfl
          simp only [Act.put, List.setIfInBounds_toArray, List.set_cons_zero, List.set_cons_succ]
          refine lin_call (i := 10) rfl (by kernel_rfl) (by kernel_rfl) (by kernel_rfl) (fun _ _ _ h => h) hSS hS rfl (fun w hSw => by obtain ⟨q0, q1, q2, q3, q4, q5, q6, q7, q8, q9, q10, q11, q12, q13, q14, q15, q16, q17, q18, q19, q20⟩ := hSw; exact qj w q20) (fun w hSw => ?_) ?_
          · obtain ⟨q0, q1, q2, q3, q4, q5, q6, q7, q8, q9, q10, q11, q12, q13, q14, q15, q16, q17, q18, q19, q20⟩ := hSw; go_simp
          simp only [Act.put, List.setIfInBounds_toArray, List.set_cons_zero, List.set_cons_succ]
          refine lin_val (i := 11) (v := ?_) rfl (by kernel_rfl) (by kernel_rfl) (by kernel_rfl) (fun _ _ _ h => h) hSS hS rfl (fun w hSw => ?_) ?_
          rotate_left
          · obtain ⟨q0, q1, q2, q3, q4, q5, q6, q7, q8, q9, q10, q11, q12, q13, q14, q15, q16, q17, q18, q19, q20⟩ := hSw; go_simp; first | done | with_reducible rfl
          simp only [Act.put, List.setIfInBounds_toArray, List.set_cons_zero, List.set_cons_succ]
          refine lin_done (by kernel_rfl) (fun w3 kw3 => ?_) _
          clear hS hSS
          have hk3 : Kp [] WL w3 := HK.out.nil ((Kp.refl _ _).drew.nil kw3)
          have HK3 := hid hk3
          clear p0 r0 p1 r1 p2 r2 p3 r3 p4 r4 p5 r5 p6 r6 p7 r7 p8 r8 d7 e7 kw3 qj hk3
          cases b1 with
          | true =>
            go_wp2_with fail
            go_roundw
            case rel =>
              refine ⟨j + 1, by omega, by go_num, HK3.out, fun i u u' hi hu hu' => ?_⟩
              obtain ⟨hb1, hv, hv', hall, -⟩ := HR.out
              rcases Nat.lt_or_ge i j with h | h
              · exact hall i u u' h hu hu'
              · obtain rfl : i = j := by omega
                rw [hv] at hu
                rw [hv'] at hu'
                injection hu with hu
                injection hu' with hu'
                rw [← hu, ← hu']
                exact hb1.symm
            case measure => simp [RowKit.intOf]; omega
          | false =>
            have hbf : b = false := by
              obtain ⟨hb1, hv, hv', hall, -⟩ := HR.out
              exact HBF.out j v v' hv hv' hb1.symm
            subst hbf
            go_wp2_with fail
            go_ret
            exact ⟨rfl, HC.out.1.nil HK3.out⟩
        · have hbt : b = true := HBT.out (fun i v v' hv hv' => hall i v v' (by have := at_len hv; omega) hv hv')
          subst hbt
          have z1 : decide ((j : Int) < (n : Int)) = false := decide_eq_false (by omega)
          have z1n : decide (j < n) = false := decide_eq_false hlt
          have HK := hid hkw
          clear hk hall hlt hkw hB hB' hr hr' hq hn1 hn2 hca hcb
          go_wp2_with fail
          go_ret
          exact ⟨rfl, HK.out⟩
    · have hbf : b = false := by
        rw [HR.out.1]
        cases h2 : samesV kids kids'
        · simp
        · have := ((sames_iff kids kids').1 h2).1
          rw [Bool.and_true, decide_eq_false_iff_not]
          intro h
          exact hE ⟨h.1, h.2.1, h.2.2.1, h.2.2.2.1, h.2.2.2.2.1, h.2.2.2.2.2, by rw [HKD.out.2.2.2.2.2.1, HKD.out.2.2.2.2.2.2, this]⟩
      subst hbf
      by_cases h1 : k = k'
      · subst h1
        by_cases h2 : m = m'
        · subst h2
          by_cases h3 : num = num'
          · subst h3
            by_cases h4 : t = t'
            · subst h4
              by_cases h5 : code = code'
              · subst h5
                by_cases h6 : keys = keys'
                · have hbk : bk = true := by rw [HR.out.2, h6]; simp
                  subst hbk
                  have h7 : n ≠ n' := fun h => hE ⟨rfl, rfl, rfl, rfl, rfl, h6, h⟩
                  have z1 : ((n : Int) != (n' : Int)) = true := bne_iff_ne.2 (by omega)
                  have z1n : (n != n') = true := bne_iff_ne.2 h7
                  have z2 : ¬ (n : Int) = (n' : Int) := by omega
                  clear hE h6
                  go_wp2_with fail
                  go_ret
                  exact ⟨rfl, HC.out.1⟩
                · have hbk : bk = false := by rw [HR.out.2]; exact decide_eq_false h6
                  subst hbk
                  clear hE h6
                  go_wp2_with fail
                  go_ret
                  exact ⟨rfl, HC.out.1⟩
              · have z1 : ((code : Int) != (code' : Int)) = true := bne_iff_ne.2 (by omega)
                clear hE
                go_wp2_with fail
                go_ret
                exact ⟨rfl, HC.out.1⟩
            · have z1 : (t != t') = true := bne_iff_ne.2 h4
              have z2 : (t == t') = false := by rw [beq_eq_false_iff_ne]; exact h4
              clear hE
              go_wp2_with fail
              go_ret
              exact ⟨rfl, HC.out.1⟩
          · have z3 : decide (vN num = vN num' ∧ vD num = vD num' ∧ vS num = vS num') = false := decide_eq_false (fun h => h3 (num_inj h))
            have z3n : ¬ (vN num = vN num' ∧ vD num = vD num' ∧ vS num = vS num') := fun h => h3 (num_inj h)
            clear hE h3
            go_wp2_with fail
            go_ret
            exact ⟨rfl, HC.out.1⟩
        · have z1 : ((m : Int) != (m' : Int)) = true := bne_iff_ne.2 (by omega)
          clear hE
          go_wp2_with fail
          go_ret
          exact ⟨rfl, HC.out.1⟩
      · have z1 : ((k : Int) != (k' : Int)) = true := bne_iff_ne.2 (by omega)
        clear hE
        go_wp2_with fail
        go_ret
        exact ⟨rfl, HC.out.1⟩
theorem same_rep {w : World} {a : Vl} {ca : List Value} (h : Rep w a ca) : SameAt w a ca := by
  induction h with
  | mk k m num t keys kids code A ck B cb ks hA hB hr ih => exact same_step w k m num t keys kids code A ck B cb ks hA hB hr ih
end Go.Proofs.YtpeldjihalldkaaDoor
