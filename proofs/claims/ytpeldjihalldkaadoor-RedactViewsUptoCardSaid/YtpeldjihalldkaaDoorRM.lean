/- Alike: numbers compared; its closure; rows of kids compared by it. -/
import Derived.Test.YtpeldjihalldkaaDoorRF
import Derived.Laws.StructEq
namespace Go.Proofs.YtpeldjihalldkaaDoor
open Go Go.RowKit Go.Lib

set_option maxRecDepth 100000 in
set_option maxHeartbeats 6400000 in
theorem clos_alike (w : World) (a0 a1 a2 a3 a4 a5 a6 a7 a8 b0 b1 b2 b3 b4 b5 b6 b7 b8 : Value) (bc cl : Nat) (hc : w.cell? ⟨bc, 0, none⟩ = some (.int .u64 (cl : Int))) (b : Bool)
    (q : ∀ W, Kp [] w W → Calls Tryd.prog 22 #[.agg #[a0, a1, a2, a3, a4, a5, a6, a7, a8], .agg #[b0, b1, b2, b3, b4, b5, b6, b7, b8], .int .u64 (cl : Int)] W fun e w' => e = .returned (.bool b) ∧ Kp [] W w') :
    Calls Tryd.prog 53 #[.agg #[a0, a1, a2, a3, a4, a5, a6, a7, a8], .agg #[b0, b1, b2, b3, b4, b5, b6, b7, b8], .pointer (some ⟨bc, 0, none⟩)] w fun e w' => e = .returned (.bool b) ∧ Kp [] w w' := by
  have hk2 : Kp [] w ((w.alloc (.cells #[a0, a1, a2, a3, a4, a5, a6, a7, a8] 31)).alloc (.cells #[b0, b1, b2, b3, b4, b5, b6, b7, b8] 31)) := ((Kp.refl _ _).alloc _).alloc _
  have hc2 := hk2.cell hc (by simp)
  have qq := q _ hk2
  have HK := hid hk2
  clear hk2 q
  go_enter Tryd.func53, Tryd.ntmps53
  go_wp2_with fail
  (with_reducible refine qq.mono ?_)
  rintro e w2 ⟨rfl, k2⟩
  have HK2 := hid (HK.out.nil k2)
  clear k2 qq
  go_wp2_with fail
  go_ret
  exact ⟨rfl, HK2.out⟩
/-- Nine cells as a value has them. -/
def IsV (l : List Value) : Prop := ∃ (k m : Int) (n : Bool) (d : ByteArray) (z : Int) (x : ByteArray) (A : Option Addr) (nk ck : Nat) (B : Option Addr) (nb cb : Nat) (c : Int), l = [.int .i64 k, .int .u64 m, .bool n, .string d, .int .i64 z, .string x, .slice A nk ck, .slice B nb cb, .int .i64 c]
theorem Rep.isV {w : World} {v : Vl} {cs : List Value} (h : Rep w v cs) : IsV cs := by
  cases h
  exact ⟨_, _, _, _, _, _, _, _, _, _, _, _, _, rfl⟩
set_option maxRecDepth 100000 in
set_option maxHeartbeats 6400000 in
theorem eqf_any (w : World) (kids kids' : List Vl) (ks ks' : Nat → List Value) (B B' : Option Addr) (cb cb' : Nat) (hB : KidsAt w B cb kids.length ks) (hB' : KidsAt w B' cb' kids'.length ks') (h9 : ∀ i, i < kids.length → IsV (ks i)) (h9' : ∀ i, i < kids'.length → IsV (ks' i))
    (bc cl : Nat) (hc : w.cell? ⟨bc, 0, none⟩ = some (.int .u64 (cl : Int)))
    (q : ∀ (i : Nat) v v', kids[i]? = some v → kids'[i]? = some v' → ∀ W, Kp [] w W → Calls Tryd.prog 22 #[.agg (ks i).toArray, .agg (ks' i).toArray, .int .u64 (cl : Int)] W fun e w' => e = .returned (.bool (alikeL cl v v')) ∧ Kp [] W w') :
    Calls Tryd.prog 52 #[.slice B kids.length cb, .slice B' kids'.length cb', .func (.func 53) #[] #[.pointer (some ⟨bc, 0, none⟩)]] w fun e w' => e = .returned (.bool (alikes cl kids kids')) ∧ Kp [] w w' := by
  obtain ⟨n, hn⟩ : ∃ n, n = kids.length := ⟨_, rfl⟩
  obtain ⟨m, hm⟩ : ∃ m, m = kids'.length := ⟨_, rfl⟩
  have l1 := hB.le
  have l2 := hB.top
  have m1 := hB'.le
  rw [← hn] at l1 ⊢
  rw [← hm] at m1 ⊢
  obtain ⟨b, hb⟩ : ∃ b, b = alikes cl kids kids' := ⟨_, rfl⟩
  rw [← hb]
  have HB := hid hb
  have HN := hid (And.intro hn hm)
  have HQ := hid q
  have HKD := hid (And.intro hB (And.intro hB' (And.intro h9 h9')))
  clear hn hm hb q hB hB' h9 h9'
  by_cases hnm : n = m
  · subst hnm
    go_enter Tryd.func52, Tryd.ntmps52
    go_wp2_with fail
    go_loopw [17] (fun vi wr => ∃ j : Nat, j ≤ n ∧ vi = .int .i64 (j : Int) ∧ Kp [] w wr ∧ ∀ (i : Nat) v v', i < j → kids[i]? = some v → kids'[i]? = some v' → alikeL cl v v' = true) (fun vi _ => n - (RowKit.intOf vi).toNat)
    case atStart => exact ⟨0, Nat.zero_le _, rfl, Kp.refl _ _, fun i _ _ h => absurd h (Nat.not_lt_zero _)⟩
    case round =>
      obtain ⟨j, hj, rfl, hk, hall⟩ := hrel
      by_cases hlt : j < n
      · have hlk : j < kids.length := by rw [← HN.out.1]; exact hlt
        have hlk' : j < kids'.length := by rw [← HN.out.2]; exact hlt
        obtain ⟨v, hv⟩ := at_some hlk
        obtain ⟨v', hv'⟩ := at_some hlk'
        obtain ⟨g, rfl, c1⟩ := (HKD.out.1.kept hk).at_ j hlk
        obtain ⟨g', rfl, c2⟩ := (HKD.out.2.1.kept hk).at_ j hlk'
        have qj := HQ.out j v v' hv hv'
        obtain ⟨ak, am, an, ad, az, ax, aA, ank, ack, aB, anb, acb, ac, e1⟩ := HKD.out.2.2.1 j hlk
        obtain ⟨bk, bm, bn, bd, bz, bx, bA, bnk, bck, bB, bnb, bcb, bco, e2⟩ := HKD.out.2.2.2 j hlk'
        rw [e1] at c1 qj
        rw [e2] at c2 qj
        obtain ⟨r, hr⟩ : ∃ r, r = alikeL cl v v' := ⟨_, rfl⟩
        rw [← hr] at qj
        have x0 := c1 0 _ rfl
        have x1 := c1 1 _ rfl
        have x2 := c1 2 _ rfl
        have x3 := c1 3 _ rfl
        have x4 := c1 4 _ rfl
        have x5 := c1 5 _ rfl
        have x6 := c1 6 _ rfl
        have x7 := c1 7 _ rfl
        have x8 := c1 8 _ rfl
        have y0 := c2 0 _ rfl
        have y1 := c2 1 _ rfl
        have y2 := c2 2 _ rfl
        have y3 := c2 3 _ rfl
        have y4 := c2 4 _ rfl
        have y5 := c2 5 _ rfl
        have y6 := c2 6 _ rfl
        have y7 := c2 7 _ rfl
        have y8 := c2 8 _ rfl
        simp only [Nat.add_zero] at x0 y0
        have yy0 := fun o => ((Kp.refl [] wr).alloc o).cell y0 (by simp)
        have yy1 := fun o => ((Kp.refl [] wr).alloc o).cell y1 (by simp)
        have yy2 := fun o => ((Kp.refl [] wr).alloc o).cell y2 (by simp)
        have yy3 := fun o => ((Kp.refl [] wr).alloc o).cell y3 (by simp)
        have yy4 := fun o => ((Kp.refl [] wr).alloc o).cell y4 (by simp)
        have yy5 := fun o => ((Kp.refl [] wr).alloc o).cell y5 (by simp)
        have yy6 := fun o => ((Kp.refl [] wr).alloc o).cell y6 (by simp)
        have yy7 := fun o => ((Kp.refl [] wr).alloc o).cell y7 (by simp)
        have yy8 := fun o => ((Kp.refl [] wr).alloc o).cell y8 (by simp)
        have hcc := (hk.nil (((Kp.refl [] wr).alloc (.cells #[.int .i64 ak, .int .u64 am, .bool an, .string ad, .int .i64 az, .string ax, .slice aA ank ack, .slice aB anb acb, .int .i64 ac] 31)).alloc (.cells #[.int .i64 bk, .int .u64 bm, .bool bn, .string bd, .int .i64 bz, .string bx, .slice bA bnk bck, .slice bB bnb bcb, .int .i64 bco] 31)))
        have qc := clos_alike _ _ _ _ _ _ _ _ _ _ _ _ _ _ _ _ _ _ _ bc cl (hcc.cell hc (by simp)) r (fun W k => qj W (hcc.nil k))
        have e9 : j * 9 = 9 * j := Nat.mul_comm _ _
        have jn : (j : Int) < (n : Int) := by omega
        have z1 : decide ((j : Int) < (n : Int)) = true := decide_eq_true jn
        have z1n : decide (j < n) = true := decide_eq_true hlt
        have HR := hid (And.intro hr (And.intro hv (And.intro hv' (And.intro hall hcc))))
        clear c1 c2 e1 e2 hr hv hv' hall hcc qj hlk hlk' hk
        go_wp2_with fail
        (with_reducible refine qc.mono ?_)
        rintro e w3 ⟨rfl, k3⟩
        obtain ⟨hr, hv, hv', hall, hcc⟩ := HR.out
        have HK3 := hid (hcc.nil k3)
        have HA := hid (And.intro hr (And.intro hv (And.intro hv' hall)))
        clear k3 qc hr hv hv' hall hcc
        cases r with
        | true =>
          go_wp2_with fail
          go_roundw
          case rel =>
            refine ⟨j + 1, by omega, by go_num, HK3.out, fun i u u' hi hu hu' => ?_⟩
            obtain ⟨hr, hv, hv', hall⟩ := HA.out
            rcases Nat.lt_or_ge i j with h | h
            · exact hall i u u' h hu hu'
            · obtain rfl : i = j := by omega
              rw [hv] at hu
              rw [hv'] at hu'
              injection hu with hu
              injection hu' with hu'
              rw [← hu, ← hu']
              exact hr.symm
          case measure => simp [RowKit.intOf]; omega
        | false =>
          have hbf : b = false := by
            obtain ⟨hr, hv, hv', hall⟩ := HA.out
            rw [HB.out]
            cases h : alikes cl kids kids'
            · rfl
            · have := ((alikes_iff cl kids kids').1 h).2 j v v' hv hv'
              rw [this] at hr
              cases hr
          subst hbf
          go_wp2_with fail
          go_ret
          exact ⟨rfl, HK3.out⟩
      · have hbt : b = true := by
          rw [HB.out]
          refine (alikes_iff cl kids kids').2 ⟨by rw [← HN.out.1, ← HN.out.2], fun i v v' hv hv' => hall i v v' ?_ hv hv'⟩
          have := at_len hv
          rw [← HN.out.1] at this
          omega
        subst hbt
        have z1 : decide ((j : Int) < (n : Int)) = false := decide_eq_false (by omega)
        have z1n : decide (j < n) = false := decide_eq_false hlt
        have HK := hid hk
        clear hk hall hlt
        go_wp2_with fail
        go_ret
        exact ⟨rfl, HK.out⟩
  · have hbf : b = false := by
      rw [HB.out]
      cases h : alikes cl kids kids'
      · rfl
      · have := ((alikes_iff cl kids kids').1 h).1
        exact absurd (by rw [HN.out.1, HN.out.2, this]) hnm
    subst hbf
    have z1 : ((n : Int) != (m : Int)) = true := bne_iff_ne.2 (by omega)
    have z1n : (n != m) = true := bne_iff_ne.2 hnm
    have z2 : ¬ (n : Int) = (m : Int) := by omega
    go_enter Tryd.func52, Tryd.ntmps52
    go_wp2_with fail
    go_ret
    exact ⟨rfl, Kp.refl _ _⟩
end Go.Proofs.YtpeldjihalldkaaDoor

/- Alike: keys compared, numbers compared. -/
namespace Go.Proofs.YtpeldjihalldkaaDoor
open Go Go.RowKit Go.Lib

theorem keys_eq (w : World) (A A' : Option Addr) (c c' : Nat) (l l' : List Txt) (h : KeysAt w A c l) (h' : KeysAt w A' c' l') (hl : l.length ≤ 1000) (hl' : l'.length ≤ 1000) :
    Calls Tryd.prog 51 #[.slice A l.length c, .slice A' l'.length c'] w fun e w' => e = .returned (.bool (decide (l = l'))) ∧ Kp [] w w' := by
  rcases Nat.eq_zero_or_pos l.length with h0 | h0
  · rw [h0]
    obtain rfl := List.length_eq_zero_iff.1 h0
    refine (Tryd.slices_Equal_string_empty A A' c l'.length c' w (by omega)).mono fun e w' ⟨h1, h2⟩ => ⟨?_, by rw [h2]; exact Kp.refl _ _⟩
    rw [h1]
    congr 2
    cases l' <;> simp
  · rcases Nat.eq_zero_or_pos l'.length with h0' | h0'
    · refine (Tryd.slices_Equal_string_lens A A' l.length c l'.length c' w (by omega)).mono fun e w' ⟨h1, h2⟩ => ⟨?_, by rw [h2]; exact Kp.refl _ _⟩
      rw [h1]
      congr 2
      rw [eq_comm, decide_eq_false_iff_not]
      rintro rfl
      omega
    · obtain ⟨x, hx⟩ : ∃ x, l[0]? = some x := ⟨_, List.getElem?_eq_getElem h0⟩
      obtain ⟨x', hx'⟩ : ∃ x, l'[0]? = some x := ⟨_, List.getElem?_eq_getElem h0'⟩
      obtain ⟨g, rfl, -⟩ := h.at_ 0 x hx
      obtain ⟨g', rfl, -⟩ := h'.at_ 0 x' hx'
      refine (Tryd.slices_Equal_string g 0 l.length c g' 0 l'.length c' (l.map fun x => ⟨x.toArray⟩) (l'.map fun x => ⟨x.toArray⟩) w (by simp) (by simp) (by omega) (by omega) (fun j hj => ?_) (fun j hj => ?_)).mono fun e w' ⟨h1, q, h2⟩ => ⟨?_, by rw [h2]; exact (Kp.refl _ _).drewN q⟩
      · rw [List.length_map] at hj
        obtain ⟨g2, e, hc⟩ := h.at_ j l[j] (List.getElem?_eq_getElem hj)
        injection e with e
        injection e with e
        subst e
        rw [Nat.zero_add, hc]
        simp [List.getD, hj]
      · rw [List.length_map] at hj
        obtain ⟨g2, e, hc⟩ := h'.at_ j l'[j] (List.getElem?_eq_getElem hj)
        injection e with e
        injection e with e
        subst e
        rw [Nat.zero_add, hc]
        simp [List.getD, hj]
      · rw [h1]
        congr 2
        rw [List.take_of_length_le (by simp), List.take_of_length_le (by simp)]
        have hinj : Function.Injective (fun x : Txt => (⟨x.toArray⟩ : ByteArray)) := fun a b hab => by
          have h1 := congrArg (fun z : ByteArray => z.data.toList) hab
          simpa using h1
        rw [decide_eq_decide]
        exact ⟨fun h => List.map_inj_right (fun a b hab => hinj hab) |>.1 h, fun h => by rw [h]⟩
theorem str_beq (x y : Txt) : ((⟨x.toArray⟩ : ByteArray).toList == (⟨y.toArray⟩ : ByteArray).toList) = decide (x = y) := by
  rw [Bool.eq_iff_iff, beq_iff_eq, decide_eq_true_eq]
  have e : ∀ z : Txt, (⟨z.toArray⟩ : ByteArray).toList = z := fun z => by simp
  rw [e, e]
@[go_sem ↓ high] theorem dec_eql (n n' : Bool) (l l' : Txt) (z z' : Int) (w : World) : (binOp .eql 26 (.agg #[.bool n, .string ⟨l.toArray⟩, .int .i64 z]) (.agg #[.bool n', .string ⟨l'.toArray⟩, .int .i64 z'])).run Tryd.prog w = .ok (.bool (decide (n = n' ∧ l = l' ∧ z = z'))) w := by
  by_cases h1 : n = n'
  · subst h1
    by_cases h2 : l = l'
    · subst h2
      simp [go_sem]
      by_cases h3 : z = z' <;> simp [h3]
    · simp [go_sem, h2]
  · simp [go_sem, h1]
end Go.Proofs.YtpeldjihalldkaaDoor

/- Alike: one step of it; Alike. -/
namespace Go.Proofs.YtpeldjihalldkaaDoor
open Go Go.RowKit Go.Lib

/-- What Alike does for a tree, and any other, at any later world. -/
def AlikeAt (w : World) (a : Vl) (ca : List Value) : Prop :=
  FineV a → ∀ b cb, Rep w b cb → FineV b → ∀ W, Kp [] w W → ∀ cl : Nat, cl < 18446744073709551616 →
    Calls Tryd.prog 22 #[.agg ca.toArray, .agg cb.toArray, .int .u64 (cl : Int)] W fun e w' => e = .returned (.bool (alikeL cl a b)) ∧ Kp [] W w'
theorem fine_keys {k m : Nat} {num : Option Dc} {t : Txt} {keys : List Txt} {kids : List Vl} {code : Nat} (h : FineV (.mk k m num t keys kids code)) : keys.length ≤ 1000 := by
  cases h with
  | mk _ _ _ _ _ _ _ hk hm hn hn0 ht ht0 hkl hk0 hks hkd hc hcode hc0 hc8 hmany hf =>
    by_cases h : k = 7
    · have := hkl h
      omega
    · rw [hk0 h]
      decide
theorem num_inj {num num' : Option Dc} (h : vN num = vN num' ∧ vD num = vD num' ∧ vS num = vS num') : num = num' := by
  rcases num with _ | ⟨n, d, s⟩ <;> rcases num' with _ | ⟨n', d', s'⟩
  · rfl
  · have := length_dtxt d'
    have h2 : ([] : Txt) = dtxt d' := h.2.1
    rw [← h2] at this
    simp at this
  · have := length_dtxt d
    have h2 : dtxt d = ([] : Txt) := h.2.1
    rw [h2] at this
    simp at this
  · have h1 : n = n' := h.1
    have h2 : dtxt d = dtxt d' := h.2.1
    have h3 : (s : Int) = (s' : Int) := h.2.2
    rw [h1, dtxt_inj h2, show s = s' by omega]
set_option maxRecDepth 100000 in
set_option maxHeartbeats 25600000 in
theorem alike_step (w : World) (k m : Nat) (num : Option Dc) (t : Txt) (keys : List Txt) (kids : List Vl) (code : Nat) (A : Option Addr) (ck : Nat) (B : Option Addr) (cb : Nat) (ks : Nat → List Value)
    (hA : KeysAt w A ck keys) (hB : KidsAt w B cb kids.length ks) (hr : ∀ (i : Nat) v, kids[i]? = some v → Rep w v (ks i)) (ih : ∀ (i : Nat) v, kids[i]? = some v → AlikeAt w v (ks i)) :
    AlikeAt w (.mk k m num t keys kids code) (vC k m (vN num) (vD num) (vS num) t A keys.length ck B kids.length cb code) := by
  intro hf b cb0 hb hfb W hK cl hcl
  cases hb with
  | mk k' m' num' t' keys' kids' code' A' ck' B' cb' ks' hA' hB' hr' =>
    have hkeys1 := fine_keys hf
    have hkeys2 := fine_keys hfb
    have q1 := fun W' => hidden_cells W' (k : Int) m (vN num) (vD num) (vS num) t A keys.length ck B kids.length cb (code : Int) cl (fine_mask hf) hcl
    have q2 := fun W' => hidden_cells W' (k' : Int) m' (vN num') (vD num') (vS num') t' A' keys'.length ck' B' kids'.length cb' (code' : Int) cl (fine_mask hfb) hcl
    have q3 := fun W' (h : Kp [] W W') => keys_eq W' A A' ck ck' keys keys' ((hA.kept hK).kept h) ((hA'.kept hK).kept h) hkeys1 hkeys2
    have ihk : ∀ (i : Nat) v v', kids[i]? = some v → kids'[i]? = some v' → ∀ W2, Kp [] W W2 → Calls Tryd.prog 22 #[.agg (ks i).toArray, .agg (ks' i).toArray, .int .u64 (cl : Int)] W2 fun e w' => e = .returned (.bool (alikeL cl v v')) ∧ Kp [] W2 w' := by
      intro i v v' hv hv' W2 k2
      have h := ih i v hv
      unfold AlikeAt at h
      exact h (fine_kid hf v (at_mem hv)) v' (ks' i) (hr' i v' hv') (fine_kid hfb v' (at_mem hv')) W2 (hK.nil k2) cl hcl
    have iv : ∀ i, i < kids.length → IsV (ks i) := fun i hi => by obtain ⟨v, hv⟩ := at_some hi; exact (hr i v hv).isV
    have iv' : ∀ i, i < kids'.length → IsV (ks' i) := fun i hi => by obtain ⟨v, hv⟩ := at_some hi; exact (hr' i v hv).isV
    have q4 : ∀ W', Kp [] W W' → ∀ bc, W'.cell? ⟨bc, 0, none⟩ = some (.int .u64 (cl : Int)) → Calls Tryd.prog 52 #[.slice B kids.length cb, .slice B' kids'.length cb', .func (.func 53) #[] #[.pointer (some ⟨bc, 0, none⟩)]] W' fun e w' => e = .returned (.bool (alikes cl kids kids')) ∧ Kp [] W' w' :=
      fun W' h bc hc => eqf_any W' kids kids' ks ks' B B' cb cb' ((hB.kept hK).kept h) ((hB'.kept hK).kept h) iv iv' bc cl hc (fun i v v' hv hv' W2 k2 => ihk i v v' hv hv' W2 (h.nil k2))
    have hmf : ∀ (fn : Fn) (first cap : Array Value) (w : World), (Instr.makeFunc fn first cap).run Tryd.prog w = .ok (.func fn first cap) w := fun _ _ _ _ => rfl
    obtain ⟨ha, hha⟩ : ∃ b, b = hidB m cl := ⟨_, rfl⟩
    obtain ⟨hb, hhb⟩ : ∃ b, b = hidB m' cl := ⟨_, rfl⟩
    simp only [← hha] at q1
    simp only [← hhb] at q2
    obtain ⟨r, hr0⟩ : ∃ r, r = alikeL cl (.mk k m num t keys kids code) (.mk k' m' num' t' keys' kids' code') := ⟨_, rfl⟩
    rw [← hr0]
    have hres : r = if ha || hb then ha && hb else decide (k = k' ∧ m = m' ∧ num = num' ∧ t = t' ∧ code = code' ∧ keys = keys') && alikes cl kids kids' := by rw [hr0, hha, hhb]; unfold alikeL; rfl
    unfold vC
    obtain ⟨nk, hnk⟩ : ∃ x, x = keys.length := ⟨_, rfl⟩
    obtain ⟨nb, hnb⟩ : ∃ x, x = kids.length := ⟨_, rfl⟩
    obtain ⟨nk', hnk'⟩ : ∃ x, x = keys'.length := ⟨_, rfl⟩
    obtain ⟨nb', hnb'⟩ : ∃ x, x = kids'.length := ⟨_, rfl⟩
    simp only [← hnk, ← hnb] at q1 q3 q4 ⊢
    simp only [← hnk', ← hnb'] at q2 q3 q4 ⊢
    obtain ⟨bk, hbk⟩ : ∃ b, b = decide (keys = keys') := ⟨_, rfl⟩
    obtain ⟨bb, hbb⟩ : ∃ b, b = alikes cl kids kids' := ⟨_, rfl⟩
    simp only [← hbk] at q3
    simp only [← hbb] at q4 hres
    obtain ⟨W1, hW1⟩ : ∃ W1, W1 = ((W.alloc (.cells #[.int .i64 (k : Int), .int .u64 (m : Int), .bool (vN num), .string ⟨(vD num).toArray⟩, .int .i64 (vS num), .string ⟨t.toArray⟩, .slice A nk ck, .slice B nb cb, .int .i64 (code : Int)] 31)).alloc (.cells #[.int .i64 (k' : Int), .int .u64 (m' : Int), .bool (vN num'), .string ⟨(vD num').toArray⟩, .int .i64 (vS num'), .string ⟨t'.toArray⟩, .slice A' nk' ck', .slice B' nb' cb', .int .i64 (code' : Int)] 31)).alloc (.cells #[.int .u64 (cl : Int)] 23) := ⟨_, rfl⟩
    have hk1 : Kp [] W W1 := by rw [hW1]; exact (((Kp.refl _ _).alloc _).alloc _).alloc _
    have hca : Cells W1 W.heap.size 31 [.int .i64 (k : Int), .int .u64 (m : Int), .bool (vN num), .string ⟨(vD num).toArray⟩, .int .i64 (vS num), .string ⟨t.toArray⟩, .slice A nk ck, .slice B nb cb, .int .i64 (code : Int)] := by rw [hW1]; exact ((Cells.fresh W 31 _).alloc _).alloc _
    have hcb : Cells W1 (W.heap.size + 1) 31 [.int .i64 (k' : Int), .int .u64 (m' : Int), .bool (vN num'), .string ⟨(vD num').toArray⟩, .int .i64 (vS num'), .string ⟨t'.toArray⟩, .slice A' nk' ck', .slice B' nb' cb', .int .i64 (code' : Int)] := by rw [hW1]; exact (Cells.fresh1 W _ 31 _).alloc _
    have hcc : Cells W1 (W.heap.size + 1 + 1) 23 [.int .u64 (cl : Int)] := by
      rw [hW1]
      have := Cells.fresh1 (W.alloc (.cells #[.int .i64 (k : Int), .int .u64 (m : Int), .bool (vN num), .string ⟨(vD num).toArray⟩, .int .i64 (vS num), .string ⟨t.toArray⟩, .slice A nk ck, .slice B nb cb, .int .i64 (code : Int)] 31)) (.cells #[.int .i64 (k' : Int), .int .u64 (m' : Int), .bool (vN num'), .string ⟨(vD num').toArray⟩, .int .i64 (vS num'), .string ⟨t'.toArray⟩, .slice A' nk' ck', .slice B' nb' cb', .int .i64 (code' : Int)] 31) 23 [.int .u64 (cl : Int)]
      simpa using this
    have HR := hid (And.intro hres hbk)
    have Q3 := hid q3
    have Q4 := hid q4
    have HW1 := hid hW1
    clear hA hB hr ih hf hfb hA' hB' hr' hK hcl hha hhb hr0 hres hbk hbb hnk hnb hnk' hnb' hkeys1 hkeys2 q3 q4 hW1 ihk iv iv'
    have HH := hid (And.intro hk1 (And.intro hca (And.intro hcb hcc)))
    cases ha with
    | true =>
      have hrb : r = hb := by rw [HR.out.1]; simp
      subst hrb
      clear hk1 hca hcb hcc
      go_enter Tryd.func22, Tryd.ntmps22
      go_wp2_with fail
      rw [← HW1.out]
      obtain ⟨hk1, hca, hcb, hcc⟩ := HH.out
      have x0 := hca.cell 0
      have x1 := hca.cell 1
      have x2 := hca.cell 2
      have x3 := hca.cell 3
      have x4 := hca.cell 4
      have x5 := hca.cell 5
      have x6 := hca.cell 6
      have x7 := hca.cell 7
      have x8 := hca.cell 8
      have y0 := hcb.cell 0
      have y1 := hcb.cell 1
      have y2 := hcb.cell 2
      have y3 := hcb.cell 3
      have y4 := hcb.cell 4
      have y5 := hcb.cell 5
      have y6 := hcb.cell 6
      have y7 := hcb.cell 7
      have y8 := hcb.cell 8
      have c0 := hcc.cell 0
      (with_reducible refine (q1 _).mono ?_)
      rintro e w2 ⟨rfl, k2⟩
      have hk2 := hk1.nil k2
      have hca := hca.keep k2 (by simp)
      have hcb := hcb.keep k2 (by simp)
      have hcc := hcc.keep k2 (by simp)
      clear x0 y0 x1 y1 x2 y2 x3 y3 x4 y4 x5 y5 x6 y6 x7 y7 x8 y8 c0
      have x0 := hca.cell 0
      have x1 := hca.cell 1
      have x2 := hca.cell 2
      have x3 := hca.cell 3
      have x4 := hca.cell 4
      have x5 := hca.cell 5
      have x6 := hca.cell 6
      have x7 := hca.cell 7
      have x8 := hca.cell 8
      have y0 := hcb.cell 0
      have y1 := hcb.cell 1
      have y2 := hcb.cell 2
      have y3 := hcb.cell 3
      have y4 := hcb.cell 4
      have y5 := hcb.cell 5
      have y6 := hcb.cell 6
      have y7 := hcb.cell 7
      have y8 := hcb.cell 8
      have c0 := hcc.cell 0
      clear k2
      go_wp2_with fail
      (with_reducible refine (q1 _).mono ?_)
      rintro e w3 ⟨rfl, k3⟩
      have hk3 := hk2.nil k3
      have hca := hca.keep k3 (by simp)
      have hcb := hcb.keep k3 (by simp)
      have hcc := hcc.keep k3 (by simp)
      clear x0 y0 x1 y1 x2 y2 x3 y3 x4 y4 x5 y5 x6 y6 x7 y7 x8 y8 c0
      have x0 := hca.cell 0
      have x1 := hca.cell 1
      have x2 := hca.cell 2
      have x3 := hca.cell 3
      have x4 := hca.cell 4
      have x5 := hca.cell 5
      have x6 := hca.cell 6
      have x7 := hca.cell 7
      have x8 := hca.cell 8
      have y0 := hcb.cell 0
      have y1 := hcb.cell 1
      have y2 := hcb.cell 2
      have y3 := hcb.cell 3
      have y4 := hcb.cell 4
      have y5 := hcb.cell 5
      have y6 := hcb.cell 6
      have y7 := hcb.cell 7
      have y8 := hcb.cell 8
      have c0 := hcc.cell 0
      clear k3
      go_wp2_with fail
      (with_reducible refine (q2 _).mono ?_)
      rintro e w4 ⟨rfl, k4⟩
      have hk4 := hk3.nil k4
      have hca := hca.keep k4 (by simp)
      have hcb := hcb.keep k4 (by simp)
      have hcc := hcc.keep k4 (by simp)
      clear x0 y0 x1 y1 x2 y2 x3 y3 x4 y4 x5 y5 x6 y6 x7 y7 x8 y8 c0
      have x0 := hca.cell 0
      have x1 := hca.cell 1
      have x2 := hca.cell 2
      have x3 := hca.cell 3
      have x4 := hca.cell 4
      have x5 := hca.cell 5
      have x6 := hca.cell 6
      have x7 := hca.cell 7
      have x8 := hca.cell 8
      have y0 := hcb.cell 0
      have y1 := hcb.cell 1
      have y2 := hcb.cell 2
      have y3 := hcb.cell 3
      have y4 := hcb.cell 4
      have y5 := hcb.cell 5
      have y6 := hcb.cell 6
      have y7 := hcb.cell 7
      have y8 := hcb.cell 8
      have c0 := hcc.cell 0
      clear k4
      clear x0 y0 x1 y1 x2 y2 x3 y3 x4 y4 x5 y5 x6 y6 x7 y7 x8 y8 c0
      have HK := hid hk4
      clear hk1 hk2 hk3 hk4 hca hcb hcc
      go_wp2_with fail
      go_ret
      exact ⟨rfl, HK.out⟩
    | false =>
      cases hb with
      | true =>
        have hrb : r = false := by rw [HR.out.1]; simp
        subst hrb
        clear hk1 hca hcb hcc
        go_enter Tryd.func22, Tryd.ntmps22
        go_wp2_with fail
        rw [← HW1.out]
        obtain ⟨hk1, hca, hcb, hcc⟩ := HH.out
        have x0 := hca.cell 0
        have x1 := hca.cell 1
        have x2 := hca.cell 2
        have x3 := hca.cell 3
        have x4 := hca.cell 4
        have x5 := hca.cell 5
        have x6 := hca.cell 6
        have x7 := hca.cell 7
        have x8 := hca.cell 8
        have y0 := hcb.cell 0
        have y1 := hcb.cell 1
        have y2 := hcb.cell 2
        have y3 := hcb.cell 3
        have y4 := hcb.cell 4
        have y5 := hcb.cell 5
        have y6 := hcb.cell 6
        have y7 := hcb.cell 7
        have y8 := hcb.cell 8
        have c0 := hcc.cell 0
        (with_reducible refine (q1 _).mono ?_)
        rintro e w2 ⟨rfl, k2⟩
        have hk2 := hk1.nil k2
        have hca := hca.keep k2 (by simp)
        have hcb := hcb.keep k2 (by simp)
        have hcc := hcc.keep k2 (by simp)
        clear x0 y0 x1 y1 x2 y2 x3 y3 x4 y4 x5 y5 x6 y6 x7 y7 x8 y8 c0
        have x0 := hca.cell 0
        have x1 := hca.cell 1
        have x2 := hca.cell 2
        have x3 := hca.cell 3
        have x4 := hca.cell 4
        have x5 := hca.cell 5
        have x6 := hca.cell 6
        have x7 := hca.cell 7
        have x8 := hca.cell 8
        have y0 := hcb.cell 0
        have y1 := hcb.cell 1
        have y2 := hcb.cell 2
        have y3 := hcb.cell 3
        have y4 := hcb.cell 4
        have y5 := hcb.cell 5
        have y6 := hcb.cell 6
        have y7 := hcb.cell 7
        have y8 := hcb.cell 8
        have c0 := hcc.cell 0
        clear k2
        go_wp2_with fail
        (with_reducible refine (q2 _).mono ?_)
        rintro e w3 ⟨rfl, k3⟩
        have hk3 := hk2.nil k3
        have hca := hca.keep k3 (by simp)
        have hcb := hcb.keep k3 (by simp)
        have hcc := hcc.keep k3 (by simp)
        clear x0 y0 x1 y1 x2 y2 x3 y3 x4 y4 x5 y5 x6 y6 x7 y7 x8 y8 c0
        have x0 := hca.cell 0
        have x1 := hca.cell 1
        have x2 := hca.cell 2
        have x3 := hca.cell 3
        have x4 := hca.cell 4
        have x5 := hca.cell 5
        have x6 := hca.cell 6
        have x7 := hca.cell 7
        have x8 := hca.cell 8
        have y0 := hcb.cell 0
        have y1 := hcb.cell 1
        have y2 := hcb.cell 2
        have y3 := hcb.cell 3
        have y4 := hcb.cell 4
        have y5 := hcb.cell 5
        have y6 := hcb.cell 6
        have y7 := hcb.cell 7
        have y8 := hcb.cell 8
        have c0 := hcc.cell 0
        clear k3
        go_wp2_with fail
        (with_reducible refine (q1 _).mono ?_)
        rintro e w4 ⟨rfl, k4⟩
        have hk4 := hk3.nil k4
        have hca := hca.keep k4 (by simp)
        have hcb := hcb.keep k4 (by simp)
        have hcc := hcc.keep k4 (by simp)
        clear x0 y0 x1 y1 x2 y2 x3 y3 x4 y4 x5 y5 x6 y6 x7 y7 x8 y8 c0
        have x0 := hca.cell 0
        have x1 := hca.cell 1
        have x2 := hca.cell 2
        have x3 := hca.cell 3
        have x4 := hca.cell 4
        have x5 := hca.cell 5
        have x6 := hca.cell 6
        have x7 := hca.cell 7
        have x8 := hca.cell 8
        have y0 := hcb.cell 0
        have y1 := hcb.cell 1
        have y2 := hcb.cell 2
        have y3 := hcb.cell 3
        have y4 := hcb.cell 4
        have y5 := hcb.cell 5
        have y6 := hcb.cell 6
        have y7 := hcb.cell 7
        have y8 := hcb.cell 8
        have c0 := hcc.cell 0
        clear k4
        clear x0 y0 x1 y1 x2 y2 x3 y3 x4 y4 x5 y5 x6 y6 x7 y7 x8 y8 c0
        have HK := hid hk4
        clear hk1 hk2 hk3 hk4 hca hcb hcc
        go_wp2_with fail
        go_ret
        exact ⟨rfl, HK.out⟩
      | false =>
        have hrb : r = (decide (k = k' ∧ m = m' ∧ num = num' ∧ t = t' ∧ code = code' ∧ keys = keys') && bb) := by rw [HR.out.1]; simp
        have HRB := hid hrb
        clear hrb
        clear hk1 hca hcb hcc
        go_enter Tryd.func22, Tryd.ntmps22
        go_wp2_with fail
        rw [← HW1.out]
        obtain ⟨hk1, hca, hcb, hcc⟩ := HH.out
        have x0 := hca.cell 0
        have x1 := hca.cell 1
        have x2 := hca.cell 2
        have x3 := hca.cell 3
        have x4 := hca.cell 4
        have x5 := hca.cell 5
        have x6 := hca.cell 6
        have x7 := hca.cell 7
        have x8 := hca.cell 8
        have y0 := hcb.cell 0
        have y1 := hcb.cell 1
        have y2 := hcb.cell 2
        have y3 := hcb.cell 3
        have y4 := hcb.cell 4
        have y5 := hcb.cell 5
        have y6 := hcb.cell 6
        have y7 := hcb.cell 7
        have y8 := hcb.cell 8
        have c0 := hcc.cell 0
        (with_reducible refine (q1 _).mono ?_)
        rintro e w2 ⟨rfl, k2⟩
        have hk2 := hk1.nil k2
        have hca := hca.keep k2 (by simp)
        have hcb := hcb.keep k2 (by simp)
        have hcc := hcc.keep k2 (by simp)
        clear x0 y0 x1 y1 x2 y2 x3 y3 x4 y4 x5 y5 x6 y6 x7 y7 x8 y8 c0
        have x0 := hca.cell 0
        have x1 := hca.cell 1
        have x2 := hca.cell 2
        have x3 := hca.cell 3
        have x4 := hca.cell 4
        have x5 := hca.cell 5
        have x6 := hca.cell 6
        have x7 := hca.cell 7
        have x8 := hca.cell 8
        have y0 := hcb.cell 0
        have y1 := hcb.cell 1
        have y2 := hcb.cell 2
        have y3 := hcb.cell 3
        have y4 := hcb.cell 4
        have y5 := hcb.cell 5
        have y6 := hcb.cell 6
        have y7 := hcb.cell 7
        have y8 := hcb.cell 8
        have c0 := hcc.cell 0
        clear k2
        go_wp2_with fail
        (with_reducible refine (q2 _).mono ?_)
        rintro e w3 ⟨rfl, k3⟩
        have hk3 := hk2.nil k3
        have hca := hca.keep k3 (by simp)
        have hcb := hcb.keep k3 (by simp)
        have hcc := hcc.keep k3 (by simp)
        clear x0 y0 x1 y1 x2 y2 x3 y3 x4 y4 x5 y5 x6 y6 x7 y7 x8 y8 c0
        have x0 := hca.cell 0
        have x1 := hca.cell 1
        have x2 := hca.cell 2
        have x3 := hca.cell 3
        have x4 := hca.cell 4
        have x5 := hca.cell 5
        have x6 := hca.cell 6
        have x7 := hca.cell 7
        have x8 := hca.cell 8
        have y0 := hcb.cell 0
        have y1 := hcb.cell 1
        have y2 := hcb.cell 2
        have y3 := hcb.cell 3
        have y4 := hcb.cell 4
        have y5 := hcb.cell 5
        have y6 := hcb.cell 6
        have y7 := hcb.cell 7
        have y8 := hcb.cell 8
        have c0 := hcc.cell 0
        clear k3
        clear q1 q2
        have HC := hid (And.intro hk3 (And.intro hca (And.intro hcb hcc)))
        clear hk1 hk2 hk3 hca hcb hcc
        by_cases h1 : k = k'
        · subst h1
          by_cases h2 : m = m'
          · subst h2
            by_cases h3 : num = num'
            · subst h3
              by_cases h4 : t = t'
              · subst h4
                by_cases h5 : code = code'
                · subst h5
                  cases bk with
                  | true =>
                    have hrb : r = bb := by rw [HRB.out, of_decide_eq_true HR.out.2.symm]; simp
                    have qk := Q3.out _ HC.out.1
                    go_wp2_with fail
                    (with_reducible refine qk.mono ?_)
                    rintro e w4 ⟨rfl, k4⟩
                    have hca := HC.out.2.1.keep k4 (by simp)
                    have hcb := HC.out.2.2.1.keep k4 (by simp)
                    have hcc := HC.out.2.2.2.keep k4 (by simp)
                    have hk4 := HC.out.1.nil k4
                    clear x0 y0 x1 y1 x2 y2 x3 y3 x4 y4 x5 y5 x6 y6 x7 y7 x8 y8 c0
                    have x0 := hca.cell 0
                    have x1 := hca.cell 1
                    have x2 := hca.cell 2
                    have x3 := hca.cell 3
                    have x4 := hca.cell 4
                    have x5 := hca.cell 5
                    have x6 := hca.cell 6
                    have x7 := hca.cell 7
                    have x8 := hca.cell 8
                    have y0 := hcb.cell 0
                    have y1 := hcb.cell 1
                    have y2 := hcb.cell 2
                    have y3 := hcb.cell 3
                    have y4 := hcb.cell 4
                    have y5 := hcb.cell 5
                    have y6 := hcb.cell 6
                    have y7 := hcb.cell 7
                    have y8 := hcb.cell 8
                    have c0 := hcc.cell 0
                    have qe := Q4.out _ hk4 _ c0
                    have HK4 := hid hk4
                    clear k4 hk4 hca hcb hcc qk
                    go_wp2_with fail
                    (with_reducible refine qe.mono ?_)
                    rintro e w5 ⟨rfl, k5⟩
                    have HK5 := hid (HK4.out.nil k5)
                    clear x0 y0 x1 y1 x2 y2 x3 y3 x4 y4 x5 y5 x6 y6 x7 y7 x8 y8 c0
                    clear k5 qe
                    subst hrb
                    go_wp2_with fail
                    go_ret
                    exact ⟨rfl, HK5.out⟩
                  | false =>
                    have hrb : r = false := by rw [HRB.out]; have := of_decide_eq_false HR.out.2.symm; simp [this]
                    subst hrb
                    have qk := Q3.out _ HC.out.1
                    go_wp2_with fail
                    (with_reducible refine qk.mono ?_)
                    rintro e w4 ⟨rfl, k4⟩
                    have HK4 := hid (HC.out.1.nil k4)
                    clear x0 y0 x1 y1 x2 y2 x3 y3 x4 y4 x5 y5 x6 y6 x7 y7 x8 y8 c0
                    clear k4 qk
                    go_wp2_with fail
                    go_ret
                    exact ⟨rfl, HK4.out⟩
                · have hrb : r = false := by rw [HRB.out]; simp [h5]
                  subst hrb
                  have z5 : ((code : Int) == (code' : Int)) = false := by rw [beq_eq_false_iff_ne]; omega
                  clear h5
                  go_wp2_with fail
                  go_ret
                  exact ⟨rfl, HC.out.1⟩
              · have hrb : r = false := by rw [HRB.out]; simp [h4]
                subst hrb
                have z4 : (t == t') = false := by rw [beq_eq_false_iff_ne]; exact h4
                clear h4
                go_wp2_with fail
                go_ret
                exact ⟨rfl, HC.out.1⟩
            · have hrb : r = false := by rw [HRB.out]; simp [h3]
              subst hrb
              have z3 : decide (vN num = vN num' ∧ vD num = vD num' ∧ vS num = vS num') = false := decide_eq_false (fun h => h3 (num_inj h))
              have z3n : ¬ (vN num = vN num' ∧ vD num = vD num' ∧ vS num = vS num') := fun h => h3 (num_inj h)
              clear h3
              go_wp2_with fail
              go_ret
              exact ⟨rfl, HC.out.1⟩
          · have hrb : r = false := by rw [HRB.out]; simp [h2]
            subst hrb
            have z2 : ((m : Int) == (m' : Int)) = false := by rw [beq_eq_false_iff_ne]; omega
            clear h2
            go_wp2_with fail
            go_ret
            exact ⟨rfl, HC.out.1⟩
        · have hrb : r = false := by rw [HRB.out]; simp [h1]
          subst hrb
          have z1 : ((k : Int) == (k' : Int)) = false := by rw [beq_eq_false_iff_ne]; omega
          clear h1
          go_wp2_with fail
          go_ret
          exact ⟨rfl, HC.out.1⟩
theorem alike_rep {w : World} {a : Vl} {ca : List Value} (h : Rep w a ca) : AlikeAt w a ca := by
  induction h with
  | mk k m num t keys kids code A ck B cb ks hA hB hr ih => exact alike_step w k m num t keys kids code A ck B cb ks hA hB hr ih
theorem alike_any {w : World} {a b : Vl} {ca cb : List Value} (ha : Rep w a ca) (hb : Rep w b cb) (fa : FineV a) (fb : FineV b) (cl : Nat) (hcl : cl < 18446744073709551616) :
    Calls Tryd.prog 22 #[.agg ca.toArray, .agg cb.toArray, .int .u64 (cl : Int)] w fun e w' => e = .returned (.bool (alikeL cl a b)) ∧ Kp [] w w' :=
  alike_rep ha fa b cb hb fb w (Kp.refl _ _) cl hcl
end Go.Proofs.YtpeldjihalldkaaDoor

