/- Held: the document's answer. -/
import Derived.Test.YtpeldjihalldkaaDoorTTidy
namespace Go.Proofs.YtpeldjihalldkaaDoor
open Go Go.RowKit Go.Lib

theorem helds_snoc : ∀ (l : List Vl) (v : Vl), helds (l ++ [v]) = helds l + heldV v
  | [], v => by simp [helds]
  | u :: r, v => by
    rw [List.cons_append]
    unfold helds
    rw [helds_snoc r v]
    omega
theorem held_le : ∀ v, heldV v ≤ sizeV v := by
  refine Vl.ind fun k m num t keys kids code ih => ?_
  have h : ∀ l : List Vl, (∀ v ∈ l, heldV v ≤ sizeV v) → helds l ≤ sizes l := by
    intro l
    induction l with
    | nil => intro _; simp [helds, sizes]
    | cons v r ih2 =>
      intro h
      unfold helds sizes
      have h1 := h v (by simp)
      have h2 := ih2 fun u hu => h u (by simp [hu])
      omega
  have := h kids ih
  unfold heldV sizeV
  split <;> omega
theorem sizes_take_le (l : List Vl) (n : Nat) : sizes (l.take n) ≤ sizes l := by
  have := sizes_part l n
  omega
theorem helds_le (l : List Vl) : helds l ≤ sizes l := by
  induction l with
  | nil => simp [helds, sizes]
  | cons v r ih =>
    unfold helds sizes
    have := held_le v
    omega
/-- What Held does for a tree at any later world. -/
def HeldAt (w : World) (v : Vl) (cs : List Value) : Prop := sizeV v ≤ 1000000 → ∀ W, Kp [] w W → Calls Tryd.prog 25 #[.agg cs.toArray] W fun e w' => e = .returned (.int .i64 (heldV v : Int)) ∧ Kp [] W w'
set_option maxRecDepth 100000 in
set_option maxHeartbeats 12800000 in
theorem held_step (w : World) (k m : Nat) (num : Option Dc) (t : Txt) (keys : List Txt) (kids : List Vl) (code : Nat) (A : Option Addr) (ck : Nat) (B : Option Addr) (cb : Nat) (ks : Nat → List Value)
    (hB : KidsAt w B cb kids.length ks) (hr : ∀ (i : Nat) v, kids[i]? = some v → Rep w v (ks i)) (ih : ∀ (i : Nat) v, kids[i]? = some v → HeldAt w v (ks i)) :
    HeldAt w (.mk k m num t keys kids code) (vC k m (vN num) (vD num) (vS num) t A keys.length ck B kids.length cb code) := by
  intro hz W hK
  have hB := hB.kept hK
  have l1 := hB.le
  have l2 := hB.top
  have hzk : sizes kids + 1 ≤ 1000000 := by unfold sizeV at hz; omega
  have hlt : ∀ j, helds (kids.take j) + 1 ≤ 1000000 := fun j => by
    have h1 := helds_le (kids.take j)
    have h2 := sizes_take_le kids j
    omega
  unfold vC
  obtain ⟨nk, hnk⟩ : ∃ x, x = keys.length := ⟨_, rfl⟩
  obtain ⟨n, hn⟩ : ∃ x, x = kids.length := ⟨_, rfl⟩
  rw [← hn] at l1
  simp only [← hnk, ← hn]
  obtain ⟨D, hD⟩ : ∃ D, D = heldV (.mk k m num t keys kids code) := ⟨_, rfl⟩
  rw [← hD]
  have hD2 : D = if m = 0 then 1 + helds kids else 1 := by rw [hD]; unfold heldV; rfl
  obtain ⟨W1, hW1⟩ : ∃ W1, W1 = W.alloc (.cells #[.int .i64 (k : Int), .int .u64 (m : Int), .bool (vN num), .string ⟨(vD num).toArray⟩, .int .i64 (vS num), .string ⟨t.toArray⟩, .slice A nk ck, .slice B n cb, .int .i64 (code : Int)] 31) := ⟨_, rfl⟩
  have hk1 : Kp [] W W1 := by rw [hW1]; exact (Kp.refl _ _).alloc _
  have hc1 : Cells W1 W.heap.size 31 [.int .i64 (k : Int), .int .u64 (m : Int), .bool (vN num), .string ⟨(vD num).toArray⟩, .int .i64 (vS num), .string ⟨t.toArray⟩, .slice A nk ck, .slice B n cb, .int .i64 (code : Int)] := by rw [hW1]; exact Cells.fresh W 31 _
  have HX := hid (And.intro hB (And.intro hr (And.intro ih (And.intro hK (And.intro hzk (And.intro hn (And.intro hlt hD2)))))))
  have H1 := hid (And.intro hk1 hc1)
  have HW1 := hid hW1
  clear hB hr ih hK hz hzk hn hnk hlt hD hD2 hk1 hc1 hW1
  go_enter Tryd.func25, Tryd.ntmps25
  go_wp2_with fail
  go_loopw [3, 4] (fun vd vi wr => ∃ j : Nat, j ≤ n ∧ vd = .int .i64 ((1 + helds (kids.take j) : Nat) : Int) ∧ vi = .int .i64 (j : Int) ∧ Kp [] W1 wr ∧ (m ≠ 0 → j = 0)) (fun _ vi _ => n - (RowKit.intOf vi).toNat)
  case atStart => exact ⟨0, Nat.zero_le _, by simp [helds], rfl, by rw [← HW1.out]; exact Kp.refl _ _, fun _ => rfl⟩
  case round =>
    obtain ⟨j, hj, rfl, rfl, hk, hmj⟩ := hrel
    obtain ⟨hB, hr, ih, hK, hzk, hn, hlt, hD2⟩ := HX.out
    have hc := H1.out.2.keep hk (by simp)
    have x7 := hc.cell 7
    have x1 := hc.cell 1
    have hkW := H1.out.1.nil hk
    by_cases hjn : j < n
    · have jn : (j : Int) < (n : Int) := by omega
      have z1 : decide ((j : Int) < (n : Int)) = true := decide_eq_true jn
      have z1n : decide (j < n) = true := decide_eq_true hjn
      by_cases hm0 : m = 0
      · have zm : ((m : Int) == 0) = true := by rw [beq_iff_eq]; omega
        have hjk : j < kids.length := by omega
        obtain ⟨v, hv⟩ := at_some hjk
        obtain ⟨g, rfl, p⟩ := (hB.kept hkW).at_ j hjk
        have hsv := size_at kids j v hv
        have q := ih j v hv (by omega) wr (hK.nil hkW)
        obtain ⟨ak, am, an, ad, az, ax, aA, ank, ack, aB, anb, acb, aco, e1⟩ := (hr j v hv).isV
        rw [e1] at p q
        have p0 := p 0 _ rfl
        have p1 := p 1 _ rfl
        have p2 := p 2 _ rfl
        have p3 := p 3 _ rfl
        have p4 := p 4 _ rfl
        have p5 := p 5 _ rfl
        have p6 := p 6 _ rfl
        have p7 := p 7 _ rfl
        have p8 := p 8 _ rfl
        simp only [Nat.add_zero] at p0
        have hsn : helds (kids.take (j + 1)) = helds (kids.take j) + heldV v := by rw [List.take_add_one, hv]; exact helds_snoc _ v
        have hl1 := hlt (j + 1)
        have HS := hid hk
        obtain ⟨d1, hd1⟩ : ∃ d, d = 1 + helds (kids.take j) := ⟨_, rfl⟩
        obtain ⟨d2, hd2⟩ : ∃ d, d = heldV v := ⟨_, rfl⟩
        obtain ⟨d3, hd3⟩ : ∃ d, d = 1 + helds (kids.take (j + 1)) := ⟨_, rfl⟩
        have hsum : IntKind.i64.wrap ((d1 : Int) + (d2 : Int)) = (d3 : Int) := by
          rw [show (d1 : Int) + (d2 : Int) = (d3 : Int) by omega]
          exact IntWalk.i64_in _ (by omega)
        rw [← hd2] at q
        rw [← hd1]
        have HD3 := hid hd3
        have e9 : j * 9 = 9 * j := Nat.mul_comm _ _
        have HM0 := hid hm0
        clear p e1 hB hr ih hK hzk hn hlt hD2 hc hkW hv hjk hk hsn hd1 hd2 hd3 hl1 hsv hmj hm0
        go_wp2_with fail
        (with_reducible refine q.mono ?_)
        rintro e w3 ⟨rfl, k3⟩
        have HK3 := hid (HS.out.nil k3)
        clear k3 q
        go_wp2_with fail
        go_roundw
        case rel => exact ⟨j + 1, by omega, by rw [HD3.out], by go_num, HK3.out, fun h => absurd HM0.out h⟩
        case measure => simp [RowKit.intOf]; omega
      · have hj0 := hmj hm0
        subst hj0
        have hD1 : D = 1 := by rw [hD2, if_neg hm0]
        subst hD1
        have zm : ((m : Int) == 0) = false := by rw [beq_eq_false_iff_ne]; omega
        have HK := hid hkW
        simp only [List.take_zero, helds, Nat.add_zero]
        clear hB hr ih hK hzk hn hlt hD2 hc hkW hk hmj
        go_wp2_with fail
        go_ret
        exact ⟨rfl, HK.out⟩
    · have hd : 1 + helds (kids.take j) = D := by
        by_cases hm0 : m = 0
        · rw [hD2, if_pos hm0, List.take_of_length_le (by omega)]
        · have := hmj hm0
          subst this
          rw [hD2, if_neg hm0]
          simp [helds]
      rw [hd]
      have z1 : decide ((j : Int) < (n : Int)) = false := decide_eq_false (by omega)
      have z1n : decide (j < n) = false := decide_eq_false hjn
      have HK := hid hkW
      clear hB hr ih hK hzk hn hlt hD2 hc hkW hk hd hjn hmj
      go_wp2_with fail
      go_ret
      exact ⟨rfl, HK.out⟩
theorem held_rep {w : World} {v : Vl} {cs : List Value} (h : Rep w v cs) : HeldAt w v cs := by
  induction h with
  | mk k m num t keys kids code A ck B cb ks hA hB hr ih => exact held_step w k m num t keys kids code A ck B cb ks hB hr ih
end Go.Proofs.YtpeldjihalldkaaDoor
