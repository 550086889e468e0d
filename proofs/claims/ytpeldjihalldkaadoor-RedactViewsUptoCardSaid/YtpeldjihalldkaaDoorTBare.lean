/- With; Deep; Bare: the document's answer. -/
import Derived.Test.YtpeldjihalldkaaDoorTBuilt
import Derived.Test.YtpeldjihalldkaaDoorTRAlike
namespace Go.Proofs.YtpeldjihalldkaaDoor
open Go Go.RowKit Go.Lib

/-- A row of trees that grows: of old blocks (of the world w), and of new ones (since W0). -/
structure Grow (w W0 wr : World) (va : Value) (vs : List Vl) (css : List (List Value)) (g c : Nat) : Prop where
  v : va = .slice (some ⟨g, 0, none⟩) vs.length c
  own : OwnN wr 31 9 va vs.length css.flatten
  old : W0.heap.size ≤ g
  lt : g < wr.heap.size
  trees : Trees wr (fun x => (x < w.heap.size ∨ (W0.heap.size ≤ x ∧ x < wr.heap.size)) ∧ x ≠ g) vs css
  kp : Kp [] W0 wr
  base : w.heap.size ≤ W0.heap.size
theorem Grow.later {w W0 wr w' : World} {va : Value} {vs : List Vl} {css : List (List Value)} {g c : Nat} (h : Grow w W0 wr va vs css g c) (k : Kp [] wr w') : Grow w W0 w' va vs css g c :=
  ⟨h.v, h.own.kept k, h.old, Nat.lt_of_lt_of_le h.lt k.size, (h.trees.keep k (by simp)).mono fun x hx => ⟨hx.1.imp id (fun h => ⟨h.1, Nat.lt_of_lt_of_le h.2 k.size⟩), hx.2⟩, h.kp.nil k, h.base⟩
theorem Grow.snoc {w W0 wr wc wx : World} {va : Value} {vs : List Vl} {css : List (List Value)} {g c : Nat} (h : Grow w W0 wr va vs css g c) (kc : Kp [] wr wc) (kx : Kp [] wc wx) {v : Vl} {cs : List Value} (hv : RepS wx (fun x => x < w.heap.size ∨ (wc.heap.size ≤ x ∧ x < wx.heap.size)) v cs)
    {wy w' : World} {g' c' : Nat} (ky : Kp [] wx wy) (ho : OwnN w' 31 9 (.slice (some ⟨g', 0, none⟩) (vs.length + 1) c') (vs.length + 1) (css.flatten ++ cs))
    (k : Kp [g] wy w') (hg : g' = g ∨ g' = wy.heap.size) : Grow w W0 w' (.slice (some ⟨g', 0, none⟩) (vs.length + 1) c') (vs ++ [v]) (css ++ [cs]) g' c' := by
  have hl : (vs ++ [v]).length = vs.length + 1 := by simp
  have hfl : (css ++ [cs]).flatten = css.flatten ++ cs := by simp
  have hold := h.old
  have hlt := h.lt
  have hb := h.base
  have s1 := kc.size
  have s2 := kx.size
  have s3 := ky.size
  have s4 := k.size
  have s0 := h.kp.size
  have hx := (h.later kc).later kx
  have hv2 : RepS wx (fun x => (x < w.heap.size ∨ (W0.heap.size ≤ x ∧ x < wx.heap.size)) ∧ x ≠ g) v cs := hv.mono fun x hp => by
    rcases hp with hp | hp
    · exact ⟨.inl hp, by omega⟩
    · exact ⟨.inr ⟨by omega, hp.2⟩, by omega⟩
  have ht := ((hx.trees.snoc hv2).keep ky (by simp)).keep k (by simp)
  refine ⟨by rw [hl], by rw [hl, hfl]; exact ho, by rcases hg with rfl | rfl <;> omega, ho.lt g' rfl, ht.mono fun x hp => ⟨hp.1.imp id (fun h => ⟨h.1, by omega⟩), ?_⟩, (hx.kp.nil ky).fresh k hold, hb⟩
  rcases hg with rfl | rfl
  · exact hp.2
  · rcases hp.1 with h1 | h1 <;> omega
set_option maxRecDepth 100000 in
set_option maxHeartbeats 6400000 in
theorem with4_any (w : World) (k : Int) (m mask : Nat) (n : Bool) (l : ByteArray) (z : Int) (x : ByteArray) (A : Option Addr) (nk ck : Nat) (B : Option Addr) (nb cb : Nat) (code : Int) (hm : m < 18446744073709551616) (hmask : mask < 18446744073709551616) :
    Calls Tryd.prog 33 #[.agg #[.int .i64 k, .int .u64 (m : Int), .bool n, .string l, .int .i64 z, .string x, .slice A nk ck, .slice B nb cb, .int .i64 code], .int .u64 (mask : Int)] w fun e w' =>
      e = .returned (.agg #[.int .i64 k, .int .u64 ((m ||| mask : Nat) : Int), .bool n, .string l, .int .i64 z, .string x, .slice A nk ck, .slice B nb cb, .int .i64 code]) ∧ Kp [] w w' := by
  have hor := u64_or_nat m mask (by simpa using hm) (by simpa using hmask)
  obtain ⟨y, hy⟩ : ∃ y, y = m ||| mask := ⟨_, rfl⟩
  rw [← hy] at hor ⊢
  have hk2 : Kp [] w ((w.alloc (.cells #[.int .i64 k, .int .u64 (y : Int), .bool n, .string l, .int .i64 z, .string x, .slice A nk ck, .slice B nb cb, .int .i64 code] 31)).alloc (.cells #[.int .i64 k, .int .u64 (y : Int), .bool n, .string l, .int .i64 z, .string x, .slice A nk ck, .slice B nb cb, .int .i64 code] 31)) := ((Kp.refl _ _).alloc _).alloc _
  have HK := hid hk2
  clear hy hm hmask hk2
  go_enter Tryd.func33, Tryd.ntmps33
  go_wp2_with fail
  exact bodyPost_ret (v := .agg #[.int .i64 k, .int .u64 (y : Int), .bool n, .string l, .int .i64 z, .string x, .slice A nk ck, .slice B nb cb, .int .i64 code])
    (by simp [results, Tryd.results33, go_sem]) rfl ⟨rfl, HK.out⟩
theorem deeps_lt : ∀ (l : List Vl), (∀ v ∈ l, FineV v → deepV v < 18446744073709551616) → (∀ v ∈ l, FineV v) → ∀ acc, acc < 18446744073709551616 → deeps acc l < 18446744073709551616
  | [], _, _, acc, h => by unfold deeps; exact h
  | v :: r, hi, hf, acc, h => by
    unfold deeps
    have h1 := hi v (by simp) (hf v (by simp))
    exact deeps_lt r (fun u hu => hi u (by simp [hu])) (fun u hu => hf u (by simp [hu])) _ (Nat.or_lt_two_pow (n := 64) h h1)
theorem deep_lt : ∀ v, FineV v → deepV v < 18446744073709551616 := by
  refine Vl.ind fun k m num t keys kids code ih hf => ?_
  unfold deepV
  exact deeps_lt kids ih (fine_kid hf) m (fine_mask hf)
theorem deeps_snoc : ∀ (l : List Vl) (v : Vl) (acc : Nat), deeps acc (l ++ [v]) = deeps acc l ||| deepV v
  | [], v, acc => by simp [deeps]
  | u :: r, v, acc => by
    rw [List.cons_append]
    unfold deeps
    exact deeps_snoc r v _
/-- What Deep does for a tree at any later world. -/
def DeepAt (w : World) (v : Vl) (cs : List Value) : Prop := FineV v → ∀ W, Kp [] w W → Calls Tryd.prog 54 #[.agg cs.toArray] W fun e w' => e = .returned (.int .u64 (deepV v : Int)) ∧ Kp [] W w'
set_option maxRecDepth 100000 in
set_option maxHeartbeats 12800000 in
theorem deep_step (w : World) (k m : Nat) (num : Option Dc) (t : Txt) (keys : List Txt) (kids : List Vl) (code : Nat) (A : Option Addr) (ck : Nat) (B : Option Addr) (cb : Nat) (ks : Nat → List Value)
    (hB : KidsAt w B cb kids.length ks) (hr : ∀ (i : Nat) v, kids[i]? = some v → Rep w v (ks i)) (ih : ∀ (i : Nat) v, kids[i]? = some v → DeepAt w v (ks i)) :
    DeepAt w (.mk k m num t keys kids code) (vC k m (vN num) (vD num) (vS num) t A keys.length ck B kids.length cb code) := by
  intro hf W hK
  have hB := hB.kept hK
  have l1 := hB.le
  have l2 := hB.top
  have hfk := fine_kid hf
  have hm := fine_mask hf
  have hlt : ∀ j, deeps m (kids.take j) < 18446744073709551616 := fun j => deeps_lt _ (fun v _ => deep_lt v) (fun v hv => hfk v (List.mem_of_mem_take hv)) m hm
  unfold vC
  obtain ⟨nk, hnk⟩ : ∃ x, x = keys.length := ⟨_, rfl⟩
  obtain ⟨n, hn⟩ : ∃ x, x = kids.length := ⟨_, rfl⟩
  rw [← hn] at l1
  simp only [← hnk, ← hn]
  obtain ⟨D, hD⟩ : ∃ D, D = deepV (.mk k m num t keys kids code) := ⟨_, rfl⟩
  rw [← hD]
  have hD2 : D = deeps m kids := by rw [hD]; unfold deepV; rfl
  obtain ⟨W1, hW1⟩ : ∃ W1, W1 = W.alloc (.cells #[.int .i64 (k : Int), .int .u64 (m : Int), .bool (vN num), .string ⟨(vD num).toArray⟩, .int .i64 (vS num), .string ⟨t.toArray⟩, .slice A nk ck, .slice B n cb, .int .i64 (code : Int)] 31) := ⟨_, rfl⟩
  have hk1 : Kp [] W W1 := by rw [hW1]; exact (Kp.refl _ _).alloc _
  have hc1 : Cells W1 W.heap.size 31 [.int .i64 (k : Int), .int .u64 (m : Int), .bool (vN num), .string ⟨(vD num).toArray⟩, .int .i64 (vS num), .string ⟨t.toArray⟩, .slice A nk ck, .slice B n cb, .int .i64 (code : Int)] := by rw [hW1]; exact Cells.fresh W 31 _
  have HX := hid (And.intro hB (And.intro hr (And.intro ih (And.intro hK (And.intro hfk (And.intro hn (And.intro hlt hD2)))))))
  have H1 := hid (And.intro hk1 hc1)
  have HW1 := hid hW1
  clear hB hr ih hK hfk hf hm hn hnk hlt hD hD2 hk1 hc1 hW1
  go_enter Tryd.func54, Tryd.ntmps54
  go_wp2_with fail
  go_loopw [3, 4] (fun vd vi wr => ∃ j : Nat, j ≤ n ∧ vd = .int .u64 ((deeps m (kids.take j) : Nat) : Int) ∧ vi = .int .i64 (j : Int) ∧ Kp [] W1 wr) (fun _ vi _ => n - (RowKit.intOf vi).toNat)
  case atStart => exact ⟨0, Nat.zero_le _, by simp [deeps], rfl, by rw [← HW1.out]; exact Kp.refl _ _⟩
  case round =>
    obtain ⟨j, hj, rfl, rfl, hk⟩ := hrel
    obtain ⟨hB, hr, ih, hK, hfk, hn, hlt, hD2⟩ := HX.out
    have hc := H1.out.2.keep hk (by simp)
    have x7 := hc.cell 7
    have hkW := H1.out.1.nil hk
    by_cases hjn : j < n
    · have hjk : j < kids.length := by omega
      obtain ⟨v, hv⟩ := at_some hjk
      obtain ⟨g, rfl, p⟩ := (hB.kept hkW).at_ j hjk
      have q := ih j v hv (hfk v (at_mem hv)) wr (hK.nil hkW)
      obtain ⟨ak, am, an, ad, az, ax, aA, ank, ack, aB, anb, acb, aco, e1⟩ := (hr j v hv).isV
      rw [e1] at p q
      have p0 := p 0 _ rfl
      have p1 := p 1 _ rfl
      have p2 := p 2 _ rfl
      have p3 := p 3 _ rfl
      have p4 := p 4 _ rfl
      have p5 := p 5 _ rfl
      have p6 := p 6 _ rfl
      have p7 := p 7 _ rfl
      have p8 := p 8 _ rfl
      simp only [Nat.add_zero] at p0
      have hor := u64_or_nat (deeps m (kids.take j)) (deepV v) (by simpa using hlt j) (by simpa using deep_lt v (hfk v (at_mem hv)))
      have hsn : deeps m (kids.take (j + 1)) = deeps m (kids.take j) ||| deepV v := by rw [List.take_add_one, hv]; exact deeps_snoc _ v m
      rw [← hsn] at hor
      have HS := hid hk
      obtain ⟨d1, hd1⟩ : ∃ d, d = deeps m (kids.take j) := ⟨_, rfl⟩
      obtain ⟨d2, hd2⟩ : ∃ d, d = deepV v := ⟨_, rfl⟩
      obtain ⟨d3, hd3⟩ : ∃ d, d = deeps m (kids.take (j + 1)) := ⟨_, rfl⟩
      rw [← hd1, ← hd2, ← hd3] at hor
      rw [← hd2] at q
      rw [← hd1]
      have HD3 := hid hd3
      have e9 : j * 9 = 9 * j := Nat.mul_comm _ _
      have jn : (j : Int) < (n : Int) := by omega
      have z1 : decide ((j : Int) < (n : Int)) = true := decide_eq_true jn
      have z1n : decide (j < n) = true := decide_eq_true hjn
      clear p e1 hB hr ih hK hfk hn hlt hD2 hc hkW hv hjk hk hsn hd1 hd2 hd3
      go_wp2_with fail
      (with_reducible refine q.mono ?_)
      rintro e w3 ⟨rfl, k3⟩
      have HK3 := hid (HS.out.nil k3)
      clear k3 q
      go_wp2_with fail
      go_roundw
      case rel => exact ⟨j + 1, by omega, by rw [HD3.out], by go_num, HK3.out⟩
      case measure => simp [RowKit.intOf]; omega
    · have hje : j = n := by omega
      have hd : deeps m (kids.take j) = D := by rw [hD2, List.take_of_length_le (by omega)]
      rw [hd]
      have z1 : decide ((j : Int) < (n : Int)) = false := decide_eq_false (by omega)
      have z1n : decide (j < n) = false := decide_eq_false hjn
      have HK := hid hkW
      clear hB hr ih hK hfk hn hlt hD2 hc hkW hk hd hje hjn
      go_wp2_with fail
      go_ret
      exact ⟨rfl, HK.out⟩
theorem deep_rep {w : World} {v : Vl} {cs : List Value} (h : Rep w v cs) : DeepAt w v cs := by
  induction h with
  | mk k m num t keys kids code A ck B cb ks hA hB hr ih => exact deep_step w k m num t keys kids code A ck B cb ks hB hr ih
end Go.Proofs.YtpeldjihalldkaaDoor
