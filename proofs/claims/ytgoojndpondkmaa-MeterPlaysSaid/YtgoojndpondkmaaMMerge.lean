/- Merge, where it is not refused; Clone. -/
import Derived.Test.YtgoojndpondkmaaMAll
namespace Go.Proofs.Ytgoojndpondkmaa
open Go Go.RowKit

/-- Behind k dials. -/
def mergeK (ds es : List Dl) (k : Nat) : List Dl := (List.range ds.length).map fun i => if i < k then (ds.getD i Dl.zero).add (es.getD i Dl.zero).c (es.getD i Dl.zero).t (es.getD i Dl.zero).m else ds.getD i Dl.zero
def mergeD (ds es : List Dl) : List Dl := mergeK ds es ds.length
theorem length_mergeK (ds es : List Dl) (k : Nat) : (mergeK ds es k).length = ds.length := by simp [mergeK]
theorem getD_mergeK (ds es : List Dl) (k i : Nat) (h : i < ds.length) : (mergeK ds es k).getD i Dl.zero = if i < k then (ds.getD i Dl.zero).add (es.getD i Dl.zero).c (es.getD i Dl.zero).t (es.getD i Dl.zero).m else ds.getD i Dl.zero := by
  simp [mergeK, List.getD_eq_getElem?_getD, h]
theorem ext_getD {l m : List Dl} (h : l.length = m.length) (hi : ∀ i, i < l.length → l.getD i Dl.zero = m.getD i Dl.zero) : l = m := by
  apply List.ext_getElem h
  intro i h1 h2
  have := hi i h1
  rw [List.getD_eq_getElem?_getD, List.getD_eq_getElem?_getD, List.getElem?_eq_getElem h1, List.getElem?_eq_getElem h2] at this
  simpa using this
theorem mergeK_zero (ds es : List Dl) : mergeK ds es 0 = ds := by
  refine ext_getD (length_mergeK _ _ _) fun i hi => ?_
  rw [length_mergeK] at hi
  rw [getD_mergeK _ _ _ _ hi, if_neg (by omega)]
theorem getD_set (l : List Dl) (i j : Nat) (x : Dl) (hi : i < l.length) : (l.set i x).getD j Dl.zero = if i = j then x else l.getD j Dl.zero := by
  split
  · rename_i h
    subst h
    simp [List.getD_eq_getElem?_getD, hi]
  · rename_i h
    rw [List.getD_eq_getElem?_getD, List.getElem?_set_ne h, ← List.getD_eq_getElem?_getD]
theorem mergeK_succ (ds es : List Dl) (k : Nat) (hk : k < ds.length) : mergeK ds es (k + 1) = (mergeK ds es k).set k ((ds.getD k Dl.zero).add (es.getD k Dl.zero).c (es.getD k Dl.zero).t (es.getD k Dl.zero).m) := by
  refine ext_getD (by simp [length_mergeK]) fun i hi => ?_
  rw [length_mergeK] at hi
  rw [getD_mergeK _ _ _ _ hi, getD_set _ _ _ _ (by rw [length_mergeK]; exact hk), getD_mergeK _ _ _ _ hi]
  by_cases hik : k = i
  · subst hik
    rw [if_pos (by omega), if_pos rfl]
  · rw [if_neg hik]
    by_cases h1 : i < k
    · rw [if_pos h1, if_pos (by omega)]
    · rw [if_neg h1, if_neg (by omega)]
theorem ok_getD {ds : List Dl} {B : Int} (hB : 0 ≤ B) (h : ∀ d ∈ ds, d.ok B) (i : Nat) : (ds.getD i Dl.zero).ok B := by
  rw [List.getD_eq_getElem?_getD]
  rcases Nat.lt_or_ge i ds.length with hi | hi
  · rw [List.getElem?_eq_getElem hi]
    exact h _ (List.getElem_mem hi)
  · rw [List.getElem?_eq_none hi]
    exact ok_zero B hB

def MergePost (w : World) (a b : Nat) (gs hs : List Nat) (ds es : List Dl) (e : Ending) (w' : World) : Prop :=
  e = .returned (.int .i64 0) ∧ ∃ gs' hs', MAt w' a gs' (mergeD ds es) ∧ MAt w' b hs' es ∧ Kp (a :: b :: gs) w w' ∧ (∀ g ∈ gs', g ∈ gs ∨ w.heap.size ≤ g) ∧ (∀ g ∈ hs', g ∈ hs ∨ w.heap.size ≤ g) ∧ ∀ g ∈ gs', g ∉ hs'
theorem MMadeV.keep {w w' : World} {a : Nat} {v : Value} {gs S : List Nat} {ds : List Dl} (h : MMadeV w a v gs ds) (k : Kp S w w') (ha : a ∉ S) (hS : ∀ g ∈ gs, g ∉ S) (hr : ∀ s ∈ S, ∃ t cs, Cells w s t cs ∧ t ≠ 63) : MMadeV w' a v gs ds := by
  obtain ⟨h1, h2, h3⟩ := h
  exact ⟨h1.keep k ha, h2.keep k (fun g hg hm => by
      obtain ⟨t, cs, hc, hne⟩ := hr g hm
      exact h2.ne_cells hc (Ne.symm hne) hg), h3.keep k hS⟩
theorem MMadeV.kept {w w' : World} {a : Nat} {v : Value} {gs : List Nat} {ds : List Dl} (h : MMadeV w a v gs ds) (k : Kp [] w w') : MMadeV w' a v gs ds := h.keep k (by simp) (by simp) (by simp)
theorem MAt.cells {w : World} {a : Nat} {gs : List Nat} {ds : List Dl} (h : MAt w a gs ds) : ∃ cs, Cells w a 56 cs := by
  rcases h with ⟨v, h1, _⟩ | ⟨_, _, h1⟩ <;> exact ⟨_, h1⟩
theorem MAt.not_dial {w : World} {a b : Nat} {gs hs : List Nat} {ds es : List Dl} (h : MAt w a gs ds) (h2 : MAt w b hs es) : ∀ g ∈ gs, g ≠ b := by
  obtain ⟨cs, hc⟩ := h2.cells
  intro g hg he
  subst he
  rcases h with ⟨v, _, _, h3⟩ | ⟨rfl, _, _⟩
  · obtain ⟨x, hx⟩ := h3.mem hg
    exact hx.ne hc (by decide) rfl
  · cases hg
/-- A meter stands while another one's block and new memory are turned. -/
theorem MAt.beside {w w' : World} {a b : Nat} {gs hs : List Nat} {ds es : List Dl} (h : MAt w a gs ds) (h2 : MAt w b hs es) (k : Kp [b] w w') (hne : a ≠ b) : MAt w' a gs ds := by
  obtain ⟨cs, hc⟩ := h2.cells
  refine h.keep k (by simpa using hne) (fun g hg hm => h.not_dial h2 g hg (by simpa using hm)) ?_
  intro s hs
  rw [List.mem_singleton.1 hs]
  exact ⟨_, _, hc, by decide⟩
theorem MMadeV.beside {w w' : World} {a b : Nat} {gs hs : List Nat} {ds es : List Dl} {v : Value} (h : MMadeV w a v gs ds) (h2 : MAt w b hs es) (k : Kp [b] w w') (hne : a ≠ b) : MMadeV w' a v gs ds := by
  obtain ⟨cs, hc⟩ := h2.cells
  refine h.keep k (by simpa using hne) (fun g hg hm => h.at_.not_dial h2 g hg (by simpa using hm)) ?_
  intro s hs
  rw [List.mem_singleton.1 hs]
  exact ⟨_, _, hc, by decide⟩
/-- .. or a dial of another one. -/
theorem MMadeV.beside_dial {w w' : World} {a g : Nat} {gs : List Nat} {ds : List Dl} {v : Value} {d : Dl} (h : MMadeV w a v gs ds) (hc : Cells w g 62 d.cells) (k : Kp [g] w w') (hg : g ∉ gs) : MMadeV w' a v gs ds := by
  refine h.keep k (fun hm => h.1.ne hc (by decide) (by simpa using hm)) (fun x hx hm => hg (by rw [List.mem_singleton] at hm; rw [← hm]; exact hx)) ?_
  intro s hs
  rw [List.mem_singleton.1 hs]
  exact ⟨_, _, hc, by decide⟩

theorem Own.drew_ne {w : World} {v : Value} {n g : Nat} {xs cs : List Value} (h : Own w 63 v n xs) (hc : Cells w.drew g 62 cs) : v.ownBlock ≠ some g := h.ne_cells (show Cells w g 62 cs from hc) (by decide)
set_option maxRecDepth 100000 in
set_option maxHeartbeats 1600000 in
theorem merge_any (w : World) (a b : Nat) (gs hs : List Nat) (ds es : List Dl) (B : Int) (h : MAt w a gs ds) (h2 : MAt w b hs es) (hne : a ≠ b) (hap : ∀ g ∈ gs, g ∉ hs) (hn : ds.length ≤ 32) (hl : es.length = ds.length)
    (hB0 : 0 ≤ B) (hB : B ≤ 1000000) (ok1 : ∀ d ∈ ds, d.ok B) (ok2 : ∀ d ∈ es, d.ok B) (hsum : ∀ i, i < ds.length → (ds.getD i Dl.zero).t + (es.getD i Dl.zero).t ≤ 1099511627776) :
    Calls Try.prog 9 #[.pointer (some ⟨a, 0, none⟩), .pointer (some ⟨b, 0, none⟩)] w (MergePost w a b gs hs ds es) := by
  have kd1 := h.kinds
  have kd2 := h2.kinds
  rw [hl] at kd2
  obtain ⟨n, hn0⟩ : ∃ n, n = ds.length := ⟨_, rfl⟩
  rw [← hn0] at kd1 kd2 hn
  have Hn := hid hn0
  have Hl := hid hl
  have Hap := hid hap
  have Hsum := hid hsum
  clear hn0 hl hap hsum
  go_enter Try.func9, Try.ntmps9
  go_wp2_with fail
  go_quiet (fail)
  go_wp2_with fail
  have kq : Kp [] w (w.drewN nq) := (Kp.refl _ w).drewN _
  have hA := h.kept kq
  have hB2 := h2.kept kq
  have hsz : (w.drewN nq).heap.size = w.heap.size := rfl
  generalize w.drewN nq = wq at *
  refine (all_any wq a gs ds hA (by rw [← Hn.out]; exact hn)).mono ?_
  rintro e w1 ⟨A1, c1, gs', rfl, hM1, hk1, hg1⟩
  have hB3 := hB2.beside hA hk1 (Ne.symm hne)
  go_wp2_with fail
  refine (all_any w1 b hs es hB3 (by rw [Hl.out, ← Hn.out]; exact hn)).mono ?_
  rintro e w2 ⟨A2, c2, hs', rfl, hM2, hk2, hg2⟩
  have hlt1 := hM1.at_.gs_lt
  have hM1 := hM1.beside hB3 hk2 hne
  have hap2 : ∀ g ∈ gs', g ∉ hs' := by
    intro g hg hm
    have h9 := hlt1 g hg
    rcases hg2 g hm with h5 | h5
    · rcases hg1 g hg with h1 | h1
      · exact Hap.out g h1 h5
      · have := hB2.gs_lt g h5
        omega
    · omega
  have kw2 : Kp [a, b] w w2 := ((kq.mono (by simp)).trans (hk1.mono (T := [a, b]) (by simp)) (fun y hy _ => hy)).trans (hk2.mono (T := [a, b]) (by simp)) (fun y hy _ => hy)
  have hgs' : ∀ g ∈ gs', g ∈ gs ∨ w.heap.size ≤ g := fun g hg => by rcases hg1 g hg with h1 | h1; exact .inl h1; exact .inr (by omega)
  have hhs' : ∀ g ∈ hs', g ∈ hs ∨ w.heap.size ≤ g := fun g hg => by
    rcases hg2 g hg with h1 | h1
    · exact .inl h1
    · have := hk1.size
      exact .inr (by omega)
  have Hg := hid (And.intro hgs' (And.intro hhs' hap2))
  have KW := hid kw2
  clear hgs' hhs' hap2 hlt1 hg1 hg2 hk1 hk2 kq kw2 hA hB2 hB3 hsz kd1 kd2 h h2
  rw [← Hn.out] at hM1 ⊢
  rw [Hl.out, ← Hn.out] at hM2 ⊢
  go_wp2_with fail
  go_loopw [30] (fun i wr => ∃ k : Nat, k ≤ n ∧ i = .int .i64 k ∧ Kp [] w2 wr) (fun i _ => n - (intOf i).toNat)
  case atStart => exact ⟨0, by omega, rfl, Kp.refl _ _⟩
  case round =>
    obtain ⟨k, hk, rfl, kr⟩ := hrel
    by_cases hlt : k < n
    · obtain ⟨q1, g1, hA1, hgi1, hgm1, hq1, hc1⟩ := made_at (hM1.kept kr) Hn.out hlt
      obtain ⟨q2, g2, hA2, hgi2, hgm2, hq2, hc2⟩ := made_at (hM2.kept kr) (Hn.out.trans Hl.out.symm) hlt
      subst hA1 hA2
      obtain ⟨x, hx⟩ : ∃ x, x = ds.getD k Dl.zero := ⟨_, rfl⟩
      obtain ⟨y, hy⟩ : ∃ y, y = es.getD k Dl.zero := ⟨_, rfl⟩
      have b1 := ok_getD hB0 ok1 k
      have b2 := ok_getD hB0 ok2 k
      have b3 := Hsum.out k (by rw [← Hn.out]; exact hlt)
      rw [← hx] at hc1 b1 b3
      rw [← hy] at hc2 b2 b3
      have t1 := hc1.cell 1
      have t2 := hc2.cell 1
      simp only [Dl.cells, List.getElem?_cons_zero, List.getElem?_cons_succ] at t1 t2
      unfold Dl.ok at b1 b2
      have hgt : ¬ 1099511627776 < x.t + y.t := by omega
      have hwx : IntKind.i64.wrap (x.t + y.t) = x.t + y.t := IntWalk.i64_in _ (by omega)
      have i1 : (0 : Int) ≤ (k : Int) := by omega
      have i2 : (k : Int) < (n : Int) := by omega
      clear hx hy hgi1 hgi2 ok1 ok2
      go_wp2_with fail
      go_quiet ((first
        | (go_at_call 19; with_reducible exact Calls.quiet_of_same (load64q wr _ g1 1 x.t t1))
        | (go_at_call 19; with_reducible exact Calls.quiet_of_same (load64q wr _ g2 1 y.t t2))))
      clear hwx
      go_wp2_with fail
      go_roundw
      case rel => exact ⟨k + 1, by omega, by go_num, kr.drewN _⟩
      case measure => simp [intOf]; omega
    · have hkn : k = n := by omega
      subst hkn
      have hM1 := hM1.kept kr
      have hM2 := hM2.kept kr
      have KR := hid kr
      clear kr
      go_wp2_with fail
      have hM0 : MMadeV wr a (.slice A1 k c1) gs' (mergeK ds es 0) := by rw [mergeK_zero]; exact hM1
      clear hM1
      obtain ⟨wo, rfl⟩ : ∃ wo : World, wo = wr := ⟨_, rfl⟩
      go_loopw [51] (fun i wx => ∃ j : Nat, j ≤ k ∧ i = .int .i64 j ∧ MMadeV wx a (.slice A1 k c1) gs' (mergeK ds es j) ∧ MMadeV wx b (.slice A2 k c2) hs' es ∧ Kp gs' wo wx) (fun i _ => k - (intOf i).toNat)
      case atStart => exact ⟨0, by omega, rfl, hM0, hM2, Kp.refl _ _⟩
      case round =>
        clear hM0 hM2
        obtain ⟨j, hj, rfl, hM1, hM2, kx⟩ := hrel
        by_cases hlt2 : j < k
        · have hjd : j < ds.length := by rw [← Hn.out]; exact hlt2
          obtain ⟨q1, g1, hA1, hgi1, hgm1, hq1, hc1⟩ := made_at hM1 (by rw [length_mergeK]; exact Hn.out) hlt2
          obtain ⟨q2, g2, hA2, hgi2, hgm2, hq2, hc2⟩ := made_at hM2 (Hn.out.trans Hl.out.symm) hlt2
          subst hA1 hA2
          rw [getD_mergeK _ _ _ _ hjd, if_neg (by omega)] at hc1
          have hms := mergeK_succ ds es j hjd
          obtain ⟨x, hx⟩ : ∃ x, x = ds.getD j Dl.zero := ⟨_, rfl⟩
          obtain ⟨y, hy⟩ : ∃ y, y = es.getD j Dl.zero := ⟨_, rfl⟩
          have b1 := ok_getD hB0 ok1 j
          have b2 := ok_getD hB0 ok2 j
          have b3 := Hsum.out j hjd
          rw [← hx] at hc1 b1 b3 hms
          rw [← hy] at hc2 b2 b3 hms
          have hc1 := hc1.drew
          have t0 := hc2.drew.cell 0
          have t1 := hc2.drew.cell 1
          have t2 := hc2.drew.cell 2
          simp only [Dl.cells, List.getElem?_cons_zero, List.getElem?_cons_succ] at t0 t1 t2
          unfold Dl.ok at b1 b2
          have i1 : (0 : Int) ≤ (j : Int) := by omega
          have i2 : (j : Int) < (k : Int) := by omega
          have hq2d : wr.drew.cell? ⟨q2, j, none⟩ = some (.pointer (some ⟨g2, 0, none⟩)) := hq2
          have HM := hid (And.intro hM1 (And.intro hM2 (And.intro hgi1 (And.intro hgi2 hms))))
          have hqg : q2 ≠ g1 := by
            obtain ⟨_, ho, _⟩ := hM2
            intro he
            exact ho.drew_ne hc1 (by simp [Value.ownBlock, he])
          clear hx hy hM1 hM2 hgi1 hgi2 hms hjd
          go_wp2_with fail
          go_region_held3 (fun w' => w'.cell? ⟨q2, j, none⟩ = some (.pointer (some ⟨g2, 0, none⟩))) (first | exact hq9 | go_keep)
            (first
              | (go_at_call 19; (with_reducible refine (load64 _ g2 0 y.c t0).mono ?_); rintro e w3 ⟨rfl, rfl⟩)
              | (go_at_call 19; (with_reducible refine (load64 _ g2 1 y.t t1).mono ?_); rintro e w3 ⟨rfl, rfl⟩)
              | (go_at_call 19; (with_reducible refine (load64 _ g2 2 y.m t2).mono ?_); rintro e w3 ⟨rfl, rfl⟩)
              | (go_at_call 20; refine (adds_any _ g1 x y.c y.t y.m hc1 (by omega) (by omega)).mono ?_; rintro e w3 ⟨rfl, hc3, hk3⟩; have hq9 := hk3.cell hq2d (by simpa using hqg)))
          all_goals
            go_wp2_with fail
            go_roundw
            case rel =>
              obtain ⟨hM1, hM2, hgi1, hgi2, hms⟩ := HM.out
              have hk4 : Kp [g1] wr w3 := ((Kp.refl [g1] wr).drew).trans hk3 (fun y hy _ => hy)
              refine ⟨j + 1, by omega, by go_num, ?_, hM2.beside_dial (d := x) (show Cells wr g1 62 x.cells from hc1) hk4 (Hg.out.2.2 g1 hgm1), kx.trans hk4 (fun y hy _ => by rw [List.mem_singleton.1 hy]; exact hgm1)⟩
              rw [hms]
              exact made_set hM1 hgi1 hk4 hc3
            case measure => simp [intOf]; omega
        · have hjk : j = ds.length := by have := Hn.out; omega
          subst hjk
          go_wp2_with fail
          go_ret
          obtain ⟨g1, g2, g3⟩ := Hg.out
          refine ⟨rfl, gs', hs', hM1.at_, hM2.at_, ?_, g1, g2, g3⟩
          refine ((KW.out.mono (T := a :: b :: gs) (by simp)).nil KR.out).trans kx ?_
          intro y hy hl
          rcases g1 y hy with h | h
          · simp [h]
          · omega

theorem mergeD_zero (ds : List Dl) (B : Int) (h : ∀ d ∈ ds, d.ok B) : mergeD (List.replicate ds.length Dl.zero) ds = ds := by
  refine ext_getD (by rw [mergeD, length_mergeK, List.length_replicate]) fun i hi => ?_
  rw [mergeD, length_mergeK] at hi
  rw [mergeD, getD_mergeK _ _ _ _ hi, List.length_replicate]
  rw [List.length_replicate] at hi
  rw [if_pos hi]
  have hd := h (ds.getD i Dl.zero) (by rw [List.getD_eq_getElem?_getD, List.getElem?_eq_getElem hi]; exact List.getElem_mem hi)
  have hz : (List.replicate ds.length Dl.zero).getD i Dl.zero = Dl.zero := by simp [List.getD_eq_getElem?_getD, hi]
  rw [hz]
  generalize ds.getD i Dl.zero = x at *
  obtain ⟨c, t, m⟩ := x
  unfold Dl.ok at hd
  simp only [Dl.add, Dl.zero] at *
  congr 1 <;> omega
theorem kindsOf_nat (n : Nat) (h : n ≤ 32) : kindsOf (n : Int) = n := by unfold kindsOf; omega
def ClonePost (w : World) (a : Nat) (gs : List Nat) (ds : List Dl) (e : Ending) (w' : World) : Prop :=
  ∃ x hs gs', e = .returned (.pointer (some ⟨x, 0, none⟩)) ∧ MAt w' x hs ds ∧ MAt w' a gs' ds ∧ Kp [a] w w' ∧ w.heap.size ≤ x ∧ (∀ g ∈ hs, w.heap.size ≤ g) ∧ (∀ g ∈ gs', g ∈ gs ∨ w.heap.size ≤ g) ∧ ∀ g ∈ gs', g ∉ hs
theorem clone_any (w : World) (a : Nat) (gs : List Nat) (ds : List Dl) (B : Int) (h : MAt w a gs ds) (hn : ds.length ≤ 32) (hB0 : 0 ≤ B) (hB : B ≤ 1000000) (ok : ∀ d ∈ ds, d.ok B) :
    Calls Try.prog 14 #[.pointer (some ⟨a, 0, none⟩)] w (ClonePost w a gs ds) := by
  have hk := h.kinds
  have hla := h.lt
  go_enter Try.func14, Try.ntmps14
  go_wp2_with fail
  refine (mnew_any w _).mono ?_
  rintro e w1 ⟨rfl, hx, hk1⟩
  rw [kindsOf_nat _ hn] at hx
  have h1 := h.kept hk1
  have hz : ∀ d ∈ List.replicate ds.length Dl.zero, d.ok B := ok_replicate _ _ hB0
  go_wp2_with fail
  refine (merge_any w1 w.heap.size a [] gs _ ds B hx h1 (Nat.ne_of_gt hla) (by simp) (by rw [List.length_replicate]; exact hn) (by rw [List.length_replicate]) hB0 hB hz ok ?_).mono ?_
  · intro i hi
    rw [List.length_replicate] at hi
    have hd := ok (ds.getD i Dl.zero) (by rw [List.getD_eq_getElem?_getD, List.getElem?_eq_getElem hi]; exact List.getElem_mem hi)
    have hzz : (List.replicate ds.length Dl.zero).getD i Dl.zero = Dl.zero := by simp [List.getD_eq_getElem?_getD, hi]
    have hz0 : Dl.zero.t = 0 := rfl
    rw [hzz, hz0]
    unfold Dl.ok at hd
    omega
  rintro e w2 ⟨rfl, gs', hs', g1, g2, g3, g4, g5, g6⟩
  rw [mergeD_zero ds B ok] at g1
  go_wp2_with fail
  go_ret
  have hs1 := hk1.size
  refine ⟨w.heap.size, gs', hs', rfl, g1, g2, (hk1.mono (by simp)).trans g3 ?_, Nat.le_refl _, ?_, ?_, fun g hg hm => g6 g hm hg⟩
  · intro y hy hl
    simp only [List.mem_cons, List.not_mem_nil, or_false] at hy
    rcases hy with rfl | rfl
    · omega
    · simp
  · intro g hg
    rcases g4 g hg with h | h
    · cases h
    · omega
  · intro g hg
    rcases g5 g hg with h | h
    · exact .inl h
    · exact .inr (by omega)
end Go.Proofs.Ytgoojndpondkmaa
