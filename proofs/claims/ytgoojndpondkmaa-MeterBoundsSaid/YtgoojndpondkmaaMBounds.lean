/- MeterBounds: the most is never above the total, nor the total above its bound, and neither falls; a count of one is a total of its most; and a copy goes its own way. -/
import Derived.Test.YtgoojndpondkmaaMShown
import Derived.Test.YtgoojndpondkmaaMSame
import Derived.Test.YtgoojndpondkmaaMOrderLaw
import Derived.Test.YtgoojndpondkmaaMOpen
namespace Go.Proofs.Ytgoojndpondkmaa
open Go Go.RowKit

/-- A dial as Note alone makes it. -/
def Tight (d : Dl) : Prop := (d.c = 0 → d.t = 0 ∧ d.m = 0) ∧ (d.c = 1 → d.t = d.m)
def Inv (B : Int) (ds : List Dl) : Prop := ∀ d ∈ ds, d.ok B ∧ Tight d
theorem inv_zero (n : Nat) : Inv 0 (List.replicate n Dl.zero) := fun d hd => by
  rw [List.eq_of_mem_replicate hd]
  exact ⟨ok_zero 0 (by omega), fun _ => ⟨rfl, rfl⟩, fun _ => rfl⟩
theorem inv_ofD {B : Int} {ds : List Dl} (hB : 0 ≤ B) (h : Inv B ds) (k : Int) : (ofD ds k).ok B ∧ Tight (ofD ds k) := by
  refine ⟨ok_ofD hB (fun d hd => (h d hd).1), ?_⟩
  unfold ofD
  split
  · exact ⟨fun _ => ⟨rfl, rfl⟩, fun _ => rfl⟩
  · rename_i hk
    exact (h _ (by rw [List.getD_eq_getElem?_getD, List.getElem?_eq_getElem (by omega : k.toNat < ds.length)]; exact List.getElem_mem _)).2
theorem inv_note {B : Int} {ds : List Dl} (h : Inv B ds) (k n : Int) : Inv (B + 1) (noteD ds k n) := by
  intro d hd
  refine ⟨ok_noteD (fun d hd => (h d hd).1) d hd, ?_⟩
  unfold noteD at hd
  split at hd
  · rename_i h0
    obtain ⟨h1, h2, h3, h4⟩ := noteE_ok h0
    rcases List.mem_or_eq_of_mem_set hd with hd | rfl
    · exact (h d hd).2
    · have hx := h (ds.getD k.toNat Dl.zero) (by rw [List.getD_eq_getElem?_getD, List.getElem?_eq_getElem h2]; exact List.getElem_mem h2)
      generalize ds.getD k.toNat Dl.zero = x at *
      obtain ⟨hx1, hx2, hx3⟩ := hx
      unfold Dl.ok at hx1
      simp only [Tight, Dl.add] at *
      refine ⟨fun h => by omega, fun h => ?_⟩
      obtain ⟨h5, h6⟩ := hx2 (by omega)
      omega
  · exact (h d hd).2
theorem of_note {ds : List Dl} {k n : Int} (h : noteE ds k n = 0) : ofD (noteD ds k n) k = (ofD ds k).add 1 n n ∧ 0 ≤ n ∧ (ofD ds k).t + n ≤ 1099511627776 := by
  obtain ⟨h1, h2, h3, h4⟩ := noteE_ok h
  have e : ofD ds k = ds.getD k.toNat Dl.zero := by rw [ofD, if_neg (by omega)]
  rw [e]
  refine ⟨?_, h3, h4⟩
  rw [ofD, if_neg (by rw [length_noteD]; omega), noteD, if_pos h, getD_set _ _ _ _ h2, if_pos rfl]
theorem note_no {ds : List Dl} {k n : Int} (h : noteE ds k n ≠ 0) : noteD ds k n = ds := by rw [noteD, if_neg h]
theorem noteE_in (ds : List Dl) (k n : Int) : noteE ds k n = 0 ∨ noteE ds k n = 1 ∨ noteE ds k n = 3 := by
  unfold noteE
  split
  · exact .inr (.inl rfl)
  · split
    · exact .inr (.inr rfl)
    · exact .inl rfl

set_option maxRecDepth 100000 in
set_option maxHeartbeats 1200000 in
theorem bounds_any (w : World) (kinds : Int) (_ : -9223372036854775808 ≤ kinds ∧ kinds ≤ 9223372036854775807) (A : Option Addr) (n c : Nat) (l : List (Int × Int)) (hl : PairsAt w A l) (hn : l.length = n) (_hc : n ≤ c) (_hm : c ≤ 9223372036854775807) :
    Calls Try.prog 5 #[.int .i64 kinds, .slice A n c] w (YesPost w) := by
  have Hn := hid hn
  clear hn
  go_enter Try.func5, Try.ntmps5
  simp only [List.append_eq, List.cons_append, List.nil_append]
  go_wp2_with fail
  refine (mshown_any w).mono ?_
  rintro e w1 ⟨rfl, hk1⟩
  go_wp2_with fail
  refine (mnew_any w1 kinds).mono ?_
  rintro e w2 ⟨rfl, hM2, hk2⟩
  have kw2 := hk1.nil hk2
  have s1 := hk1.size
  have hK := kindsOf_le kinds
  generalize w1.heap.size = S at *
  clear hk1 hk2
  go_wp2_with fail
  obtain ⟨Z, hZ⟩ : ∃ Z, Z = List.replicate (kindsOf kinds) Dl.zero := ⟨_, rfl⟩
  rw [← hZ] at hM2
  have hz1 : Z.length = kindsOf kinds := by rw [hZ, List.length_replicate]
  have hz2 : Inv 0 Z := by rw [hZ]; exact inv_zero _
  have Hz := hid hz1
  clear hZ hz1
  generalize kindsOf kinds = K at *
  go_loopw [7] (fun i wr => ∃ k gs ds, k ≤ n ∧ k ≤ 60 ∧ i = .int .i64 (k : Nat) ∧ MAt wr S gs ds ∧ ds.length = K ∧ Inv (k : Nat) ds ∧ Kp [] w wr ∧ (∀ g ∈ gs, w.heap.size ≤ g)) (fun i _ => n - (intOf i).toNat)
  case atStart => exact ⟨0, [], Z, by omega, by omega, rfl, hM2, Hz.out, hz2, kw2, by simp⟩
  case round =>
    clear hM2 kw2 hz2
    obtain ⟨k, gs, ds, hk, hk6, rfl, hM, hlen, hI, kw, na⟩ := hrel
    have Hlen := hid hlen
    have Hna := hid na
    clear hlen na
    by_cases hlt : k < n ∧ k < 60
    · obtain ⟨hlt, hlt2⟩ := hlt
      have hkl : k < l.length := by rw [Hn.out]; omega
      obtain ⟨g, o, rfl, x0, x1, x2, x3⟩ := hl k _ (List.getElem?_eq_getElem hkl)
      obtain ⟨p, hp⟩ : ∃ p, p = l[k] := ⟨_, rfl⟩
      rw [← hp] at x0 x1 x2 x3
      have XX := hid (And.intro x0 x1)
      unfold In64 at x2 x3
      have x0 := kw.cell x0 (by simp)
      have x1 := kw.cell x1 (by simp)
      have hd := inv_ofD (by omega) hI p.1
      have hI2 := inv_note hI p.1 p.2
      have hd2 := inv_ofD (by omega) hI2 p.1
      have HI := hid hI
      have HI2 := hid hI2
      obtain ⟨d, hdd⟩ : ∃ d, d = ofD ds p.1 := ⟨_, rfl⟩
      obtain ⟨d', hdd'⟩ : ∃ d, d = ofD (noteD ds p.1 p.2) p.1 := ⟨_, rfl⟩
      obtain ⟨E, hE⟩ : ∃ E, E = noteE ds p.1 p.2 := ⟨_, rfl⟩
      have Hd := hid hdd
      have Hd' := hid hdd'
      have HE := hid hE
      rw [← hdd] at hd
      rw [← hdd'] at hd2
      have HT := hid (And.intro hd hd2)
      have i1 : (0 : Int) ≤ (k : Int) := by omega
      have i2 : (k : Int) < (n : Int) := by omega
      clear hp hI hI2 hdd hdd' hE hd hd2 hkl
      go_wp2_with fail
      refine (of_any wr S gs ds p.1 hM (by rw [Hlen.out]; exact hK)).mono ?_
      rintro e w3 ⟨dx, hdx, rfl, gs3, hM3, k3, n3⟩
      have e9 : dx = d := hdx.trans Hd.out.symm
      clear hdx
      subst e9
      have kw3 := kp_new (gs := []) kw k3 s1 (by simp)
      have na3 : ∀ g ∈ gs3, w.heap.size ≤ g := fun g hg => by
        rcases n3 g hg with h | h
        · exact Hna.out g h
        · have := kw.size; omega
      have x0 := kw3.cell XX.out.1 (by simp)
      have x1 := kw3.cell XX.out.2 (by simp)
      have Hna3 := hid na3
      clear hM k3 n3 na3 kw
      go_wp2_with fail
      go_region_held3 (fun w' => w'.cell? ⟨g, o + k * 2, none⟩ = some (.int .i64 p.1) ∧ w'.cell? ⟨g, o + k * 2 + 1, none⟩ = some (.int .i64 p.2)) (first | exact ⟨z0, z1⟩ | go_keep)
        (first
          | (go_at_call 8; refine (note_any _ S gs3 ds p.1 p.2 100 (hM3.kept ((Kp.refl [] w3).drew)) (by rw [Hlen.out]; exact hK) (fun d hd => (HI.out d hd).1.mono (by omega)) (by omega) x3.2).mono ?_; rintro e w5 ⟨rfl, gs5, hM5, k5, n5⟩; have kw5 := kp_new kw3.drew k5 s1 Hna3.out; have z0 := kw5.cell XX.out.1 (by simp); have z1 := kw5.cell XX.out.2 (by simp); rw [← HE.out]))
      have n55 : ∀ g ∈ gs5, w.heap.size ≤ g := fun g hg => by
        rcases n5 g hg with h | h
        · exact Hna3.out g h
        · have := kw3.size; simp only [World.size_drew] at h; omega
      have Hna5 := hid n55
      clear z0 z1 x0 x1 hM3 k5 n5 n55 kw3
      go_wp2_with fail
      refine (of_any w5 S gs5 _ p.1 hM5 (by rw [length_noteD, Hlen.out]; exact hK)).mono ?_
      rintro e w6 ⟨dx', hdx, rfl, gs6, hM6, k6, n6⟩
      have e9 : dx' = d' := hdx.trans Hd'.out.symm
      clear hdx
      subst e9
      have kw6 := kp_new (gs := []) kw5 k6 s1 (by simp)
      have n66 : ∀ g ∈ gs6, w.heap.size ≤ g := fun g hg => by
        rcases n6 g hg with h | h
        · exact Hna5.out g h
        · have := kw5.size; omega
      have x0 := kw6.cell XX.out.1 (by simp)
      have x1 := kw6.cell XX.out.2 (by simp)
      have fin : ∀ q, ∃ k' gs' ds', k' ≤ n ∧ k' ≤ 60 ∧ Value.int .i64 ((k : Int) + 1) = .int .i64 (k' : Nat) ∧ MAt (w6.drewN q) S gs' ds' ∧ ds'.length = K ∧ Inv (k' : Nat) ds' ∧ Kp [] w (w6.drewN q) ∧ (∀ g ∈ gs', w.heap.size ≤ g) := fun q =>
        ⟨k + 1, gs6, _, by omega, by omega, by go_num, hM6.kept ((Kp.refl [] _).drewN _), by rw [length_noteD]; exact Hlen.out, by simpa using HI2.out, kw6.drewN _, n66⟩
      have Fin := hid fin
      obtain ⟨⟨c1, c2⟩, ⟨c3, c4⟩⟩ := HT.out
      unfold Dl.ok at c1 c3
      unfold Tight at c2 c4
      clear hM5 k6 n6 n66 kw5 kw6 fin hM6
      by_cases h0 : E = 0
      · have hE0 : noteE ds p.1 p.2 = 0 := by rw [← HE.out]; exact h0
        obtain ⟨g1, g2, g3⟩ := of_note hE0
        rw [← Hd.out, ← Hd'.out] at g1
        rw [← Hd.out] at g3
        have w0 : (E != 0) = false := by rw [h0]; rfl
        have w00 : (E == 0) = true := by rw [h0]; rfl
        clear h0
        obtain ⟨X, Y, Q⟩ := dx'
        obtain ⟨x, y, q⟩ := dx
        simp only [Dl.add, Dl.mk.injEq] at g1
        simp only at c1 c2 c3 c4 g3
        obtain ⟨u1, u2, u3⟩ := g1
        have v1 : IntKind.i64.wrap (x + 1) = X := by rw [IntWalk.i64_in _ (by omega), u1]
        have v2 : IntKind.i64.wrap (y + p.2) = Y := by rw [IntWalk.i64_in _ (by omega), u2]
        have v3 : decide (Q < q) = false := decide_eq_false (by omega)
        have v4 : decide (Q < p.2) = false := decide_eq_false (by omega)
        have v5 : decide (Y < Q) = false := decide_eq_false (by omega)
        have v6 : decide (1099511627776 < Y) = false := decide_eq_false (by omega)
        have w1 : (X != X) = false := by simp
        have w2 : (Y != Y) = false := by simp
        have v7 : (X == 1) = true ∧ (Y != Q) = false ∨ (X == 1) = false := by
          by_cases hX : X = 1
          · left
            refine ⟨by simp [hX], ?_⟩
            have := c4.2 hX
            simp [this]
          · right
            simp [hX]
        clear c1 c2 c3 c4 u1 u2 u3 g2 g3 x2 x3 HT
        generalize hpp : p.2 = N at *
        have Hpp := hid hpp
        clear hpp
        rcases v7 with ⟨v7, v8⟩ | v7
        all_goals
          go_wp2_with fail
          go_roundw
          case rel => exact Fin.out 0
          case measure => simp [intOf]; omega
      · have hdd : dx' = dx := by
          have h1 := note_no (ds := ds) (k := p.1) (n := p.2) (by rw [← HE.out]; exact h0)
          rw [Hd.out, Hd'.out, h1]
        subst hdd
        obtain ⟨x, y, q⟩ := dx'
        simp only at c1 c2 c3 c4
        have w0 : (E != 0) = true := by simpa using h0
        have w00 : (E == 0) = false := by simpa using h0
        have v5 : decide (y < q) = false := decide_eq_false (by omega)
        have v6 : decide (1099511627776 < y) = false := decide_eq_false (by omega)
        have w1 : (x != x) = false := by simp
        have w2 : (y != y) = false := by simp
        have w3 : (q != q) = false := by simp
        have v7 : (x == 1) = true ∧ (y != q) = false ∨ (x == 1) = false := by
          by_cases hX : x = 1
          · left
            refine ⟨by simp [hX], ?_⟩
            have := c4.2 hX
            simp [this]
          · right
            simp [hX]
        clear c1 c2 c3 c4 x2 x3 HT h0
        rcases v7 with ⟨v7, v8⟩ | v7
        all_goals
          go_wp2_with fail
          go_roundw
          case rel => exact Fin.out 0
          case measure => simp [intOf]; omega
    · have hlt' : (k < n ∧ 60 ≤ k) ∨ n ≤ k := by omega
      have HI := hid hI
      have ok9 : ∀ d ∈ ds, d.ok 60 := fun d hd => (hI d hd).1.mono (by omega)
      have hl32 : ds.length ≤ 32 := by rw [Hlen.out]; exact hK
      have hl32' : (K : Int) ≤ 32 := by omega
      clear hlt hI
      rcases hlt' with ⟨hlt1, hlt2⟩ | hlt1
      all_goals
        go_wp2_with fail
        refine (mall_any wr S gs ds hM hl32).mono ?_
        rintro e w3 ⟨va, rfl, ⟨oa, va3⟩, gs3, hM3, k3, n3⟩
        have kw3 := kp_new (gs := []) kw k3 s1 (by simp)
        have na3 : ∀ g ∈ gs3, w.heap.size ≤ g := fun g hg => by
          rcases n3 g hg with h | h
          · exact Hna.out g h
          · have := kw.size; omega
        obtain ⟨Av, cv, rfl, -⟩ := own_rows oa
        clear hM k3 n3
        go_wp2_with fail
        refine (clone_any w3 S gs3 ds 60 hM3 hl32 (by omega) (by omega) ok9).mono ?_
        rintro e w4 ⟨X, hs, gs4, rfl, hX, hM4, k4, hX0, hs0, n4, hap⟩
        have kw4 := kp_new (gs := []) kw3 k4 s1 (by simp)
        have oa4 := oa.keep k4 (fun g hg hm => by
          rw [List.mem_singleton] at hm
          subst hm
          exact (hM3.ne3 oa).1 hg)
        have hne : X ≠ S := by have := hM3.lt; omega
        have hXw : w.heap.size ≤ X := by have := kw3.size; omega
        have hsw : ∀ g ∈ hs, w.heap.size ≤ g := fun g hg => by have := kw3.size; have := hs0 g hg; omega
        clear oa hM3 k4 hX0 hs0 n4 va3
        rw [Hlen.out] at oa4 ⊢
        go_wp2_with fail
        obtain ⟨wo, rfl⟩ : ∃ wo : World, wo = wr := ⟨_, rfl⟩
        clear kw
        go_loopw [17] (fun i wr => ∃ j hs es, j ≤ n ∧ j ≤ 60 ∧ i = .int .i64 (j : Nat) ∧ MAt wr X hs es ∧ es.length ≤ 32 ∧ (∀ d ∈ es, d.ok (60 + (j : Nat))) ∧ MAt wr S gs4 ds ∧ OwnN wr 39 3 (.slice Av K cv) K (rowsOf ds) ∧ Kp [] w wr ∧ (∀ g ∈ hs, w.heap.size ≤ g) ∧ (∀ g ∈ gs4, g ∉ hs)) (fun i _ => n - (intOf i).toNat)
        case atStart => exact ⟨0, hs, ds, by omega, by omega, rfl, hX, hl32, by simpa using ok9, hM4, oa4, kw4, hsw, hap⟩
        case round =>
          clear hX hM4 oa4 kw4 hsw hap
          obtain ⟨j, hs, es, hj, hj6, rfl, hX, hes, hok, hM, oa, kw, hsw, hap⟩ := hrel
          by_cases hlt : j < n ∧ j < 60
          · obtain ⟨hlt, hlt2⟩ := hlt
            have hjl : j < l.length := by rw [Hn.out]; omega
            obtain ⟨g, o, rfl, x0, x1, x2, x3⟩ := hl j _ (List.getElem?_eq_getElem hjl)
            obtain ⟨p, hp⟩ : ∃ p, p = l[j] := ⟨_, rfl⟩
            rw [← hp] at x0
            have x0 := kw.cell x0 (by simp)
            have i1 : (0 : Int) ≤ (j : Int) := by omega
            have i2 : (j : Int) < (n : Int) := by omega
            have Hq := hid (And.intro hsw hap)
            clear hp x1 x2 x3 hsw hap hjl
            go_wp2_with fail
            refine (note_any wr X hs es p.1 1 200 hX hes (fun d hd => (hok d hd).mono (by omega)) (by omega) (by omega)).mono ?_
            rintro e w5 ⟨rfl, hs5, hX5, k5, n5⟩
            have hM5 := hM.beside_all hX k5 (Ne.symm hne) (fun g hg hm => Hq.out.2 g hm hg)
            have oa5 := oa.keep k5 (fun g hg hm => by
              rcases List.mem_cons.1 hm with e | e
              · exact (hX.ne3 oa).1 (by rw [hg, e])
              · exact (hX.ne3 oa).2 g e hg)
            have kw5 := kp_new kw k5 hXw Hq.out.1
            go_wp2_with fail
            go_roundw
            case rel =>
              refine ⟨j + 1, hs5, _, by omega, by omega, by go_num, hX5, by rw [length_noteD]; exact hes, ?_, hM5, oa5, kw5, ?_, ?_⟩
              · intro d hd
                refine (ok_noteD hok d hd).mono (by omega)
              · intro g hg
                rcases n5 g hg with h | h
                · exact Hq.out.1 g h
                · have := kw.size; omega
              · intro g hg hm
                rcases n5 g hm with h | h
                · exact Hq.out.2 g hg h
                · have := hM.gs_lt g hg; omega
            case measure => simp [intOf]; omega
          · have hlt' : (j < n ∧ 60 ≤ j) ∨ n ≤ j := by omega
            have Hq := hid (And.intro hsw hap)
            clear hlt hX hsw hap
            rcases hlt' with ⟨hlt1, hlt2⟩ | hlt1
            all_goals go_wp2_with fail
            all_goals
              refine (mall_any wr S gs4 ds hM hl32).mono ?_
              rintro e w6 ⟨vb, rfl, ⟨ob, vb6⟩, gs6, hM6, k6, n6⟩
              have kw6 := kp_new (gs := []) kw k6 s1 (by simp)
              have oa6 := oa.keep k6 (fun g hg hm => by
                rw [List.mem_singleton] at hm
                subst hm
                exact (hM.ne3 oa).1 hg)
              clear hM k6 n6
              go_wp2_with fail
              refine (same_any w6 _ vb ds (by rw [Hlen.out]; exact oa6) ob (by omega)).mono ?_
              rintro e w7 ⟨rfl, k7⟩
              have kw7 := kw6.nil k7
              have hK9 : K ≤ 32 := hK
              go_wp2_with fail
              go_ret
              exact ⟨rfl, kw7⟩
end Go.Proofs.Ytgoojndpondkmaa
