/- MeterOrder: the order in which numbers are noted does not matter, if nothing is refused; and what was merged twice is counted twice. -/
import Derived.Test.YtgoojndpondkmaaMShown
import Derived.Test.YtgoojndpondkmaaMSame
import Derived.Test.YtgoojndpondkmaaMOrderLaw
import Derived.Test.YtgoojndpondkmaaMOpen
namespace Go.Proofs.Ytgoojndpondkmaa
open Go Go.RowKit

/-- What a Note is, as the law calls it. -/
def PutPost (w : World) (a : Nat) (gs : List Nat) (ds : List Dl) (e : Ending) (w' : World) : Prop :=
  e = .returned (.int .i64 0) ∧ ∃ gs', MAt w' a gs' ds ∧ Kp (a :: gs) w w' ∧ ∀ g ∈ gs', g ∈ gs ∨ w.heap.size ≤ g
theorem put_any (w : World) (a : Nat) (gs : List Nat) (ds : List Dl) (i : Nat) (p : Int × Int) (k n : Int) (hk : (k, n) = mask p) (h : MAt w a gs ds) (hn : ds.length = 4) (hf : Few i ds) (hi : i ≤ 100) :
    Calls Try.prog 8 #[.pointer (some ⟨a, 0, none⟩), .int .i64 k, .int .i64 n] w (PutPost w a gs (put1 ds (mask p))) := by
  obtain ⟨h1, h2, h3, h4⟩ := mask_in p
  rw [← hk] at h1 h2 h3 h4 ⊢
  simp only at h1 h2 h3 h4
  obtain ⟨e1, e2⟩ := note_put hf (by omega) h1 (by omega) h3 h4
  refine (note_any w a gs ds k n 200 h (by omega) (few_ok hf (by omega)) (by omega) (by omega)).mono ?_
  rintro e w' ⟨rfl, gs', q1, q2, q3⟩
  rw [e1]
  rw [e2] at q1
  exact ⟨rfl, gs', q1, q2, q3⟩

set_option maxRecDepth 100000 in
set_option maxHeartbeats 4000000 in
theorem order_any (w : World) (A : Option Addr) (n c : Nat) (l : List (Int × Int)) (hl : PairsAt w A l) (hn : l.length = n) (hc : n ≤ c) (hm : c ≤ 9223372036854775807) :
    Calls Try.prog 3 #[.slice A n c] w (YesPost w) := by
  have Hn := hid hn
  clear hn
  go_enter Try.func3, Try.ntmps3
  go_wp2_with fail
  refine (mshown_any w).mono ?_
  rintro e w1 ⟨rfl, hk1⟩
  go_wp2_with fail
  refine (mnew_any w1 4).mono ?_
  rintro e w2 ⟨rfl, hA2, hk2⟩
  have hl2 := hA2.lt
  go_wp2_with fail
  refine (mnew_any w2 4).mono ?_
  rintro e w3 ⟨rfl, hB3, hk3⟩
  have hA3 := hA2.kept hk3
  have hl3 := hB3.lt
  go_wp2_with fail
  refine (mnew_any w3 4).mono ?_
  rintro e w4 ⟨rfl, hC4, hk4⟩
  have hA4 := hA3.kept hk4
  have hB4 := hB3.kept hk4
  have kw4 := ((hk1.nil hk2).nil hk3).nil hk4
  have e4 : kindsOf 4 = 4 := by rfl
  rw [e4] at hA4 hB4 hC4
  have s1 := hk1.size
  clear hA2 hA3 hB3 hk1 hk2 hk3 hk4 e4
  have hab : w1.heap.size ≠ w2.heap.size := by omega
  have hac : w1.heap.size ≠ w3.heap.size := by omega
  have hbc : w2.heap.size ≠ w3.heap.size := by omega
  have sB : w.heap.size ≤ w2.heap.size := by omega
  have sC : w.heap.size ≤ w3.heap.size := by omega
  clear hl2 hl3
  generalize w1.heap.size = SA at *
  generalize w2.heap.size = SB at *
  generalize w3.heap.size = SC at *
  go_wp2_with fail
  obtain ⟨N, hN⟩ : ∃ N, N = min n 60 := ⟨_, rfl⟩
  obtain ⟨ms, hms⟩ : ∃ ms, ms = (l.take N).map mask := ⟨_, rfl⟩
  have hmlen : ms.length = N := by rw [hms, List.length_map, List.length_take, Hn.out]; omega
  have Hms := hid hms
  have Hml := hid hmlen
  have hN1 : N ≤ n := by omega
  have hN2 : N ≤ 60 := by omega
  have hNi : min (n : Int) 60 = (N : Int) := by omega
  rw [hNi]
  clear hms hmlen hN hNi
  obtain ⟨Z, hZ⟩ : ∃ Z, Z = List.replicate 4 Dl.zero := ⟨_, rfl⟩
  rw [← hZ] at hA4 hB4 hC4
  have HZ := hid hZ
  clear hZ
  have hZ4 : Z.length = 4 := by rw [HZ.out]; rfl
  have HZ4 := hid hZ4
  clear hZ4
  go_loopw [8] (fun i wr => ∃ k gsa gsb, k ≤ N ∧ i = .int .i64 (k : Nat) ∧ MAt wr SA gsa (putAll Z (ms.take k)) ∧ MAt wr SB gsb (putAll Z (ms.reverse.take k)) ∧ MAt wr SC [] Z ∧ Kp [] w wr ∧ (∀ g ∈ gsa, w.heap.size ≤ g) ∧ (∀ g ∈ gsb, w.heap.size ≤ g) ∧ (∀ g ∈ gsa, g ∉ gsb) ∧ Few k (putAll Z (ms.take k)) ∧ Few k (putAll Z (ms.reverse.take k))) (fun i _ => N - (intOf i).toNat)
  case atStart => exact ⟨0, [], [], by omega, rfl, hA4, hB4, hC4, kw4, by simp, by simp, by simp, by rw [HZ.out]; exact few_zero 4, by rw [HZ.out]; exact few_zero 4⟩
  case round =>
    clear hA4 hB4 hC4 kw4
    obtain ⟨k, gsa, gsb, hk, rfl, hA, hB, hC, kw, na, nb, hap, fa, fb⟩ := hrel
    by_cases hlt : k < N
    · obtain ⟨R, hR⟩ : ∃ R, R = N - 1 - k := ⟨_, rfl⟩
      obtain ⟨Q, hQ⟩ : ∃ Q, Q = N - 1 := ⟨_, rfl⟩
      have hkl : k < l.length := by rw [Hn.out]; omega
      have hRl : R < l.length := by rw [Hn.out]; omega
      have hkm : k < ms.length := by rw [Hml.out]; exact hlt
      have e1 : ms[k] = mask l[k] := by
        have h := List.getElem_of_eq Hms.out hkm
        rw [h]
        simp
      have e2 : ms.reverse[k]'(by simpa using hkm) = mask l[R] := by
        rw [List.getElem_reverse]
        have h := List.getElem_of_eq Hms.out (show ms.length - 1 - k < ms.length by omega)
        rw [h]
        simp only [List.getElem_map, List.getElem_take]
        congr 2
        rw [Hml.out]
        exact hR.symm
      have ea := putAll_snoc Z ms k hkm
      have eb := putAll_snoc Z ms.reverse k (by simpa using hkm)
      rw [e1] at ea
      rw [e2] at eb
      obtain ⟨g, o, rfl, x0, x1, x2, x3⟩ := hl k _ (List.getElem?_eq_getElem hkl)
      obtain ⟨g', o', hgo, y0, y1, y2, y3⟩ := hl R _ (List.getElem?_eq_getElem hRl)
      injection hgo with hgo
      injection hgo with hg ho
      subst hg ho
      have pa := mask_in l[k]
      have pb := mask_in l[R]
      obtain ⟨p, hp⟩ : ∃ p, p = l[k] := ⟨_, rfl⟩
      obtain ⟨q, hq⟩ : ∃ q, q = l[R] := ⟨_, rfl⟩
      rw [← hp] at x0 x1 x2 x3 ea pa
      rw [← hq] at y0 y1 y2 y3 eb pb
      obtain ⟨DA, hDA⟩ : ∃ D, D = putAll Z (ms.take k) := ⟨_, rfl⟩
      obtain ⟨DB, hDB⟩ : ∃ D, D = putAll Z (ms.reverse.take k) := ⟨_, rfl⟩
      have la : DA.length = 4 := by rw [hDA, length_putAll, HZ4.out]
      have lb : DB.length = 4 := by rw [hDB, length_putAll, HZ4.out]
      rw [← hDA] at hA fa ea
      rw [← hDB] at hB fb eb
      have XX := hid (And.intro x0 (And.intro x1 (And.intro y0 y1)))
      have x0 := kw.cell x0 (by simp)
      have x1 := kw.cell x1 (by simp)
      clear y0 y1
      have m1 := and3 p.1
      have m2 := and20 p.2
      have m3 := and3 q.1
      have m4 := and20 q.2
      have i1 : (0 : Int) ≤ (k : Int) := by omega
      have i2 : (k : Int) < (n : Int) := by omega
      have i3 : (0 : Int) ≤ (R : Int) := by omega
      have i4 : (R : Int) < (n : Int) := by omega
      have i5 : IntKind.i64.wrap ((N : Int) - 1) = (Q : Int) := by rw [IntWalk.i64_in _ (by omega)]; omega
      have i6 : IntKind.i64.wrap ((Q : Int) - (k : Int)) = (R : Int) := by rw [IntWalk.i64_in _ (by omega)]; omega
      have He := hid (And.intro ea eb)
      have Hla := hid (And.intro la lb)
      have Hap := hid hap
      have Hna := hid (And.intro na nb)
      have Hpp := hid (And.intro (few_put fa pa.2.2.1 pa.2.2.2) (few_put fb pb.2.2.1 pb.2.2.2))
      clear hR hQ e1 e2 ea eb hp hq hDA hDB la lb x2 x3 y2 y3 pa pb hap na nb hkl hRl hkm
      go_wp2_with fail
      go_region_held3 (fun w' => w'.cell? ⟨g, o + k * 2, none⟩ = some (.int .i64 p.1) ∧ w'.cell? ⟨g, o + k * 2 + 1, none⟩ = some (.int .i64 p.2)) (first | exact ⟨z0, z1⟩ | go_keep)
        (first
          | (go_at_call 8; refine (put_any _ SA gsa DA k p _ _ rfl (hA.kept ((Kp.refl [] wr).drew)) Hla.out.1 fa (by omega)).mono ?_; rintro e w5 ⟨rfl, gsa5, hA5, ka5, na5⟩; have kw5 := kp_new kw.drew ka5 s1 Hna.out.1; have z0 := kw5.cell XX.out.1 (by simp); have z1 := kw5.cell XX.out.2.1 (by simp)))
      have kd : Kp [] wr wr.drew := (Kp.refl [] wr).drew
      have hB5 := (hB.kept kd).beside_all (hA.kept kd) ka5 (Ne.symm hab) Hap.out
      have hC5 := (hC.kept kd).beside_all (hA.kept kd) ka5 (Ne.symm hac) (by simp)
      have nb5 : ∀ g ∈ gsa5, w.heap.size ≤ g := fun g hg => by
        rcases na5 g hg with h | h
        · exact Hna.out.1 g h
        · have := kw.size; simp only [World.size_drew] at h; omega
      have hap5 : ∀ g ∈ gsb, g ∉ gsa5 := fun g hg hm => by
        rcases na5 g hm with h | h
        · exact Hap.out g h hg
        · have := hB.gs_lt g hg; simp only [World.size_drew] at h; omega
      have y0 := kw5.cell XX.out.2.2.1 (by simp)
      have y1 := kw5.cell XX.out.2.2.2 (by simp)
      have W5 := hid (And.intro kw5 (And.intro nb5 hap5))
      have HB := hid (And.intro hB5 (And.intro hC5 hA5))
      clear z0 z1 x0 x1 hA hB hC kw ka5 na5 kd hB5 hC5 hA5 nb5 hap5 kw5 m1 m2
      go_wp2_with fail
      go_region_held3 (fun w' => w'.cell? ⟨g, o + R * 2, none⟩ = some (.int .i64 q.1) ∧ w'.cell? ⟨g, o + R * 2 + 1, none⟩ = some (.int .i64 q.2)) (first | exact ⟨z0, z1⟩ | go_keep)
        (first
          | (go_at_call 8; refine (put_any _ SB gsb DB k q _ _ rfl (HB.out.1.kept ((Kp.refl [] w5).drew)) Hla.out.2 fb (by omega)).mono ?_; rintro e w6 ⟨rfl, gsb6, hB6, kb6, nb6⟩; have kw6 := kp_new W5.out.1.drew kb6 sB Hna.out.2; have z0 := kw6.cell XX.out.2.2.1 (by simp); have z1 := kw6.cell XX.out.2.2.2 (by simp)))
      have kd : Kp [] w5 w5.drew := (Kp.refl [] w5).drew
      have hA6 := (HB.out.2.2.kept kd).beside_all (HB.out.1.kept kd) kb6 hab W5.out.2.2
      have hC6 := (HB.out.2.1.kept kd).beside_all (HB.out.1.kept kd) kb6 (Ne.symm hbc) (by simp)
      go_wp2_with fail
      go_roundw
      case rel =>
        refine ⟨k + 1, gsa5, gsb6, by omega, by go_num, by rw [He.out.1]; exact hA6, by rw [He.out.2]; exact hB6, hC6, kw6, W5.out.2.1, ?_, ?_, by rw [He.out.1]; exact Hpp.out.1, by rw [He.out.2]; exact Hpp.out.2⟩
        · intro g hg
          rcases nb6 g hg with h | h
          · exact Hna.out.2 g h
          · have := W5.out.1.size; simp only [World.size_drew] at h; omega
        · intro g hg hm
          rcases nb6 g hm with h | h
          · exact W5.out.2.2 g h hg
          · have := HB.out.2.2.gs_lt g hg; simp only [World.size_drew] at h; omega
      case measure => simp [intOf]; omega
    · have hkN : k = N := by omega
      subst hkN
      have hA := hA
      rw [List.take_of_length_le (by rw [Hml.out]; omega)] at hA fa
      rw [List.take_of_length_le (by rw [List.length_reverse, Hml.out]; omega), putAll_reverse] at hB fb
      obtain ⟨D, hD⟩ : ∃ D, D = putAll Z ms := ⟨_, rfl⟩
      have lD : D.length = 4 := by rw [hD, length_putAll, HZ4.out]
      rw [← hD] at hA hB fa fb
      have LD := hid lD
      have fok := few_ok fa (by omega)
      have zok : ∀ d ∈ Z, d.ok 200 := by rw [HZ.out]; exact ok_replicate _ _ (by omega)
      have Hap := hid hap
      clear hD lD hap fb
      have hz1 : ∀ i, i < Z.length → (Z.getD i Dl.zero).t + (D.getD i Dl.zero).t ≤ 1099511627776 := by
        intro i _
        have h1 := few_getD fa i
        have h2 : Z.getD i Dl.zero = Dl.zero := by
          rw [HZ.out, List.getD_eq_getElem?_getD, List.getElem?_replicate]
          split <;> rfl
        have h3 : Dl.zero.t = 0 := rfl
        rw [h2, h3]
        omega
      have hz2 : ∀ i, i < D.length → (D.getD i Dl.zero).t + (D.getD i Dl.zero).t ≤ 1099511627776 := by
        intro i _
        have h1 := few_getD fa i
        omega
      have hmz : mergeD Z D = D := by
        have := mergeD_zero D 200 fok
        rw [LD.out, ← HZ.out] at this
        exact this
      have HF := hid fok
      have HZok := hid zok
      have Hz1 := hid hz1
      have Hz2 := hid hz2
      have Hmz := hid hmz
      clear fok zok hz1 hz2 hmz
      go_wp2_with fail
      refine (merge_any wr SC SA [] gsa Z D 200 hC hA (Ne.symm hac) (by simp) (by rw [HZ4.out]; omega) (by rw [LD.out, HZ4.out]) (by omega) (by omega) HZok.out HF.out Hz1.out).mono ?_
      rintro e w5 ⟨rfl, gsc, gsa5, hC5, hA5, k5, nc5, na5, ap5⟩
      rw [Hmz.out] at hC5
      have hB5 := hB.beside_two hC hA k5 hbc (Ne.symm hab) (by simp)
      have kw5 := kp_new2 kw k5 sC s1 (by simp)
      have hsz := kw.size
      have nc5' : ∀ g ∈ gsc, w.heap.size ≤ g := fun g hg => by rcases nc5 g hg with h | h; cases h; omega
      have na5' : ∀ g ∈ gsa5, w.heap.size ≤ g := fun g hg => by
        rcases na5 g hg with h | h
        · exact na g h
        · omega
      have apc : ∀ g ∈ gsc, g ∉ gsb := fun g hg hm => by
        rcases nc5 g hg with h | h
        · cases h
        · have := hB.gs_lt g hm; omega
      have apab : ∀ g ∈ gsb, g ∉ gsa5 := fun g hg hm => by
        rcases na5 g hm with h | h
        · exact Hap.out g h hg
        · have := hB.gs_lt g hg; omega
      clear hC hA hB kw k5 nc5 na5 hsz na
      go_wp2_with fail
      refine (merge_any w5 SC SB gsc gsb D D 200 hC5 hB5 (Ne.symm hbc) apc (by rw [LD.out]; omega) rfl (by omega) (by omega) HF.out HF.out Hz2.out).mono ?_
      rintro e w6 ⟨rfl, gsc6, gsb6, hC6, hB6, k6, nc6, nb6, apcb⟩
      have hA6 := hA5.beside_two hC5 hB5 k6 hac hab ap5
      have kw6 := kp_new2 kw5 k6 sC sB nc5'
      have hsz := kw5.size
      have nb6' : ∀ g ∈ gsb6, w.heap.size ≤ g := fun g hg => by
        rcases nb6 g hg with h | h
        · exact nb g h
        · omega
      clear hC5 hA5 hB5 k6 kw5 apc apab hsz
      go_wp2_with fail
      refine (mall_any w6 SA gsa5 D hA6 (by rw [LD.out]; omega)).mono ?_
      rintro e w7 ⟨va, rfl, ⟨oa, va7⟩, gsa7, hA7, k7, na7⟩
      have kw7 := kp_new (gs := []) kw6 k7 s1 (by simp)
      have hB7 := hB6.beside hA6 k7 (Ne.symm hab)
      have hC7 := hC6.beside hA6 k7 (Ne.symm hac)
      go_wp2_with fail
      refine (mall_any w7 SB gsb6 D hB7 (by rw [LD.out]; omega)).mono ?_
      rintro e w8 ⟨vb, rfl, ⟨ob, vb8⟩, gsb8, hB8, k8, nb8⟩
      have kw8 := kp_new (gs := []) kw7 k8 sB (by simp)
      have hA8 := hA7.beside hB7 k8 hab
      have hC8 := hC7.beside hB7 k8 (Ne.symm hbc)
      have oa8 := oa.keep k8 (fun g hg hm => by
        rw [List.mem_singleton] at hm
        subst hm
        exact (hB7.ne3 oa).1 hg)
      go_wp2_with fail
      refine (same_any w8 va vb D oa8 ob (by rw [LD.out]; omega)).mono ?_
      rintro e w9 ⟨rfl, k9⟩
      have kw9 := kw8.nil k9
      have hA9 := hA8.kept k9
      have hC9 := hC8.kept k9
      clear hA6 hA7 hA8 hB6 hB7 hB8 hC6 hC7 hC8 k7 k8 k9 kw6 kw7 kw8 oa oa8 ob va7 vb8 na7 nb8 nb6 nb6' nc6 apcb
      go_wp2_with fail
      clear hk
      obtain ⟨wo, rfl⟩ : ∃ wo : World, wo = wr := ⟨_, rfl⟩
      go_loopw [12] (fun i wr => ∃ j ga gc, j ≤ 4 ∧ i = .int .i64 (j : Nat) ∧ MAt wr SA ga D ∧ MAt wr SC gc (mergeD D D) ∧ Kp [] w wr) (fun i _ => 4 - (intOf i).toNat)
      case atStart => exact ⟨0, _, _, by omega, rfl, hA9, hC9, kw9⟩
      case round =>
        clear hA9 hC9 kw9
        obtain ⟨j, ga, gc, hj, rfl, hA, hC, kw⟩ := hrel
        by_cases hlt : j < 4
        · have hjd : j < D.length := by rw [LD.out]; exact hlt
          have e1 : ofD D (j : Int) = D.getD j Dl.zero := by rw [ofD, if_neg (by omega), Int.toNat_natCast]
          have e2 : ofD (mergeD D D) (j : Int) = ⟨2 * (D.getD j Dl.zero).c, 2 * (D.getD j Dl.zero).t, (D.getD j Dl.zero).m⟩ := by
            rw [ofD, if_neg (by rw [length_mergeD]; omega), Int.toNat_natCast, merge_two _ _ hjd]
          have hb := few_getD fa j
          obtain ⟨x, hx⟩ : ∃ x, x = D.getD j Dl.zero := ⟨_, rfl⟩
          rw [← hx] at e1 e2 hb
          have b1 : 0 ≤ x.c ∧ x.c ≤ 1000 := by omega
          have b2 : 0 ≤ x.t ∧ x.t ≤ 100000000 := by omega
          obtain ⟨b1, b3⟩ := b1
          obtain ⟨b2, b4⟩ := b2
          have HE := hid (And.intro e1 e2)
          clear e1 e2 hx hb
          go_wp2_with fail
          refine (of_any wr SA ga D j hA (by rw [LD.out]; omega)).mono ?_
          rintro e w10 ⟨d, hd, rfl, ga2, hA2, k2, -⟩
          have hdx : d = x := hd.trans HE.out.1
          clear hd
          subst hdx
          have hC2 := hC.beside hA k2 (Ne.symm hac)
          have kw2 := kp_new (gs := []) kw k2 s1 (by simp)
          go_wp2_with fail
          refine (of_any w10 SC gc (mergeD D D) j hC2 (by rw [length_mergeD, LD.out]; omega)).mono ?_
          rintro e w11 ⟨d2, hd2, rfl, gc3, hC3, k3, -⟩
          obtain ⟨P, hP⟩ : ∃ P, P = 2 * d.c := ⟨_, rfl⟩
          obtain ⟨Q, hQ⟩ : ∃ Q, Q = 2 * d.t := ⟨_, rfl⟩
          have hdx : d2 = ⟨P, Q, d.m⟩ := by rw [hP, hQ]; exact hd2.trans HE.out.2
          clear hd2
          subst hdx
          have q1 : IntKind.i64.wrap (2 * d.c) = P := by rw [IntWalk.i64_in _ (by omega), hP]
          have q2 : IntKind.i64.wrap (2 * d.t) = Q := by rw [IntWalk.i64_in _ (by omega), hQ]
          clear hP hQ b1 b2 b3 b4
          have hA3 := hA2.beside hC2 k3 hac
          have kw3 := kp_new (gs := []) kw2 k3 sC (by simp)
          go_wp2_with fail
          go_roundw
          case rel => exact ⟨j + 1, _, _, by omega, by go_num, hA3, hC3, kw3⟩
          case measure => simp [intOf]; omega
        · clear hC hA
          go_wp2_with fail
          go_ret
          exact ⟨rfl, kw⟩
end Go.Proofs.Ytgoojndpondkmaa
