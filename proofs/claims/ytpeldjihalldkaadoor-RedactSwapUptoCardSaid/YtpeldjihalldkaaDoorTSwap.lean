/- RedactSwap: what is put in the place of something hidden, and is hidden as well, is not seen; what is put in the place of something seen is. -/
import Derived.Test.YtpeldjihalldkaaDoorTMore
import Derived.Test.YtpeldjihalldkaaDoorTClone
import Derived.Test.YtpeldjihalldkaaDoorTHoles
import Derived.Test.YtpeldjihalldkaaDoorTPlaceSame
import Derived.Test.YtpeldjihalldkaaDoorTViewLaw
import Derived.Test.YtpeldjihalldkaaDoorRI
import Derived.Test.YtpeldjihalldkaaDoorTSame
namespace Go.Proofs.YtpeldjihalldkaaDoor
open Go Go.RowKit Go.Lib

theorem bytes_a (l : List UInt8) : (⟨#[97]⟩ : ByteArray) ++ ⟨l.toArray⟩ = ⟨(97 :: l).toArray⟩ := by
  apply ByteArray.ext
  simp
theorem same_refl : ∀ v, sameV v v = true := by
  refine Vl.ind fun k m num t keys kids code ih => ?_
  unfold sameV
  rw [(sames_iff kids kids).2 ⟨rfl, fun i v v' hv hv' => by rw [hv] at hv'; injection hv' with hv'; rw [← hv']; exact ih v (at_mem hv)⟩]
  simp
/-- A value's mask, by its cells. -/
theorem rep_mask {w : World} {v : Vl} {cs : List Value} (h : Rep w v cs) : cs[1]? = some (.int .u64 (maskV v : Int)) := by cases h; rfl
theorem sizes_set : ∀ (l : List Vl) (i : Nat) (u : Vl), sizes (l.set i u) ≤ sizes l + sizeV u
  | [], _, _ => by simp [sizes]
  | v :: r, 0, u => by simp only [List.set_cons_zero, sizes]; omega
  | v :: r, i + 1, u => by
    have := sizes_set r i u
    simp only [List.set_cons_succ, sizes]
    omega
abbrev nineAt (w : World) (g o : Nat) (a0 a1 a2 a3 a4 a5 a6 a7 a8 : Value) : World :=
  ((((((((w.setCell ⟨g, o, none⟩ a0).setCell ⟨g, o + 1, none⟩ a1).setCell ⟨g, o + 2, none⟩ a2).setCell ⟨g, o + 3, none⟩ a3).setCell ⟨g, o + 4, none⟩ a4).setCell ⟨g, o + 5, none⟩ a5).setCell ⟨g, o + 6, none⟩ a6).setCell ⟨g, o + 7, none⟩ a7).setCell ⟨g, o + 8, none⟩ a8
theorem kp_nineAt {S : List Nat} {w w' : World} (k : Kp S w w') (g o : Nat) (hg : w.heap.size ≤ g ∨ g ∈ S) (a0 a1 a2 a3 a4 a5 a6 a7 a8 : Value) : Kp S w (nineAt w' g o a0 a1 a2 a3 a4 a5 a6 a7 a8) :=
  kp_put (kp_put (kp_put (kp_put (kp_put (kp_put (kp_put (kp_put (kp_put k g _ hg a0) g _ hg a1) g _ hg a2) g _ hg a3) g _ hg a4) g _ hg a5) g _ hg a6) g _ hg a7) g _ hg a8
theorem set_nine (l : List Value) (o : Nat) (h : o + 8 < l.length) (a0 a1 a2 a3 a4 a5 a6 a7 a8 : Value) :
    ∀ m, m = ((((((((l.set o a0).set (o + 1) a1).set (o + 2) a2).set (o + 3) a3).set (o + 4) a4).set (o + 5) a5).set (o + 6) a6).set (o + 7) a7).set (o + 8) a8 → m[o + 0]? = some a0 ∧ m[o + 1]? = some a1 ∧ m[o + 2]? = some a2 ∧ m[o + 3]? = some a3 ∧ m[o + 4]? = some a4 ∧ m[o + 5]? = some a5 ∧ m[o + 6]? = some a6 ∧ m[o + 7]? = some a7 ∧ m[o + 8]? = some a8 := by
  rintro m rfl
  refine ⟨?_, ?_, ?_, ?_, ?_, ?_, ?_, ?_, ?_⟩
  · rw [List.getElem?_set_ne (by omega), List.getElem?_set_ne (by omega), List.getElem?_set_ne (by omega), List.getElem?_set_ne (by omega), List.getElem?_set_ne (by omega), List.getElem?_set_ne (by omega), List.getElem?_set_ne (by omega), List.getElem?_set_ne (by omega)]; exact List.getElem?_set_self (by (try simp only [List.length_set]); omega)
  · rw [List.getElem?_set_ne (by omega), List.getElem?_set_ne (by omega), List.getElem?_set_ne (by omega), List.getElem?_set_ne (by omega), List.getElem?_set_ne (by omega), List.getElem?_set_ne (by omega), List.getElem?_set_ne (by omega)]; exact List.getElem?_set_self (by (try simp only [List.length_set]); omega)
  · rw [List.getElem?_set_ne (by omega), List.getElem?_set_ne (by omega), List.getElem?_set_ne (by omega), List.getElem?_set_ne (by omega), List.getElem?_set_ne (by omega), List.getElem?_set_ne (by omega)]; exact List.getElem?_set_self (by (try simp only [List.length_set]); omega)
  · rw [List.getElem?_set_ne (by omega), List.getElem?_set_ne (by omega), List.getElem?_set_ne (by omega), List.getElem?_set_ne (by omega), List.getElem?_set_ne (by omega)]; exact List.getElem?_set_self (by (try simp only [List.length_set]); omega)
  · rw [List.getElem?_set_ne (by omega), List.getElem?_set_ne (by omega), List.getElem?_set_ne (by omega), List.getElem?_set_ne (by omega)]; exact List.getElem?_set_self (by (try simp only [List.length_set]); omega)
  · rw [List.getElem?_set_ne (by omega), List.getElem?_set_ne (by omega), List.getElem?_set_ne (by omega)]; exact List.getElem?_set_self (by (try simp only [List.length_set]); omega)
  · rw [List.getElem?_set_ne (by omega), List.getElem?_set_ne (by omega)]; exact List.getElem?_set_self (by (try simp only [List.length_set]); omega)
  · rw [List.getElem?_set_ne (by omega)]; exact List.getElem?_set_self (by (try simp only [List.length_set]); omega)
  · exact List.getElem?_set_self (by (try simp only [List.length_set]); omega)
/-- A kid's cells in the place of others'. -/
theorem kids_put {w : World} {g c n : Nat} {ks : Nat → List Value} {cs : List Value} (hk : KidsAt w (some ⟨g, 0, none⟩) c n ks) (hc : Cells w g 31 cs) {i : Nat} (hi : i < n) (h9 : ∀ j, j < n → (ks j).length = 9) (hl : 9 * i + 8 < cs.length) (a0 a1 a2 a3 a4 a5 a6 a7 a8 : Value) :
    KidsAt (nineAt w g (9 * i) a0 a1 a2 a3 a4 a5 a6 a7 a8) (some ⟨g, 0, none⟩) c n (fun j => if j = i then [a0, a1, a2, a3, a4, a5, a6, a7, a8] else ks j) := by
  have hold : ∀ j jj u, j < n → (ks j)[jj]? = some u → cs[9 * j + jj]? = some u := by
    intro j jj u hj hu
    obtain ⟨g', e, hat⟩ := hk.at_ j hj
    injection e with e
    injection e with e
    subst e
    exact (hc.cell (9 * j + jj)).symm.trans (hat jj u hu)
  have hp : Cells (nineAt w g (9 * i) a0 a1 a2 a3 a4 a5 a6 a7 a8) g 31 _ := ((((((((hc.put (9 * i) a0).put (9 * i + 1) a1).put (9 * i + 2) a2).put (9 * i + 3) a3).put (9 * i + 4) a4).put (9 * i + 5) a5).put (9 * i + 6) a6).put (9 * i + 7) a7).put (9 * i + 8) a8
  refine ⟨hk.le, hk.top, fun j hj => ⟨g, rfl, fun jj u hu => ?_⟩⟩
  have hcell := hp.cell (9 * j + jj)
  by_cases hji : j = i
  · subst hji
    rw [if_pos rfl] at hu
    have hjj : jj < 9 := (List.getElem?_eq_some_iff.1 hu).1
    refine Eq.trans hcell ?_
    clear hcell hp
    obtain ⟨m0, m1, m2, m3, m4, m5, m6, m7, m8⟩ := set_nine cs (9 * j) hl a0 a1 a2 a3 a4 a5 a6 a7 a8 _ rfl
    generalize ((((((((cs.set (9 * j) a0).set (9 * j + 1) a1).set (9 * j + 2) a2).set (9 * j + 3) a3).set (9 * j + 4) a4).set (9 * j + 5) a5).set (9 * j + 6) a6).set (9 * j + 7) a7).set (9 * j + 8) a8 = M at *
    rcases (show jj = 0 ∨ jj = 1 ∨ jj = 2 ∨ jj = 3 ∨ jj = 4 ∨ jj = 5 ∨ jj = 6 ∨ jj = 7 ∨ jj = 8 by omega) with rfl | rfl | rfl | rfl | rfl | rfl | rfl | rfl | rfl
    · exact m0.trans hu
    · exact m1.trans hu
    · exact m2.trans hu
    · exact m3.trans hu
    · exact m4.trans hu
    · exact m5.trans hu
    · exact m6.trans hu
    · exact m7.trans hu
    · exact m8.trans hu
  · rw [if_neg hji] at hu
    have hjj : jj < 9 := by have := (List.getElem?_eq_some_iff.1 hu).1; have := h9 j hj; omega
    have h1 := hold j jj u hj hu
    refine hcell.trans ?_
    have ne : ∀ r, r < 9 → 9 * i + r ≠ 9 * j + jj := fun r hr => by omega
    rw [List.getElem?_set_ne (ne 8 (by decide)), List.getElem?_set_ne (ne 7 (by decide)), List.getElem?_set_ne (ne 6 (by decide)), List.getElem?_set_ne (ne 5 (by decide)), List.getElem?_set_ne (ne 4 (by decide)), List.getElem?_set_ne (ne 3 (by decide)), List.getElem?_set_ne (ne 2 (by decide)), List.getElem?_set_ne (ne 1 (by decide)), List.getElem?_set_ne (show 9 * i ≠ 9 * j + jj by omega)]
    exact h1
theorem text_fine {mk : Nat} (hm : mk < 18446744073709551616) {y : Txt} (hy : y.length ≤ 100 ∧ validD y = true) : FineV (.mk 5 mk none y [] [] 0) :=
  .mk 5 _ none y [] [] 0 ⟨by decide, by decide⟩ hm (fun h => absurd h (by decide)) (fun _ => rfl) hy (fun h => absurd rfl h) (fun h => absurd h (by decide)) (fun _ => rfl) (fun x h => by cases h) List.nodup_nil (fun _ _ => rfl) (by decide) (fun _ => rfl) (fun h => absurd h (by decide)) (Nat.zero_le _) (fun i v h => by cases h)
theorem swap_fine {k m : Nat} {num : Option Dc} {t : Txt} {keys : List Txt} {kids : List Vl} {code i : Nat} {u : Vl} (ha : FineV (.mk k m num t keys kids code)) (hu : FineV u) : FineV (.mk k m num t keys (kids.set i u) code) := by
  cases ha with
  | mk _ _ _ _ _ _ _ hk hm hn hn0 ht ht0 hkl hk0 hks hkd hc hcode hc0 hc8 hmany hf =>
    refine .mk k m num t keys _ code hk hm hn hn0 ht ht0 (fun h => by rw [List.length_set]; exact hkl h) hk0 hks hkd (fun h6 h7 => by rw [hc h6 h7]; rfl) hcode hc0 hc8 (by rw [List.length_set]; exact hmany) fun j v hv => ?_
    rw [List.getElem?_set] at hv
    split at hv
    · split at hv
      · injection hv with hv
        rw [← hv]
        exact hu
      · cases hv
    · exact hf j v hv
theorem mask_fine {v : Vl} (h : FineV v) : maskV v < 18446744073709551616 := by
  obtain ⟨k, m, num, t, keys, kids, code⟩ := v
  exact fine_mask h
theorem hidden_mask {w : World} {v : Vl} {cs : List Value} (h : Rep w v cs) (hf : FineV v) (W : World) (cl : Nat) (hcl : cl < 18446744073709551616) :
    Calls Tryd.prog 16 #[.agg cs.toArray, .int .u64 (cl : Int)] W fun e w' => e = .returned (.bool (hidB (maskV v) cl)) ∧ Kp [] W w' := by
  cases h with
  | mk k m num t keys kids code A ck B cb ks hA hB hr => exact hidden_cells W (k : Int) m (vN num) (vD num) (vS num) t A _ ck B _ cb (code : Int) cl (fine_mask hf) hcl
set_option maxRecDepth 100000 in
set_option maxHeartbeats 25600000 in
theorem swaplaw_any (w : World) (A : Option Addr) (c : Nat) (l : List Itm) (hl : ItemsAt w A c l) (cl : Nat) (hcl : cl < 18446744073709551616) (a : Int) (x : Txt) (hx : x.length ≤ 9223372036854775807) :
    Calls Tryd.prog 9 #[.slice A l.length c, .int .u64 (cl : Int), .agg #[.int .i64 a, .string ⟨x.toArray⟩]] w fun e w' => e = .returned (.bool true) ∧ Kp [] w w' := by
  obtain ⟨w0, hw0⟩ : ∃ w0, w0 = w.alloc (.cells #[.int .i64 a, .string ⟨x.toArray⟩] 60) := ⟨_, rfl⟩
  have hk0 : Kp [] w w0 := by rw [hw0]; exact (Kp.refl _ _).alloc _
  obtain ⟨gX, hgX⟩ : ∃ gX, gX = w.heap.size := ⟨_, rfl⟩
  have hcX : Cells w0 gX 60 [.int .i64 a, .string ⟨x.toArray⟩] := by rw [hw0, hgX]; exact Cells.fresh w 60 _
  have q1 := shown9_any w0
  have q2 := fun W (k : Kp [] w0 W) => built_any W A c l (hl.kept (hk0.nil k))
  obtain ⟨N0, hN⟩ : ∃ N, N = l.length := ⟨_, rfl⟩
  rw [← hN] at q2 ⊢
  have HCL := hid hcl
  have hsz : (⟨x.toArray⟩ : ByteArray).size = x.length := size_mk _
  have HW0 := hid hw0
  have HGX := hid hgX
  have H0 := hid (And.intro hk0 hcX)
  clear hl hN hcl hw0 hgX hk0 hcX
  go_enter Tryd.func9, Tryd.ntmps9
  go_wp2_with fail
  rw [← HW0.out]
  try simp only [← HGX.out]
  (with_reducible refine q1.mono ?_)
  rintro e w1 ⟨rfl, k1⟩
  have qb := q2 _ k1
  have HK1 := hid k1
  clear k1 q1 q2
  go_wp2_with fail
  (with_reducible refine qb.mono ?_)
  rintro e w2 ⟨va, ca, rfl, hrsa, hfa, hza, k2⟩
  have hrsa2 : RepS w2 (fun x => x < w2.heap.size) va ca := hrsa.mono (fun x h => h.2)
  have hrep := hrsa.rep
  have HA := hid (And.intro hrsa.rep (And.intro hfa hza))
  have hk02 := HK1.out.nil k2
  have HWS := hid (Nat.le_trans H0.out.1.size hk02.size : w.heap.size ≤ w2.heap.size)
  cases hrep with
  | mk k m num t keys kids code A1 ck B1 cb ks hA1 hB1 hr1 =>
    have hm := fine_mask hfa
    have qcl := fun W (h : Kp [] w2 W) => clone_top hrsa2 hfa W h
    unfold vC at HA qcl ⊢
    have HA0 := hid (And.intro hB1 (And.intro hr1 (And.intro hfa hza)))
    obtain ⟨nk, hnk⟩ : ∃ x, x = keys.length := ⟨_, rfl⟩
    obtain ⟨nb, hnb⟩ : ∃ x, x = kids.length := ⟨_, rfl⟩
    simp only [← hnk, ← hnb] at HA qcl ⊢
    obtain ⟨va, hva⟩ : ∃ v : Vl, v = .mk k m num t keys kids code := ⟨_, rfl⟩
    rw [← hva] at HA
    have HVA := hid (And.intro hva (And.intro hnk hnb))
    obtain ⟨w3, hw3⟩ : ∃ w3, w3 = w2.alloc (.cells #[.int .i64 (k : Int), .int .u64 (m : Int), .bool (vN num), .string ⟨(vD num).toArray⟩, .int .i64 (vS num), .string ⟨t.toArray⟩, .slice A1 nk ck, .slice B1 nb cb, .int .i64 (code : Int)] 31) := ⟨_, rfl⟩
    have hk23 : Kp [] w2 w3 := by rw [hw3]; exact (Kp.refl _ _).alloc _
    obtain ⟨gV, hgV⟩ : ∃ gV, gV = w2.heap.size := ⟨_, rfl⟩
    have hca : Cells w3 gV 31 [.int .i64 (k : Int), .int .u64 (m : Int), .bool (vN num), .string ⟨(vD num).toArray⟩, .int .i64 (vS num), .string ⟨t.toArray⟩, .slice A1 nk ck, .slice B1 nb cb, .int .i64 (code : Int)] := by rw [hw3, hgV]; exact Cells.fresh w2 31 _
    have hcX := H0.out.2.keep (hk02.nil hk23) (by simp)
    have qh := fun W => hidden_cells W (k : Int) m (vN num) (vD num) (vS num) t A1 nk ck B1 nb cb (code : Int) cl hm HCL.out
    obtain ⟨hd, hhd⟩ : ∃ h, h = hidB m cl := ⟨_, rfl⟩
    simp only [← hhd] at qh
    have hnb1 : nb ≤ cb := by have := hB1.le; omega
    have hnb2 := hB1.top
    have QCL := hid qcl
    have HW3 := hid hw3
    have HGV := hid hgV
    have HHD := hid hhd
    have H3 := hid (And.intro (H0.out.1.nil (hk02.nil hk23)) (And.intro hk23 (And.intro hca hcX)))
    have a0 := hca.cell 0; have a1 := hca.cell 1; have a2 := hca.cell 2; have a3 := hca.cell 3; have a4 := hca.cell 4; have a5 := hca.cell 5; have a6 := hca.cell 6; have a7 := hca.cell 7; have a8 := hca.cell 8
    have s0 := hcX.cell 0; have s1 := hcX.cell 1
    try simp only [List.getElem?_cons_zero, List.getElem?_cons_succ] at s0 s1
    clear hrsa hrsa2 hfa hza k2 hA1 hB1 hr1 hnk hnb hva hw3 hk23 hca qb hhd hm hgV hcX hk02 qcl
    go_upto_region 3 with fail
    rw [← HW3.out]
    try simp only [← HGV.out]
    by_cases ha0 : a < 0
    · have z0 : decide (a < 0) = true := decide_eq_true ha0
      go_wp2_with fail
      go_ret
      exact ⟨rfl, H3.out.1⟩
    · obtain ⟨i, rfl⟩ : ∃ i : Nat, a = (i : Int) := ⟨a.toNat, by omega⟩
      have z0 : decide ((i : Int) < 0) = false := decide_eq_false ha0
      by_cases hin : i < nb
      · have z1 : decide (nb ≤ i) = false := decide_eq_false (by omega)
        have z1n : decide ((nb : Int) ≤ (i : Int)) = false := decide_eq_false (by omega)
        clear ha0
        go_wp2_with fail
        (with_reducible refine (qh _).mono ?_)
        rintro e w4 ⟨rfl, k4⟩
        have H4 := hid (And.intro (H3.out.1.nil k4) (And.intro (H3.out.2.1.nil k4) (And.intro (H3.out.2.2.1.keep k4 (by simp)) (H3.out.2.2.2.keep k4 (by simp)))))
        clear k4 qh a0 a1 a2 a3 a4 a5 a6 a7 a8 s0 s1
        cases hd with
        | true =>
          go_wp2_with fail
          go_ret
          exact ⟨rfl, H4.out.1⟩
        | false =>
          have hca := H4.out.2.2.1
          have a0 := hca.cell 0; have a1 := hca.cell 1; have a2 := hca.cell 2; have a3 := hca.cell 3; have a4 := hca.cell 4; have a5 := hca.cell 5; have a6 := hca.cell 6; have a7 := hca.cell 7; have a8 := hca.cell 8
          have qc := QCL.out w4 H4.out.2.1
          clear hca
          go_wp2_with fail
          (with_reducible refine qc.mono ?_)
          rintro e w5 ⟨A2, c2, g, cg, ks', rfl, ht, k5⟩
          obtain ⟨w6, hw6⟩ : ∃ w6, w6 = w5.alloc (.cells #[.int .i64 (k : Int), .int .u64 (m : Int), .bool (vN num), .string ⟨(vD num).toArray⟩, .int .i64 (vS num), .string ⟨t.toArray⟩, .slice A2 nk c2, .slice (some ⟨g, 0, none⟩) nb cg, .int .i64 (code : Int)] 31) := ⟨_, rfl⟩
          have hk56 : Kp [] w5 w6 := by rw [hw6]; exact (Kp.refl _ _).alloc _
          obtain ⟨gW, hgW⟩ : ∃ gW, gW = w5.heap.size := ⟨_, rfl⟩
          have hcW : Cells w6 gW 31 [.int .i64 (k : Int), .int .u64 (m : Int), .bool (vN num), .string ⟨(vD num).toArray⟩, .int .i64 (vS num), .string ⟨t.toArray⟩, .slice A2 nk c2, .slice (some ⟨g, 0, none⟩) nb cg, .int .i64 (code : Int)] := by rw [hw6, hgW]; exact Cells.fresh w5 31 _
          have hk46 := k5.nil hk56
          have hca := H4.out.2.2.1.keep hk46 (by simp)
          have hcX := H4.out.2.2.2.keep hk46 (by simp)
          have s0 := hcX.cell 0; have s1 := hcX.cell 1
          simp only [List.getElem?_cons_zero, List.getElem?_cons_succ] at s0 s1
          have HW6 := hid hw6
          have HGW := hid hgW
          have HT := hid (And.intro ht (And.intro k5 hk56))
          have H6 := hid (And.intro (H4.out.1.nil hk46) (And.intro (H4.out.2.1.nil hk46) (And.intro hca (And.intro hcX hcW))))
          clear ht k5 hw6 hk56 hgW hcW hk46 hca hcX a0 a1 a2 a3 a4 a5 a6 a7 a8 qc
          go_upto_region 7 with fail
          rw [← HW6.out]
          try simp only [← HGW.out]
          go_upto_if 39 with fail
          go_cut [10] (fun v wx => ∃ y : Txt, v = .string ⟨y.toArray⟩ ∧ y.length ≤ 100 ∧ Kp [] w6 wx)
          case first =>
            by_cases h50 : x.length ≤ 50
            · have z5 : decide (x.length ≤ 50) = true := decide_eq_true h50
              have z5n : decide ((x.length : Int) ≤ 50) = true := decide_eq_true (by omega)
              have qcut := rcut_any w6 ⟨x.toArray⟩ 0 9 (by rw [hsz]; omega)
              have hcl : (cutL x 0 9).length ≤ x.length := by unfold cutL; exact cutN_len _ _ _
              have hcl2 : ∃ Z, Z = cutL x 0 9 ∧ Z.length ≤ 50 := ⟨_, rfl, by omega⟩
              obtain ⟨Z, hZ, hZl⟩ := hcl2
              rw [show (⟨x.toArray⟩ : ByteArray).data.toList = x from rfl, ← hZ] at qcut
              clear hZ hcl
              go_wp2_with fail
              (with_reducible refine qcut.mono ?_)
              rintro e w7 ⟨rfl, k7⟩
              have HK7 := hid k7
              clear k7 qcut s0 s1
              go_wp2_with fail
              go_meet
              exact ⟨97 :: Z, by rw [← bytes_a]; rfl, by rw [List.length_cons]; omega, HK7.out⟩
            · have z5 : decide (x.length ≤ 50) = false := decide_eq_false h50
              have z5n : decide ((x.length : Int) ≤ 50) = false := decide_eq_false (by omega)
              go_wp2_with fail
              go_meet
              exact ⟨[97], rfl, by decide, Kp.refl _ _⟩
          case' rest => obtain ⟨y, rfl, hyl, hkc⟩ := hcut
          case' rest => have HKC := hid (And.intro hyl hkc)
          case' rest => have hysz : (⟨y.toArray⟩ : ByteArray).size = y.length := size_mk _
          case' rest => have qv := rvalid_any wc ⟨y.toArray⟩ (by rw [hysz]; omega)
          case' rest => rw [show (⟨y.toArray⟩ : ByteArray).data.toList = y from rfl] at qv
          case' rest => clear hyl hkc hysz s0 s1
          case' rest => go_upto_if 47 with fail
          case' rest => (with_reducible refine qv.mono ?_)
          case' rest => rintro e w8 ⟨rfl, hw8⟩
          case' rest => subst hw8
          case' rest => obtain ⟨bv, hbv⟩ : ∃ b, b = validD y := ⟨_, rfl⟩
          case' rest => rw [← hbv]
          case' rest => have HBV := hid hbv
          case' rest => clear hbv qv
          case' rest => go_upto_if 47 with fail
          case' rest => go_cut [10] (fun v wx => ∃ y : Txt, v = .string ⟨y.toArray⟩ ∧ (y.length ≤ 100 ∧ validD y = true) ∧ Kp [] w6 wx)
          case first =>
            cases bv with
            | true =>
              go_wp2_with fail
              go_meet
              exact ⟨y, rfl, ⟨HKC.out.1, HBV.out.symm⟩, HKC.out.2⟩
            | false =>
              go_wp2_with fail
              go_meet
              exact ⟨[97], rfl, ⟨by decide, by decide⟩, HKC.out.2⟩
          case' rest => clear HBV HKC
          case' rest => obtain ⟨y2, rfl, hy2, hkc2⟩ := hcut
          obtain ⟨y, hy⟩ : ∃ y, y = y2 := ⟨_, rfl⟩
          rw [← hy] at hy2 ⊢
          clear hy
          obtain ⟨w9, hw9⟩ : ∃ w9 : World, w9 = wc := ⟨_, rfl⟩
          rw [← hw9] at hkc2 ⊢
          clear hw9
          obtain ⟨ht, k5, hk56⟩ := HT.out
          obtain ⟨hkw6, hk26, hca, hcX, hcW⟩ := H6.out
          have hca := hca.keep hkc2 (by simp)
          have hcX := hcX.keep hkc2 (by simp)
          have hcW := hcW.keep hkc2 (by simp)
          have hk29 := hk26.nil hkc2
          have hk59 := hk56.nil hkc2
          obtain ⟨hB1, hr1, hfa, hza⟩ := HA0.out
          have hik : i < kids.length := by rw [← HVA.out.2.2]; exact hin
          obtain ⟨v, hv⟩ := at_some hik
          obtain ⟨gB, rfl, pB⟩ := (hB1.kept hk29).at_ i hik
          have hrv := hr1 i v hv
          have hmv := rep_mask hrv
          obtain ⟨ak, am, an, ad, az, ax, aA, ank, ack, aB, anb, acb, aco, eV⟩ := hrv.isV
          rw [eV] at pB hmv
          obtain ⟨mk, hmk⟩ : ∃ mk, mk = maskV v := ⟨_, rfl⟩
          have ham : am = (mk : Int) := by
            rw [hmk]
            injection hmv with hmv
            injection hmv
          subst ham
          obtain ⟨cs, hbl⟩ := ht.block
          have hcl9 : 9 * i + 8 < cs.length := by
            obtain ⟨g0, e0, h0⟩ := ht.kd.at_ i hik
            injection e0 with e0
            injection e0 with e0
            subst e0
            have h1 := (hbl.cell (9 * i + 8)).symm
            have hn := (ht.kr i v hv).rep.len
            obtain ⟨u8, hu8⟩ : ∃ u, (ks' i)[8]? = some u := ⟨_, List.getElem?_eq_getElem (by omega)⟩
            rw [h0 8 u8 hu8] at h1
            exact (List.getElem?_eq_some_iff.1 h1).1
          have hgW := HGW.out
          have hgg := ht.g2
          have hgo : w2.heap.size ≤ g := Nat.le_trans H4.out.2.1.size ht.g1
          have hne : gW ≠ g ∧ gV ≠ g ∧ gX ≠ g := ⟨by omega, by have := HGV.out; have := H4.out.2.1.size; have := ht.g1; have := (Array.getElem?_eq_some_iff.1 H4.out.2.2.1).1; omega, by have := (Array.getElem?_eq_some_iff.1 H4.out.2.2.2).1; have := ht.g1; omega⟩
          have hkb := hbl.keep hk59 (by simp)
          have HBL := hid hkb
          have HCL9 := hid hcl9
          have HKID := hid (And.intro ((ht.kd).kept hk59) (And.intro (fun (j : Nat) (u : Vl) (hu : kids[j]? = some u) => (ht.kr j u hu).kept hk59) (ht.ky.kept hk59)))
          have HV := hid (And.intro hv (And.intro hrv (And.intro eV (And.intro hmk hy2))))
          have HNE := hid (And.intro hne (And.intro hgo (And.intro hgg (And.intro hcl9 (fun (ad : Addr) (e : A2 = some ad) => (ht.kk ad e).2.2)))))
          have H9 := hid (And.intro (hkw6.nil hkc2) (And.intro hk29 (And.intro hca (And.intro hcX hcW))))
          have a7 := hca.cell 7
          have s0 := hcX.cell 0
          have d7 := hcW.cell 7
          have p1 := pB 1 _ rfl
          simp only [List.getElem?_cons_zero, List.getElem?_cons_succ] at a7 s0 d7
          have e9 : i * 9 = 9 * i := Nat.mul_comm _ _
          have jn : (i : Int) < (nb : Int) := by omega
          clear ht k5 hk56 hkw6 hk26 hca hcX hcW hk29 hk59 hB1 hr1 hfa hza hik hv hrv hmv pB hmk hbl hcl9 hgW hgg hgo hne hkb hkc2 hy2 eV
          go_upto_region 11 with fail
          refine lin_start (fun W' => Kp [] w9 W') (Stays.kp _ _) (by kernel_rfl) (Kp.refl _ _).drew (fun hSS hS => ?_)
          refine lin_val (i := 0) (v := ?_) rfl (by kernel_rfl) (by kernel_rfl) (by kernel_rfl) (fun _ _ _ h => h) hSS hS rfl (fun W' hSw => ?_) ?_
          rotate_left
          · go_simp; first | done | with_reducible rfl
          try simp only [Act.put, List.setIfInBounds_toArray, List.set_cons_zero, List.set_cons_succ]
          refine lin_val (i := 1) (v := ?_) rfl (by kernel_rfl) (by kernel_rfl) (by kernel_rfl) (fun _ _ _ h => h) hSS hS rfl (fun W' hSw => ?_) ?_
          rotate_left
          · have d7 := hSw.cell d7 (by simp); go_simp; first | done | with_reducible rfl
          try simp only [Act.put, List.setIfInBounds_toArray, List.set_cons_zero, List.set_cons_succ]
          refine lin_val (i := 2) (v := ?_) rfl (by kernel_rfl) (by kernel_rfl) (by kernel_rfl) (fun _ _ _ h => h) hSS hS rfl (fun W' hSw => ?_) ?_
          rotate_left
          · go_simp; first | done | with_reducible rfl
          try simp only [Act.put, List.setIfInBounds_toArray, List.set_cons_zero, List.set_cons_succ]
          refine lin_val (i := 3) (v := ?_) rfl (by kernel_rfl) (by kernel_rfl) (by kernel_rfl) (fun _ _ _ h => h) hSS hS rfl (fun W' hSw => ?_) ?_
          rotate_left
          · have s0 := hSw.cell s0 (by simp); go_simp; first | done | with_reducible rfl
          try simp only [Act.put, List.setIfInBounds_toArray, List.set_cons_zero, List.set_cons_succ]
          refine lin_val (i := 4) (v := ?_) rfl (by kernel_rfl) (by kernel_rfl) (by kernel_rfl) (fun _ _ _ h => h) hSS hS rfl (fun W' hSw => ?_) ?_
          rotate_left
          · go_simp; first | done | with_reducible rfl
          try simp only [Act.put, List.setIfInBounds_toArray, List.set_cons_zero, List.set_cons_succ]
          refine lin_val (i := 5) (v := ?_) rfl (by kernel_rfl) (by kernel_rfl) (by kernel_rfl) (fun _ _ _ h => h) hSS hS rfl (fun W' hSw => ?_) ?_
          rotate_left
          · go_simp; first | done | with_reducible rfl
          try simp only [Act.put, List.setIfInBounds_toArray, List.set_cons_zero, List.set_cons_succ]
          refine lin_val (i := 6) (v := ?_) rfl (by kernel_rfl) (by kernel_rfl) (by kernel_rfl) (fun _ _ _ h => h) hSS hS rfl (fun W' hSw => ?_) ?_
          rotate_left
          · have a7 := hSw.cell a7 (by simp); go_simp; first | done | with_reducible rfl
          try simp only [Act.put, List.setIfInBounds_toArray, List.set_cons_zero, List.set_cons_succ]
          refine lin_val (i := 7) (v := ?_) rfl (by kernel_rfl) (by kernel_rfl) (by kernel_rfl) (fun _ _ _ h => h) hSS hS rfl (fun W' hSw => ?_) ?_
          rotate_left
          · go_simp; first | done | with_reducible rfl
          try simp only [Act.put, List.setIfInBounds_toArray, List.set_cons_zero, List.set_cons_succ]
          refine lin_val (i := 8) (v := ?_) rfl (by kernel_rfl) (by kernel_rfl) (by kernel_rfl) (fun _ _ _ h => h) hSS hS rfl (fun W' hSw => ?_) ?_
          rotate_left
          · have s0 := hSw.cell s0 (by simp); go_simp; first | done | with_reducible rfl
          try simp only [Act.put, List.setIfInBounds_toArray, List.set_cons_zero, List.set_cons_succ]
          refine lin_val (i := 9) (v := ?_) rfl (by kernel_rfl) (by kernel_rfl) (by kernel_rfl) (fun _ _ _ h => h) hSS hS rfl (fun W' hSw => ?_) ?_
          rotate_left
          · go_simp; first | done | with_reducible rfl
          try simp only [Act.put, List.setIfInBounds_toArray, List.set_cons_zero, List.set_cons_succ]
          refine lin_val (i := 10) (v := ?_) rfl (by kernel_rfl) (by kernel_rfl) (by kernel_rfl) (fun _ _ _ h => h) hSS hS rfl (fun W' hSw => ?_) ?_
          rotate_left
          · go_simp; first | done | with_reducible rfl
          try simp only [Act.put, List.setIfInBounds_toArray, List.set_cons_zero, List.set_cons_succ]
          refine lin_val (i := 11) (v := ?_) rfl (by kernel_rfl) (by kernel_rfl) (by kernel_rfl) (fun _ _ _ h => h) hSS hS rfl (fun W' hSw => ?_) ?_
          rotate_left
          · have p1 := hSw.cell p1 (by simp); go_simp; first | done | with_reducible rfl
          try simp only [Act.put, List.setIfInBounds_toArray, List.set_cons_zero, List.set_cons_succ]
          refine lin_val (i := 12) (v := ?_) rfl (by kernel_rfl) (by kernel_rfl) (by kernel_rfl) (fun _ _ _ h => h) hSS hS rfl (fun W' hSw => ?_) ?_
          rotate_left
          · go_simp; first | done | with_reducible rfl
          try simp only [Act.put, List.setIfInBounds_toArray, List.set_cons_zero, List.set_cons_succ]
          refine lin_val (i := 13) (v := ?_) rfl (by kernel_rfl) (by kernel_rfl) (by kernel_rfl) (fun _ _ _ h => h) hSS hS rfl (fun W' hSw => ?_) ?_
          rotate_left
          · go_simp; first | done | with_reducible rfl
          try simp only [Act.put, List.setIfInBounds_toArray, List.set_cons_zero, List.set_cons_succ]
          refine lin_last (i := 14) (by kernel_rfl) rfl (by kernel_rfl) (fun wb kb K hK => ?_)
          have hkb : Kp [] w9 wb := (Kp.refl _ _).drew.nil kb
          have hgc := HBL.out.keep hkb (by simp)
          have hgl : 9 * i + 8 < cs.length := HCL9.out
          have f0 := hgc.free (9 * i)
          have f1 := hgc.free (9 * i + 1)
          have f2 := hgc.free (9 * i + 2)
          have f3 := hgc.free (9 * i + 3)
          have f4 := hgc.free (9 * i + 4)
          have f5 := hgc.free (9 * i + 5)
          have f6 := hgc.free (9 * i + 6)
          have f7 := hgc.free (9 * i + 7)
          have f8 := hgc.free (9 * i + 8)
          obtain ⟨v0, o0⟩ : ∃ u, wb.cell? ⟨g, 9 * i, none⟩ = some u := ⟨_, (hgc.cell (9 * i)).trans (List.getElem?_eq_getElem (by omega))⟩
          obtain ⟨v1, o1⟩ : ∃ u, wb.cell? ⟨g, 9 * i + 1, none⟩ = some u := ⟨_, (hgc.cell (9 * i + 1)).trans (List.getElem?_eq_getElem (by omega))⟩
          obtain ⟨v2, o2⟩ : ∃ u, wb.cell? ⟨g, 9 * i + 2, none⟩ = some u := ⟨_, (hgc.cell (9 * i + 2)).trans (List.getElem?_eq_getElem (by omega))⟩
          obtain ⟨v3, o3⟩ : ∃ u, wb.cell? ⟨g, 9 * i + 3, none⟩ = some u := ⟨_, (hgc.cell (9 * i + 3)).trans (List.getElem?_eq_getElem (by omega))⟩
          obtain ⟨v4, o4⟩ : ∃ u, wb.cell? ⟨g, 9 * i + 4, none⟩ = some u := ⟨_, (hgc.cell (9 * i + 4)).trans (List.getElem?_eq_getElem (by omega))⟩
          obtain ⟨v5, o5⟩ : ∃ u, wb.cell? ⟨g, 9 * i + 5, none⟩ = some u := ⟨_, (hgc.cell (9 * i + 5)).trans (List.getElem?_eq_getElem (by omega))⟩
          obtain ⟨v6, o6⟩ : ∃ u, wb.cell? ⟨g, 9 * i + 6, none⟩ = some u := ⟨_, (hgc.cell (9 * i + 6)).trans (List.getElem?_eq_getElem (by omega))⟩
          obtain ⟨v7, o7⟩ : ∃ u, wb.cell? ⟨g, 9 * i + 7, none⟩ = some u := ⟨_, (hgc.cell (9 * i + 7)).trans (List.getElem?_eq_getElem (by omega))⟩
          obtain ⟨v8, o8⟩ : ∃ u, wb.cell? ⟨g, 9 * i + 8, none⟩ = some u := ⟨_, (hgc.cell (9 * i + 8)).trans (List.getElem?_eq_getElem (by omega))⟩
          clear hgc hgl
          go_simp
          refine hK.out _ _ ?_
          clear hK K f0 f1 f2 f3 f4 f5 f6 f7 f8 o0 o1 o2 o3 o4 o5 o6 o7 o8
          have HKB := hid hkb
          clear kb hkb hS hSS
          obtain ⟨w10, hw10⟩ : ∃ w10, w10 = nineAt wb g (9 * i) (.int .i64 5) (.int .u64 (mk : Int)) (.bool false) (.string ⟨#[]⟩) (.int .i64 0) (.string ⟨y.toArray⟩) (.slice none 0 0) (.slice none 0 0) (.int .i64 0) := ⟨_, rfl⟩
          have hw10' := hw10
          unfold nineAt at hw10'
          rw [← hw10']
          clear hw10'
          obtain ⟨hca, hk29, hca9, hcX9, hcW9⟩ := H9.out
          have hkb := HKB.out
          obtain ⟨⟨ne1, ne2, ne3⟩, hgo, hgg, hcl9, hkk⟩ := HNE.out
          have hk9x : Kp [g] w9 w10 := by rw [hw10]; exact kp_nineAt (hkb.mono (by simp)) g (9 * i) (.inr (by simp)) _ _ _ _ _ _ _ _ _
          have hk210 : Kp [] w2 w10 := hk29.fresh hk9x hgo
          have hkw10 : Kp [] w w10 := hca.fresh hk9x (Nat.le_trans HWS.out hgo)
          have hcaE := hca9.keep hk9x (by simpa using ne2)
          have hcXE := hcX9.keep hk9x (by simpa using ne3)
          have hcWE := hcW9.keep hk9x (by simpa using ne1)
          obtain ⟨hv, hrv, eV, hmk, hy2⟩ := HV.out
          obtain ⟨hkd9, hkr9, hky9⟩ := HKID.out
          obtain ⟨hB1, hr1, hfa, hza⟩ := HA0.out
          obtain ⟨hva, hnk, hnb⟩ := HVA.out
          have hfv := fine_kid hfa v (at_mem hv)
          have hmkl : mk < 18446744073709551616 := by rw [hmk]; exact mask_fine hfv
          have h9 : ∀ j, j < kids.length → (ks' j).length = 9 := fun j hj => by obtain ⟨v', hv'⟩ := at_some hj; exact (hkr9 j v' hv').rep.len
          have hkid10 := kids_put (hkd9.kept hkb) (HBL.out.keep hkb (by simp)) (i := i) (by omega) h9 hcl9 (Value.int .i64 5) (Value.int .u64 (mk : Int)) (Value.bool false) (Value.string ⟨#[]⟩) (Value.int .i64 0) (Value.string ⟨y.toArray⟩) (Value.slice none 0 0) (Value.slice none 0 0) (Value.int .i64 0)
          rw [← hw10] at hkid10
          obtain ⟨u, hu⟩ : ∃ u : Vl, u = .mk 5 mk none y [] [] 0 := ⟨_, rfl⟩
          have hfu : FineV u := by rw [hu]; exact text_fine hmkl hy2
          have hrU : Rep w10 u [.int .i64 5, .int .u64 (mk : Int), .bool false, .string ⟨#[]⟩, .int .i64 0, .string ⟨y.toArray⟩, .slice none 0 0, .slice none 0 0, .int .i64 0] := by
            rw [hu]
            exact Rep.mk (w := w10) 5 mk none y [] [] 0 none 0 none 0 (fun _ => []) ⟨Nat.le_refl _, by decide, fun i x h => by cases h⟩ ⟨Nat.le_refl _, by decide, fun i h => absurd h (Nat.not_lt_zero _)⟩ (fun i v h => by cases h)
          have hkey10 : KeysAt w10 A2 c2 keys := ⟨hky9.le, hky9.top, fun j z hz => by
            obtain ⟨ga, ea, hat⟩ := (hky9.kept hkb).at_ j z hz
            have := hkk _ ea
            refine ⟨ga, ea, ?_⟩
            rw [hw10]
            exact (kp_nineAt (Kp.refl [g] wb) g (9 * i) (.inr (by simp)) _ _ _ _ _ _ _ _ _).cell hat (by simpa using this)⟩
          have hrB : Rep w10 (.mk k m num t keys (kids.set i u) code) [.int .i64 (k : Int), .int .u64 (m : Int), .bool (vN num), .string ⟨(vD num).toArray⟩, .int .i64 (vS num), .string ⟨t.toArray⟩, .slice A2 nk c2, .slice (some ⟨g, 0, none⟩) nb cg, .int .i64 (code : Int)] := by
            have h := Rep.mk (w := w10) k m num t keys (kids.set i u) code A2 c2 (some ⟨g, 0, none⟩) cg (fun j => if j = i then [.int .i64 5, .int .u64 (mk : Int), .bool false, .string ⟨#[]⟩, .int .i64 0, .string ⟨y.toArray⟩, .slice none 0 0, .slice none 0 0, .int .i64 0] else ks' j) hkey10 (by rw [List.length_set]; exact hkid10) (fun j v' hv' => by
              rw [List.getElem?_set] at hv'
              by_cases hij : i = j
              · subst hij
                rw [if_pos rfl, if_pos (by omega)] at hv'
                injection hv' with hv'
                rw [if_pos rfl, ← hv']
                exact hrU
              · rw [if_neg hij] at hv'
                rw [if_neg (fun e => hij e.symm)]
                exact ((hkr9 j v' hv').keep hk9x (fun x hx hp => hp.2 (List.mem_singleton.1 hx))).rep)
            unfold vC at h
            rw [List.length_set, ← hnk, ← hnb] at h
            exact h
          obtain ⟨vb, hvb⟩ : ∃ v : Vl, v = .mk k m num t keys (kids.set i u) code := ⟨_, rfl⟩
          rw [← hvb] at hrB
          have hfB : FineV vb := by rw [hvb]; exact swap_fine hfa hfu
          have hzB : sizeV vb ≤ 1000000 := by
            have h1 := sizes_set kids i u
            have h2 : sizeV u = 1 := by rw [hu]; simp [sizeV, sizes]
            have h3 : sizeV vb = 1 + sizes (kids.set i u) := by rw [hvb]; unfold sizeV; rfl
            have h4 : sizeV (.mk k m num t keys kids code) = 1 + sizes kids := by unfold sizeV; rfl
            omega
          have hzA : sizeV va ≤ 1000000 := by have := HA.out.2.2; omega
          have hal : hidB (maskV v) cl = true → alikeL cl va vb = true := by
            intro h
            rw [hva, hvb]
            exact swap_hid hv h (by rw [hu]; show hidB mk cl = true; rw [hmk]; exact h)
          have hsn : hidB (maskV v) cl = false → showL cl [35] va = showL cl [35] vb → vb = va := by
            intro h he
            rw [hva, hvb, hu, hmk] at he
            have := swap_seen (x := y) HHD.out.symm hv h hfa hy2 he
            rw [hvb, hva, hu, hmk, this]
          have HPL := hid (And.intro hal hsn)
          have HRB := hid (And.intro hrB (And.intro hfB (And.intro hzB hzA)))
          have hbK := hB1.kept hk210
          obtain ⟨_, eB, pB⟩ := hbK.at_ i (by omega)
          injection eB with eB
          injection eB with eB
          subst eB
          rw [eV] at pB hrv
          have p0 := pB 0 _ rfl; have p1 := pB 1 _ rfl; have p2 := pB 2 _ rfl; have p3 := pB 3 _ rfl; have p4 := pB 4 _ rfl; have p5 := pB 5 _ rfl; have p6 := pB 6 _ rfl; have p7 := pB 7 _ rfl; have p8 := pB 8 _ rfl
          simp only [Nat.add_zero] at p0
          obtain ⟨S1, hS1⟩ : ∃ S, S = showL cl [35] va := ⟨_, rfl⟩
          obtain ⟨S2, hS2⟩ : ∃ S, S = showL cl [35] vb := ⟨_, rfl⟩
          have qa := view_any HA.out.1 HA.out.2.1 hzA w10 hk210 cl HCL.out
          have qb := fun W (h : Kp [] w10 W) => view_any hrB hfB hzB W h cl HCL.out
          have qk := fun W => hidden_mask hrv hfv W cl HCL.out
          obtain ⟨b, hb⟩ : ∃ b, b = hidB (maskV v) cl := ⟨_, rfl⟩
          simp only [← hb] at qk
          have HHB := hid hb
          rw [← hS1] at qa
          simp only [← hS2] at qb
          have HSS := hid (And.intro hS1 hS2)
          have HP := hid (And.intro p0 (And.intro p1 (And.intro p2 (And.intro p3 (And.intro p4 (And.intro p5 (And.intro p6 (And.intro p7 p8))))))))
          have H10 := hid (And.intro hkw10 (And.intro hk210 (And.intro hcaE (And.intro hcXE hcWE))))
          have a0 := hcaE.cell 0; have a1 := hcaE.cell 1; have a2 := hcaE.cell 2; have a3 := hcaE.cell 3; have a4 := hcaE.cell 4; have a5 := hcaE.cell 5; have a6 := hcaE.cell 6; have a7 := hcaE.cell 7; have a8 := hcaE.cell 8
          clear s0 d7 hca hk29 hca9 hcX9 hcW9 hkb ne1 ne2 ne3 hgo hgg hcl9 hkk hk9x hk210 hkw10 hcaE hcXE hcWE hv hrv eV hmk hy2 hkd9 hkr9 hky9 hB1 hr1 hfa hza hva hnk hnb hfv hmkl h9 hkid10 hu hfu hrU hkey10 hrB hvb hfB hzB hzA hal hsn hbK pB hS1 hS2 hw10 hb p0 p1 p2 p3 p4 p5 p6 p7 p8
          go_wp2_with fail
          (with_reducible refine qa.mono ?_)
          rintro e w11 ⟨rfl, k11⟩
          have qb1 := qb w11 k11
          have hcWE := H10.out.2.2.2.2.keep k11 (by simp)
          clear a0 a1 a2 a3 a4 a5 a6 a7 a8
          have d0 := hcWE.cell 0; have d1 := hcWE.cell 1; have d2 := hcWE.cell 2; have d3 := hcWE.cell 3; have d4 := hcWE.cell 4; have d5 := hcWE.cell 5; have d6 := hcWE.cell 6; have d7 := hcWE.cell 7; have d8 := hcWE.cell 8
          have HK11 := hid k11
          clear k11 qa qb hcWE
          go_wp2_with fail
          (with_reducible refine qb1.mono ?_)
          rintro e w12 ⟨rfl, k12⟩
          have hk12 := HK11.out.nil k12
          have hcaE := H10.out.2.2.1.keep hk12 (by simp)
          have hcXE := H10.out.2.2.2.1.keep hk12 (by simp)
          obtain ⟨p0, p1, p2, p3, p4, p5, p6, p7, p8⟩ := HP.out
          replace p0 := hk12.cell p0 (by simp); replace p1 := hk12.cell p1 (by simp); replace p2 := hk12.cell p2 (by simp); replace p3 := hk12.cell p3 (by simp); replace p4 := hk12.cell p4 (by simp); replace p5 := hk12.cell p5 (by simp); replace p6 := hk12.cell p6 (by simp); replace p7 := hk12.cell p7 (by simp); replace p8 := hk12.cell p8 (by simp)
          have a7 := hcaE.cell 7
          have s0 := hcXE.cell 0
          simp only [List.getElem?_cons_zero, List.getElem?_cons_succ] at a7 s0
          have HK12 := hid hk12
          clear d0 d1 d2 d3 d4 d5 d6 d7 d8 k12 hk12 hcaE hcXE qb1
          go_wp2_with fail
          (with_reducible refine (qk _).mono ?_)
          rintro e wh ⟨rfl, kh⟩
          have hb := HHB.out
          clear HHB
          have hkh := HK12.out.nil kh
          have hkwh := H10.out.1.nil hkh
          have hcaE := H10.out.2.2.1.keep hkh (by simp)
          have hcWE := H10.out.2.2.2.2.keep hkh (by simp)
          have hrA := HA.out.1.kept (H10.out.2.1.nil hkh)
          have hrB := HRB.out.1.kept hkh
          have H8 := hid (And.intro hkwh (And.intro hcaE hcWE))
          clear p0 p1 p2 p3 p4 p5 p6 p7 p8 a7 s0 qk
          have a0 := hcaE.cell 0; have a1 := hcaE.cell 1; have a2 := hcaE.cell 2; have a3 := hcaE.cell 3; have a4 := hcaE.cell 4; have a5 := hcaE.cell 5; have a6 := hcaE.cell 6; have a7 := hcaE.cell 7; have a8 := hcaE.cell 8
          have d0 := hcWE.cell 0; have d1 := hcWE.cell 1; have d2 := hcWE.cell 2; have d3 := hcWE.cell 3; have d4 := hcWE.cell 4; have d5 := hcWE.cell 5; have d6 := hcWE.cell 6; have d7 := hcWE.cell 7; have d8 := hcWE.cell 8
          clear kh hkh hkwh hcaE hcWE
          cases b with
          | true =>
            have hal := HPL.out.1 hb.symm
            have eS : S2 = S1 := by rw [HSS.out.1, HSS.out.2]; exact (alike_show cl [35] va vb hal).symm
            subst eS
            have eL := alike_holes cl va vb hal []
            obtain ⟨L, hL⟩ : ∃ L, L = holesL cl [] va := ⟨_, rfl⟩
            rw [← hL] at eL
            have qh1 := fun W (h : Kp [] wh W) => holes_any hrA HA.out.2.1 HRB.out.2.2.2 W h cl HCL.out
            have qh2 := fun W (h : Kp [] wh W) => holes_any hrB HRB.out.2.1 HRB.out.2.2.1 W h cl HCL.out
            have qal := fun W (h : Kp [] wh W) => alike_any (hrA.kept h) (hrB.kept h) HA.out.2.1 HRB.out.2.1 cl HCL.out
            simp only [← hL] at qh1
            simp only [← eL] at qh2
            rw [hal] at qal
            clear hrA hrB hb hal eL hL
            go_upto_region 15 with fail
            refine lin_start (fun W' => Kp [] wh W') (Stays.kp _ _) (by kernel_rfl) (Kp.refl _ _).drew (fun hSS hS => ?_)
            refine lin_val (i := 0) (v := ?_) rfl (by kernel_rfl) (by kernel_rfl) (by kernel_rfl) (fun _ _ _ h => h) hSS hS rfl (fun W' hSw => ?_) ?_
            rotate_left
            · go_simp; first | done | with_reducible rfl
            try simp only [Act.put, List.setIfInBounds_toArray, List.set_cons_zero, List.set_cons_succ]
            refine lin_val (i := 1) (v := ?_) rfl (by kernel_rfl) (by kernel_rfl) (by kernel_rfl) (fun _ _ _ h => h) hSS hS rfl (fun W' hSw => ?_) ?_
            rotate_left
            · go_simp; first | done | with_reducible rfl
            try simp only [Act.put, List.setIfInBounds_toArray, List.set_cons_zero, List.set_cons_succ]
            refine lin_val (i := 2) (v := ?_) rfl (by kernel_rfl) (by kernel_rfl) (by kernel_rfl) (fun _ _ _ h => h) hSS hS rfl (fun W' hSw => ?_) ?_
            rotate_left
            · go_simp; first | done | with_reducible rfl
            try simp only [Act.put, List.setIfInBounds_toArray, List.set_cons_zero, List.set_cons_succ]
            refine lin_val (i := 3) (v := ?_) rfl (by kernel_rfl) (by kernel_rfl) (by kernel_rfl) (fun _ _ _ h => h) hSS hS rfl (fun W' hSw => ?_) ?_
            rotate_left
            · go_simp; first | done | with_reducible rfl
            try simp only [Act.put, List.setIfInBounds_toArray, List.set_cons_zero, List.set_cons_succ]
            refine lin_val (i := 4) (v := ?_) rfl (by kernel_rfl) (by kernel_rfl) (by kernel_rfl) (fun _ _ _ h => h) hSS hS rfl (fun W' hSw => ?_) ?_
            rotate_left
            · go_simp; first | done | with_reducible rfl
            try simp only [Act.put, List.setIfInBounds_toArray, List.set_cons_zero, List.set_cons_succ]
            refine lin_val (i := 5) (v := ?_) rfl (by kernel_rfl) (by kernel_rfl) (by kernel_rfl) (fun _ _ _ h => h) hSS hS rfl (fun W' hSw => ?_) ?_
            rotate_left
            · go_simp; first | done | with_reducible rfl
            try simp only [Act.put, List.setIfInBounds_toArray, List.set_cons_zero, List.set_cons_succ]
            refine lin_val (i := 6) (v := ?_) rfl (by kernel_rfl) (by kernel_rfl) (by kernel_rfl) (fun _ _ _ h => h) hSS hS rfl (fun W' hSw => ?_) ?_
            rotate_left
            · go_simp; first | done | with_reducible rfl
            try simp only [Act.put, List.setIfInBounds_toArray, List.set_cons_zero, List.set_cons_succ]
            refine lin_val (i := 7) (v := ?_) rfl (by kernel_rfl) (by kernel_rfl) (by kernel_rfl) (fun _ _ _ h => h) hSS hS rfl (fun W' hSw => ?_) ?_
            rotate_left
            · have a0 := hSw.cell a0 (by simp); have a1 := hSw.cell a1 (by simp); have a2 := hSw.cell a2 (by simp); have a3 := hSw.cell a3 (by simp); have a4 := hSw.cell a4 (by simp); have a5 := hSw.cell a5 (by simp); have a6 := hSw.cell a6 (by simp); have a7 := hSw.cell a7 (by simp); have a8 := hSw.cell a8 (by simp); go_simp; first | done | with_reducible rfl
            try simp only [Act.put, List.setIfInBounds_toArray, List.set_cons_zero, List.set_cons_succ]
            refine lin_val (i := 8) (v := ?_) rfl (by kernel_rfl) (by kernel_rfl) (by kernel_rfl) (fun _ _ _ h => h) hSS hS rfl (fun W' hSw => ?_) ?_
            rotate_left
            · go_simp; first | done | with_reducible rfl
            try simp only [Act.put, List.setIfInBounds_toArray, List.set_cons_zero, List.set_cons_succ]
            refine lin_val (i := 10) (v := ?_) rfl (by kernel_rfl) (by kernel_rfl) (by kernel_rfl) (fun _ _ _ h => h) hSS hS rfl (fun W' hSw => ?_) ?_
            rotate_left
            · have d0 := hSw.cell d0 (by simp); have d1 := hSw.cell d1 (by simp); have d2 := hSw.cell d2 (by simp); have d3 := hSw.cell d3 (by simp); have d4 := hSw.cell d4 (by simp); have d5 := hSw.cell d5 (by simp); have d6 := hSw.cell d6 (by simp); have d7 := hSw.cell d7 (by simp); have d8 := hSw.cell d8 (by simp); go_simp; first | done | with_reducible rfl
            try simp only [Act.put, List.setIfInBounds_toArray, List.set_cons_zero, List.set_cons_succ]
            refine lin_val (i := 11) (v := ?_) rfl (by kernel_rfl) (by kernel_rfl) (by kernel_rfl) (fun _ _ _ h => h) hSS hS rfl (fun W' hSw => ?_) ?_
            rotate_left
            · go_simp; first | done | with_reducible rfl
            try simp only [Act.put, List.setIfInBounds_toArray, List.set_cons_zero, List.set_cons_succ]
            refine lin_list (i := 9) (by kernel_rfl) rfl (fun wj kj Q2 hQ => ?_)
            have hkj : Kp [] wh wj := (Kp.refl _ _).drew.nil kj
            have qa := qh1 wj hkj
            have HKJ := hid hkj
            clear hkj kj qh1
            go_wp2_with fail
            (with_reducible refine qa.mono ?_)
            rintro e wl ⟨vp1, rfl, hp1, kl⟩
            have HB := hid (And.intro hp1 (HKJ.out.nil kl))
            clear hp1 kl qa
            go_wp2_with fail
            refine hQ.out _ _ HB.out.2 (fun hSb => ?_)
            clear hQ hS
            try simp only [Act.put, List.setIfInBounds_toArray, List.set_cons_zero, List.set_cons_succ]
            refine lin_list (i := 12) (by kernel_rfl) rfl (fun wc kc Q2 hQ => ?_)
            have qa := qh2 wc (HB.out.2.nil kc)
            have HKC := hid kc
            clear kc qh2
            go_wp2_with fail
            (with_reducible refine qa.mono ?_)
            rintro e wd ⟨vp2, rfl, hp2, kd⟩
            have HD := hid (And.intro hp2 (And.intro (HB.out.1.kept (HKC.out.nil kd)) (HB.out.2.nil (HKC.out.nil kd))))
            clear hp2 kd qa
            go_wp2_with fail
            refine hQ.out _ _ HD.out.2.2 (fun hSd => ?_)
            clear hQ hSb
            try simp only [Act.put, List.setIfInBounds_toArray, List.set_cons_zero, List.set_cons_succ]
            refine lin_list (i := 13) (by kernel_rfl) rfl (fun we ke Q2 hQ => ?_)
            have qa := places_same (HD.out.2.1.kept ke) (HD.out.1.kept ke)
            rw [decide_eq_true (show L = L from rfl)] at qa
            have HKE := hid (HD.out.2.2.nil ke)
            clear ke
            go_wp2_with fail
            (with_reducible refine qa.mono ?_)
            rintro e wf ⟨rfl, kf⟩
            have HF := hid (HKE.out.nil kf)
            clear kf qa
            go_wp2_with fail
            refine hQ.out _ _ HF.out (fun hSf => ?_)
            clear hQ hSd
            try simp only [Act.put, List.setIfInBounds_toArray, List.set_cons_zero, List.set_cons_succ]
            refine lin_val (i := 14) (v := ?_) rfl (by kernel_rfl) (by kernel_rfl) (by kernel_rfl) (fun _ _ _ h => h) hSS hSf rfl (fun W' hSw => ?_) ?_
            rotate_left
            · go_simp; first | done | with_reducible rfl
            try simp only [Act.put, List.setIfInBounds_toArray, List.set_cons_zero, List.set_cons_succ]
            refine lin_val (i := 15) (v := ?_) rfl (by kernel_rfl) (by kernel_rfl) (by kernel_rfl) (fun _ _ _ h => h) hSS hSf rfl (fun W' hSw => ?_) ?_
            rotate_left
            · go_simp; first | done | with_reducible rfl
            try simp only [Act.put, List.setIfInBounds_toArray, List.set_cons_zero, List.set_cons_succ]
            refine lin_val (i := 16) (v := ?_) rfl (by kernel_rfl) (by kernel_rfl) (by kernel_rfl) (fun _ _ _ h => h) hSS hSf rfl (fun W' hSw => ?_) ?_
            rotate_left
            · have a0 := hSw.cell a0 (by simp); have a1 := hSw.cell a1 (by simp); have a2 := hSw.cell a2 (by simp); have a3 := hSw.cell a3 (by simp); have a4 := hSw.cell a4 (by simp); have a5 := hSw.cell a5 (by simp); have a6 := hSw.cell a6 (by simp); have a7 := hSw.cell a7 (by simp); have a8 := hSw.cell a8 (by simp); go_simp; first | done | with_reducible rfl
            try simp only [Act.put, List.setIfInBounds_toArray, List.set_cons_zero, List.set_cons_succ]
            refine lin_val (i := 17) (v := ?_) rfl (by kernel_rfl) (by kernel_rfl) (by kernel_rfl) (fun _ _ _ h => h) hSS hSf rfl (fun W' hSw => ?_) ?_
            rotate_left
            · have d0 := hSw.cell d0 (by simp); have d1 := hSw.cell d1 (by simp); have d2 := hSw.cell d2 (by simp); have d3 := hSw.cell d3 (by simp); have d4 := hSw.cell d4 (by simp); have d5 := hSw.cell d5 (by simp); have d6 := hSw.cell d6 (by simp); have d7 := hSw.cell d7 (by simp); have d8 := hSw.cell d8 (by simp); go_simp; first | done | with_reducible rfl
            try simp only [Act.put, List.setIfInBounds_toArray, List.set_cons_zero, List.set_cons_succ]
            refine lin_val (i := 18) (v := ?_) rfl (by kernel_rfl) (by kernel_rfl) (by kernel_rfl) (fun _ _ _ h => h) hSS hSf rfl (fun W' hSw => ?_) ?_
            rotate_left
            · go_simp; first | done | with_reducible rfl
            try simp only [Act.put, List.setIfInBounds_toArray, List.set_cons_zero, List.set_cons_succ]
            refine lin_call (i := 19) rfl (by kernel_rfl) (by kernel_rfl) (by kernel_rfl) (fun _ _ _ h => h) hSS hSf rfl (fun W' hSw => qal W' hSw) (fun W' hSw => ?_) ?_
            · go_simp
            try simp only [Act.put, List.setIfInBounds_toArray, List.set_cons_zero, List.set_cons_succ]
            refine lin_val (i := 20) (v := ?_) rfl (by kernel_rfl) (by kernel_rfl) (by kernel_rfl) (fun _ _ _ h => h) hSS hSf rfl (fun W' hSw => ?_) ?_
            rotate_left
            · go_simp; first | done | with_reducible rfl
            try simp only [Act.put, List.setIfInBounds_toArray, List.set_cons_zero, List.set_cons_succ]
            refine lin_val (i := 21) (v := ?_) rfl (by kernel_rfl) (by kernel_rfl) (by kernel_rfl) (fun _ _ _ h => h) hSS hSf rfl (fun W' hSw => ?_) ?_
            rotate_left
            · go_simp; first | done | with_reducible rfl
            try simp only [Act.put, List.setIfInBounds_toArray, List.set_cons_zero, List.set_cons_succ]
            refine lin_done (by kernel_rfl) (fun wE kE => ?_) _
            have HE := hid (H8.out.1.nil (HF.out.nil kE))
            clear kE hSf hSS
            go_wp2_with fail
            go_ret
            exact ⟨rfl, HE.out⟩
          | false =>
            have qs := (same_rep hrA) vb _ hrB wh (Kp.refl _ _)
            obtain ⟨bs, hbs⟩ : ∃ b, b = sameV va vb := ⟨_, rfl⟩
            rw [← hbs] at qs
            have HBS := hid (And.intro hbs hb)
            clear hbs hb
            go_wp2_with fail
            (with_reducible refine qs.mono ?_)
            rintro e wo ⟨rfl, ko⟩
            have hrA := hrA.kept ko
            have hrB := hrB.kept ko
            have qal := fun W (h : Kp [] wo W) => alike_any (hrA.kept h) (hrB.kept h) HA.out.2.1 HRB.out.2.1 cl HCL.out
            have hcaE := H8.out.2.1.keep ko (by simp)
            have hcWE := H8.out.2.2.keep ko (by simp)
            have H9 := hid (H8.out.1.nil ko)
            clear a0 a1 a2 a3 a4 a5 a6 a7 a8 d0 d1 d2 d3 d4 d5 d6 d7 d8
            have a0 := hcaE.cell 0; have a1 := hcaE.cell 1; have a2 := hcaE.cell 2; have a3 := hcaE.cell 3; have a4 := hcaE.cell 4; have a5 := hcaE.cell 5; have a6 := hcaE.cell 6; have a7 := hcaE.cell 7; have a8 := hcaE.cell 8
            have d0 := hcWE.cell 0; have d1 := hcWE.cell 1; have d2 := hcWE.cell 2; have d3 := hcWE.cell 3; have d4 := hcWE.cell 4; have d5 := hcWE.cell 5; have d6 := hcWE.cell 6; have d7 := hcWE.cell 7; have d8 := hcWE.cell 8
            clear hrA hrB ko hcaE hcWE qs
            cases bs with
            | true =>
              clear qal
              go_wp2_with fail
              go_ret
              exact ⟨rfl, H9.out⟩
            | false =>
              have hne : S1 ≠ S2 := by
                rw [HSS.out.1, HSS.out.2]
                intro he
                have h1 := HPL.out.2 HBS.out.2.symm he
                have h2 := HBS.out.1
                rw [h1, same_refl] at h2
                cases h2
              have z8 : (S1 != S2) = true := bne_iff_ne.2 hne
              have z9 : (S1 == S2) = false := beq_eq_false_iff_ne.2 hne
              have hal : alikeL cl va vb = false := by
                cases h : alikeL cl va vb
                · rfl
                · exact absurd (by rw [HSS.out.1, HSS.out.2]; exact alike_show cl [35] va vb h) hne
              rw [hal] at qal
              clear hne hal
              go_wp2_with fail
              (with_reducible refine (qal _ (Kp.refl _ _)).mono ?_)
              rintro e wp ⟨rfl, kp⟩
              have HE := hid (H9.out.nil kp)
              clear kp qal a0 a1 a2 a3 a4 a5 a6 a7 a8 d0 d1 d2 d3 d4 d5 d6 d7 d8
              go_wp2_with fail
              go_ret
              exact ⟨rfl, HE.out⟩
      · have z1 : decide (nb ≤ i) = true := decide_eq_true (by omega)
        have z1n : decide ((nb : Int) ≤ (i : Int)) = true := decide_eq_true (by omega)
        go_wp2_with fail
        go_ret
        exact ⟨rfl, H3.out.1⟩
theorem swaplaw (W : World) (_ : Tabs W) (A : Option Addr) (n c : Nat) (l : List Itm) (x : ItemsAt W A c l) (y : l.length = n) (a : Int) (ha : 0 ≤ a ∧ a ≤ 18446744073709551615) (z : Int) (s : ByteArray) (hs : s.size ≤ maxLen) :
    Calls Tryd.prog 9 #[.slice A n c, .int .u64 a, .agg #[.int .i64 z, .string s]] W fun e w' => e = .returned (.bool true) ∧ Kp [] W w' := by
  subst y
  obtain ⟨a, rfl, ha'⟩ := u64_nat ha
  have e : s = ⟨s.data.toList.toArray⟩ := by cases s; simp
  have hl : s.data.toList.length ≤ 9223372036854775807 := by rw [Array.length_toList]; simpa [maxLen] using hs
  rw [e]
  exact swaplaw_any W A c l x a ha' z s.data.toList hl
end Go.Proofs.YtpeldjihalldkaaDoor
