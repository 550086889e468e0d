/- compiled: a pattern's machine. -/
import Derived.Test.YtaaikjedagnjbaaRE
import Derived.Test.YtaaikjedagnjbaaGCps
namespace Go.Proofs.Ytaaikjedagnjbaa
open Go Go.RowKit Go.Lib

/-- What a pattern means; none: it is no pattern. -/
def reR (s : ByteArray) : Option Re := if 100 < s.size then none else parseR (cpsL s.data.toList)
/-- What May says. -/
def codeR (s : ByteArray) : Nat := if 100 < s.size then 3 else if (reR s).isNone then 32 else 0
/-- A pattern's machine, or none. -/
structure Comp (w : World) (R0 : Nat → Prop) (s : ByteArray) (e : Ending) (w' : World) : Prop where
  kp : Kp [] w w'
  no : reR s = none → e = .returned (.tuple #[.pointer none, .agg #[.int .i64 0, .int .i64 0], .int .i64 (codeR s : Int)])
  yes : ∀ re, reR s = some re → ∃ (mb f l : Nat) (E : Nat → Prop) (M : List St), e = .returned (.tuple #[.pointer (some ⟨mb, 0, none⟩), .agg #[.int .i64 (f : Int), .int .i64 (l : Int)], .int .i64 0]) ∧ MachAt w' mb E R0 M ∧ Frag M 0 M.length f l re ∧ wt M ≤ 2000
theorem mach_nil {w : World} {mb : Nat} {R : Nat → Prop} (h : Cells w mb 67 [.slice none 0 0]) (hne : ¬ R mb) : MachAt w mb (fun x => x = mb) R [] :=
  ⟨⟨.slice none 0 0, [], h, OwnN.nil _ _ _, rfl, by (intro e; cases e), by (intro g e; cases e), by (intro i st c hst; cases hst), by (intro i j c c' g hi; cases hi)⟩, rfl, fun x hx => by rw [hx]; exact h.lt, fun x hx hr => hne (hx ▸ hr)⟩
set_option maxRecDepth 100000 in
set_option maxHeartbeats 6400000 in
theorem compiled_any (w : World) (R0 : Nat → Prop) (hR0 : ∀ x, R0 x → x < w.heap.size) (s : ByteArray) (hs : s.size ≤ 1000000) :
    Calls Try.prog 25 #[.string s] w fun e w' => Comp w R0 s e w' := by
  obtain ⟨gc, hgc⟩ : ∃ g, g = w.heap.size := ⟨_, rfl⟩
  obtain ⟨w0, hw0⟩ : ∃ w0, w0 = w.alloc (.cells #[.int .i64 0, .int .i64 0] 50) := ⟨_, rfl⟩
  have k0 : Kp [] w w0 := by rw [hw0]; exact (Kp.refl _ _).alloc _
  have c0 : Cells w0 gc 50 [.int .i64 0, .int .i64 0] := by rw [hw0, hgc]; exact Cells.fresh w 50 _
  by_cases hbig : 100 < s.size
  · have hre : reR s = none := if_pos hbig
    have hco : codeR s = 3 := if_pos hbig
    have b0 : decide ((100 : Int) < (s.size : Int)) = true := decide_eq_true (by omega)
    have b1 : decide (100 < s.size) = true := decide_eq_true hbig
    have b2 : (100 : Int) < (s.size : Int) := by omega
    have y0 := c0.cell 0
    have y1 := c0.cell 1
    have f0 := c0.free 0
    have f1 := c0.free 1
    simp only [List.getElem?_cons_zero, List.getElem?_cons_succ] at y0 y1
    obtain ⟨w6, hw6⟩ : ∃ w6, w6 = (w0.setCell ⟨gc, 0, none⟩ (.int .i64 0)).setCell ⟨gc, 1, none⟩ (.int .i64 0) := ⟨_, rfl⟩
    have k6 : Kp [gc] w0 w6 := by rw [hw6]; exact ((Kp.refl _ _).setCell (fun _ => by simp) _).setCell (fun _ => by simp) _
    have c6 : Cells w6 gc 50 [.int .i64 0, .int .i64 0] := by rw [hw6]; exact (c0.put 0 _).put 1 _
    have HE := hid (And.intro (k0.fresh k6 (by omega)) (And.intro c6 (And.intro hre hco)))
    have HW0 := hid hw0
    have HGC := hid hgc
    have HY := hid hw6
    clear k0 c0 hw0 hgc hbig hre hco hw6 k6 c6
    go_enter Try.func25, Try.ntmps25
    go_upto_region 1 with fail
    rw [← HW0.out]
    try rw [← HGC.out]
    clear HW0 HGC
    go_wp2_with fail
    rw [← HY.out]
    have z0 := HE.out.2.1.cell 0
    have z1 := HE.out.2.1.cell 1
    simp only [List.getElem?_cons_zero, List.getElem?_cons_succ] at z0 z1
    exact bodyPost_ret (v := .tuple #[.pointer none, .agg #[.int .i64 0, .int .i64 0], .int .i64 3]) (by simp [results, Try.results25, go_sem, z0, z1]) rfl ⟨HE.out.1, fun _ => by rw [HE.out.2.2.2]; rfl, fun re h => by rw [HE.out.2.2.1] at h; cases h⟩
  · obtain ⟨w1, hw1⟩ : ∃ w1, w1 = w0.alloc (.cells #[.slice none 0 0] 67) := ⟨_, rfl⟩
    obtain ⟨mb, hmb⟩ : ∃ g, g = w0.heap.size := ⟨_, rfl⟩
    have k1 : Kp [] w0 w1 := by rw [hw1]; exact (Kp.refl _ _).alloc _
    have c1 : Cells w1 mb 67 [.slice none 0 0] := by rw [hw1, hmb]; exact Cells.fresh w0 67 _
    have s1 : w1.heap.size = w0.heap.size + 1 := by rw [hw1]; simp
    obtain ⟨L, hL⟩ : ∃ L, L = cpsL s.data.toList := ⟨_, rfl⟩
    obtain ⟨c, w2, hr, k2, sp2, hc1, hc2, s2⟩ := run_cps (P := Try.prog) w1 9 38 21 s Try.underlying9 Try.underlying38 Try.underlying21 hs
    rw [← hL] at hr sp2 hc1
    obtain ⟨n, hn⟩ : ∃ n, n = L.length := ⟨_, rfl⟩
    rw [← hn] at hr hc1
    obtain ⟨rg, hrg⟩ : ∃ g, g = w1.heap.size := ⟨_, rfl⟩
    rw [← hrg] at hr sp2 s2
    obtain ⟨rb, hrb⟩ : ∃ g, g = w2.heap.size := ⟨_, rfl⟩
    obtain ⟨w3, hw3⟩ : ∃ w3, w3 = w2.alloc (.cells #[.pointer (some ⟨mb, 0, none⟩), .slice (some ⟨rg, 0, none⟩) n c, .int .i64 0, .bool false] 69) := ⟨_, rfl⟩
    have k3 : Kp [] w2 w3 := by rw [hw3]; exact (Kp.refl _ _).alloc _
    have c3 : Cells w3 rb 69 [.pointer (some ⟨mb, 0, none⟩), .slice (some ⟨rg, 0, none⟩) n c, .int .i64 0, .bool false] := by rw [hw3, hrb]; exact Cells.fresh w2 69 _
    have s3 := k3.size
    have h2 : s.data.toList.length = s.size := rfl
    have hLs : L.length ≤ 100 := by rw [hL]; have := cps_len s.data.toList; omega
    have hmr : mb ≠ rb := by omega
    have hrgr : rg ≠ rb := by omega
    have r3 : Ready w3 rb mb (fun x => x = rg) (fun x => x = mb) (fun x => (x = rb ∨ x = gc) ∨ R0 x) [] L 0 false := by
      refine ⟨mach_nil ((c1.keep k2 (by simp)).keep k3 (by simp)) (fun h => by
        have := c0.lt
        have hk := k0.size
        rcases h with h | h
        · omega
        · have := hR0 mb h; omega), ⟨some ⟨rg, 0, none⟩, c, ?_, sp2.kept k3, by omega, hc2, fun ad e => by injection e with e; subst e; exact ⟨rfl, hrgr⟩⟩, (.inl (.inl rfl)), fun x hx => (by
        have hk := Nat.le_trans k1.size (Nat.le_trans k2.size s3)
        rcases hx with (hx | hx) | hx
        · rw [hx]; exact c3.lt
        · rw [hx]; exact Nat.lt_of_lt_of_le c0.lt hk
        · exact Nat.lt_of_lt_of_le (hR0 x hx) (Nat.le_trans k0.size hk)), fun x hx => ?_⟩
      · rw [← hn]; exact c3
      · rw [hx]; exact ⟨by omega, by omega⟩
    have p3 := ((c0.keep k1 (by simp)).keep k2 (by simp)).keep k3 (by simp)
    have kw : Kp [] w w3 := ((k0.nil k1).nil k2).nil k3
    have hgr : gc ≠ rb := by have := c0.lt; omega
    have hgm : gc ≠ mb := by have := c0.lt; omega
    have hws : w.heap.size ≤ mb ∧ w.heap.size ≤ rb := by have := k0.size; have := k1.size; have := k2.size; omega
    have qa := alt_all 101 w3 rb mb _ _ _ [] L 0 (by omega) r3 (by show 0 + _ ≤ _; omega) (by omega) (by omega)
    have b0 : decide ((100 : Int) < (s.size : Int)) = false := decide_eq_false (by omega)
    have b1 : decide (100 < s.size) = false := decide_eq_false hbig
    have b2 : ¬ (100 : Int) < (s.size : Int) := by omega
    have HK := hid (And.intro r3 (And.intro p3 (And.intro kw (And.intro hgr (And.intro hgm (And.intro hws (And.intro hLs (And.intro hL hbig))))))))
    have HW0 := hid hw0
    have HW1 := hid hw1
    have HW3 := hid hw3
    have HGC := hid hgc
    have HGC2 := hid hgc
    have HMB := hid hmb
    have HRB := hid hrb
    clear k0 c0 k1 c1 s1 k2 sp2 hc1 hc2 s2 k3 c3 s3 h2 hLs hmr hrgr r3 p3 kw hgr hgm hws hw0 hw1 hw3 hgc hmb hrb hrg hn hL hbig
    go_enter Try.func25, Try.ntmps25
    go_upto_region 1 with fail
    rw [← HW0.out]
    try rw [← HGC.out]
    clear HW0 HGC
    go_upto_region 3 with fail
    rw [HW1.out] at hr
    try rw [← HMB.out] at hr
    go_wp2_with fail
    rw [← HMB.out, ← HRB.out, ← HW3.out]
    clear HW1 HW3 HMB HRB hr
    (with_reducible refine qa.mono ?_)
    clear qa
    rintro e w5 hg
    obtain ⟨f, l, E5, M5, L5, d5, bad5, rfl, r5, K5, g1, g2, g3, g4, g5, g6, g7, g8, g9, g10⟩ := hg.ex
    clear hg
    have p5 := K5.cells HK.out.2.1 HK.out.2.2.2.2.1 HK.out.2.2.2.1
    have hws := HK.out.2.2.2.2.2.1
    have kw5 : Kp [] w w5 := by
      obtain ⟨S, hS, kk⟩ := K5.kq
      exact ((HK.out.2.2.1.mono (by simp) : Kp S w w3).trans kk (fun x hx _ => hx)).less (fun x hx hlt => by
        rcases hS x hx with h | h <;> omega)
    obtain ⟨gp, hgp⟩ : ∃ g, g = w5.heap.size := ⟨_, rfl⟩
    obtain ⟨w6, hw6⟩ : ∃ w6, w6 = w5.alloc (.cells #[.int .i64 (f : Int), .int .i64 (l : Int)] 50) := ⟨_, rfl⟩
    have k6 : Kp [] w5 w6 := by rw [hw6]; exact (Kp.refl _ _).alloc _
    have c6 : Cells w6 gp 50 [.int .i64 (f : Int), .int .i64 (l : Int)] := by rw [hw6, hgp]; exact Cells.fresh w5 50 _
    have r6 := r5.kept k6
    have p6 := p5.keep k6 (by simp)
    have m6 := And.intro r6.mach r6.lt
    have hpr : parseR L = none ∨ ∃ re, parseR L = some re ∧ bad5 = false ∧ L5 = [] ∧ Frag M5 0 M5.length f l re := by
      unfold parseR
      cases ha : altR 0 L with
      | none => exact .inl rfl
      | some q =>
        obtain ⟨re, r⟩ := q
        obtain ⟨e1, e2, e3⟩ := g10 re r ha
        by_cases hr0 : r = []
        · refine .inr ⟨re, ?_, by rw [g9, ha]; rfl, by rw [e2, hr0], e3⟩
          show (if r = [] then some re else none) = some re
          rw [if_pos hr0]
        · refine .inl ?_
          show (if r = [] then some re else none) = none
          rw [if_neg hr0]
    have hpb : bad5 = true ∨ L5 ≠ [] → parseR L = none := fun h => by
      rcases hpr with h1 | ⟨re, h1, h2, h3, -⟩
      · exact h1
      · rcases h with h | h
        · rw [h2] at h; cases h
        · exact absurd h3 h
    have hpn : bad5 = false → L5 = [] → ∃ re, parseR L = some re ∧ Frag M5 0 M5.length f l re := fun hb hl => by
      unfold parseR
      cases ha : altR 0 L with
      | none => rw [ha] at g9; rw [g9] at hb; cases hb
      | some q =>
        obtain ⟨re, r⟩ := q
        obtain ⟨e1, e2, e3⟩ := g10 re r ha
        refine ⟨re, ?_, e3⟩
        show (if r = [] then some re else none) = some re
        rw [if_pos (by rw [← e2]; exact hl)]
    have hreL : reR s = parseR L := by unfold reR; rw [if_neg HK.out.2.2.2.2.2.2.2.2, HK.out.2.2.2.2.2.2.2.1]
    have hwt : wt M5 ≤ 2000 := by
      have h1 : wt ([] : List St) = 0 := rfl
      have := HK.out.2.2.2.2.2.2.1
      omega
    have hcod : codeR s = if (reR s).isNone then 32 else 0 := by unfold codeR; rw [if_neg HK.out.2.2.2.2.2.2.2.2]
    obtain ⟨A, cc, hc, -, -, -, -⟩ := r6.rd.ex
    obtain ⟨n5, hn5⟩ : ∃ n, n = L5.length := ⟨_, rfl⟩
    rw [← hn5] at hc
    have x0 := hc.cell 0
    have x1 := hc.cell 1
    have x3 := hc.cell 3
    have q0 := c6.cell 0
    have q1 := c6.cell 1
    have y0 := p6.cell 0
    have y1 := p6.cell 1
    have f0 := p6.free 0
    have f1 := p6.free 1
    simp only [List.getElem?_cons_zero, List.getElem?_cons_succ] at x0 x1 x3 q0 q1 y0 y1
    have H6 := hid (And.intro (kw5.nil k6) (And.intro p6 (And.intro m6 (And.intro hpb (And.intro hpn (And.intro hreL (And.intro hwt (And.intro hcod (And.intro hn5 (And.intro (show gc ≠ gp by have := p5.lt; omega) c6))))))))))
    have HW6 := hid hw6
    have HGP := hid hgp
    have hwg : Hid (w.heap.size ≤ gc) := hid (Nat.le_of_eq HGC2.out.symm)
    clear r5 K5 g1 g2 g3 g4 g5 g6 g7 g8 g9 g10 p5 hws kw5 hgp hw6 k6 c6 r6 p6 m6 hpr hpb hpn hreL hwt hcod hc hn5
    unfold partV
    go_upto_region 5 with fail
    rw [← HW6.out]
    try rw [← HGP.out]
    clear HW6 HGP
    rcases (show bad5 = true ∨ (bad5 = false ∧ ¬ n5 = 0) ∨ (bad5 = false ∧ n5 = 0) by cases bad5 <;> simp <;> omega) with rfl | ⟨rfl, hn0⟩ | ⟨rfl, rfl⟩
    · have hre : reR s = none := by rw [H6.out.2.2.2.2.2.1]; exact H6.out.2.2.2.1 (.inl rfl)
      have HRE := hid hre
      clear hre
      obtain ⟨w7, hw7⟩ : ∃ w7, w7 = (w6.setCell ⟨gc, 0, none⟩ (.int .i64 0)).setCell ⟨gc, 1, none⟩ (.int .i64 0) := ⟨_, rfl⟩
      have HY := hid hw7
      clear hw7
      go_wp2_with fail
      rw [← HY.out]
      have k7 : Kp [gc] w6 w7 := by rw [HY.out]; exact ((Kp.refl _ _).setCell (fun _ => by simp) _).setCell (fun _ => by simp) _
      have c7 : Cells w7 gc 50 [.int .i64 0, .int .i64 0] := by rw [HY.out]; exact (H6.out.2.1.put 0 _).put 1 _
      have z0 := c7.cell 0
      have z1 := c7.cell 1
      simp only [List.getElem?_cons_zero, List.getElem?_cons_succ] at z0 z1
      exact bodyPost_ret (v := .tuple #[.pointer none, .agg #[.int .i64 0, .int .i64 0], .int .i64 32]) (by simp [results, Try.results25, go_sem, z0, z1]) rfl ⟨H6.out.1.fresh k7 hwg.out, fun _ => by rw [H6.out.2.2.2.2.2.2.2.1, HRE.out]; rfl, fun re h => by rw [HRE.out] at h; cases h⟩
    · have b5 : decide ((0 : Int) < (n5 : Int)) = true := decide_eq_true (by omega)
      have b6 : (0 : Int) < (n5 : Int) := by omega
      have b7 : decide (0 < n5) = true := decide_eq_true (by omega)
      have HN0 := hid hn0
      clear hn0
      have hre : reR s = none := by rw [H6.out.2.2.2.2.2.1]; exact H6.out.2.2.2.1 (.inr (fun e => HN0.out (by rw [H6.out.2.2.2.2.2.2.2.2.1, e]; rfl)))
      have HRE := hid hre
      clear hre
      obtain ⟨w7, hw7⟩ : ∃ w7, w7 = (w6.setCell ⟨gc, 0, none⟩ (.int .i64 0)).setCell ⟨gc, 1, none⟩ (.int .i64 0) := ⟨_, rfl⟩
      have HY := hid hw7
      clear hw7
      go_wp2_with fail
      rw [← HY.out]
      have k7 : Kp [gc] w6 w7 := by rw [HY.out]; exact ((Kp.refl _ _).setCell (fun _ => by simp) _).setCell (fun _ => by simp) _
      have c7 : Cells w7 gc 50 [.int .i64 0, .int .i64 0] := by rw [HY.out]; exact (H6.out.2.1.put 0 _).put 1 _
      have z0 := c7.cell 0
      have z1 := c7.cell 1
      simp only [List.getElem?_cons_zero, List.getElem?_cons_succ] at z0 z1
      exact bodyPost_ret (v := .tuple #[.pointer none, .agg #[.int .i64 0, .int .i64 0], .int .i64 32]) (by simp [results, Try.results25, go_sem, z0, z1]) rfl ⟨H6.out.1.fresh k7 hwg.out, fun _ => by rw [H6.out.2.2.2.2.2.2.2.1, HRE.out]; rfl, fun re h => by rw [HRE.out] at h; cases h⟩
    · have hre : ∃ re, reR s = some re ∧ Frag M5 0 M5.length f l re := by
        obtain ⟨re, h1, h2⟩ := H6.out.2.2.2.2.1 rfl (List.eq_nil_of_length_eq_zero H6.out.2.2.2.2.2.2.2.2.1.symm)
        exact ⟨re, by rw [H6.out.2.2.2.2.2.1]; exact h1, h2⟩
      have HRE := hid hre
      clear hre
      obtain ⟨w7, hw7⟩ : ∃ w7, w7 = (w6.setCell ⟨gc, 0, none⟩ (.int .i64 (f : Int))).setCell ⟨gc, 1, none⟩ (.int .i64 (l : Int)) := ⟨_, rfl⟩
      have HY := hid hw7
      clear hw7
      go_upto_region 7 with fail
      go_region
      all_goals
        go_wp2_with fail
        rw [← HY.out]
        have k7 : Kp [gc] w6 w7.drew := by rw [HY.out]; exact (((Kp.refl _ _).setCell (fun _ => by simp) _).setCell (fun _ => by simp) _).drew
        have c7 : Cells w7.drew gc 50 [.int .i64 (f : Int), .int .i64 (l : Int)] := by rw [HY.out]; exact ((H6.out.2.1.put 0 _).put 1 _).drew
        have z0 := c7.cell 0
        have z1 := c7.cell 1
        simp only [List.getElem?_cons_zero, List.getElem?_cons_succ] at z0 z1
        obtain ⟨re, hre, hfr⟩ := HRE.out
        have m7 : MachAt w7.drew mb E5 R0 M5 := H6.out.2.2.1.1.move ⟨[gc], fun x hx => .inl (.inr (List.mem_singleton.1 hx)), k7⟩ H6.out.2.2.1.2 (fun x hx => .inl (.inr hx))
        exact bodyPost_ret (v := .tuple #[.pointer (some ⟨mb, 0, none⟩), .agg #[.int .i64 (f : Int), .int .i64 (l : Int)], .int .i64 0]) (by simp [results, Try.results25, go_sem, z0, z1]) rfl ⟨H6.out.1.fresh k7 hwg.out, (fun h => absurd (hre.symm.trans h) (by simp)), fun re' h => ⟨mb, f, l, E5, M5, rfl, m7, (by
          rw [hre] at h
          injection h with h
          subst h
          exact hfr), H6.out.2.2.2.2.2.2.1⟩⟩
end Go.Proofs.Ytaaikjedagnjbaa
