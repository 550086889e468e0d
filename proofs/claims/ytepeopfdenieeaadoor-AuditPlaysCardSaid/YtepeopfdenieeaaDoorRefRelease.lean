/- The document's Release: what it notes, and lets out. -/
import Derived.Test.YtepeopfdenieeaaDoorRelease
import Derived.Test.YtepeopfdenieeaaDoorRef18
import Derived.Test.YtepeopfdenieeaaDoorRefPut17
namespace Go.Proofs.YtepeopfdenieeaaDoor
open Go Go.RowKit

structure RK.Ok (s : RK) : Prop where
  l : s.dead = false → s.crash < 0 ∨ (s.xs.length : Int) ≤ s.crash
  room : s.room ≤ 1048576
  len : s.xs.length ≤ 3000000
  live : s.dead = false → s.xs.length ≤ 1048576
theorem RK.Ok.write {s : RK} (h : s.Ok) (ys : List UInt8) (hy : ys.length ≤ 1900000) : (s.write ys).1.Ok := by
  obtain ⟨h1, h2, h3, h4⟩ := h
  unfold RK.write
  split
  · exact ⟨h1, h2, h3, h4⟩
  · rename_i hd
    have h5 := h1 (by simpa using hd)
    have h6 := h4 (by simpa using hd)
    split
    · refine ⟨by simp, h2, ?_, by simp⟩
      simp only [List.length_append, List.length_take]
      omega
    · split
      · exact ⟨h1, h2, h3, h4⟩
      · refine ⟨fun _ => ?_, h2, ?_, fun _ => ?_⟩
        · simp only [List.length_append]
          omega
        · simp only [List.length_append]; omega
        · simp only [List.length_append]; omega
theorem RefAt.kept {w w' : World} {a : Nat} {s : RK} (h : RefAt w a s) (k : Kp [] w w') : RefAt w' a s := by
  obtain ⟨v, h1, h2⟩ := h
  exact ⟨v, h1.keep k (by simp), Own.kept h2 k⟩
theorem RefAt.keep {w w' : World} {a g : Nat} {s : RK} {t : TypeId} {cs : List Value} (h : RefAt w a s) (k : Kp [g] w w') (hg : Cells w g t cs) (ht : 5 ≠ t) (hne : a ≠ g) : RefAt w' a s := by
  obtain ⟨v, h1, h2⟩ := h
  exact ⟨v, h1.keep k (by simpa using hne), Own.keep h2 k (fun b hb hm => by simp at hm; subst hm; exact h2.ne_cells hg ht hb)⟩
theorem RefAt.cells {w : World} {a : Nat} {s : RK} (h : RefAt w a s) : ∃ cs, Cells w a 67 cs ∧ ∀ u ∈ cs, ∀ z, u ≠ .int .u8 z := by
  obtain ⟨v, h1, h2⟩ := h
  obtain ⟨A, c, rfl, -⟩ := h2.shape
  refine ⟨_, h1, fun u hu z he => ?_⟩
  subst he
  simp at hu
structure RAK where
  log : RK
  out : RK
  code : Int
def RAK.release (s : RAK) (r : Rec) (ys : List UInt8) : RAK × Int :=
  if s.code ≠ 0 then (s, s.code)
  else if mayOf r ≠ 0 then (s, mayOf r)
  else if r.len ≠ ys.length then (s, 1)
  else if (s.log.write (putB r)).2.2 ≠ 0 then (⟨(s.log.write (putB r)).1, s.out, (s.log.write (putB r)).2.2⟩, (s.log.write (putB r)).2.2)
  else (⟨(s.log.write (putB r)).1, (s.out.write ys).1, (s.out.write ys).2.2⟩, (s.out.write ys).2.2)
structure RAK.Ok (s : RAK) : Prop where
  l : s.log.Ok
  o : s.out.Ok
theorem RAK.Ok.release {s : RAK} (h : s.Ok) (r : Rec) (ys : List UInt8) (hy : ys.length ≤ 1900000) : (s.release r ys).1.Ok := by
  unfold RAK.release
  split
  · exact h
  · split
    · exact h
    · rename_i hm
      have hp := putB_small2 (r := r) (by simpa using hm)
      split
      · exact h
      · split
        · exact ⟨h.l.write _ (by omega), h.o⟩
        · exact ⟨h.l.write _ (by omega), h.o.write _ hy⟩
structure RAuditAt (w : World) (a al ao : Nat) (s : RAK) : Prop where
  c : Cells w a 59 [.pointer (some ⟨al, 0, none⟩), .pointer (some ⟨ao, 0, none⟩), .int .i64 s.code]
  l : RefAt w al s.log
  o : RefAt w ao s.out
  ne : al ≠ ao
theorem RAuditAt.kept {w w' : World} {a al ao : Nat} {s : RAK} (h : RAuditAt w a al ao s) (k : Kp [] w w') : RAuditAt w' a al ao s :=
  ⟨h.c.keep k (by simp), h.l.kept k, h.o.kept k, h.ne⟩
theorem RefAt.ne_audit {w : World} {a b : Nat} {s : RK} (h : RefAt w b s) {cs : List Value} (hc : Cells w a 59 cs) : b ≠ a := by
  obtain ⟨v, h1, _⟩ := h
  exact h1.ne hc (by decide)
theorem RAuditAt.store {w : World} {a al ao : Nat} {s : RAK} (h : RAuditAt w a al ao s) (z : Int) : RAuditAt (w.setCell ⟨a, 2, none⟩ (.int .i64 z)) a al ao ⟨s.log, s.out, z⟩ := by
  have k : Kp [a] w (w.setCell ⟨a, 2, none⟩ (.int .i64 z)) := (Kp.refl _ _).setCell (fun _ => by simp) _
  exact ⟨h.c.put 2 _, h.l.keep k h.c (by decide) (h.l.ne_audit h.c), h.o.keep k h.c (by decide) (h.o.ne_audit h.c), h.ne⟩
def RRelPost (w : World) (a al ao : Nat) (s : RAK) (r : Rec) (ys : List UInt8) (e : Ending) (w' : World) : Prop :=
  e = .returned (.int .i64 (s.release r ys).2) ∧ RAuditAt w' a al ao (s.release r ys).1 ∧ Kp [a, al, ao] w w'
theorem rwrite_ok (w : World) (a : Nat) (s : RK) (A : Option Addr) (n c : Nat) (ys : List UInt8) (hs : RefAt w a s) (hb : Span w A (u8s ys)) (hn : ys.length = n) (hc : n ≤ c) (ho : s.Ok) (h2 : n ≤ 1900000) :
    Calls Tryd.prog 49 #[.pointer (some ⟨a, 0, none⟩), .slice A n c] w (RefPost w a s ys) :=
  rwrite_any w a s A n c ys hs hb hn hc ho.l (Nat.le_trans ho.len (by omega)) (by omega)

set_option maxRecDepth 100000 in
set_option maxHeartbeats 4000000 in
theorem rrelease_any (w : World) (a al ao : Nat) (s : RAK) (h : RAuditAt w a al ao s) (hok : s.Ok) (v : Value) (r : Rec) (hr : RecIs w r v) (hz : ∀ x ∈ r.holes, x.size ≤ 9223372036854775000) (A : Option Addr) (n c : Nat) (ys : List UInt8)
    (hb : Span w A (u8s ys)) (hn : ys.length = n) (hc : n ≤ c) (h2 : n ≤ 1900000) :
    Calls Tryd.prog 30 #[.pointer (some ⟨a, 0, none⟩), v, .slice A n c] w (RRelPost w a al ao s r ys) := by
  have Hn := hid hn
  clear hn
  obtain ⟨Ar, cr, rfl, hspr, hcr, hcr2⟩ := hr
  obtain ⟨m, hm⟩ : ∃ m, m = r.holes.length := ⟨_, rfl⟩
  rw [← hm] at hcr ⊢
  obtain ⟨w1, hw1, B1, K1⟩ : ∃ w1, w1 = w.alloc (.cells #[.int .i64 r.doc, .int .i64 r.out, .int .i64 r.len, .slice Ar m cr] 24) ∧
      Cells w1 w.heap.size 24 [.int .i64 r.doc, .int .i64 r.out, .int .i64 r.len, .slice Ar m cr] ∧ Kp [] w w1 := ⟨_, rfl, Cells.fresh _ _ _, (Kp.refl _ _).alloc _⟩
  have hRI : RecIs w1 r (.agg #[.int .i64 r.doc, .int .i64 r.out, .int .i64 r.len, .slice Ar m cr]) := ⟨Ar, cr, by rw [hm], hspr.kept K1, by omega, hcr2⟩
  have h1 := h.kept K1
  have K1' : Kp [a, al, ao] w w1 := K1.mono (by simp)
  obtain ⟨S, hS⟩ : ∃ S, S = w.heap.size := ⟨_, rfl⟩
  rw [← hS] at B1
  have HW := hid (And.intro hw1 hS)
  obtain ⟨g, hg⟩ : ∃ g, g = s.code := ⟨_, rfl⟩
  have c2 := h.c.cell 2
  have hla := h.c.lt
  simp only [List.getElem?_cons_zero, List.getElem?_cons_succ] at c2
  rw [← hg] at c2
  have Hg := hid hg
  clear hw1 hS hm hg
  by_cases h0 : g = 0
  · subst h0
    have R0 := B1.cell 0
    have R1 := B1.cell 1
    have R2 := B1.cell 2
    have R3 := B1.cell 3
    simp only [List.getElem?_cons_zero, List.getElem?_cons_succ] at R0 R1 R2 R3
    go_enter Tryd.func30, Tryd.ntmps30
    go_wp2_with fail
    rw [← HW.out.1, ← HW.out.2]
    refine (rput_any w1 r _ hRI hz).mono ?_
    rintro e w2 ⟨v2, rfl, ho2, hn2⟩
    have k2 := hn2.kp
    have h3 := h1.kept k2
    have B2 := B1.keep k2 (by simp)
    obtain ⟨A2, c2', rfl, hs2, hc2, -⟩ := ho2.shape
    obtain ⟨q, hq⟩ : ∃ q, q = mayOf r := ⟨_, rfl⟩
    obtain ⟨X, hX⟩ : ∃ X, X = putL r := ⟨_, rfl⟩
    rw [← hq]
    rw [← hX] at hs2 hc2 ⊢
    have Hq := hid hq
    have HX := hid hX
    clear hq hX ho2 hn2 c2 R0 R1 R2 R3
    by_cases hq0 : q = 0
    · subst hq0
      have R2 := B2.cell 2
      simp only [List.getElem?_cons_zero, List.getElem?_cons_succ] at R2
      by_cases hl : r.len = n
      · rw [hl] at R2
        have hXb : X = putB r := by rw [HX.out, putL, if_pos Hq.out.symm]
        have hXl : X.length ≤ 900008 := by rw [hXb]; exact putB_small2 Hq.out.symm
        have p0 := h3.c.cell 0
        simp only [List.getElem?_cons_zero, List.getElem?_cons_succ] at p0
        obtain ⟨N, hN⟩ : ∃ N, N = X.length := ⟨_, rfl⟩
        rw [← hN] at hXl hc2 ⊢
        have HN := hid hN
        have HXb := hid hXb
        have Hl := hid hl
        clear hN hXb hl
        go_wp2_with fail
        refine (rwrite_ok w2 al s.log A2 N c2' X h3.l hs2 HN.out.symm hc2 hok.l (by omega)).mono ?_
        rintro e w3 ⟨rfl, hl3, k3, -⟩
        obtain ⟨cs, hcs, hno⟩ := h3.l.cells
        have hna : a ∉ [al] := by
          have := h3.l.ne_audit h3.c
          simp
          exact fun e => this e.symm
        have h4 : RAuditAt w3 a al ao ⟨(s.log.write X).1, s.out, s.code⟩ := ⟨h3.c.keep k3 hna, hl3, h3.o.keep k3 hcs (by decide) (Ne.symm h3.ne), h3.ne⟩
        have hb3 : Span w3 A (u8s ys) := span_keep hcs hno ((hb.kept K1).kept k2) k3
        have k13 : Kp [a, al, ao] w w3 := (K1.nil k2).mono (by simp) |>.trans k3 (by intro x hx _; simp at hx; simp [hx])
        obtain ⟨e1, he1⟩ : ∃ e1, e1 = (s.log.write X).2.2 := ⟨_, rfl⟩
        rw [← he1]
        have hrel : s.release r ys = if e1 ≠ 0 then (⟨(s.log.write X).1, s.out, e1⟩, e1) else (⟨(s.log.write X).1, (s.out.write ys).1, (s.out.write ys).2.2⟩, (s.out.write ys).2.2) := by
          unfold RAK.release
          rw [if_neg (by rw [← Hg.out]; simp), if_neg (by rw [← Hq.out]; simp), if_neg (by rw [Hl.out, Hn.out]; simp), ← HXb.out, ← he1]
        have g1 := h4.c.cell 1
        have g2 := h4.c.cell 2
        have gf := h4.c.free 2
        simp only [List.getElem?_cons_zero, List.getElem?_cons_succ] at g1 g2
        have He1 := hid he1
        have Hrel := hid hrel
        clear he1 hrel p0 R2 h3 hl3 hb hs2 B2 B1 hcs hno
        by_cases hz0 : e1 = 0
        · subst hz0
          go_wp2_with fail
          refine (rwrite_ok _ ao s.out A n c ys h4.o hb3 Hn.out hc hok.o h2).mono ?_
          rintro e w6 ⟨rfl, ho6, k6, -⟩
          obtain ⟨cs, hcs, hno⟩ := h4.o.cells
          have hna6 : a ∉ [ao] := by
            have := h4.o.ne_audit h4.c
            simp
            exact fun e => this e.symm
          have h6 : RAuditAt w6 a al ao ⟨(s.log.write X).1, (s.out.write ys).1, s.code⟩ := ⟨h4.c.keep k6 hna6, h4.l.keep k6 hcs (by decide) h4.ne, ho6, h4.ne⟩
          obtain ⟨e2, he2⟩ : ∃ e2, e2 = (s.out.write ys).2.2 := ⟨_, rfl⟩
          rw [← he2]
          have h7 := h6.store e2
          have k17 : Kp [a, al, ao] w (w6.setCell ⟨a, 2, none⟩ (.int .i64 e2)) := (k13.trans k6 (by intro x hx _; simp at hx; simp [hx])).setCell (fun _ => by simp) _
          have z2 := h6.c.cell 2
          have zf := h6.c.free 2
          simp only [List.getElem?_cons_zero, List.getElem?_cons_succ] at z2
          have He2 := hid he2
          clear he2 g1 g2 gf hcs hno
          go_wp2_with fail
          go_ret
          refine ⟨?_, ?_, k17⟩
          · rw [Hrel.out, if_neg (by simp), ← He2.out]; rfl
          · rw [Hrel.out, if_neg (by simp), ← He2.out]; exact h7
        · have h5 := h4.store e1
          go_wp2_with fail
          go_ret
          refine ⟨?_, ?_, k13.setCell (fun _ => by simp) _⟩
          · rw [Hrel.out, if_pos hz0]; rfl
          · rw [Hrel.out, if_pos hz0]; exact h5
      · have hl0 : (r.len != (n : Int)) = true := by simpa using hl
        have hfin : s.release r ys = (s, 1) := by
          unfold RAK.release
          rw [if_neg (by rw [← Hg.out]; simp), if_neg (by rw [← Hq.out]; simp), if_pos (by rw [Hn.out]; exact hl)]
        have Hfin := hid hfin
        clear hfin
        go_wp2_with fail
        go_ret
        exact ⟨by rw [Hfin.out]; rfl, by rw [Hfin.out]; exact h3, (K1.nil k2).mono (by simp)⟩
    · have hfin : s.release r ys = (s, q) := by
        unfold RAK.release
        rw [if_neg (by rw [← Hg.out]; simp), if_pos (by rw [← Hq.out]; exact hq0), ← Hq.out]
      have Hfin := hid hfin
      clear hfin
      go_wp2_with fail
      go_ret
      exact ⟨by rw [Hfin.out]; rfl, by rw [Hfin.out]; exact h3, (K1.nil k2).mono (by simp)⟩
  · have hfin : s.release r ys = (s, g) := by
      unfold RAK.release
      rw [if_pos (by rw [← Hg.out]; exact h0), ← Hg.out]
    have Hfin := hid hfin
    clear hfin
    go_enter Tryd.func30, Tryd.ntmps30
    go_wp2_with fail
    rw [← HW.out.1]
    go_ret
    exact ⟨by rw [Hfin.out]; rfl, by rw [Hfin.out]; exact h1, K1'⟩
end Go.Proofs.YtepeopfdenieeaaDoor
