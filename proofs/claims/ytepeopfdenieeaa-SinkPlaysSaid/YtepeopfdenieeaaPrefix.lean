/- SinkPrefix: what was taken are whole writes, one behind the other, and of one that crashed its beginning. -/
import Derived.Test.YtepeopfdenieeaaShown18
import Derived.Test.YtepeopfdenieeaaOpen
namespace Go.Proofs.Ytepeopfdenieeaa
open Go Go.RowKit

/-- What holds of a sink behind writes of at most 100 bytes each. -/
def SInv (room crash : Int) (s : SK) : Prop :=
  s.room = min (max room 0) 1048576 ∧ ((crash < 0 ∧ s.left = -1 ∧ s.xs.length ≤ s.room) ∨ (0 ≤ crash ∧ 0 ≤ s.left ∧ s.xs.length + s.left ≤ crash)) ∧
  s.xs.length ≤ 1048676 ∧ (s.dead = false → s.xs.length ≤ 1048576) ∧ (s.dead = true → 0 ≤ crash)
theorem SInv.make (room crash : Int) : SInv room crash (SK.make room crash) := by
  refine ⟨rfl, ?_, by simp [SK.make], by simp [SK.make], by simp [SK.make]⟩
  simp only [SK.make, List.length_nil]
  omega

/-- The four outcomes of a write: q bytes are taken, error e. -/
def Took (s s' : SK) (m q : Nat) (e : Int) : Prop :=
  (s.dead = true ∧ s'.dead = true ∧ e = 51 ∧ q = 0) ∨ (s.dead = false ∧ s'.dead = true ∧ e = 51) ∨ (s.dead = false ∧ s'.dead = false ∧ e = 50 ∧ q = 0) ∨ (s.dead = false ∧ s'.dead = false ∧ e = 0 ∧ q = m)
theorem write_took (room crash : Int) (s : SK) (ys : List UInt8) (m : Nat) (hm : ys.length = m) (hm2 : m ≤ 100) (h : SInv room crash s) :
    ∃ (q : Nat) (e : Int), q ≤ m ∧ (s.write ys).2 = ((q : Int), e) ∧ (s.write ys).1.xs = s.xs ++ ys.take q ∧ Took s (s.write ys).1 m q e ∧ SInv room crash (s.write ys).1 := by
  obtain ⟨xs, R, left, dead⟩ := s
  obtain ⟨h1, h2, h3, h4, h5⟩ := h
  simp only at h1 h2 h3 h4 h5
  cases dead
  · have h4' := h4 rfl
    by_cases hc : 0 ≤ left ∧ left < ys.length
    · obtain ⟨p, rfl⟩ := Int.eq_ofNat_of_zero_le hc.1
      have he : (SK.mk xs R p false).write ys = (SK.mk (xs ++ ys.take p) R 0 true, (p : Int), 51) := by
        simp only [SK.write]; rw [if_neg (by simp), if_pos hc]; simp
      have hl : (ys.take p).length = p := by rw [List.length_take]; omega
      refine ⟨p, 51, by omega, by rw [he], by rw [he], ?_, ?_⟩
      · rw [he]; exact .inr (.inl ⟨rfl, rfl, rfl⟩)
      · rw [he]
        refine ⟨h1, ?_, ?_, by simp, ?_⟩ <;> simp only [List.length_append, hl] <;> omega
    · by_cases hr : R < xs.length + ys.length
      · have he : (SK.mk xs R left false).write ys = (SK.mk xs R left false, 0, 50) := by
          simp only [SK.write]; rw [if_neg (by simp), if_neg hc, if_pos hr]
        refine ⟨0, 50, by omega, by rw [he]; rfl, by rw [he]; simp, ?_, ?_⟩
        · rw [he]; exact .inr (.inr (.inl ⟨rfl, rfl, rfl, rfl⟩))
        · rw [he]; exact ⟨h1, h2, h3, h4, h5⟩
      · have he : (SK.mk xs R left false).write ys = (SK.mk (xs ++ ys) R (if 0 ≤ left then left - ys.length else left) false, (ys.length : Int), 0) := by
          simp only [SK.write]; rw [if_neg (by simp), if_neg hc, if_neg hr]
        refine ⟨m, 0, by omega, by rw [he, hm], by rw [he, List.take_of_length_le (by omega)], ?_, ?_⟩
        · rw [he]; exact .inr (.inr (.inr ⟨rfl, rfl, rfl, rfl⟩))
        · rw [he]
          refine ⟨h1, ?_, ?_, ?_, by simp⟩ <;> simp only [List.length_append]
          · split <;> omega
          · omega
          · omega
  · have he : (SK.mk xs R left true).write ys = (SK.mk xs R left true, 0, 51) := by simp [SK.write]
    refine ⟨0, 51, by omega, by rw [he]; rfl, by rw [he]; simp, ?_, ?_⟩
    · rw [he]; exact .inl ⟨rfl, rfl, rfl, rfl⟩
    · rw [he]; exact ⟨h1, h2, h3, h4, h5⟩

def TookPost (w : World) (a : Nat) (s' : SK) (q : Nat) (e : Int) (en : Ending) (w' : World) : Prop := en = .returned (.tuple #[.int .i64 q, .int .i64 e]) ∧ SinkAt w' a s' ∧ Kp [a] w w'
theorem took_call (w : World) (a : Nat) (s s' : SK) (q : Nat) (e : Int) (A : Option Addr) (n c : Nat) (ys : List UInt8) (hs : SinkAt w a s) (hb : Span w A (u8s ys)) (hA : ∀ ad, A = some ad → ad.block ≠ a) (hn : ys.length = n) (hc : n ≤ c)
    (hl1 : -1 ≤ s.left) (hl2 : s.left ≤ 9223372036854775807) (h1 : s.xs.length ≤ 10000000) (h2 : n ≤ 10000000) (hw : s.write ys = (s', (q : Int), e)) :
    Calls Try.prog 8 #[.pointer (some ⟨a, 0, none⟩), .slice A n c] w (TookPost w a s' q e) := by
  refine (write_any w a s A n c ys hs hb hA hn hc hl1 hl2 h1 h2).mono ?_
  rintro en w' ⟨rfl, h3, h4, _⟩
  rw [hw] at h3 ⊢
  exact ⟨rfl, h3, h4⟩
theorem dead_at (w : World) (a : Nat) (s : SK) (d : Bool) (hs : SinkAt w a s) (hd : s.dead = d) :
    Calls Try.prog 10 #[.pointer (some ⟨a, 0, none⟩)] w fun e w' => e = .returned (.bool d) ∧ w = w' := by
  subst hd
  exact dead_any w a s hs
theorem short_at (w : World) (A : Option Addr) (n c m : Nat) (hc : n ≤ c) (hm : n ≤ 9223372036854775807) (h : m = min n 100) :
    Calls Try.prog 11 #[.slice A n c] w fun e w' => e = .returned (.slice A m c) ∧ w = w' := by
  subst h
  exact short_any w A n c hc hm

set_option maxRecDepth 100000 in
set_option maxHeartbeats 4000000 in
theorem prefix_any (w : World) (room : Int) (_ : -9223372036854775808 ≤ room ∧ room ≤ 9223372036854775807) (crash : Int) (hcr : -9223372036854775808 ≤ crash ∧ crash ≤ 9223372036854775807)
    (A : Option Addr) (n c : Nat) (ls : List (List UInt8)) (hrows : ∀ (i : Nat) (l : List UInt8), ls[i]? = some l → ∃ ad v, A = some ad ∧ w.cell? (ad.add i) = some v ∧ IsBytes w l v) (hn : ls.length = n) (_hc : n ≤ c) (_hm : c ≤ 9223372036854775807) :
    Calls Try.prog 4 #[.int .i64 room, .int .i64 crash, .slice A n c] w (YesPost w) := by
  have Hn := hid hn
  have Hr := hid hrows
  clear hn hrows
  obtain ⟨hcr1, hcr2⟩ := hcr
  go_enter Try.func4, Try.ntmps4
  go_wp2_with fail
  refine (shown_any _).mono ?_
  rintro e w1 ⟨rfl, hk1⟩
  go_wp2_with fail
  refine (new_any _ _ _).mono ?_
  rintro e w2 ⟨rfl, hs2, hk2⟩
  have hSw : w.heap.size ≤ w1.heap.size := hk1.size
  have hkw := hk1.nil hk2
  have Hs2 := hid hs2
  clear hs2 hk1 hk2
  go_wp2_with fail
  generalize w1.heap.size = S at *
  go_loopw [9, 10] (fun v i wr => ∃ (k : Nat) (s : SK), k ≤ n ∧ k ≤ 60 ∧ i = .int .i64 k ∧ v = .string ⟨s.xs.toArray⟩ ∧ SinkAt wr S s ∧ SInv room crash s ∧ Kp [S] w2 wr) (fun _ i _ => n - (intOf i).toNat)
  case atStart => exact ⟨0, _, by omega, by omega, rfl, rfl, Hs2.out, SInv.make room crash, Kp.refl _ _⟩
  case round =>
    obtain ⟨k, s, hk1, hk2, rfl, rfl, hS, hI, hk4⟩ := hrel
    have HI := hid hI
    clear hI
    have hkr : Kp [] w wr := hkw.trans hk4 (by intro x hx hl; simp at hx; omega)
    by_cases hlt : k < n ∧ k < 60
    · obtain ⟨hlt, hlt3⟩ := hlt
      have hkl : k < ls.length := by rw [Hn.out]; exact hlt
      obtain ⟨ad, v, hA, hcl, Ai, ci, hv, hsp, hni, hci, hAi⟩ := Hr.out k ls[k] (List.getElem?_eq_getElem hkl)
      generalize hl : ls[k] = l at *
      clear hl hkl
      subst hA hv
      obtain ⟨m, hm1⟩ : ∃ m, m = min l.length 100 := ⟨_, rfl⟩
      have hm2 : (l.take 100).length = m := by rw [List.length_take]; omega
      have hm3 : m ≤ 100 := by omega
      obtain ⟨q, e, hq, hw1, hw2, hw3, hw4⟩ := write_took room crash s (l.take 100) m hm2 hm3 HI.out
      generalize hs' : (s.write (l.take 100)).1 = s' at *
      have hw5 : s.write (l.take 100) = (s', (q : Int), e) := by rw [← hs', ← hw1]
      have hadw := World.block_lt_of_cell? w _ hcl
      rw [add_block] at hadw
      have hclr := hkr.cell hcl (by simp)
      have hspr := hsp.kept hkr
      have hlo : l.length = l.length := rfl
      obtain ⟨len, hlen⟩ : ∃ len, len = l.length := ⟨_, rfl⟩
      rw [← hlen] at hcl hclr hni hm1
      have hmci : m ≤ ci := by omega
      have Hm1 := hid hm1
      have Hm2 := hid hm2
      have Hw := hid (And.intro hw5 (And.intro hw2 hw4))
      have Hlen := hid hlen
      have Hs' := hid hs'
      have Hw1 := hid hw1
      clear hm1 hm2 hw5 hw2 hw4 hlen hs' hw1 hlo
      have hw3' := hw3
      clear hw3
      have hs1 : -1 ≤ s.left := by obtain ⟨_, h2, _⟩ := HI.out; omega
      have hs2 : s.left ≤ 9223372036854775807 := by obtain ⟨_, h2, _⟩ := HI.out; omega
      have hs3 : s.xs.length ≤ 10000000 := by obtain ⟨_, _, h2, _⟩ := HI.out; omega
      have hadS : ad.block ≠ S := by omega
      have hlen2 : len ≤ 9223372036854775807 := by omega
      obtain ⟨X, HXq⟩ : ∃ X, Hid (X = l.take q) := ⟨_, rfl⟩
      have HQ : Hid (X.length = q) := by
        have := Hlen.out; have := Hm1.out; show X.length = q; rw [HXq.out, List.length_take]; omega
      have HX : Hid (s'.xs = s.xs ++ X) := by
        have := Hw.out.2.1; rw [List.take_take, Nat.min_eq_left (by omega), ← HXq.out] at this; exact this
      have HX3 : Hid (s'.xs.length ≤ 10000000) := by obtain ⟨_, _, h2, _⟩ := Hw.out.2.2; show s'.xs.length ≤ 10000000; omega
      have HX2 : Hid (s.xs.length + X.length ≤ 9223372036854775807) := by
        have := HX.out; have h3 := HX3.out; rw [this, List.length_append] at h3; show s.xs.length + X.length ≤ _; omega
      have HX4 : Hid ((crash < 0 ∧ (s'.xs.length : Int) ≤ max room 0) ∨ (0 ≤ crash ∧ (s'.xs.length : Int) ≤ crash)) := by
        obtain ⟨h1, h2, _⟩ := Hw.out.2.2
        show _ ∨ _
        omega
      go_wp2_with fail
      rcases hw3' with ⟨d1, d2, rfl, rfl⟩ | ⟨d1, d2, rfl⟩ | ⟨d1, d2, rfl, rfl⟩ | ⟨d1, d2, rfl, hqm⟩
      · refine (dead_at wr S s true hS d1).mono ?_
        rintro en w4 ⟨rfl, rfl⟩
        have hcl4 := ((Kp.refl [] wr).alloc (.cells #[] 5)).cell hclr (by simp)
        go_wp2_with fail
        refine (short_at _ _ _ _ m hni hlen2 Hm1.out).mono ?_
        rintro en w4 ⟨rfl, rfl⟩
        go_wp2_with (at_builtin; go_must (refine wpList_append1 rfl _ _ 22 rfl 5 (.int .u8 0) 1 Try.underlying22 info5 rfl _ 0 _ rfl (Own.of_cells (Cells.fresh wr 5 []) (by simp)) _ _ ci (u8s (l.take 100)) rfl ((Span.alloc hspr _).sub0 100 _ (u8s_take _ _)) (by rw [length_u8s]; exact Hm2.out) (u8s_one _) ?_ ?_ ?_))
        · omega
        · omega
        intro v' w5 hown hk5 hb5
        try simp only [Nat.zero_add, List.nil_append] at hown
        obtain ⟨A', c', rfl, hsp', hmc', _, hA'⟩ := hown.shape
        have hk5' : Kp [] wr w5 := ((Kp.refl [] wr).alloc _).trans hk5 (by intro x hx hl; simp [Value.ownBlock] at hx; omega)
        have hA'S : ∀ ad, A' = some ad → ad.block ≠ S := fun ad' h => by
          obtain ⟨_, h2⟩ := hA' ad' h
          rw [h2] at hb5
          have := hS.lt
          rcases hb5 with hb5 | hb5 <;> simp [Value.ownBlock] at hb5 <;> omega
        have hS5 := hS.kept hk5'
        clear hown hA' hb5 hk5
        go_wp2_with fail
        refine (took_call w5 S s s' _ _ A' m c' (l.take 100) hS5 hsp' hA'S Hm2.out hmc' hs1 hs2 hs3 (by omega) Hw.out.1).mono ?_
        rintro en w6 ⟨rfl, hS6, hk6⟩
        have hk6' : Kp [S] wr w6 := (hk5'.mono (by simp)).trans hk6 (by simp)
        have hcl6 := hk6'.cell hclr (by simpa [add_block] using hadS)
        have hsp6 := hsp.kept (hkr.trans hk6' (by intro x hx hl; simp at hx; omega))
        have hcv6 := run_text (P := Try.prog) Try.underlying22 Try.underlying5 Try.underlying9 (Span.sub0 hsp6 _ (u8s X) (by rw [HXq.out, u8s_take])) _ ci HQ.out
        clear hsp' hk5' hS5 hmc' hcl4
        go_wp2_with fail
        refine (short_at _ _ _ _ m hni hlen2 Hm1.out).mono ?_
        rintro en w7 ⟨rfl, rfl⟩
        go_wp2_with fail
        refine (dead_at w6 S s' true hS6 d2).mono ?_
        rintro en w7 ⟨rfl, rfl⟩
        go_wp2_with fail
        refine (short_at _ _ _ _ m hni hlen2 Hm1.out).mono ?_
        rintro en w7 ⟨rfl, rfl⟩
        have hadd := run_add_text (P := Try.prog) s.xs X s'.xs HX.out HX2.out
        go_wp2_with fail
        refine (bytes_any w6 S s' hS6 HX3.out).mono ?_
        rintro en w7 ⟨A7, c7, rfl, hsp7, hk7, _⟩
        have hcv7 := run_text (P := Try.prog) Try.underlying22 Try.underlying5 Try.underlying9 hsp7 _ c7 rfl
        have hS7 := hS6.kept hk7
        rcases HX4.out with ⟨f1, f2⟩ | ⟨f1, f2⟩
        all_goals
          go_wp2_with fail
          refine (len_any _ _ _ hS7).mono ?_
          rintro en w8 ⟨rfl, rfl⟩
          go_wp2_with fail
          all_goals
            go_roundw
            case rel => exact ⟨k + 1, s', by omega, by omega, by go_num, rfl, hS7, Hw.out.2.2, (hk4.trans hk6' (by simp)).nil hk7⟩
            case measure => simp [intOf]; omega
      · refine (dead_at wr S s false hS d1).mono ?_
        rintro en w4 ⟨rfl, rfl⟩
        have hcl4 := ((Kp.refl [] wr).alloc (.cells #[] 5)).cell hclr (by simp)
        go_wp2_with fail
        refine (short_at _ _ _ _ m hni hlen2 Hm1.out).mono ?_
        rintro en w4 ⟨rfl, rfl⟩
        go_wp2_with (at_builtin; go_must (refine wpList_append1 rfl _ _ 22 rfl 5 (.int .u8 0) 1 Try.underlying22 info5 rfl _ 0 _ rfl (Own.of_cells (Cells.fresh wr 5 []) (by simp)) _ _ ci (u8s (l.take 100)) rfl ((Span.alloc hspr _).sub0 100 _ (u8s_take _ _)) (by rw [length_u8s]; exact Hm2.out) (u8s_one _) ?_ ?_ ?_))
        · omega
        · omega
        intro v' w5 hown hk5 hb5
        try simp only [Nat.zero_add, List.nil_append] at hown
        obtain ⟨A', c', rfl, hsp', hmc', _, hA'⟩ := hown.shape
        have hk5' : Kp [] wr w5 := ((Kp.refl [] wr).alloc _).trans hk5 (by intro x hx hl; simp [Value.ownBlock] at hx; omega)
        have hA'S : ∀ ad, A' = some ad → ad.block ≠ S := fun ad' h => by
          obtain ⟨_, h2⟩ := hA' ad' h
          rw [h2] at hb5
          have := hS.lt
          rcases hb5 with hb5 | hb5 <;> simp [Value.ownBlock] at hb5 <;> omega
        have hS5 := hS.kept hk5'
        clear hown hA' hb5 hk5
        go_wp2_with fail
        refine (took_call w5 S s s' _ _ A' m c' (l.take 100) hS5 hsp' hA'S Hm2.out hmc' hs1 hs2 hs3 (by omega) Hw.out.1).mono ?_
        rintro en w6 ⟨rfl, hS6, hk6⟩
        have hk6' : Kp [S] wr w6 := (hk5'.mono (by simp)).trans hk6 (by simp)
        have hcl6 := hk6'.cell hclr (by simpa [add_block] using hadS)
        have hsp6 := hsp.kept (hkr.trans hk6' (by intro x hx hl; simp at hx; omega))
        have hcv6 := run_text (P := Try.prog) Try.underlying22 Try.underlying5 Try.underlying9 (Span.sub0 hsp6 _ (u8s X) (by rw [HXq.out, u8s_take])) _ ci HQ.out
        clear hsp' hk5' hS5 hmc' hcl4
        go_wp2_with fail
        refine (short_at _ _ _ _ m hni hlen2 Hm1.out).mono ?_
        rintro en w7 ⟨rfl, rfl⟩
        go_wp2_with fail
        refine (dead_at w6 S s' true hS6 d2).mono ?_
        rintro en w7 ⟨rfl, rfl⟩
        go_wp2_with fail
        refine (short_at _ _ _ _ m hni hlen2 Hm1.out).mono ?_
        rintro en w7 ⟨rfl, rfl⟩
        have hadd := run_add_text (P := Try.prog) s.xs X s'.xs HX.out HX2.out
        go_wp2_with fail
        refine (bytes_any w6 S s' hS6 HX3.out).mono ?_
        rintro en w7 ⟨A7, c7, rfl, hsp7, hk7, _⟩
        have hcv7 := run_text (P := Try.prog) Try.underlying22 Try.underlying5 Try.underlying9 hsp7 _ c7 rfl
        have hS7 := hS6.kept hk7
        rcases HX4.out with ⟨f1, f2⟩ | ⟨f1, f2⟩
        all_goals
          go_wp2_with fail
          refine (len_any _ _ _ hS7).mono ?_
          rintro en w8 ⟨rfl, rfl⟩
          go_wp2_with fail
          all_goals
            go_roundw
            case rel => exact ⟨k + 1, s', by omega, by omega, by go_num, rfl, hS7, Hw.out.2.2, (hk4.trans hk6' (by simp)).nil hk7⟩
            case measure => simp [intOf]; omega
      · refine (dead_at wr S s false hS d1).mono ?_
        rintro en w4 ⟨rfl, rfl⟩
        have hcl4 := ((Kp.refl [] wr).alloc (.cells #[] 5)).cell hclr (by simp)
        go_wp2_with fail
        refine (short_at _ _ _ _ m hni hlen2 Hm1.out).mono ?_
        rintro en w4 ⟨rfl, rfl⟩
        go_wp2_with (at_builtin; go_must (refine wpList_append1 rfl _ _ 22 rfl 5 (.int .u8 0) 1 Try.underlying22 info5 rfl _ 0 _ rfl (Own.of_cells (Cells.fresh wr 5 []) (by simp)) _ _ ci (u8s (l.take 100)) rfl ((Span.alloc hspr _).sub0 100 _ (u8s_take _ _)) (by rw [length_u8s]; exact Hm2.out) (u8s_one _) ?_ ?_ ?_))
        · omega
        · omega
        intro v' w5 hown hk5 hb5
        try simp only [Nat.zero_add, List.nil_append] at hown
        obtain ⟨A', c', rfl, hsp', hmc', _, hA'⟩ := hown.shape
        have hk5' : Kp [] wr w5 := ((Kp.refl [] wr).alloc _).trans hk5 (by intro x hx hl; simp [Value.ownBlock] at hx; omega)
        have hA'S : ∀ ad, A' = some ad → ad.block ≠ S := fun ad' h => by
          obtain ⟨_, h2⟩ := hA' ad' h
          rw [h2] at hb5
          have := hS.lt
          rcases hb5 with hb5 | hb5 <;> simp [Value.ownBlock] at hb5 <;> omega
        have hS5 := hS.kept hk5'
        clear hown hA' hb5 hk5
        go_wp2_with fail
        refine (took_call w5 S s s' _ _ A' m c' (l.take 100) hS5 hsp' hA'S Hm2.out hmc' hs1 hs2 hs3 (by omega) Hw.out.1).mono ?_
        rintro en w6 ⟨rfl, hS6, hk6⟩
        have hk6' : Kp [S] wr w6 := (hk5'.mono (by simp)).trans hk6 (by simp)
        have hcl6 := hk6'.cell hclr (by simpa [add_block] using hadS)
        have hsp6 := hsp.kept (hkr.trans hk6' (by intro x hx hl; simp at hx; omega))
        have hcv6 := run_text (P := Try.prog) Try.underlying22 Try.underlying5 Try.underlying9 (Span.sub0 hsp6 _ (u8s X) (by rw [HXq.out, u8s_take])) _ ci HQ.out
        clear hsp' hk5' hS5 hmc' hcl4
        go_wp2_with fail
        refine (short_at _ _ _ _ m hni hlen2 Hm1.out).mono ?_
        rintro en w7 ⟨rfl, rfl⟩
        go_wp2_with fail
        refine (short_at _ _ _ _ m hni hlen2 Hm1.out).mono ?_
        rintro en w7 ⟨rfl, rfl⟩
        have hadd := run_add_text (P := Try.prog) s.xs X s'.xs HX.out HX2.out
        go_wp2_with fail
        refine (bytes_any w6 S s' hS6 HX3.out).mono ?_
        rintro en w7 ⟨A7, c7, rfl, hsp7, hk7, _⟩
        have hcv7 := run_text (P := Try.prog) Try.underlying22 Try.underlying5 Try.underlying9 hsp7 _ c7 rfl
        have hS7 := hS6.kept hk7
        rcases HX4.out with ⟨f1, f2⟩ | ⟨f1, f2⟩
        all_goals
          go_wp2_with fail
          refine (len_any _ _ _ hS7).mono ?_
          rintro en w8 ⟨rfl, rfl⟩
          go_wp2_with fail
          all_goals
            go_roundw
            case rel => exact ⟨k + 1, s', by omega, by omega, by go_num, rfl, hS7, Hw.out.2.2, (hk4.trans hk6' (by simp)).nil hk7⟩
            case measure => simp [intOf]; omega
      · have hqm' := hqm.symm
        subst hqm'
        refine (dead_at wr S s false hS d1).mono ?_
        rintro en w4 ⟨rfl, rfl⟩
        have hcl4 := ((Kp.refl [] wr).alloc (.cells #[] 5)).cell hclr (by simp)
        go_wp2_with fail
        refine (short_at _ _ _ _ m hni hlen2 Hm1.out).mono ?_
        rintro en w4 ⟨rfl, rfl⟩
        go_wp2_with (at_builtin; go_must (refine wpList_append1 rfl _ _ 22 rfl 5 (.int .u8 0) 1 Try.underlying22 info5 rfl _ 0 _ rfl (Own.of_cells (Cells.fresh wr 5 []) (by simp)) _ _ ci (u8s (l.take 100)) rfl ((Span.alloc hspr _).sub0 100 _ (u8s_take _ _)) (by rw [length_u8s]; exact Hm2.out) (u8s_one _) ?_ ?_ ?_))
        · omega
        · omega
        intro v' w5 hown hk5 hb5
        try simp only [Nat.zero_add, List.nil_append] at hown
        obtain ⟨A', c', rfl, hsp', hmc', _, hA'⟩ := hown.shape
        have hk5' : Kp [] wr w5 := ((Kp.refl [] wr).alloc _).trans hk5 (by intro x hx hl; simp [Value.ownBlock] at hx; omega)
        have hA'S : ∀ ad, A' = some ad → ad.block ≠ S := fun ad' h => by
          obtain ⟨_, h2⟩ := hA' ad' h
          rw [h2] at hb5
          have := hS.lt
          rcases hb5 with hb5 | hb5 <;> simp [Value.ownBlock] at hb5 <;> omega
        have hS5 := hS.kept hk5'
        clear hown hA' hb5 hk5
        go_wp2_with fail
        refine (took_call w5 S s s' _ _ A' m c' (l.take 100) hS5 hsp' hA'S Hm2.out hmc' hs1 hs2 hs3 (by omega) Hw.out.1).mono ?_
        rintro en w6 ⟨rfl, hS6, hk6⟩
        have hk6' : Kp [S] wr w6 := (hk5'.mono (by simp)).trans hk6 (by simp)
        have hcl6 := hk6'.cell hclr (by simpa [add_block] using hadS)
        have hsp6 := hsp.kept (hkr.trans hk6' (by intro x hx hl; simp at hx; omega))
        have hcv6 := run_text (P := Try.prog) Try.underlying22 Try.underlying5 Try.underlying9 (Span.sub0 hsp6 _ (u8s X) (by rw [HXq.out, u8s_take])) _ ci HQ.out
        clear hsp' hk5' hS5 hmc' hcl4
        go_wp2_with fail
        refine (short_at _ _ _ _ m hni hlen2 Hm1.out).mono ?_
        rintro en w7 ⟨rfl, rfl⟩
        go_wp2_with fail
        refine (short_at _ _ _ _ m hni hlen2 Hm1.out).mono ?_
        rintro en w7 ⟨rfl, rfl⟩
        go_wp2_with fail
        refine (short_at _ _ _ _ m hni hlen2 Hm1.out).mono ?_
        rintro en w7 ⟨rfl, rfl⟩
        have hadd := run_add_text (P := Try.prog) s.xs X s'.xs HX.out HX2.out
        go_wp2_with fail
        refine (bytes_any w6 S s' hS6 HX3.out).mono ?_
        rintro en w7 ⟨A7, c7, rfl, hsp7, hk7, _⟩
        have hcv7 := run_text (P := Try.prog) Try.underlying22 Try.underlying5 Try.underlying9 hsp7 _ c7 rfl
        have hS7 := hS6.kept hk7
        rcases HX4.out with ⟨f1, f2⟩ | ⟨f1, f2⟩
        all_goals
          go_wp2_with fail
          refine (len_any _ _ _ hS7).mono ?_
          rintro en w8 ⟨rfl, rfl⟩
          go_wp2_with fail
          all_goals
            go_roundw
            case rel => exact ⟨k + 1, s', by omega, by omega, by go_num, rfl, hS7, Hw.out.2.2, (hk4.trans hk6' (by simp)).nil hk7⟩
            case measure => simp [intOf]; omega
    · have hlt' : (k < n ∧ 60 ≤ k) ∨ n ≤ k := by omega
      rcases hlt' with ⟨hlt1, hlt2⟩ | hlt1
      all_goals
        go_wp2_with fail
        go_ret
        exact ⟨rfl, hkr⟩
end Go.Proofs.Ytepeopfdenieeaa
