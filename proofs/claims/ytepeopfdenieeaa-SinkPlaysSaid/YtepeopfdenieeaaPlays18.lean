/- SinkPlays: a sink of any room takes any bytes as the reference says, or refuses, or crashes. -/
import Derived.Test.YtepeopfdenieeaaRef18
import Derived.Test.YtepeopfdenieeaaPrefix
namespace Go.Proofs.Ytepeopfdenieeaa
open Go Go.RowKit

theorem Own.block {w : World} {e : TypeId} {v : Value} {n : Nat} {xs : List Value} (h : Own w e v n xs) (hn : 0 < n) : ∃ g c cs, v = .slice (some ⟨g, 0, none⟩) n c ∧ Cells w g e cs ∧ n ≤ cs.length := by
  obtain ⟨h1, h2⟩ := h
  rcases h2 with ⟨rfl, rfl⟩ | ⟨g, cap, cur, rfl, _, hg, hc, _, hs, _⟩
  · omega
  · exact ⟨g, cap, cur.toList, rfl, by simpa [Cells] using hg, by simp; omega⟩

def ClonePost (w : World) (s : SK) (e : Ending) (w' : World) : Prop := e = .returned (.pointer (some ⟨w.heap.size, 0, none⟩)) ∧ SinkAt w' w.heap.size s ∧ Kp [] w w'
theorem clone_any (w : World) (a : Nat) (s : SK) (hs : SinkAt w a s) :
    Calls Try.prog 14 #[.pointer (some ⟨a, 0, none⟩)] w (ClonePost w s) := by
  obtain ⟨R, hc, hr⟩ := hs
  have hc3 : w.cell? ⟨a, 3, none⟩ = _ := hc.cell 3
  have hc2 : w.cell? ⟨a, 2, none⟩ = _ := hc.cell 2
  have hc1 : w.cell? ⟨a, 1, none⟩ = _ := hc.cell 1
  have hc0 : w.cell? ⟨a, 0, none⟩ = _ := hc.cell 0
  simp only [List.getElem?_cons_zero, List.getElem?_cons_succ] at hc3 hc2 hc1 hc0
  go_enter Try.func14, Try.ntmps14
  go_wp2_with fail
  go_ret
  exact ⟨rfl, ⟨R, Cells.fresh _ _ _, hr.kept ((Kp.refl _ _).alloc _)⟩, (Kp.refl _ _).alloc _⟩

/-- The reference's sink that goes with a sink. -/
def toR (crash : Int) (s : SK) : RK := ⟨s.xs, s.room, crash, s.dead⟩
def PInv (room crash : Int) (s : SK) : Prop := SInv room crash s ∧ (s.dead = false → 0 ≤ crash → s.left = crash - s.xs.length)
theorem PInv.make (room crash : Int) : PInv room crash (SK.make room crash) := ⟨SInv.make room crash, fun _ h => by simp only [SK.make, List.length_nil]; omega⟩
theorem RK.write_mk (xs ys : List UInt8) (room crash : Int) : (RK.mk xs room crash false).write ys =
  if 0 ≤ crash ∧ crash < xs.length + ys.length then (RK.mk (xs ++ ys.take (crash - xs.length).toNat) room crash true, max 0 (crash - xs.length), 51)
  else if room < xs.length + ys.length then (RK.mk xs room crash false, 0, 50) else (RK.mk (xs ++ ys) room crash false, (ys.length : Int), 0) := rfl
theorem SK.write_mk (xs ys : List UInt8) (room left : Int) : (SK.mk xs room left false).write ys =
  if 0 ≤ left ∧ left < ys.length then (SK.mk (xs ++ ys.take left.toNat) room 0 true, left, 51)
  else if room < xs.length + ys.length then (SK.mk xs room left false, 0, 50) else (SK.mk (xs ++ ys) room (if 0 ≤ left then left - ys.length else left) false, (ys.length : Int), 0) := rfl
theorem toR_write (room crash : Int) (s : SK) (ys : List UInt8) (h : PInv room crash s) :
    (toR crash s).write ys = (toR crash (s.write ys).1, (s.write ys).2) ∧ PInv room crash s := by
  obtain ⟨⟨h1, h2, h3, h4, h5⟩, h6⟩ := h
  refine ⟨?_, ⟨h1, h2, h3, h4, h5⟩, h6⟩
  obtain ⟨xs, R, left, dead⟩ := s
  simp only at h1 h2 h3 h4 h5 h6
  cases dead
  · simp only [toR]
    rw [RK.write_mk, SK.write_mk]
    by_cases hc : 0 ≤ left ∧ left < ys.length
    · have h6' := h6 rfl (by omega)
      have hL : 0 ≤ crash ∧ crash < (xs.length : Int) + ys.length := by omega
      rw [if_pos hL, if_pos hc]
      simp only
      rw [Int.max_eq_right (by omega), h6']
    · have hL : ¬ (0 ≤ crash ∧ crash < (xs.length : Int) + ys.length) := by
        intro hL
        have := h6 rfl hL.1
        omega
      rw [if_neg hL, if_neg hc]
      by_cases hr : R < xs.length + ys.length
      · rw [if_pos hr, if_pos hr]
      · rw [if_neg hr, if_neg hr]
  · simp [toR, RK.write, SK.write]
theorem PInv.write (room crash : Int) (s : SK) (ys : List UInt8) (hy : ys.length ≤ 100) (h : PInv room crash s) : PInv room crash (s.write ys).1 := by
  obtain ⟨_, _, _, _, _, _, h2⟩ := write_took room crash s ys ys.length rfl hy h.1
  refine ⟨h2, ?_⟩
  obtain ⟨h1, h6⟩ := h
  obtain ⟨xs, R, left, dead⟩ := s
  simp only [SK.write] at *
  cases dead
  · rw [if_neg (by simp)]
    by_cases hc : 0 ≤ left ∧ left < ys.length
    · rw [if_pos hc]; simp
    · rw [if_neg hc]
      by_cases hr : R < xs.length + ys.length
      · rw [if_pos hr]; exact h6
      · rw [if_neg hr]
        intro _ hcr
        have := h6 rfl hcr
        obtain ⟨_, h2, _⟩ := h1
        simp only [List.length_append] at *
        rw [if_pos (by omega)]
        omega
  · simp

theorem SinkAt.away {w : World} {a g : Nat} {s : SK} (h : SinkAt w a s) (hg : w.heap.size ≤ g) : SinkAway w a s g := by
  obtain ⟨R, h1, h2⟩ := h
  refine ⟨R, ⟨h1, h2⟩, fun ad e => ?_⟩
  rcases h2 with ⟨rfl, _⟩ | ⟨g', rfl, h2⟩
  · cases e
  · injection e with e; subst e; have := h2.lt; simp; omega
theorem SinkAway.at_ {w : World} {a g : Nat} {s : SK} (h : SinkAway w a s g) : SinkAt w a s := by
  obtain ⟨R, h1, _⟩ := h
  exact ⟨R, h1⟩
theorem SinkAway.keep {w w' : World} {a g : Nat} {s : SK} {S : List Nat} (h : SinkAway w a s g) (k : Kp S w w') (ha : a ∉ S) (hS : ∀ x ∈ S, ∀ cs, ¬ Cells w x 5 cs) : SinkAway w' a s g := by
  obtain ⟨R, ⟨h1, h2⟩, h3⟩ := h
  exact ⟨R, ⟨h1.keep k ha, h2.keep k hS⟩, h3⟩
theorem SinkAway.wrote {w w' : World} {a g : Nat} {s : SK} (h : SinkAway w a s g) (k : Kp [g] w w') (ha : a ≠ g) : SinkAt w' a s := by
  obtain ⟨R, ⟨h1, h2⟩, h3⟩ := h
  refine ⟨R, h1.keep k (by simpa using ha), ?_⟩
  rcases h2 with ⟨rfl, h2⟩ | ⟨g', rfl, h2⟩
  · exact .inl ⟨rfl, h2⟩
  · exact .inr ⟨g', rfl, h2.keep k (by simpa using h3 _ rfl)⟩
theorem RefAt.away {w : World} {a g : Nat} {s : RK} (h : RefAt w a s) (hg : w.heap.size ≤ g) : RefAway w a s g := by
  obtain ⟨v, h1, h2⟩ := h
  exact ⟨v, h1, h2, fun e => by have := h2.lt g e; omega⟩
theorem RefAway.at_ {w : World} {a g : Nat} {s : RK} (h : RefAway w a s g) : RefAt w a s := by
  obtain ⟨v, h1, h2, _⟩ := h
  exact ⟨v, h1, h2⟩
theorem RefAway.keep {w w' : World} {a g : Nat} {s : RK} {S : List Nat} (h : RefAway w a s g) (k : Kp S w w') (ha : a ∉ S) (hS : ∀ x ∈ S, ∀ cs, ¬ Cells w x 5 cs) : RefAway w' a s g := by
  obtain ⟨v, h1, h2, h3⟩ := h
  refine ⟨v, h1.keep k ha, h2.keep k (fun x hx hm => ?_), h3⟩
  rcases h2.2 with ⟨rfl, _⟩ | ⟨g', cap, cur, rfl, _, hg, _⟩
  · simp [Value.ownBlock] at hx
  · have : g' = x := by simpa [Value.ownBlock] using hx
    subst this
    exact hS g' hm cur.toList (by simpa [Cells] using hg)
theorem RefAt.keep {w w' : World} {a : Nat} {s : RK} {S : List Nat} (h : RefAt w a s) (k : Kp S w w') (ha : a ∉ S) (hS : ∀ x ∈ S, ∀ cs, ¬ Cells w x 5 cs) : RefAt w' a s :=
  ((h.away (Nat.le_refl _)).keep k ha hS).at_
theorem RefAt.kept {w w' : World} {a : Nat} {s : RK} (h : RefAt w a s) (k : Kp [] w w') : RefAt w' a s := h.keep k (by simp) (by simp)
theorem RefAway.wrote {w w' : World} {a g : Nat} {s : RK} (h : RefAway w a s g) (k : Kp [g] w w') (ha : a ≠ g) : RefAt w' a s := by
  obtain ⟨v, h1, h2, h3⟩ := h
  exact ⟨v, h1.keep k (by simpa using ha), h2.keep k (fun x hx hm => by simp at hm; subst hm; exact h3 hx)⟩
theorem RefAt.lt {w : World} {a : Nat} {s : RK} (h : RefAt w a s) : a < w.heap.size := by
  obtain ⟨v, h1, _⟩ := h
  exact h1.lt
theorem RefAt.not {w : World} {a : Nat} {s : RK} (h : RefAt w a s) : ∀ cs, ¬ Cells w a 5 cs := by
  obtain ⟨v, h1, _⟩ := h
  exact h1.not (by decide)
theorem SinkAt.ne_ref {w : World} {a b : Nat} {s : SK} {r : RK} (h : SinkAt w a s) (k : RefAt w b r) : a ≠ b := by
  obtain ⟨R, h1, _⟩ := h
  obtain ⟨v, k1, _⟩ := k
  exact h1.ne k1 (by decide)

def RTookPost (w : World) (a : Nat) (s s' : RK) (q : Nat) (e : Int) (en : Ending) (w' : World) : Prop := en = .returned (.tuple #[.int .i64 q, .int .i64 e]) ∧ RefAt w' a s' ∧ Kp [a] w w' ∧ ∀ g, g < w.heap.size → RefAway w a s g → RefAway w' a s' g
theorem rtook_call (w : World) (a : Nat) (s s' : RK) (q : Nat) (e : Int) (A : Option Addr) (n c : Nat) (ys : List UInt8) (hs : RefAt w a s) (hb : Span w A (u8s ys)) (hn : ys.length = n) (hc : n ≤ c)
    (hl : s.dead = false → s.crash < 0 ∨ s.xs.length ≤ s.crash) (h1 : s.xs.length ≤ 10000000) (h2 : n ≤ 10000000) (hw : s.write ys = (s', (q : Int), e)) :
    Calls Try.prog 15 #[.pointer (some ⟨a, 0, none⟩), .slice A n c] w (RTookPost w a s s' q e) := by
  refine (rwrite_any w a s A n c ys hs hb hn hc hl h1 h2).mono ?_
  rintro en w' ⟨rfl, h3, h4, h5⟩
  rw [hw] at h3 h5 ⊢
  exact ⟨rfl, h3, h4, h5⟩
def PTookPost (w : World) (a : Nat) (s s' : SK) (q : Nat) (e : Int) (en : Ending) (w' : World) : Prop := en = .returned (.tuple #[.int .i64 q, .int .i64 e]) ∧ SinkAt w' a s' ∧ Kp [a] w w' ∧ ∀ g, g < w.heap.size → SinkAway w a s g → SinkAway w' a s' g
theorem ptook_call (w : World) (a : Nat) (s s' : SK) (q : Nat) (e : Int) (A : Option Addr) (n c : Nat) (ys : List UInt8) (hs : SinkAt w a s) (hb : Span w A (u8s ys)) (hA : ∀ ad, A = some ad → ad.block ≠ a) (hn : ys.length = n) (hc : n ≤ c)
    (hl1 : -1 ≤ s.left) (hl2 : s.left ≤ 9223372036854775807) (h1 : s.xs.length ≤ 10000000) (h2 : n ≤ 10000000) (hw : s.write ys = (s', (q : Int), e)) :
    Calls Try.prog 8 #[.pointer (some ⟨a, 0, none⟩), .slice A n c] w (PTookPost w a s s' q e) := by
  refine (write_any w a s A n c ys hs hb hA hn hc hl1 hl2 h1 h2).mono ?_
  rintro en w' ⟨rfl, h3, h4, h5⟩
  rw [hw] at h3 h5 ⊢
  exact ⟨rfl, h3, h4, h5⟩
end Go.Proofs.Ytepeopfdenieeaa
