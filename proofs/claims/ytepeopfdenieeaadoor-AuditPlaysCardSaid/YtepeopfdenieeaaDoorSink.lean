/- The sink of layer 18: what New, Write, Dead, Len do. -/
import Derived.Test.YtepeopfdenieeaaDoorChecked
import Derived.Test.YtepeopfdenieeaaDoorLaws
namespace Go.Proofs.YtepeopfdenieeaaDoor
open Go Go.RowKit

theorem info5 : (Tryd.prog.info? 5).map (fun i => (i.zero, i.size, i.bytes)) = some (some (.int .u8 0), 1, 1) := by kernel_rfl
theorem size5 : (Tryd.prog.info? 5).map (·.size) = some 1 := by kernel_rfl

/-- The sink at block a, its row named. -/
def SinkC (w : World) (a : Nat) (R : Option Addr) (xs : List UInt8) (room left : Int) (dead : Bool) : Prop :=
  Cells w a 84 [.slice R xs.length xs.length, .int .i64 room, .int .i64 left, .bool dead] ∧ Row w 5 R (u8s xs)

def SPutPost (w : World) (a : Nat) (xs ys : List UInt8) (room left : Int) (dead : Bool) (e : Ending) (w' : World) : Prop :=
  e = .returned (.int .i64 ys.length) ∧ ∃ R', SinkC w' a R' (xs ++ ys) room (if 0 ≤ left then left - ys.length else left) dead ∧ Kp [a] w w' ∧ ∀ ad, R' = some ad → w.heap.size ≤ ad.block

theorem put_end {w w3 : World} {a g m n : Nat} {R : Option Addr} {xs ys : List UInt8} {room left left' : Int} {dead : Bool} {Z : List Value}
    (hsc3 : Cells w3 a 84 [.slice R m m, .int .i64 room, .int .i64 left, .bool dead]) (hg3 : Cells w3 g 5 (splice (splice Z 0 (u8s xs)) m (u8s ys)))
    (hne : a ≠ g) (hgn : w.heap.size ≤ g) (Hm : m = xs.length) (Hn : ys.length = n) (Hr : Z.length = m + n) (hk : Kp [] w w3) (w' : World)
    (hl : (left < 0 ∧ left' = left ∧ w' = w3.setCell ⟨a, 0, none⟩ (.slice (some ⟨g, 0, none⟩) (m + n) (m + n))) ∨
      (0 ≤ left ∧ left' = left - n ∧ w' = (w3.setCell ⟨a, 0, none⟩ (.slice (some ⟨g, 0, none⟩) (m + n) (m + n))).setCell ⟨a, 2, none⟩ (.int .i64 left'))) :
    SPutPost w a xs ys room left dead (.returned (.int .i64 n)) w' := by
  subst Hm Hn
  have hz := splice_two Z (u8s xs) (u8s ys) (by rw [length_u8s, length_u8s]; exact Hr)
  rw [length_u8s] at hz
  rw [hz, ← u8s_append] at hg3
  refine ⟨rfl, some ⟨g, 0, none⟩, ?_, ?_, fun ad h => by injection h with h; subst h; exact hgn⟩
  · rcases hl with ⟨h0, rfl, rfl⟩ | ⟨h0, rfl, rfl⟩
    · rw [if_neg (by omega)]
      refine ⟨?_, Row.of_cells (hg3.other (Ne.symm hne) _)⟩
      simpa using hsc3.put 0 (.slice (some ⟨g, 0, none⟩) (xs.length + ys.length) (xs.length + ys.length))
    · rw [if_pos h0]
      refine ⟨?_, Row.of_cells ((hg3.other (Ne.symm hne) _).other (Ne.symm hne) _)⟩
      simpa using (hsc3.put 0 (.slice (some ⟨g, 0, none⟩) (xs.length + ys.length) (xs.length + ys.length))).put 2 (.int .i64 (left - ys.length))
  · have hk' : Kp [a] w w3 := hk.mono (by simp)
    rcases hl with ⟨h0, rfl, rfl⟩ | ⟨h0, rfl, rfl⟩
    · exact hk'.setCell (fun _ => by simp) _
    · exact (hk'.setCell (fun _ => by simp) _).setCell (fun _ => by simp) _

set_option maxHeartbeats 400000 in
theorem sput_any (w : World) (a : Nat) (R : Option Addr) (xs : List UInt8) (room left : Int) (dead : Bool) (A : Option Addr) (n c : Nat) (ys : List UInt8)
    (hs : SinkC w a R xs room left dead) (hb : Span w A (u8s ys)) (hn : ys.length = n) (hl : -1 ≤ left) (hl2 : left ≤ 9223372036854775807) (h1 : xs.length ≤ 10000000) (h2 : n ≤ 10000000) :
    Calls Tryd.prog 54 #[.pointer (some ⟨a, 0, none⟩), .slice A n c] w (SPutPost w a xs ys room left dead) := by
  obtain ⟨hsc, hsr0⟩ := hs
  have hsr := hsr0.span
  have hla := hsc.lt
  obtain ⟨m, hm⟩ : ∃ m, m = xs.length := ⟨_, rfl⟩
  rw [← hm] at hsc h1
  have Hm := hid hm
  have Hn := hid hn
  clear hm hn
  have hc0 : w.cell? ⟨a, 0, none⟩ = _ := hsc.cell 0
  go_enter Tryd.func54, Tryd.ntmps54
  go_wp2_with (at_make; go_must (refine wpList_make1 rfl _ _ 25 rfl 5 (.int .u8 0) 1 Tryd.underlying25 info5 rfl .i64 .i64 _ _ (m + n) rfl rfl ?_ ?_ ?_ ?_ ?_))
  · omega
  · omega
  · omega
  · omega
  intro w1 Z HZ hg1 hk1
  have hsc1 := hsc.keep hk1 (by simp)
  have hc10 : w1.cell? ⟨a, 0, none⟩ = _ := hsc1.cell 0
  have hf10 := hsc1.free 0
  have hxl : xs.length = m := Hm.out.symm
  have hyl : ys.length = n := Hn.out
  have hq : (u8s xs).length = m := by rw [length_u8s, hxl]
  have hq2 : (u8s ys).length = n := by rw [length_u8s, hyl]
  have hr : Z.length = m + n := by rw [HZ.out]; simp
  have Hq := hid hq
  have Hq2 := hid hq2
  have Hr := hid hr
  clear hq hxl hyl hq2 hr
  have hsr1 := hsr.kept hk1
  have hb1 := hb.kept hk1
  have hga := hsc1.ne hg1 (by decide)
  go_wp2_with (with_reducible (refine wpList_copy1 (o := ⟨some 21, _, _, _, _, _⟩) rfl _ _ 25 25 rfl 5 Tryd.underlying25 size5 _ _ _ _ _ _ rfl rfl w.heap.size 0 _ 5 hg1 (u8s xs) m Hq.out ?_ (fun _ => rfl) hsr1 ?_ (u8s_one _) ?_))
  · exact (Nat.min_eq_left (by omega)).symm
  · have := Hr.out; omega
  intro w2 hg2 hk2
  have hk12 := hk1.fresh hk2 (Nat.le_refl _)
  have hb2 := hb.kept hk12
  have hc20 : w2.cell? ⟨a, 0, none⟩ = _ := (hsc.keep hk12 (by simp)).cell 0
  go_wp2_with (with_reducible (refine wpList_copy1 (o := ⟨some 24, _, _, _, _, _⟩) rfl _ _ 25 25 rfl 5 Tryd.underlying25 size5 _ _ _ _ _ _ rfl rfl w.heap.size m _ 5 hg2.out (u8s ys) n Hq2.out ?_ ?_ hb2 ?_ (u8s_one _) ?_))
  · simp
  · have := Hr.out
    rw [length_splice _ _ _ (by have := Hq.out; omega)]
    omega
  all_goals
    intro w3 hg3 hk3
    have hk13 := hk12.fresh hk3 (Nat.le_refl _)
    have hsc3 := hsc.keep hk13 (by simp)
    have hc30 : w3.cell? ⟨a, 0, none⟩ = _ := hsc3.cell 0
    have hc32 : w3.cell? ⟨a, 2, none⟩ = _ := hsc3.cell 2
    have hf3 : ∀ i, w3.frozen? ⟨a, i, none⟩ = false := hsc3.free
    simp only [List.getElem?_cons_zero, List.getElem?_cons_succ] at hc30 hc32
    go_wp2_with fail
    all_goals go_ret
    all_goals (try (rename n = 0 => h0; subst h0))
    · exact put_end hsc3 hg3.out hga (Nat.le_refl _) Hm.out Hn.out Hr.out hk13 _ (.inr ⟨by omega, by omega, rfl⟩)
    · exact put_end hsc3 hg3.out hga (Nat.le_refl _) Hm.out Hn.out Hr.out hk13 _ (.inl ⟨by omega, rfl, rfl⟩)

structure SK where
  xs : List UInt8
  room : Int
  left : Int
  dead : Bool

/-- What one Write does: the new state, how many bytes, which error. -/
def SK.write (s : SK) (ys : List UInt8) : SK × Int × Int :=
  if s.dead then (s, 0, 51)
  else if 0 ≤ s.left ∧ s.left < ys.length then
    ({ s with xs := s.xs ++ ys.take s.left.toNat, left := 0, dead := true }, s.left, 51)
  else if s.room < s.xs.length + ys.length then (s, 0, 50)
  else ({ s with xs := s.xs ++ ys, left := if 0 ≤ s.left then s.left - ys.length else s.left }, ys.length, 0)

/-- The sink at block a is in this state. -/
def SinkAt (w : World) (a : Nat) (s : SK) : Prop := ∃ R, SinkC w a R s.xs s.room s.left s.dead
theorem SinkAt.keep {w w' : World} {a : Nat} {s : SK} {S : List Nat} (h : SinkAt w a s) (k : Kp S w w') (ha : a ∉ S) (hS : ∀ x ∈ S, ∀ cs, ¬ Cells w x 5 cs) : SinkAt w' a s := by
  obtain ⟨R, h1, h2⟩ := h
  exact ⟨R, h1.keep k ha, h2.keep k hS⟩
theorem SinkAt.kept {w w' : World} {a : Nat} {s : SK} (h : SinkAt w a s) (k : Kp [] w w') : SinkAt w' a s := h.keep k (by simp) (by simp)
theorem SinkAt.not {w : World} {a : Nat} {s : SK} (h : SinkAt w a s) : ∀ cs, ¬ Cells w a 5 cs := by
  obtain ⟨R, h1, _⟩ := h
  exact h1.not (by decide)
theorem SinkAt.beside {w w' : World} {a b : Nat} {s u : SK} (h : SinkAt w a s) (k : Kp [b] w w') (hb : SinkAt w b u) (hne : a ≠ b) : SinkAt w' a s :=
  h.keep k (by simpa using hne) (by intro x hx; simp at hx; subst hx; exact hb.not)
theorem SinkAt.lt {w : World} {a : Nat} {s : SK} (h : SinkAt w a s) : a < w.heap.size := by
  obtain ⟨R, h1, _⟩ := h
  exact h1.lt
/-- Its row is not block g. -/
def SinkAway (w : World) (a : Nat) (s : SK) (g : Nat) : Prop := ∃ R, SinkC w a R s.xs s.room s.left s.dead ∧ ∀ ad, R = some ad → ad.block ≠ g
def WritePost (w : World) (a : Nat) (s : SK) (ys : List UInt8) (e : Ending) (w' : World) : Prop :=
  e = .returned (.tuple #[.int .i64 (s.write ys).2.1, .int .i64 (s.write ys).2.2]) ∧ SinkAt w' a (s.write ys).1 ∧ Kp [a] w w' ∧ ∀ g, g < w.heap.size → SinkAway w a s g → SinkAway w' a (s.write ys).1 g


set_option maxHeartbeats 400000 in
theorem write_dead (w : World) (a : Nat) (s : SK) (A : Option Addr) (n c : Nat) (ys : List UInt8) (hs : SinkAt w a s) (hd : s.dead = true) :
    Calls Tryd.prog 48 #[.pointer (some ⟨a, 0, none⟩), .slice A n c] w (WritePost w a s ys) := by
  have he : s.write ys = (s, 0, 51) := by simp [SK.write, hd]
  have HE := hid he
  clear he
  obtain ⟨R, hc, hsp⟩ := hs
  rw [hd] at hc
  have hc3 : w.cell? ⟨a, 3, none⟩ = _ := hc.cell 3
  simp only [List.getElem?_cons_zero, List.getElem?_cons_succ] at hc3
  have HD := hid hd
  clear hd
  go_enter Tryd.func48, Tryd.ntmps48
  go_wp2_with fail
  go_ret2
  refine ⟨?_, ?_, ?_, ?_⟩
  · rw [HE.out]; rfl
  · rw [HE.out]; exact ⟨R, by rw [HD.out]; exact hc, hsp⟩
  · exact Kp.refl _ _
  · rw [HE.out]; exact fun _ _ h => h

set_option maxHeartbeats 400000 in
theorem write_crash (w : World) (a : Nat) (s : SK) (A : Option Addr) (n c : Nat) (ys : List UInt8) (hs : SinkAt w a s) (hb : Span w A (u8s ys)) (hA : ∀ ad, A = some ad → ad.block ≠ a) (hn : ys.length = n)
    (hd : s.dead = false) (hl0 : 0 ≤ s.left) (hl : s.left < n) (hc0 : n ≤ c) (h1 : s.xs.length ≤ 10000000) (h2 : n ≤ 10000000) :
    Calls Tryd.prog 48 #[.pointer (some ⟨a, 0, none⟩), .slice A n c] w (WritePost w a s ys) := by
  obtain ⟨xs, room, left, dead⟩ := s
  simp only at hd hl0 hl h1
  subst hd
  obtain ⟨k, rfl⟩ := Int.eq_ofNat_of_zero_le hl0
  have he : (SK.mk xs room k false).write ys = (SK.mk (xs ++ ys.take k) room 0 true, (k : Int), 51) := by
    simp [SK.write, hn, hl]
  have HE := hid he
  have Hn := hid hn
  clear he hn
  obtain ⟨R, hc, hsp⟩ := hs
  have hc3 : w.cell? ⟨a, 3, none⟩ = _ := hc.cell 3
  have hc2 : w.cell? ⟨a, 2, none⟩ = _ := hc.cell 2
  have hf : ∀ i, w.frozen? ⟨a, i, none⟩ = false := hc.free
  simp only [List.getElem?_cons_zero, List.getElem?_cons_succ] at hc3 hc2
  go_enter Tryd.func48, Tryd.ntmps48
  go_wp2_with fail
  refine (sput_any _ a R xs room k true A k c (ys.take k) ⟨by simpa using hc.put 3 (.bool true), hsp.other (hc.not (by decide)) _⟩ ?_ ?_ (by omega) (by omega) h1 (by omega)).mono ?_
  · rw [u8s_take]; exact (hb.take k).setCell hA _
  · have := Hn.out; rw [List.length_take]; omega
  rintro e w' hp
  obtain ⟨he, R', hs', hk', hf'⟩ := hp
  have hl' : (ys.take k).length = k := by have := Hn.out; rw [List.length_take]; omega
  rw [hl'] at he hs'
  subst he
  have Hs := hid hs'
  have HF := hid hf'
  clear hs' hl' hf'
  go_wp2_with fail
  go_ret2
  have hs2 := Hs.out
  rw [if_pos (by omega), Int.sub_self] at hs2
  refine ⟨?_, ?_, ?_, ?_⟩
  · rw [HE.out]; rfl
  · rw [HE.out]
    exact ⟨R', hs2⟩
  · exact ((Kp.refl _ w).setCell (p := ⟨a, 3, none⟩) (fun _ => by simp) _).trans hk' (by simp)
  · rw [HE.out]
    intro g hg _
    exact ⟨R', hs2, fun ad h => by have := HF.out ad h; simp at this; omega⟩

set_option maxHeartbeats 400000 in
theorem write_full (w : World) (a : Nat) (s : SK) (A : Option Addr) (n c : Nat) (ys : List UInt8) (hs : SinkAt w a s) (hn : ys.length = n)
    (hd : s.dead = false) (hl : s.left < 0 ∨ n ≤ s.left) (hr : s.room < s.xs.length + n) (h1 : s.xs.length ≤ 10000000) (h2 : n ≤ 10000000) :
    Calls Tryd.prog 48 #[.pointer (some ⟨a, 0, none⟩), .slice A n c] w (WritePost w a s ys) := by
  obtain ⟨xs, room, left, dead⟩ := s
  simp only at hd hl h1 hr
  subst hd
  have he : (SK.mk xs room left false).write ys = (SK.mk xs room left false, 0, 50) := by
    simp [SK.write, hn]
    rw [if_neg (by omega), if_pos (by omega)]
  have HE := hid he
  clear he hn
  obtain ⟨R, hc, hsp⟩ := hs
  have hc3 : w.cell? ⟨a, 3, none⟩ = _ := hc.cell 3
  have hc2 : w.cell? ⟨a, 2, none⟩ = _ := hc.cell 2
  have hc1 : w.cell? ⟨a, 1, none⟩ = _ := hc.cell 1
  have hc0 : w.cell? ⟨a, 0, none⟩ = _ := hc.cell 0
  have hf : ∀ i, w.frozen? ⟨a, i, none⟩ = false := hc.free
  simp only [List.getElem?_cons_zero, List.getElem?_cons_succ] at hc3 hc2 hc1 hc0
  obtain ⟨m, hm⟩ : ∃ m, m = xs.length := ⟨_, rfl⟩
  rw [← hm] at hc0 hr h1
  have Hm := hid hm
  clear hm
  go_enter Tryd.func48, Tryd.ntmps48
  rcases hl with hl | hl
  all_goals
    go_wp2_with fail
    go_quiet (fail)
    go_wp2_with fail
    go_ret2
    refine ⟨?_, ?_, ?_, ?_⟩
    · rw [HE.out]; rfl
    · rw [HE.out]; exact ⟨R, hc, hsp⟩
    · exact (Kp.refl _ w).drewN _
    · rw [HE.out]; exact fun _ _ h => h

set_option maxHeartbeats 400000 in
theorem write_fits (w : World) (a : Nat) (s : SK) (A : Option Addr) (n c : Nat) (ys : List UInt8) (hs : SinkAt w a s) (hb : Span w A (u8s ys)) (hn : ys.length = n)
    (hd : s.dead = false) (hl : s.left < 0 ∨ n ≤ s.left) (hr : s.xs.length + n ≤ s.room) (hl1 : -1 ≤ s.left) (hl2 : s.left ≤ 9223372036854775807) (h1 : s.xs.length ≤ 10000000) (h2 : n ≤ 10000000) :
    Calls Tryd.prog 48 #[.pointer (some ⟨a, 0, none⟩), .slice A n c] w (WritePost w a s ys) := by
  obtain ⟨xs, room, left, dead⟩ := s
  simp only at hd hl h1 hr hl1 hl2
  subst hd
  have he : (SK.mk xs room left false).write ys = (SK.mk (xs ++ ys) room (if 0 ≤ left then left - ys.length else left) false, (n : Int), 0) := by
    simp only [SK.write, hn]
    rw [if_neg (by simp), if_neg (by omega), if_neg (by omega)]
  have HE := hid he
  have Hn := hid hn
  clear he hn
  obtain ⟨R, hc, hsp⟩ := hs
  have hc3 : w.cell? ⟨a, 3, none⟩ = _ := hc.cell 3
  have hc2 : w.cell? ⟨a, 2, none⟩ = _ := hc.cell 2
  have hc1 : w.cell? ⟨a, 1, none⟩ = _ := hc.cell 1
  have hc0 : w.cell? ⟨a, 0, none⟩ = _ := hc.cell 0
  have hf : ∀ i, w.frozen? ⟨a, i, none⟩ = false := hc.free
  simp only [List.getElem?_cons_zero, List.getElem?_cons_succ] at hc3 hc2 hc1 hc0
  obtain ⟨m, hm⟩ : ∃ m, m = xs.length := ⟨_, rfl⟩
  rw [← hm] at hc0 hr h1
  have Hm := hid hm
  clear hm
  go_enter Tryd.func48, Tryd.ntmps48
  rcases hl with hl | hl
  all_goals
    go_wp2_with fail
    go_quiet (fail)
    go_wp2_with fail
    refine (sput_any _ a R xs room left false A n c ys (by exact ⟨hc, hsp⟩) (by exact hb) Hn.out hl1 hl2 (by rw [← Hm.out]; exact h1) h2).mono ?_
    rintro e w' ⟨rfl, R', hs', hk', hf'⟩
    have HF := hid hf'
    clear hf'
    rw [Hn.out]
    go_wp2_with fail
    go_ret2
    refine ⟨?_, ?_, ?_, ?_⟩
    · rw [HE.out]; rfl
    · rw [HE.out]; exact ⟨R', hs'⟩
    · exact ((Kp.refl _ w).drewN _).trans hk' (fun x hx _ => hx)
    · rw [HE.out]
      intro g hg _
      exact ⟨R', hs', fun ad h => by have : w.heap.size ≤ ad.block := HF.out ad h; omega⟩

/-- Write, in every state. -/
theorem write_any (w : World) (a : Nat) (s : SK) (A : Option Addr) (n c : Nat) (ys : List UInt8) (hs : SinkAt w a s) (hb : Span w A (u8s ys)) (hA : ∀ ad, A = some ad → ad.block ≠ a) (hn : ys.length = n) (hc : n ≤ c)
    (hl1 : -1 ≤ s.left) (hl2 : s.left ≤ 9223372036854775807) (h1 : s.xs.length ≤ 10000000) (h2 : n ≤ 10000000) :
    Calls Tryd.prog 48 #[.pointer (some ⟨a, 0, none⟩), .slice A n c] w (WritePost w a s ys) := by
  cases hd : s.dead
  · by_cases hl : 0 ≤ s.left ∧ s.left < n
    · exact write_crash w a s A n c ys hs hb hA hn hd hl.1 hl.2 hc h1 h2
    · by_cases hr : s.room < s.xs.length + n
      · exact write_full w a s A n c ys hs hn hd (by omega) hr h1 h2
      · exact write_fits w a s A n c ys hs hb hn hd (by omega) (by omega) hl1 hl2 h1 h2
  · exact write_dead w a s A n c ys hs hd

theorem len_any (w : World) (a : Nat) (s : SK) (hs : SinkAt w a s) :
    Calls Tryd.prog 36 #[.pointer (some ⟨a, 0, none⟩)] w fun e w' => e = .returned (.int .i64 s.xs.length) ∧ w = w' := by
  obtain ⟨R, hc, hsp⟩ := hs
  have hc0 : w.cell? ⟨a, 0, none⟩ = _ := hc.cell 0
  simp only [List.getElem?_cons_zero] at hc0
  go_enter Tryd.func36, Tryd.ntmps36
  go_wp2_with fail
  go_ret
  exact ⟨rfl, rfl⟩

/-- What New makes. -/
def SK.make (room crash : Int) : SK := ⟨[], min (max room 0) 1048576, max crash (-1), false⟩
def NewPost (w : World) (s : SK) (e : Ending) (w' : World) : Prop := e = .returned (.pointer (some ⟨w.heap.size, 0, none⟩)) ∧ SinkAt w' w.heap.size s ∧ Kp [] w w'

theorem new_end (w : World) (room crash r l : Int) (hr : r = (SK.make room crash).room) (hl : l = (SK.make room crash).left) :
    NewPost w (SK.make room crash) (.returned (.pointer (some ⟨w.heap.size, 0, none⟩))) (w.alloc (.cells #[.slice none 0 0, .int .i64 r, .int .i64 l, .bool false] 84)) := by
  subst hr hl
  exact ⟨rfl, ⟨none, Cells.fresh _ _ _, Row.nil _ _⟩, (Kp.refl _ w).alloc _⟩

theorem new_any (w : World) (room crash : Int) :
    Calls Tryd.prog 25 #[.int .i64 room, .int .i64 crash] w (NewPost w (SK.make room crash)) := by
  go_enter Tryd.func25, Tryd.ntmps25
  go_wp2_with fail
  go_ret
  exact new_end _ _ _ _ _ rfl rfl
end Go.Proofs.YtepeopfdenieeaaDoor
