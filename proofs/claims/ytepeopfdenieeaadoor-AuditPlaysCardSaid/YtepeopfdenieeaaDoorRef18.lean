/- The reference of layer 18: what its New and Write do. -/
import Derived.Test.YtepeopfdenieeaaDoorBytes
namespace Go.Proofs.YtepeopfdenieeaaDoor
open Go Go.RowKit

structure RK where
  xs : List UInt8
  room : Int
  crash : Int
  dead : Bool
def RK.write (s : RK) (ys : List UInt8) : RK × Int × Int :=
  if s.dead then (s, 0, 51)
  else if 0 ≤ s.crash ∧ s.crash < s.xs.length + ys.length then
    ({ s with xs := s.xs ++ ys.take (s.crash - s.xs.length).toNat, dead := true }, max 0 (s.crash - s.xs.length), 51)
  else if s.room < s.xs.length + ys.length then (s, 0, 50)
  else ({ s with xs := s.xs ++ ys }, ys.length, 0)

def RefAt (w : World) (a : Nat) (s : RK) : Prop := ∃ v, Cells w a 67 [v, .int .i64 s.room, .int .i64 s.crash, .bool s.dead] ∧ Own w 5 v s.xs.length (u8s s.xs)
def RefAway (w : World) (a : Nat) (s : RK) (g : Nat) : Prop := ∃ v, Cells w a 67 [v, .int .i64 s.room, .int .i64 s.crash, .bool s.dead] ∧ Own w 5 v s.xs.length (u8s s.xs) ∧ v.ownBlock ≠ some g
def RefPost (w : World) (a : Nat) (s : RK) (ys : List UInt8) (e : Ending) (w' : World) : Prop :=
  e = .returned (.tuple #[.int .i64 (s.write ys).2.1, .int .i64 (s.write ys).2.2]) ∧ RefAt w' a (s.write ys).1 ∧ Kp [a] w w' ∧ ∀ g, g < w.heap.size → RefAway w a s g → RefAway w' a (s.write ys).1 g
def RNewPost (w : World) (s : RK) (e : Ending) (w' : World) : Prop := e = .returned (.pointer (some ⟨w.heap.size, 0, none⟩)) ∧ RefAt w' w.heap.size s ∧ Kp [] w w'

theorem rnew_any (w : World) (room crash : Int) :
    Calls Tryd.prog 27 #[.int .i64 room, .int .i64 crash] w (RNewPost w (RK.mk [] (min (max room 0) 1048576) crash false)) := by
  go_enter Tryd.func27, Tryd.ntmps27
  go_wp2_with fail
  go_ret
  exact ⟨rfl, ⟨_, Cells.fresh _ _ _, Own.nil _ _⟩, (Kp.refl _ _).alloc _⟩

set_option maxHeartbeats 400000 in
theorem rwrite_dead (w : World) (a : Nat) (s : RK) (A : Option Addr) (n c : Nat) (ys : List UInt8) (hs : RefAt w a s) (hd : s.dead = true) :
    Calls Tryd.prog 49 #[.pointer (some ⟨a, 0, none⟩), .slice A n c] w (RefPost w a s ys) := by
  have he : s.write ys = (s, 0, 51) := by simp [RK.write, hd]
  have HE := hid he
  clear he
  obtain ⟨v, hc, ho⟩ := hs
  rw [hd] at hc
  have hc3 : w.cell? ⟨a, 3, none⟩ = _ := hc.cell 3
  simp only [List.getElem?_cons_zero, List.getElem?_cons_succ] at hc3
  have HD := hid hd
  clear hd
  go_enter Tryd.func49, Tryd.ntmps49
  go_wp2_with fail
  go_ret2
  refine ⟨?_, ?_, ?_, ?_⟩
  · rw [HE.out]; rfl
  · rw [HE.out]; exact ⟨v, by rw [HD.out]; exact hc, ho⟩
  · exact Kp.refl _ _
  · rw [HE.out]; exact fun _ _ h => h

set_option maxHeartbeats 1000000 in
theorem rwrite_full (w : World) (a : Nat) (s : RK) (A : Option Addr) (n c : Nat) (ys : List UInt8) (hs : RefAt w a s) (hn : ys.length = n)
    (hd : s.dead = false) (hl : s.crash < 0 ∨ s.xs.length + n ≤ s.crash) (hr : s.room < s.xs.length + n) (h1 : s.xs.length ≤ 10000000) (h2 : n ≤ 10000000) :
    Calls Tryd.prog 49 #[.pointer (some ⟨a, 0, none⟩), .slice A n c] w (RefPost w a s ys) := by
  obtain ⟨xs, room, crash, dead⟩ := s
  simp only at hd hl h1 hr
  subst hd
  have he : (RK.mk xs room crash false).write ys = (RK.mk xs room crash false, 0, 50) := by
    simp only [RK.write, hn]
    rw [if_neg (by simp), if_neg (by omega), if_pos (by omega)]
  have HE := hid he
  clear he hn
  obtain ⟨v, hc, ho⟩ := hs
  obtain ⟨R, cap, rfl, hsp, hcap, _, _⟩ := ho.shape
  have hc3 : w.cell? ⟨a, 3, none⟩ = _ := hc.cell 3
  have hc2 : w.cell? ⟨a, 2, none⟩ = _ := hc.cell 2
  have hc1 : w.cell? ⟨a, 1, none⟩ = _ := hc.cell 1
  have hc0 : w.cell? ⟨a, 0, none⟩ = _ := hc.cell 0
  simp only [List.getElem?_cons_zero, List.getElem?_cons_succ] at hc3 hc2 hc1 hc0
  obtain ⟨m, hm⟩ : ∃ m, m = xs.length := ⟨_, rfl⟩
  rw [← hm] at hc0 hr h1 hl
  have Hm := hid hm
  clear hm
  go_enter Tryd.func49, Tryd.ntmps49
  rcases hl with hl | hl
  · have hd : decide (0 ≤ crash) = false := by simp; omega
    go_wp2_with fail
    go_quiet (fail)
    go_wp2_with fail
    go_quiet (fail)
    go_wp2_with fail
    go_ret2
    refine ⟨?_, ?_, ?_, ?_⟩
    · rw [HE.out]; rfl
    · rw [HE.out]; exact ⟨_, hc, ho⟩
    · exact ((Kp.refl _ w).drewN _).drewN _
    · rw [HE.out]; exact fun _ _ h => h
  · have hd : 0 ≤ crash := by omega
    have hd2 : ¬ crash < (m : Int) + n := by omega
    go_wp2_with fail
    go_quiet (fail)
    go_wp2_with fail
    go_quiet (fail)
    go_wp2_with fail
    go_ret2
    refine ⟨?_, ?_, ?_, ?_⟩
    · rw [HE.out]; rfl
    · rw [HE.out]; exact ⟨_, hc, ho⟩
    · exact ((Kp.refl _ w).drewN _).drewN _
    · rw [HE.out]; exact fun _ _ h => h

theorem app_kp {w0 w1 w2 : World} {S : List Nat} {v1 : Value} {t : TypeId} (h : Kp S w0 w1) (hb : v1.ownBlock = (Value.slice (some ⟨w0.heap.size, 0, none⟩) 0 0).ownBlock ∨ v1.ownBlock = some (w0.drew.alloc (.cells #[] t)).heap.size)
    (k : Kp v1.ownBlock.toList w1 w2) : Kp S w0 w2 := h.trans k (by
  intro x hx hl
  rcases hb with hb | hb <;> rw [hb] at hx <;> simp [Value.ownBlock] at hx <;> omega)
theorem app_away {w0 w1 : World} {v1 v2 : Value} {g : Nat} (hb : v1.ownBlock = (Value.slice (some ⟨w0.heap.size, 0, none⟩) 0 0).ownBlock ∨ v1.ownBlock = some (w0.heap.size + 1))
    (hs : w0.heap.size ≤ w1.heap.size) (hb2 : v2.ownBlock = v1.ownBlock ∨ v2.ownBlock = some w1.heap.size) (hg : g < w0.heap.size) : v2.ownBlock ≠ some g := by
  rcases hb2 with hb2 | hb2
  · rw [hb2]
    rcases hb with hb | hb <;> rw [hb] <;> simp [Value.ownBlock] <;> omega
  · rw [hb2]; simp; omega
/-- The reference's sink at block a, its slice named. -/
def RefV (w : World) (a : Nat) (s : RK) (v : Value) : Prop := Cells w a 67 [v, .int .i64 s.room, .int .i64 s.crash, .bool s.dead] ∧ Own w 5 v s.xs.length (u8s s.xs)
theorem RefV.at_ {w : World} {a : Nat} {s : RK} {v : Value} (h : RefV w a s v) : RefAt w a s := ⟨v, h⟩
theorem RefV.away {w : World} {a : Nat} {s : RK} {v : Value} {g : Nat} (h : RefV w a s v) (hv : v.ownBlock ≠ some g) : RefAway w a s g := ⟨v, h.1, h.2, hv⟩
theorem ref_end {w2 : World} {a : Nat} {xs ys : List UInt8} {room crash : Int} {v v2 : Value} {N : Nat}
    (hc2 : Cells w2 a 67 [v, .int .i64 room, .int .i64 crash, .bool false]) (ho2 : Own w2 5 v2 N (u8s xs ++ u8s ys)) (hN : N = (xs ++ ys).length) :
    RefV (w2.setCell ⟨a, 0, none⟩ v2) a (RK.mk (xs ++ ys) room crash false) v2 := by
  subst hN
  refine ⟨by simpa using hc2.put 0 v2, ?_⟩
  rw [u8s_append]
  have hne := ho2.ne_cells hc2 (by decide)
  obtain ⟨h1, h2⟩ := ho2
  refine ⟨h1, ?_⟩
  rcases h2 with h2 | ⟨g, cap, cur, rfl, h3, hg, r⟩
  · exact .inl h2
  · exact .inr ⟨g, cap, cur, rfl, h3, (Below.heap_setCell w2 _ _ _ (by intro e; apply hne; simp [Value.ownBlock, e])).trans hg, r⟩

set_option maxHeartbeats 1000000 in
theorem rwrite_fits (w : World) (a : Nat) (s : RK) (A : Option Addr) (n c : Nat) (ys : List UInt8) (hs : RefAt w a s) (hb : Span w A (u8s ys)) (hn : ys.length = n)
    (hd : s.dead = false) (hl : s.crash < 0 ∨ s.xs.length + n ≤ s.crash) (hr : s.xs.length + n ≤ s.room) (h1 : s.xs.length ≤ 10000000) (h2 : n ≤ 10000000) :
    Calls Tryd.prog 49 #[.pointer (some ⟨a, 0, none⟩), .slice A n c] w (RefPost w a s ys) := by
  obtain ⟨xs, room, crash, dead⟩ := s
  simp only at hd hl h1 hr
  subst hd
  have he : (RK.mk xs room crash false).write ys = (RK.mk (xs ++ ys) room crash false, (n : Int), 0) := by
    simp only [RK.write, hn]
    rw [if_neg (by simp), if_neg (by omega), if_neg (by omega)]
  have HE := hid he
  have hq : (u8s xs).length = xs.length := length_u8s xs
  have hq2 : (u8s ys).length = n := by rw [length_u8s, hn]
  have hN : xs.length + n = (xs ++ ys).length := by rw [List.length_append, hn]
  obtain ⟨v, hc, ho⟩ := hs
  obtain ⟨R, cap, rfl, hsp, hcap, _, _⟩ := ho.shape
  have hc3 : w.cell? ⟨a, 3, none⟩ = _ := hc.cell 3
  have hc2 : w.cell? ⟨a, 2, none⟩ = _ := hc.cell 2
  have hc1 : w.cell? ⟨a, 1, none⟩ = _ := hc.cell 1
  have hc0 : w.cell? ⟨a, 0, none⟩ = _ := hc.cell 0
  simp only [List.getElem?_cons_zero, List.getElem?_cons_succ] at hc3 hc2 hc1 hc0
  obtain ⟨m, hm⟩ : ∃ m, m = xs.length := ⟨_, rfl⟩
  rw [← hm] at hc0 hr h1 hl hq hN
  have Hm := hid hm
  have Hq := hid hq
  have Hq2 := hid hq2
  have HN := hid hN
  clear hm hq hq2 hN he hn
  go_enter Tryd.func49, Tryd.ntmps49
  have hd : crash < 0 ∧ decide (0 ≤ crash) = false ∨ 0 ≤ crash ∧ ¬ crash < (m : Int) + n := by
    rcases hl with hl | hl
    · exact .inl ⟨hl, by simp; omega⟩
    · exact .inr ⟨by omega, by omega⟩
  rcases hd with ⟨hd0, hd1⟩ | ⟨hd0, hd1⟩
  all_goals
    go_wp2_with fail
    go_quiet (fail)
    generalize nq = nq1
    go_wp2_with fail
    go_quiet (fail)
    generalize nq = nq2
    have hkW : Kp [] w ((w.drewN nq1).drewN nq2) := ((Kp.refl _ w).drewN _).drewN _
    generalize (w.drewN nq1).drewN nq2 = w0 at *
    have hcW := hc.keep hkW (by simp)
    have hspW := hsp.kept hkW
    have hbW := hb.kept hkW
    have hc0a := ((Kp.refl [] w0).alloc (.cells #[] 5)).cell (hkW.cell hc0 (by simp)) (by simp)
    have hob : Own (w0.alloc (.cells #[] 5)) 5 (.slice (some ⟨w0.heap.size, 0, none⟩) 0 0) 0 [] := Own.of_cells (Cells.fresh w0 5 []) (by simp)
    have hspa := hspW.alloc (.cells #[] 5)
    go_wp2_with (at_builtin; go_must (refine wpList_append1 (o := ⟨some 78, _, _, _, _, _⟩) rfl _ _ 25 rfl 5 (.int .u8 0) 1 Tryd.underlying25 info5 rfl _ 0 [] rfl hob _ m cap (u8s xs) rfl hspa Hq.out (u8s_one _) ?_ ?_ ?_))
    · omega
    · omega
    intro v1 w1 ho1 hk1 hb1
    have hk01 : Kp [] w0 w1 := ((Kp.refl [] w0).alloc _).trans hk1 (by intro x hx hl; simp [Value.ownBlock] at hx; omega)
    have hb01 := hbW.kept hk01
    go_wp2_with (at_builtin; go_must (refine wpList_append1 (o := ⟨some 80, _, _, _, _, _⟩) rfl _ _ 25 rfl 5 (.int .u8 0) 1 Tryd.underlying25 info5 rfl v1 _ _ rfl ho1 _ n c (u8s ys) rfl hb01 Hq2.out (u8s_one _) ?_ ?_ ?_))
    · omega
    · omega
    intro v2 w2 ho2 hk2 hb2
    have hb1' : ∀ x ∈ v1.ownBlock.toList, w0.heap.size ≤ x := by
      intro x hx
      rcases hb1 with hb1 | hb1 <;> rw [hb1] at hx <;> simp [Value.ownBlock] at hx <;> omega
    have hk02 : Kp [] w0 w2 := hk01.trans hk2 (by intro x hx hl; have := hb1' x hx; omega)
    have hcW2 := hcW.keep hk02 (by simp)
    have hf2 := hcW2.free 0
    obtain ⟨A2, c2, rfl, _⟩ := ho2.shape
    have hc02 : w2.cell? ⟨a, 0, none⟩ = _ := hcW2.cell 0
    simp only [List.getElem?_cons_zero] at hc02
    go_wp2_with fail
    go_ret2
    refine ⟨?_, ?_, ?_, ?_⟩
    · rw [HE.out]; rfl
    · rw [HE.out]; exact (ref_end hcW2 ho2 (by have := HN.out; omega)).at_
    · exact ((hkW.nil hk02).mono (by simp)).setCell (fun _ => by simp) _
    · rw [HE.out]
      intro g hg _
      exact (ref_end hcW2 ho2 (by have := HN.out; omega)).away (app_away (hb1.imp id (fun h => by simpa using h)) hk01.size hb2 (Nat.lt_of_lt_of_le hg hkW.size))

theorem ref_end2 {w w2 : World} {a : Nat} {xs : List UInt8} {room crash : Int} {v : Value} (h : RefV w a (RK.mk xs room crash false) v) (k : w2 = w.setCell ⟨a, 3, none⟩ (.bool true)) : RefV w2 a (RK.mk xs room crash true) v := by
  subst k
  obtain ⟨h1, h2⟩ := h
  refine ⟨by simpa using h1.put 3 (.bool true), ?_⟩
  have hne := h2.ne_cells h1 (by decide)
  obtain ⟨g1, g2⟩ := h2
  refine ⟨g1, ?_⟩
  rcases g2 with g2 | ⟨g, cap, cur, rfl, h3, hg, r⟩
  · exact .inl g2
  · exact .inr ⟨g, cap, cur, rfl, h3, (Below.heap_setCell w _ _ _ (by intro e; apply hne; simp [Value.ownBlock, e])).trans hg, r⟩

set_option maxHeartbeats 1000000 in
theorem rwrite_crash (w : World) (a : Nat) (s : RK) (A : Option Addr) (n c : Nat) (ys : List UInt8) (hs : RefAt w a s) (hb : Span w A (u8s ys)) (hn : ys.length = n) (hcap0 : n ≤ c)
    (hd : s.dead = false) (hl0 : 0 ≤ s.crash) (hl : s.crash < s.xs.length + n) (hl1 : s.xs.length ≤ s.crash) (h1 : s.xs.length ≤ 10000000) (h2 : n ≤ 10000000) :
    Calls Tryd.prog 49 #[.pointer (some ⟨a, 0, none⟩), .slice A n c] w (RefPost w a s ys) := by
  obtain ⟨xs, room, crash, dead⟩ := s
  simp only at hd hl0 hl1 hl h1
  subst hd
  obtain ⟨cr, rfl⟩ := Int.eq_ofNat_of_zero_le hl0
  obtain ⟨q, hq0⟩ : ∃ q, cr = xs.length + q := ⟨cr - xs.length, by omega⟩
  have he : (RK.mk xs room cr false).write ys = (RK.mk (xs ++ ys.take q) room cr true, (q : Int), 51) := by
    simp only [RK.write, hn]
    rw [if_neg (by simp), if_pos (by omega), show ((cr : Int) - xs.length).toNat = q by omega, show max 0 ((cr : Int) - xs.length) = q by omega]
  have HE := hid he
  have hq : (u8s xs).length = xs.length := length_u8s xs
  have hqn : q < n := by omega
  have hq2 : (u8s (ys.take q)).length = q := by rw [length_u8s, List.length_take]; omega
  have hN : xs.length + q = (xs ++ ys.take q).length := by rw [List.length_append, List.length_take]; omega
  have hbq : Span w A (u8s (ys.take q)) := by rw [u8s_take]; exact hb.take q
  obtain ⟨v, hc, ho⟩ := hs
  obtain ⟨R, cap, rfl, hsp, hcap, _, _⟩ := ho.shape
  have hc3 : w.cell? ⟨a, 3, none⟩ = _ := hc.cell 3
  have hc2 : w.cell? ⟨a, 2, none⟩ = _ := hc.cell 2
  have hc1 : w.cell? ⟨a, 1, none⟩ = _ := hc.cell 1
  have hc0 : w.cell? ⟨a, 0, none⟩ = _ := hc.cell 0
  simp only [List.getElem?_cons_zero, List.getElem?_cons_succ] at hc3 hc2 hc1 hc0
  obtain ⟨m, hm⟩ : ∃ m, m = xs.length := ⟨_, rfl⟩
  obtain ⟨ws, hws⟩ : ∃ ws, ws = ys.take q := ⟨_, rfl⟩
  rw [← hm] at hc0 h1 hl hl1 hq hN hq0
  rw [← hws] at hq2 hN hbq
  have Hm := hid hm
  have Hws := hid hws
  have Hq := hid hq
  have Hq2 := hid hq2
  have HN := hid hN
  have hmax : max 0 ((cr : Int) - m) = (q : Int) := by omega
  have Hq0 := hid hq0
  have hqc : q ≤ c := by omega
  clear hm hq hq2 hN he hn hws hq0
  have hd1 : (cr : Int) < (m : Int) + n := hl
  go_enter Tryd.func49, Tryd.ntmps49
  go_wp2_with fail
  go_quiet (fail)
  go_wp2_with fail
  go_region
  have hkW : Kp [] w (w.drewN (nq + 1)) := (Kp.refl _ w).drewN _
  generalize w.drewN (nq + 1) = w0 at *
  have hcW := hc.keep hkW (by simp)
  have hspW := hsp.kept hkW
  have hbW := hbq.kept hkW
  have hla := hcW.lt
  have hc00 := hkW.cell hc0 (by simp)
  have hob : Own (w0.drew.alloc (.cells #[] 5)) 5 (.slice (some ⟨w0.heap.size, 0, none⟩) 0 0) 0 [] := Own.of_cells (Cells.fresh w0.drew 5 []) (by simp)
  have hspa := hspW.alloc (.cells #[] 5)
  go_wp2_with fail
  have hobk : Kp [] w0 (w0.drew.alloc (.cells #[] 5)) := ((Kp.refl [] w0).drew).alloc _
  have hc0a := hobk.cell hc00 (by simp)
  go_region_law (first
      | (refine step_append1 rfl (.tmp 43) (.tmp 47) 25 rfl 5 (.int .u8 0) 1 Tryd.underlying25 info5 rfl (.slice (some ⟨w0.heap.size, 0, none⟩) 0 0) 0 [] (by rfl) hob R m cap (u8s xs) (by rfl) hspa Hq.out (u8s_one _) (by omega) (by omega) ?_; intro v1 w1 ho1 hk1 hb1; have hk01 : Kp [] w0 w1 := hobk.trans hk1 (by intro x hx hl; simp [Value.ownBlock] at hx; omega); have hbW1 := hbW.kept hk01)
      | (go_must (refine step_append1 rfl (.tmp 48) (.tmp 51) 25 rfl 5 (.int .u8 0) 1 Tryd.underlying25 info5 rfl v1 (0 + m) ([] ++ u8s xs) (by rfl) ho1 A q c (u8s ws) (by rfl) hbW1 Hq2.out (u8s_one _) (by omega) (by omega) ?_); intro v2 w2 ho2 hk2 hb2; have hk02 : Kp [] w0 w2 := app_kp hk01 hb1 hk2; obtain ⟨A2, c2, rfl, _⟩ := ho2.shape; have hcW2 := hcW.keep hk02 (by simp); have hf2 := hcW2.free 0; have hc02 : w2.cell? ⟨a, 0, none⟩ = some (.slice R xs.length cap) := hcW2.cell 0))
  all_goals
    have hcW2 := hcW.keep hk02 (by simp)
    have hf3 := hcW2.free 3
    have hc32 : w2.cell? ⟨a, 3, none⟩ = some (.bool false) := hcW2.cell 3
    go_wp2_with fail
    go_ret2
    simp only [Nat.zero_add, List.nil_append] at ho2 hb2
    have hend := ref_end hcW2 ho2 (by have := HN.out; omega)
    refine ⟨?_, ?_, ?_, ?_⟩
    · rw [HE.out]; rfl
    · rw [HE.out, ← Hws.out]
      exact (ref_end2 hend rfl).at_
    · exact (((hkW.nil hk02).mono (by simp)).setCell (fun _ => by simp) _).setCell (fun _ => by simp) _
    · rw [HE.out, ← Hws.out]
      intro g hg _
      exact (ref_end2 hend rfl).away (app_away (hb1.imp id (fun h => by simpa using h)) hk01.size hb2 (Nat.lt_of_lt_of_le hg hkW.size))

/-- Write of the reference, in every state that a sink can be in. -/
theorem rwrite_any (w : World) (a : Nat) (s : RK) (A : Option Addr) (n c : Nat) (ys : List UInt8) (hs : RefAt w a s) (hb : Span w A (u8s ys)) (hn : ys.length = n) (hc : n ≤ c)
    (hl : s.dead = false → s.crash < 0 ∨ s.xs.length ≤ s.crash) (h1 : s.xs.length ≤ 10000000) (h2 : n ≤ 10000000) :
    Calls Tryd.prog 49 #[.pointer (some ⟨a, 0, none⟩), .slice A n c] w (RefPost w a s ys) := by
  cases hd : s.dead
  · have hl := hl hd
    by_cases h : 0 ≤ s.crash ∧ s.crash < s.xs.length + n
    · exact rwrite_crash w a s A n c ys hs hb hn hc hd h.1 h.2 (by omega) h1 h2
    · by_cases hr : s.room < s.xs.length + n
      · exact rwrite_full w a s A n c ys hs hn hd (by omega) hr h1 h2
      · exact rwrite_fits w a s A n c ys hs hb hn hd (by omega) (by omega) h1 h2
  · exact rwrite_dead w a s A n c ys hs hd
end Go.Proofs.YtepeopfdenieeaaDoor
