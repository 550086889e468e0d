/- DecRules: sums and products whichever comes first, differences, the order. -/
import Derived.Test.YtampgimmodomoaaDoorDSym
import Derived.IntWalk
import Derived.Deep.Cut
namespace Go.Proofs.YtampgimmodomoaaDoor
open Go Go.RowKit Go.Lib

theorem ite3 {p q r : Prop} {_ : Decidable p} {_ : Decidable q} {_ : Decidable r} {α : Type} {x y : α} (h : ¬ (p ∧ q ∧ r)) : (if p then if q then if r then x else y else y else y) = y := by
  by_cases h1 : p
  · rw [if_pos h1]
    by_cases h2 : q
    · rw [if_pos h2, if_neg (fun h3 => h ⟨h1, h2, h3⟩)]
    · rw [if_neg h2]
  · rw [if_neg h1]
theorem dc_ne {a b : Dc} (h : a ≠ b) : ¬ (a.neg = b.neg ∧ dtxt a.n = dtxt b.n ∧ (a.s : Int) = (b.s : Int)) := fun ⟨h1, h2, h3⟩ => h (by
  have e2 : a.n = b.n := dtxt_inj h2
  have e3 : a.s = b.s := by omega
  cases a
  cases b
  simp_all)
set_option maxRecDepth 100000 in
set_option maxHeartbeats 6400000 in
theorem rules_n0 (w : World) (a b c : RawD) (ha : a.ok) (q0 : mayL a.neg a.l a.s = false) :
    Calls Tryd.prog 7 #[.agg #[.bool a.neg, .string ⟨a.l.toArray⟩, .int .i64 a.s], .agg #[.bool b.neg, .string ⟨b.l.toArray⟩, .int .i64 b.s], .agg #[.bool c.neg, .string ⟨c.l.toArray⟩, .int .i64 c.s]] w (YesPost w) := by
  have hsh := fun W => shown_any W
  have m0 := fun W => may_not ha q0 W
  clear ha
  have hA : Cells (((w.alloc (.cells #[.bool a.neg, .string ⟨a.l.toArray⟩, .int .i64 a.s] 23)).alloc (.cells #[.bool b.neg, .string ⟨b.l.toArray⟩, .int .i64 b.s] 23)).alloc (.cells #[.bool c.neg, .string ⟨c.l.toArray⟩, .int .i64 c.s] 23)) w.heap.size 23 [.bool a.neg, .string ⟨a.l.toArray⟩, .int .i64 a.s] := ((Cells.fresh w 23 [.bool a.neg, .string ⟨a.l.toArray⟩, .int .i64 a.s]).alloc _).alloc _
  have hB : Cells (((w.alloc (.cells #[.bool a.neg, .string ⟨a.l.toArray⟩, .int .i64 a.s] 23)).alloc (.cells #[.bool b.neg, .string ⟨b.l.toArray⟩, .int .i64 b.s] 23)).alloc (.cells #[.bool c.neg, .string ⟨c.l.toArray⟩, .int .i64 c.s] 23)) (w.heap.size + 1) 23 [.bool b.neg, .string ⟨b.l.toArray⟩, .int .i64 b.s] := by have := (Cells.fresh (w.alloc (.cells #[.bool a.neg, .string ⟨a.l.toArray⟩, .int .i64 a.s] 23)) 23 [.bool b.neg, .string ⟨b.l.toArray⟩, .int .i64 b.s]).alloc (.cells #[.bool c.neg, .string ⟨c.l.toArray⟩, .int .i64 c.s] 23); simpa using this
  have hC : Cells (((w.alloc (.cells #[.bool a.neg, .string ⟨a.l.toArray⟩, .int .i64 a.s] 23)).alloc (.cells #[.bool b.neg, .string ⟨b.l.toArray⟩, .int .i64 b.s] 23)).alloc (.cells #[.bool c.neg, .string ⟨c.l.toArray⟩, .int .i64 c.s] 23)) (w.heap.size + 1 + 1) 23 [.bool c.neg, .string ⟨c.l.toArray⟩, .int .i64 c.s] := by have := Cells.fresh ((w.alloc (.cells #[.bool a.neg, .string ⟨a.l.toArray⟩, .int .i64 a.s] 23)).alloc (.cells #[.bool b.neg, .string ⟨b.l.toArray⟩, .int .i64 b.s] 23)) 23 [.bool c.neg, .string ⟨c.l.toArray⟩, .int .i64 c.s]; simpa using this
  have HK := hid ((((Kp.refl [] w).alloc (.cells #[.bool a.neg, .string ⟨a.l.toArray⟩, .int .i64 a.s] 23)).alloc (.cells #[.bool b.neg, .string ⟨b.l.toArray⟩, .int .i64 b.s] 23)).alloc (.cells #[.bool c.neg, .string ⟨c.l.toArray⟩, .int .i64 c.s] 23))
  have HA := hid hA
  have HB := hid hB
  have HC := hid hC
  clear hA hB hC
  go_enter Tryd.func7, Tryd.ntmps7
  go_wp2_with fail
  refine (hsh _).mono ?_
  rintro e w1 ⟨rfl, k1⟩
  have C0 := HA.out.keep k1 (by simp)
  have a0 : _ = some (Value.bool a.neg) := C0.cell 0
  have a1 : _ = some (Value.string ⟨a.l.toArray⟩) := C0.cell 1
  have a2 : _ = some (Value.int .i64 a.s) := C0.cell 2
  clear C0
  go_wp2_with fail
  refine (m0 _).mono ?_
  rintro e w2 ⟨rfl, k2⟩
  replace a0 := k2.cell a0 (by simp)
  replace a1 := k2.cell a1 (by simp)
  replace a2 := k2.cell a2 (by simp)
  go_wp2_with fail
  go_ret
  exact ⟨rfl, ((HK.out.nil k1).nil k2)⟩
set_option maxRecDepth 100000 in
set_option maxHeartbeats 6400000 in
theorem rules_n1 (w : World) (a b c : RawD) (ha : a.ok) (q0 : mayL a.neg a.l a.s = true) (hb : b.ok) (q1 : mayL b.neg b.l b.s = false) :
    Calls Tryd.prog 7 #[.agg #[.bool a.neg, .string ⟨a.l.toArray⟩, .int .i64 a.s], .agg #[.bool b.neg, .string ⟨b.l.toArray⟩, .int .i64 b.s], .agg #[.bool c.neg, .string ⟨c.l.toArray⟩, .int .i64 c.s]] w (YesPost w) := by
  have hsh := fun W => shown_any W
  have m0 := fun W => may_yes ha q0 W
  have m1 := fun W => may_not hb q1 W
  clear ha hb
  have hA : Cells (((w.alloc (.cells #[.bool a.neg, .string ⟨a.l.toArray⟩, .int .i64 a.s] 23)).alloc (.cells #[.bool b.neg, .string ⟨b.l.toArray⟩, .int .i64 b.s] 23)).alloc (.cells #[.bool c.neg, .string ⟨c.l.toArray⟩, .int .i64 c.s] 23)) w.heap.size 23 [.bool a.neg, .string ⟨a.l.toArray⟩, .int .i64 a.s] := ((Cells.fresh w 23 [.bool a.neg, .string ⟨a.l.toArray⟩, .int .i64 a.s]).alloc _).alloc _
  have hB : Cells (((w.alloc (.cells #[.bool a.neg, .string ⟨a.l.toArray⟩, .int .i64 a.s] 23)).alloc (.cells #[.bool b.neg, .string ⟨b.l.toArray⟩, .int .i64 b.s] 23)).alloc (.cells #[.bool c.neg, .string ⟨c.l.toArray⟩, .int .i64 c.s] 23)) (w.heap.size + 1) 23 [.bool b.neg, .string ⟨b.l.toArray⟩, .int .i64 b.s] := by have := (Cells.fresh (w.alloc (.cells #[.bool a.neg, .string ⟨a.l.toArray⟩, .int .i64 a.s] 23)) 23 [.bool b.neg, .string ⟨b.l.toArray⟩, .int .i64 b.s]).alloc (.cells #[.bool c.neg, .string ⟨c.l.toArray⟩, .int .i64 c.s] 23); simpa using this
  have hC : Cells (((w.alloc (.cells #[.bool a.neg, .string ⟨a.l.toArray⟩, .int .i64 a.s] 23)).alloc (.cells #[.bool b.neg, .string ⟨b.l.toArray⟩, .int .i64 b.s] 23)).alloc (.cells #[.bool c.neg, .string ⟨c.l.toArray⟩, .int .i64 c.s] 23)) (w.heap.size + 1 + 1) 23 [.bool c.neg, .string ⟨c.l.toArray⟩, .int .i64 c.s] := by have := Cells.fresh ((w.alloc (.cells #[.bool a.neg, .string ⟨a.l.toArray⟩, .int .i64 a.s] 23)).alloc (.cells #[.bool b.neg, .string ⟨b.l.toArray⟩, .int .i64 b.s] 23)) 23 [.bool c.neg, .string ⟨c.l.toArray⟩, .int .i64 c.s]; simpa using this
  have HK := hid ((((Kp.refl [] w).alloc (.cells #[.bool a.neg, .string ⟨a.l.toArray⟩, .int .i64 a.s] 23)).alloc (.cells #[.bool b.neg, .string ⟨b.l.toArray⟩, .int .i64 b.s] 23)).alloc (.cells #[.bool c.neg, .string ⟨c.l.toArray⟩, .int .i64 c.s] 23))
  have HA := hid hA
  have HB := hid hB
  have HC := hid hC
  clear hA hB hC
  go_enter Tryd.func7, Tryd.ntmps7
  go_wp2_with fail
  refine (hsh _).mono ?_
  rintro e w1 ⟨rfl, k1⟩
  have C0 := HA.out.keep k1 (by simp)
  have a0 : _ = some (Value.bool a.neg) := C0.cell 0
  have a1 : _ = some (Value.string ⟨a.l.toArray⟩) := C0.cell 1
  have a2 : _ = some (Value.int .i64 a.s) := C0.cell 2
  have C1 := HB.out.keep k1 (by simp)
  have b0 : _ = some (Value.bool b.neg) := C1.cell 0
  have b1 : _ = some (Value.string ⟨b.l.toArray⟩) := C1.cell 1
  have b2 : _ = some (Value.int .i64 b.s) := C1.cell 2
  clear C0 C1
  go_wp2_with fail
  refine (m0 _).mono ?_
  rintro e w2 ⟨rfl, k2⟩
  replace a0 := k2.cell a0 (by simp)
  replace a1 := k2.cell a1 (by simp)
  replace a2 := k2.cell a2 (by simp)
  replace b0 := k2.cell b0 (by simp)
  replace b1 := k2.cell b1 (by simp)
  replace b2 := k2.cell b2 (by simp)
  go_wp2_with fail
  refine (m1 _).mono ?_
  rintro e w3 ⟨rfl, k3⟩
  replace a0 := k3.cell a0 (by simp)
  replace a1 := k3.cell a1 (by simp)
  replace a2 := k3.cell a2 (by simp)
  replace b0 := k3.cell b0 (by simp)
  replace b1 := k3.cell b1 (by simp)
  replace b2 := k3.cell b2 (by simp)
  go_wp2_with fail
  go_ret
  exact ⟨rfl, (((HK.out.nil k1).nil k2).nil k3)⟩
set_option maxRecDepth 100000 in
set_option maxHeartbeats 6400000 in
theorem rules_n2 (w : World) (a b c : RawD) (ha : a.ok) (q0 : mayL a.neg a.l a.s = true) (hb : b.ok) (q1 : mayL b.neg b.l b.s = true) (hc : c.ok) (q2 : mayL c.neg c.l c.s = false) :
    Calls Tryd.prog 7 #[.agg #[.bool a.neg, .string ⟨a.l.toArray⟩, .int .i64 a.s], .agg #[.bool b.neg, .string ⟨b.l.toArray⟩, .int .i64 b.s], .agg #[.bool c.neg, .string ⟨c.l.toArray⟩, .int .i64 c.s]] w (YesPost w) := by
  have hsh := fun W => shown_any W
  have m0 := fun W => may_yes ha q0 W
  have m1 := fun W => may_yes hb q1 W
  have m2 := fun W => may_not hc q2 W
  clear ha hb hc
  have hA : Cells (((w.alloc (.cells #[.bool a.neg, .string ⟨a.l.toArray⟩, .int .i64 a.s] 23)).alloc (.cells #[.bool b.neg, .string ⟨b.l.toArray⟩, .int .i64 b.s] 23)).alloc (.cells #[.bool c.neg, .string ⟨c.l.toArray⟩, .int .i64 c.s] 23)) w.heap.size 23 [.bool a.neg, .string ⟨a.l.toArray⟩, .int .i64 a.s] := ((Cells.fresh w 23 [.bool a.neg, .string ⟨a.l.toArray⟩, .int .i64 a.s]).alloc _).alloc _
  have hB : Cells (((w.alloc (.cells #[.bool a.neg, .string ⟨a.l.toArray⟩, .int .i64 a.s] 23)).alloc (.cells #[.bool b.neg, .string ⟨b.l.toArray⟩, .int .i64 b.s] 23)).alloc (.cells #[.bool c.neg, .string ⟨c.l.toArray⟩, .int .i64 c.s] 23)) (w.heap.size + 1) 23 [.bool b.neg, .string ⟨b.l.toArray⟩, .int .i64 b.s] := by have := (Cells.fresh (w.alloc (.cells #[.bool a.neg, .string ⟨a.l.toArray⟩, .int .i64 a.s] 23)) 23 [.bool b.neg, .string ⟨b.l.toArray⟩, .int .i64 b.s]).alloc (.cells #[.bool c.neg, .string ⟨c.l.toArray⟩, .int .i64 c.s] 23); simpa using this
  have hC : Cells (((w.alloc (.cells #[.bool a.neg, .string ⟨a.l.toArray⟩, .int .i64 a.s] 23)).alloc (.cells #[.bool b.neg, .string ⟨b.l.toArray⟩, .int .i64 b.s] 23)).alloc (.cells #[.bool c.neg, .string ⟨c.l.toArray⟩, .int .i64 c.s] 23)) (w.heap.size + 1 + 1) 23 [.bool c.neg, .string ⟨c.l.toArray⟩, .int .i64 c.s] := by have := Cells.fresh ((w.alloc (.cells #[.bool a.neg, .string ⟨a.l.toArray⟩, .int .i64 a.s] 23)).alloc (.cells #[.bool b.neg, .string ⟨b.l.toArray⟩, .int .i64 b.s] 23)) 23 [.bool c.neg, .string ⟨c.l.toArray⟩, .int .i64 c.s]; simpa using this
  have HK := hid ((((Kp.refl [] w).alloc (.cells #[.bool a.neg, .string ⟨a.l.toArray⟩, .int .i64 a.s] 23)).alloc (.cells #[.bool b.neg, .string ⟨b.l.toArray⟩, .int .i64 b.s] 23)).alloc (.cells #[.bool c.neg, .string ⟨c.l.toArray⟩, .int .i64 c.s] 23))
  have HA := hid hA
  have HB := hid hB
  have HC := hid hC
  clear hA hB hC
  go_enter Tryd.func7, Tryd.ntmps7
  go_wp2_with fail
  refine (hsh _).mono ?_
  rintro e w1 ⟨rfl, k1⟩
  have C0 := HA.out.keep k1 (by simp)
  have a0 : _ = some (Value.bool a.neg) := C0.cell 0
  have a1 : _ = some (Value.string ⟨a.l.toArray⟩) := C0.cell 1
  have a2 : _ = some (Value.int .i64 a.s) := C0.cell 2
  have C1 := HB.out.keep k1 (by simp)
  have b0 : _ = some (Value.bool b.neg) := C1.cell 0
  have b1 : _ = some (Value.string ⟨b.l.toArray⟩) := C1.cell 1
  have b2 : _ = some (Value.int .i64 b.s) := C1.cell 2
  have C2 := HC.out.keep k1 (by simp)
  have c0 : _ = some (Value.bool c.neg) := C2.cell 0
  have c1 : _ = some (Value.string ⟨c.l.toArray⟩) := C2.cell 1
  have c2 : _ = some (Value.int .i64 c.s) := C2.cell 2
  clear C0 C1 C2
  go_wp2_with fail
  refine (m0 _).mono ?_
  rintro e w2 ⟨rfl, k2⟩
  replace a0 := k2.cell a0 (by simp)
  replace a1 := k2.cell a1 (by simp)
  replace a2 := k2.cell a2 (by simp)
  replace b0 := k2.cell b0 (by simp)
  replace b1 := k2.cell b1 (by simp)
  replace b2 := k2.cell b2 (by simp)
  replace c0 := k2.cell c0 (by simp)
  replace c1 := k2.cell c1 (by simp)
  replace c2 := k2.cell c2 (by simp)
  go_wp2_with fail
  refine (m1 _).mono ?_
  rintro e w3 ⟨rfl, k3⟩
  replace a0 := k3.cell a0 (by simp)
  replace a1 := k3.cell a1 (by simp)
  replace a2 := k3.cell a2 (by simp)
  replace b0 := k3.cell b0 (by simp)
  replace b1 := k3.cell b1 (by simp)
  replace b2 := k3.cell b2 (by simp)
  replace c0 := k3.cell c0 (by simp)
  replace c1 := k3.cell c1 (by simp)
  replace c2 := k3.cell c2 (by simp)
  go_wp2_with fail
  refine (m2 _).mono ?_
  rintro e w4 ⟨rfl, k4⟩
  replace a0 := k4.cell a0 (by simp)
  replace a1 := k4.cell a1 (by simp)
  replace a2 := k4.cell a2 (by simp)
  replace b0 := k4.cell b0 (by simp)
  replace b1 := k4.cell b1 (by simp)
  replace b2 := k4.cell b2 (by simp)
  replace c0 := k4.cell c0 (by simp)
  replace c1 := k4.cell c1 (by simp)
  replace c2 := k4.cell c2 (by simp)
  go_wp2_with fail
  go_ret
  exact ⟨rfl, ((((HK.out.nil k1).nil k2).nil k3).nil k4)⟩
set_option maxRecDepth 100000 in
set_option maxHeartbeats 12800000 in
theorem rules_yes (w : World) (a b c : Dc) (ha : Ok a) (hb : Ok b) (hc : Ok c) :
    Calls Tryd.prog 7 #[.agg #[.bool a.neg, .string ⟨(dtxt a.n).toArray⟩, .int .i64 (a.s : Int)], .agg #[.bool b.neg, .string ⟨(dtxt b.n).toArray⟩, .int .i64 (b.s : Int)], .agg #[.bool c.neg, .string ⟨(dtxt c.n).toArray⟩, .int .i64 (c.s : Int)]] w (YesPost w) := by
  have hsh := fun W => shown_any W
  have m0 := fun W => may_ok ha W
  have m1 := fun W => may_ok hb W
  have m2 := fun W => may_ok hc W
  have qab := add_sym ha hb
  have qba := add_sym hb ha
  rw [addD_comm b a] at qba
  have pab := mul_sym ha hb
  have pba := mul_sym hb ha
  rw [mulD_comm b a] at pba
  have hs := sub_sym ha hb
  have hcm := fun W => cmpD_any W a b ha hb
  have hcn := fun W => cmpD_any W b a hb ha
  rw [cmpD_swap b a] at hcn
  have hz := cmpD_zero ha hb
  have hadd := fun x => sub_add (a := a) (b := b) (x := x) ha
  have haok := fun x => addD_ok (a := a) (b := b) (x := x)
  have hmul := fun x l m n => mul_add (a := a) (b := b) (c := c) (x := x) (l := l) (m := m) (n := n)
  have hsub := fun d => cmp_sub (a := a) (b := b) (d := d)
  have hsok := fun d => subD_ok (a := a) (b := b) (x := d)
  have pac := mul_sym ha hc
  have pbc := mul_sym hb hc
  have pxc := fun x hx => mul_sym (a := x) (b := c) hx hc
  have sxb := fun x hx => sub_sym (a := x) (b := b) hx hb
  have mx := fun x hx W => may_ok (d := x) hx W
  have amn := fun x y hx hy => add_sym (a := x) (b := y) hx hy
  have cdz := fun d hd W => cmpD_any W d zeroD hd ok_zero
  have mok := fun x y z => mulD_ok (a := x) (b := y) (x := z)
  have d0 : dtxt zeroD.n = [48] := by kernel_rfl
  have n0 : zeroD.neg = false := rfl
  have s0 : ((zeroD.s : Nat) : Int) = 0 := rfl
  simp only [d0, n0, s0] at cdz
  clear d0 n0 s0
  obtain ⟨S, hS⟩ : ∃ S, S = addD a b := ⟨_, rfl⟩
  obtain ⟨M, hM⟩ : ∃ M, M = mulD a b := ⟨_, rfl⟩
  obtain ⟨D, hD⟩ : ∃ D, D = subD a b := ⟨_, rfl⟩
  obtain ⟨U, hU⟩ : ∃ U, U = mulD a c := ⟨_, rfl⟩
  obtain ⟨V, hV⟩ : ∃ V, V = mulD b c := ⟨_, rfl⟩
  simp only [← hS, ← hM, ← hD, ← hU, ← hV] at qab qba pab pba hs hadd haok hmul hsub hsok pac pbc
  obtain ⟨g, hg⟩ : ∃ g, g = cmpD a b := ⟨_, rfl⟩
  simp only [← hg] at hcm hcn hz hsub
  have hM2 := oE_or M
  have H1 := hid (And.intro hadd (And.intro haok (And.intro hmul (And.intro hsub (And.intro hsok mok)))))
  have H2 := hid (And.intro pac (And.intro pbc (And.intro pxc (And.intro sxb (And.intro mx (And.intro amn cdz))))))
  have H3 := hid (And.intro hs (And.intro hcm (And.intro hcn hz)))
  have H4 := hid (And.intro hS (And.intro hM (And.intro hD (And.intro hU (And.intro hV hg)))))
  have H5 := hid hM2
  have H6 := hid (And.intro ha (And.intro hb hc))
  clear hadd haok hmul hsub hsok mok pac pbc pxc sxb mx amn cdz hs hcm hcn hz hS hM hD hU hV hg hM2 ha hb hc
  have hA : Cells (((w.alloc (.cells #[.bool a.neg, .string ⟨(dtxt a.n).toArray⟩, .int .i64 (a.s : Int)] 23)).alloc (.cells #[.bool b.neg, .string ⟨(dtxt b.n).toArray⟩, .int .i64 (b.s : Int)] 23)).alloc (.cells #[.bool c.neg, .string ⟨(dtxt c.n).toArray⟩, .int .i64 (c.s : Int)] 23)) w.heap.size 23 [.bool a.neg, .string ⟨(dtxt a.n).toArray⟩, .int .i64 (a.s : Int)] := ((Cells.fresh w 23 [.bool a.neg, .string ⟨(dtxt a.n).toArray⟩, .int .i64 (a.s : Int)]).alloc _).alloc _
  have hB : Cells (((w.alloc (.cells #[.bool a.neg, .string ⟨(dtxt a.n).toArray⟩, .int .i64 (a.s : Int)] 23)).alloc (.cells #[.bool b.neg, .string ⟨(dtxt b.n).toArray⟩, .int .i64 (b.s : Int)] 23)).alloc (.cells #[.bool c.neg, .string ⟨(dtxt c.n).toArray⟩, .int .i64 (c.s : Int)] 23)) (w.heap.size + 1) 23 [.bool b.neg, .string ⟨(dtxt b.n).toArray⟩, .int .i64 (b.s : Int)] := by have := (Cells.fresh (w.alloc (.cells #[.bool a.neg, .string ⟨(dtxt a.n).toArray⟩, .int .i64 (a.s : Int)] 23)) 23 [.bool b.neg, .string ⟨(dtxt b.n).toArray⟩, .int .i64 (b.s : Int)]).alloc (.cells #[.bool c.neg, .string ⟨(dtxt c.n).toArray⟩, .int .i64 (c.s : Int)] 23); simpa using this
  have hC : Cells (((w.alloc (.cells #[.bool a.neg, .string ⟨(dtxt a.n).toArray⟩, .int .i64 (a.s : Int)] 23)).alloc (.cells #[.bool b.neg, .string ⟨(dtxt b.n).toArray⟩, .int .i64 (b.s : Int)] 23)).alloc (.cells #[.bool c.neg, .string ⟨(dtxt c.n).toArray⟩, .int .i64 (c.s : Int)] 23)) (w.heap.size + 1 + 1) 23 [.bool c.neg, .string ⟨(dtxt c.n).toArray⟩, .int .i64 (c.s : Int)] := by have := Cells.fresh ((w.alloc (.cells #[.bool a.neg, .string ⟨(dtxt a.n).toArray⟩, .int .i64 (a.s : Int)] 23)).alloc (.cells #[.bool b.neg, .string ⟨(dtxt b.n).toArray⟩, .int .i64 (b.s : Int)] 23)) 23 [.bool c.neg, .string ⟨(dtxt c.n).toArray⟩, .int .i64 (c.s : Int)]; simpa using this
  have HK := hid ((((Kp.refl [] w).alloc (.cells #[.bool a.neg, .string ⟨(dtxt a.n).toArray⟩, .int .i64 (a.s : Int)] 23)).alloc (.cells #[.bool b.neg, .string ⟨(dtxt b.n).toArray⟩, .int .i64 (b.s : Int)] 23)).alloc (.cells #[.bool c.neg, .string ⟨(dtxt c.n).toArray⟩, .int .i64 (c.s : Int)] 23))
  have HA := hid hA
  have HB := hid hB
  have HC := hid hC
  clear hA hB hC
  go_enter Tryd.func7, Tryd.ntmps7
  go_wp2_with fail
  refine (hsh _).mono ?_
  rintro e w1 ⟨rfl, k1⟩
  have C0 := HA.out.keep k1 (by simp)
  have a0 : _ = some (Value.bool a.neg) := C0.cell 0
  have a1 : _ = some (Value.string ⟨(dtxt a.n).toArray⟩) := C0.cell 1
  have a2 : _ = some (Value.int .i64 (a.s : Int)) := C0.cell 2
  have C1 := HB.out.keep k1 (by simp)
  have b0 : _ = some (Value.bool b.neg) := C1.cell 0
  have b1 : _ = some (Value.string ⟨(dtxt b.n).toArray⟩) := C1.cell 1
  have b2 : _ = some (Value.int .i64 (b.s : Int)) := C1.cell 2
  have C2 := HC.out.keep k1 (by simp)
  have c0 : _ = some (Value.bool c.neg) := C2.cell 0
  have c1 : _ = some (Value.string ⟨(dtxt c.n).toArray⟩) := C2.cell 1
  have c2 : _ = some (Value.int .i64 (c.s : Int)) := C2.cell 2
  clear C0 C1 C2
  go_wp2_with fail
  refine (m0 _).mono ?_
  rintro e w2 ⟨rfl, k2⟩
  replace a0 := k2.cell a0 (by simp)
  replace a1 := k2.cell a1 (by simp)
  replace a2 := k2.cell a2 (by simp)
  replace b0 := k2.cell b0 (by simp)
  replace b1 := k2.cell b1 (by simp)
  replace b2 := k2.cell b2 (by simp)
  replace c0 := k2.cell c0 (by simp)
  replace c1 := k2.cell c1 (by simp)
  replace c2 := k2.cell c2 (by simp)
  go_wp2_with fail
  refine (m1 _).mono ?_
  rintro e w3 ⟨rfl, k3⟩
  replace a0 := k3.cell a0 (by simp)
  replace a1 := k3.cell a1 (by simp)
  replace a2 := k3.cell a2 (by simp)
  replace b0 := k3.cell b0 (by simp)
  replace b1 := k3.cell b1 (by simp)
  replace b2 := k3.cell b2 (by simp)
  replace c0 := k3.cell c0 (by simp)
  replace c1 := k3.cell c1 (by simp)
  replace c2 := k3.cell c2 (by simp)
  go_wp2_with fail
  refine (m2 _).mono ?_
  rintro e w4 ⟨rfl, k4⟩
  replace a0 := k4.cell a0 (by simp)
  replace a1 := k4.cell a1 (by simp)
  replace a2 := k4.cell a2 (by simp)
  replace b0 := k4.cell b0 (by simp)
  replace b1 := k4.cell b1 (by simp)
  replace b2 := k4.cell b2 (by simp)
  replace c0 := k4.cell c0 (by simp)
  replace c1 := k4.cell c1 (by simp)
  replace c2 := k4.cell c2 (by simp)
  go_wp2_with fail
  refine (qab _).mono ?_
  rintro e w5 ⟨rfl, k5⟩
  obtain ⟨K5, x0, x1, x2⟩ := k5.loc (.bool (oN S)) (.string ⟨(oL S).toArray⟩) (.int .i64 (oS S))
  replace a0 := K5.cell a0 (by simp)
  replace a1 := K5.cell a1 (by simp)
  replace a2 := K5.cell a2 (by simp)
  replace b0 := K5.cell b0 (by simp)
  replace b1 := K5.cell b1 (by simp)
  replace b2 := K5.cell b2 (by simp)
  replace c0 := K5.cell c0 (by simp)
  replace c1 := K5.cell c1 (by simp)
  replace c2 := K5.cell c2 (by simp)
  go_wp2_with fail
  refine (qba _).mono ?_
  rintro e w6 ⟨rfl, k6⟩
  obtain ⟨K6, y0, y1, y2⟩ := k6.loc (.bool (oN S)) (.string ⟨(oL S).toArray⟩) (.int .i64 (oS S))
  replace a0 := K6.cell a0 (by simp)
  replace a1 := K6.cell a1 (by simp)
  replace a2 := K6.cell a2 (by simp)
  replace b0 := K6.cell b0 (by simp)
  replace b1 := K6.cell b1 (by simp)
  replace b2 := K6.cell b2 (by simp)
  replace c0 := K6.cell c0 (by simp)
  replace c1 := K6.cell c1 (by simp)
  replace c2 := K6.cell c2 (by simp)
  replace x0 := K6.cell x0 (by simp)
  replace x1 := K6.cell x1 (by simp)
  replace x2 := K6.cell x2 (by simp)
  go_wp2_with fail
  refine (pab _).mono ?_
  rintro e w7 ⟨rfl, k7⟩
  obtain ⟨K7, p0, p1, p2⟩ := k7.loc (.bool (oN M)) (.string ⟨(oL M).toArray⟩) (.int .i64 (oS M))
  replace a0 := K7.cell a0 (by simp)
  replace a1 := K7.cell a1 (by simp)
  replace a2 := K7.cell a2 (by simp)
  replace b0 := K7.cell b0 (by simp)
  replace b1 := K7.cell b1 (by simp)
  replace b2 := K7.cell b2 (by simp)
  replace c0 := K7.cell c0 (by simp)
  replace c1 := K7.cell c1 (by simp)
  replace c2 := K7.cell c2 (by simp)
  replace x0 := K7.cell x0 (by simp)
  replace x1 := K7.cell x1 (by simp)
  replace x2 := K7.cell x2 (by simp)
  replace y0 := K7.cell y0 (by simp)
  replace y1 := K7.cell y1 (by simp)
  replace y2 := K7.cell y2 (by simp)
  go_wp2_with fail
  refine (pba _).mono ?_
  rintro e w8 ⟨rfl, k8⟩
  obtain ⟨K8, q0, q1, q2⟩ := k8.loc (.bool (oN M)) (.string ⟨(oL M).toArray⟩) (.int .i64 (oS M))
  replace a0 := K8.cell a0 (by simp)
  replace a1 := K8.cell a1 (by simp)
  replace a2 := K8.cell a2 (by simp)
  replace b0 := K8.cell b0 (by simp)
  replace b1 := K8.cell b1 (by simp)
  replace b2 := K8.cell b2 (by simp)
  replace c0 := K8.cell c0 (by simp)
  replace c1 := K8.cell c1 (by simp)
  replace c2 := K8.cell c2 (by simp)
  replace x0 := K8.cell x0 (by simp)
  replace x1 := K8.cell x1 (by simp)
  replace x2 := K8.cell x2 (by simp)
  replace y0 := K8.cell y0 (by simp)
  replace y1 := K8.cell y1 (by simp)
  replace y2 := K8.cell y2 (by simp)
  replace p0 := K8.cell p0 (by simp)
  replace p1 := K8.cell p1 (by simp)
  replace p2 := K8.cell p2 (by simp)
  have HKK := hid ((((((((HK.out.nil k1).nil k2).nil k3).nil k4).nil K5).nil K6).nil K7).nil K8)
  clear k1 k2 k3 k4 k5 k6 k7 k8 K5 K6 K7 K8 hsh m0 m1 m2 qab qba pab pba
  have hwx : w8.alloc (.cells #[.bool (oN M), .string ⟨(oL M).toArray⟩, .int .i64 (oS M)] 23) = w8.alloc (.cells #[.bool (oN M), .string ⟨(oL M).toArray⟩, .int .i64 (oS M)] 23) := rfl
  clear hwx
  go_upto_region 8 with fail
  go_cut [102] (fun v wx => v = .bool false ∧ wx = (w8.alloc (.cells #[.bool (oN M), .string ⟨(oL M).toArray⟩, .int .i64 (oS M)] 23)))
  case first =>
    rcases H5.out with hm | hm
    · have hmb : (oE M != 0) = false := by rw [hm]; rfl
      have hmc : (oE M != 3) = true := by rw [hm]; rfl
      have hm3 : (oE S = 0) ∨ (oE S = 3) := oE_or S
      clear hm
      rcases hm3 with hm | hm
      · have hnb : (oE S != 0) = false := by rw [hm]; rfl
        have hnc : (oE S != 3) = true := by rw [hm]; rfl
        clear hm
        go_wp2_with fail
        go_meet
        exact ⟨rfl, rfl⟩
      · have hnb : (oE S != 0) = true := by rw [hm]; rfl
        have hnc : (oE S != 3) = false := by rw [hm]; rfl
        clear hm
        go_wp2_with fail
        go_meet
        exact ⟨rfl, rfl⟩
    · have hmb : (oE M != 0) = true := by rw [hm]; rfl
      have hmc : (oE M != 3) = false := by rw [hm]; rfl
      have hm3 : (oE S = 0) ∨ (oE S = 3) := oE_or S
      clear hm
      rcases hm3 with hm | hm
      · have hnb : (oE S != 0) = false := by rw [hm]; rfl
        have hnc : (oE S != 3) = true := by rw [hm]; rfl
        clear hm
        go_wp2_with fail
        go_meet
        exact ⟨rfl, rfl⟩
      · have hnb : (oE S != 0) = true := by rw [hm]; rfl
        have hnc : (oE S != 3) = false := by rw [hm]; rfl
        clear hm
        go_wp2_with fail
        go_meet
        exact ⟨rfl, rfl⟩
  case rest =>
    obtain ⟨rfl, rfl⟩ := hcut
    obtain ⟨W8, hW8⟩ : ∃ W, W = (w8.alloc (.cells #[.bool (oN M), .string ⟨(oL M).toArray⟩, .int .i64 (oS M)] 23)) := ⟨_, rfl⟩
    have e8 : w8.heap.size < W8.heap.size := by rw [hW8]; simp
    simp only [← hW8] at *
    clear hW8
    go_upto_if 104 with fail
    go_cut [] (fun wx => Kp [] W8 wx)
    case first =>
      rcases none_or S with hx | ⟨x, hx⟩
      · obtain ⟨eb, ec, e3⟩ := none_err hx
        clear e3 hx
        go_wp2_with fail
        go_meet
        exact Kp.refl _ _
      · obtain ⟨hS, hM, hD, hU, hV, hg⟩ := H4.out
        obtain ⟨ha, hb, hc⟩ := H6.out
        obtain ⟨pac, pbc, pxc, sxb, mx, amn, cdz⟩ := H2.out
        obtain ⟨hadd, haok, hmul, hsub, hsok, mok⟩ := H1.out
        obtain ⟨eb, ec, e3⟩ := some_err hx
        have hxo := (haok x hx).1
        have hsxb := sxb x hxo
        rw [hadd x hx] at hsxb
        have hsxb := hsxb.some
        have hmx := mx x hxo
        have hpx := pxc x hxo
        obtain ⟨eN, eL, eS⟩ := some_of hx
        simp only [eN, eL, eS] at hsxb hmx hpx
        have hlm := fun l m n => hmul x l m n hx
        obtain ⟨L, hL⟩ : ∃ L, L = mulD x c := ⟨_, rfl⟩
        simp only [← hL] at hpx hlm
        have HL := hid (And.intro hlm (And.intro amn mok))
        have HU := hid hU
        have HV := hid hV
        have HLx := hid hL
        clear hadd haok hmul hsub hsok mok pxc sxb mx amn cdz hS hM hD hU hV hg eN eL eS hxo hlm hL hx ec e3 ha hb hc
        clear y0 y1 y2 p0 p1 p2 q0 q1 q2
        go_wp2_with fail
        refine (hsxb _).mono ?_
        rintro e w9 ⟨rfl, k9⟩
        obtain ⟨K9, z0, z1, z2⟩ := k9.loc (.bool a.neg) (.string ⟨(dtxt a.n).toArray⟩) (.int .i64 (a.s : Int))
        replace a0 := K9.cell a0 (by simp)
        replace a1 := K9.cell a1 (by simp)
        replace a2 := K9.cell a2 (by simp)
        replace b0 := K9.cell b0 (by simp)
        replace b1 := K9.cell b1 (by simp)
        replace b2 := K9.cell b2 (by simp)
        replace c0 := K9.cell c0 (by simp)
        replace c1 := K9.cell c1 (by simp)
        replace c2 := K9.cell c2 (by simp)
        replace x0 := K9.cell x0 (by simp)
        replace x1 := K9.cell x1 (by simp)
        replace x2 := K9.cell x2 (by simp)
        go_wp2_with fail
        refine (hmx _).mono ?_
        rintro e w10 ⟨rfl, k10⟩
        replace a0 := k10.cell a0 (by simp)
        replace a1 := k10.cell a1 (by simp)
        replace a2 := k10.cell a2 (by simp)
        replace b0 := k10.cell b0 (by simp)
        replace b1 := k10.cell b1 (by simp)
        replace b2 := k10.cell b2 (by simp)
        replace c0 := k10.cell c0 (by simp)
        replace c1 := k10.cell c1 (by simp)
        replace c2 := k10.cell c2 (by simp)
        replace x0 := k10.cell x0 (by simp)
        replace x1 := k10.cell x1 (by simp)
        replace x2 := k10.cell x2 (by simp)
        go_wp2_with fail
        refine (hpx _).mono ?_
        rintro e w11 ⟨rfl, k11⟩
        obtain ⟨K11, l0, l1, l2⟩ := k11.loc (.bool (oN L)) (.string ⟨(oL L).toArray⟩) (.int .i64 (oS L))
        replace a0 := K11.cell a0 (by simp)
        replace a1 := K11.cell a1 (by simp)
        replace a2 := K11.cell a2 (by simp)
        replace b0 := K11.cell b0 (by simp)
        replace b1 := K11.cell b1 (by simp)
        replace b2 := K11.cell b2 (by simp)
        replace c0 := K11.cell c0 (by simp)
        replace c1 := K11.cell c1 (by simp)
        replace c2 := K11.cell c2 (by simp)
        go_wp2_with fail
        refine (pac _).mono ?_
        rintro e w12 ⟨rfl, k12⟩
        obtain ⟨K12, m0, m1, m2⟩ := k12.loc (.bool (oN U)) (.string ⟨(oL U).toArray⟩) (.int .i64 (oS U))
        replace a0 := K12.cell a0 (by simp)
        replace a1 := K12.cell a1 (by simp)
        replace a2 := K12.cell a2 (by simp)
        replace b0 := K12.cell b0 (by simp)
        replace b1 := K12.cell b1 (by simp)
        replace b2 := K12.cell b2 (by simp)
        replace c0 := K12.cell c0 (by simp)
        replace c1 := K12.cell c1 (by simp)
        replace c2 := K12.cell c2 (by simp)
        replace l0 := K12.cell l0 (by simp)
        replace l1 := K12.cell l1 (by simp)
        replace l2 := K12.cell l2 (by simp)
        go_wp2_with fail
        refine (pbc _).mono ?_
        rintro e w13 ⟨rfl, k13⟩
        obtain ⟨K13, n0, n1, n2⟩ := k13.loc (.bool (oN V)) (.string ⟨(oL V).toArray⟩) (.int .i64 (oS V))
        replace a0 := K13.cell a0 (by simp)
        replace a1 := K13.cell a1 (by simp)
        replace a2 := K13.cell a2 (by simp)
        replace b0 := K13.cell b0 (by simp)
        replace b1 := K13.cell b1 (by simp)
        replace b2 := K13.cell b2 (by simp)
        replace c0 := K13.cell c0 (by simp)
        replace c1 := K13.cell c1 (by simp)
        replace c2 := K13.cell c2 (by simp)
        replace l0 := K13.cell l0 (by simp)
        replace l1 := K13.cell l1 (by simp)
        replace l2 := K13.cell l2 (by simp)
        replace m0 := K13.cell m0 (by simp)
        replace m1 := K13.cell m1 (by simp)
        replace m2 := K13.cell m2 (by simp)
        have KF := hid ((((((Kp.refl [] W8).nil K9).nil k10).nil K11).nil K12).nil K13)
        clear k9 k10 k11 k12 k13 K9 K11 K12 K13 hsxb hmx hpx pac pbc
        rcases none_or L with hl | ⟨lv, hl⟩
        · obtain ⟨fa, fb, fc⟩ := none_err hl
          clear hl fc
          go_wp2_with fail
          go_meet
          exact KF.out
        · obtain ⟨fl, gl, hle⟩ := some_err hl
          have Al := hid (some_of hl)
          have Hl := hid hl
          clear hl hle
          rcases none_or U with hm | ⟨mv, hm⟩
          · obtain ⟨fa, fb, fc⟩ := none_err hm
            clear hm fc
            go_wp2_with fail
            go_meet
            exact KF.out
          · obtain ⟨fm, gm, hme⟩ := some_err hm
            have Am := hid (some_of hm)
            have Hm := hid hm
            clear hm hme
            rcases none_or V with hn | ⟨nv, hn⟩
            · obtain ⟨fa, fb, fc⟩ := none_err hn
              clear hn fc
              go_wp2_with fail
              go_meet
              exact KF.out
            · obtain ⟨fn, gn, hne⟩ := some_err hn
              have An := hid (some_of hn)
              have Hn := hid hn
              clear hn hne
              obtain ⟨hlm, amn, mok⟩ := HL.out
              have hl := Hl.out
              have hm := Hm.out
              have hn := Hn.out
              obtain ⟨am, bm, cm⟩ := Am.out
              obtain ⟨an, bn, cn⟩ := An.out
              have hq := amn mv nv (mok a c mv (HU.out.symm.trans hm)).1 (mok b c nv (HV.out.symm.trans hn)).1
              rw [hlm lv mv nv hl hm hn, ← hl] at hq
              simp only [am, bm, cm, an, bn, cn] at hq
              clear hl hm hn am bm cm an bn cn hlm amn mok
              go_wp2_with fail
              refine (hq _).mono ?_
              rintro e w14 ⟨rfl, k14⟩
              obtain ⟨K14, s0, s1, s2⟩ := k14.loc (.bool (oN L)) (.string ⟨(oL L).toArray⟩) (.int .i64 (oS L))
              replace a0 := K14.cell a0 (by simp)
              replace a1 := K14.cell a1 (by simp)
              replace a2 := K14.cell a2 (by simp)
              replace b0 := K14.cell b0 (by simp)
              replace b1 := K14.cell b1 (by simp)
              replace b2 := K14.cell b2 (by simp)
              replace c0 := K14.cell c0 (by simp)
              replace c1 := K14.cell c1 (by simp)
              replace c2 := K14.cell c2 (by simp)
              replace l0 := K14.cell l0 (by simp)
              replace l1 := K14.cell l1 (by simp)
              replace l2 := K14.cell l2 (by simp)
              replace m0 := K14.cell m0 (by simp)
              replace m1 := K14.cell m1 (by simp)
              replace m2 := K14.cell m2 (by simp)
              replace n0 := K14.cell n0 (by simp)
              replace n1 := K14.cell n1 (by simp)
              replace n2 := K14.cell n2 (by simp)
              go_wp2_with fail
              go_meet
              exact (KF.out.nil K14)
    case rest =>
      have KX := hcut
      replace a0 := KX.cell a0 (by simp)
      replace a1 := KX.cell a1 (by simp)
      replace a2 := KX.cell a2 (by simp)
      replace b0 := KX.cell b0 (by simp)
      replace b1 := KX.cell b1 (by simp)
      replace b2 := KX.cell b2 (by simp)
      clear hcut c0 c1 c2 x0 x1 x2 y0 y1 y2 p0 p1 p2 q0 q1 q2
      obtain ⟨hs, hcm, hcn, hz⟩ := H3.out
      have hgb : -1 ≤ g ∧ g ≤ 1 := by rw [H4.out.2.2.2.2.2]; unfold cmpD; rcases sgn_cases (a.z * 10 ^ b.s - b.z * 10 ^ a.s) with ⟨_, e⟩ | ⟨_, e⟩ | ⟨_, e⟩ <;> omega
      obtain ⟨hg1, hg2⟩ := hgb
      have hw : IntKind.i64.wrap (- -g) = g := by rw [Int.neg_neg]; exact IntWalk.i64_in _ (by omega)
      have hw2 : IntKind.i64.wrap g = g := IntWalk.i64_in _ (by omega)
      have HZ := hid hz
      clear hz
      go_wp2_with fail
      refine (hs _).mono ?_
      rintro e w9 ⟨rfl, k9⟩
      obtain ⟨K9, d0, d1, d2⟩ := k9.loc (.bool (oN D)) (.string ⟨(oL D).toArray⟩) (.int .i64 (oS D))
      replace a0 := K9.cell a0 (by simp)
      replace a1 := K9.cell a1 (by simp)
      replace a2 := K9.cell a2 (by simp)
      replace b0 := K9.cell b0 (by simp)
      replace b1 := K9.cell b1 (by simp)
      replace b2 := K9.cell b2 (by simp)
      go_wp2_with fail
      have kz := (Kp.refl [] (w9.alloc (.cells #[.bool (oN D), .string ⟨(oL D).toArray⟩, .int .i64 (oS D)] 23))).alloc (.cells #[.bool false, .string ⟨#[48]⟩, .int .i64 0] 23)
      have CZ := Cells.fresh (w9.alloc (.cells #[.bool (oN D), .string ⟨(oL D).toArray⟩, .int .i64 (oS D)] 23)) 23 [.bool false, .string ⟨#[48]⟩, .int .i64 0]
      have ez : (w9.alloc (.cells #[.bool (oN D), .string ⟨(oL D).toArray⟩, .int .i64 (oS D)] 23)).heap.size = w9.heap.size + 1 := by simp
      rw [ez] at CZ
      replace a0 := kz.cell a0 (by simp)
      replace a1 := kz.cell a1 (by simp)
      replace a2 := kz.cell a2 (by simp)
      replace b0 := kz.cell b0 (by simp)
      replace b1 := kz.cell b1 (by simp)
      replace b2 := kz.cell b2 (by simp)
      replace d0 := kz.cell d0 (by simp)
      replace d1 := kz.cell d1 (by simp)
      replace d2 := kz.cell d2 (by simp)
      have z0 : _ = some (Value.bool false) := CZ.cell 0
      have z1 : _ = some (Value.string ⟨#[48]⟩) := CZ.cell 1
      have z2 : _ = some (Value.int .i64 0) := CZ.cell 2
      have KY := hid (KX.nil K9 |>.nil kz)
      clear kz CZ ez k9 K9 KX hs
      obtain ⟨W9, hW9⟩ : ∃ W, W = (w9.alloc (.cells #[.bool (oN D), .string ⟨(oL D).toArray⟩, .int .i64 (oS D)] 23)).alloc (.cells #[.bool false, .string ⟨#[48]⟩, .int .i64 0] 23) := ⟨_, rfl⟩
      simp only [← hW9] at *
      clear hW9
      rcases none_or D with hd | ⟨dv, hd⟩
      · obtain ⟨eb, ec, e3⟩ := none_err hd
        clear e3 hd
        by_cases hg0 : g = 0
        · obtain rfl := HZ.out.1 hg0
          subst hg0
          refine lin_start (fun w' => w'.cell? ⟨w9.heap.size, 0, none⟩ = some (Value.bool (oN D)) ∧ w'.cell? ⟨w9.heap.size, 1, none⟩ = some (Value.string ⟨(oL D).toArray⟩) ∧ w'.cell? ⟨w9.heap.size, 2, none⟩ = some (Value.int .i64 (oS D)) ∧ w'.cell? ⟨(w9.heap.size + 1), 0, none⟩ = some (Value.bool false) ∧ w'.cell? ⟨(w9.heap.size + 1), 1, none⟩ = some (Value.string ⟨#[48]⟩) ∧ w'.cell? ⟨(w9.heap.size + 1), 2, none⟩ = some (Value.int .i64 0) ∧ w'.cell? ⟨w.heap.size, 0, none⟩ = some (Value.bool a.neg) ∧ w'.cell? ⟨w.heap.size, 1, none⟩ = some (Value.string ⟨(dtxt a.n).toArray⟩) ∧ w'.cell? ⟨w.heap.size, 2, none⟩ = some (Value.int .i64 (a.s : Int)) ∧ w'.cell? ⟨(w.heap.size + 1), 0, none⟩ = some (Value.bool a.neg) ∧ w'.cell? ⟨(w.heap.size + 1), 1, none⟩ = some (Value.string ⟨(dtxt a.n).toArray⟩) ∧ w'.cell? ⟨(w.heap.size + 1), 2, none⟩ = some (Value.int .i64 (a.s : Int))) ((Stays.cell _ _).and ((Stays.cell _ _).and ((Stays.cell _ _).and ((Stays.cell _ _).and ((Stays.cell _ _).and ((Stays.cell _ _).and ((Stays.cell _ _).and ((Stays.cell _ _).and ((Stays.cell _ _).and ((Stays.cell _ _).and ((Stays.cell _ _).and ((Stays.cell _ _))))))))))))) (by kernel_rfl) ⟨d0, d1, d2, z0, z1, z2, a0, a1, a2, b0, b1, b2⟩ (fun hSS hS => ?_)
          refine lin_val (i := 0) (v := ?_) rfl (by kernel_rfl) (by kernel_rfl) (by kernel_rfl) (fun _ _ _ h => h) hSS hS rfl (fun w hSw => ?_) ?_
          rotate_left
          · obtain ⟨q0, q1, q2, q3, q4, q5, q6, q7, q8, q9, q10, q11⟩ := hSw; go_simp; first | done | with_reducible rfl
          simp only [Act.put, List.setIfInBounds_toArray, List.set_cons_zero, List.set_cons_succ]
          refine lin_val (i := 1) (v := ?_) rfl (by kernel_rfl) (by kernel_rfl) (by kernel_rfl) (fun _ _ _ h => h) hSS hS rfl (fun w hSw => ?_) ?_
          rotate_left
          · obtain ⟨q0, q1, q2, q3, q4, q5, q6, q7, q8, q9, q10, q11⟩ := hSw; go_simp; first | done | with_reducible rfl
          simp only [Act.put, List.setIfInBounds_toArray, List.set_cons_zero, List.set_cons_succ]
          refine lin_val (i := 2) (v := ?_) rfl (by kernel_rfl) (by kernel_rfl) (by kernel_rfl) (fun _ _ _ h => h) hSS hS rfl (fun w hSw => ?_) ?_
          rotate_left
          · obtain ⟨q0, q1, q2, q3, q4, q5, q6, q7, q8, q9, q10, q11⟩ := hSw; go_simp; first | done | with_reducible rfl
          simp only [Act.put, List.setIfInBounds_toArray, List.set_cons_zero, List.set_cons_succ]
          refine lin_not (i := 3) rfl (by kernel_rfl) (by kernel_rfl) (by kernel_rfl) (fun _ _ _ h => h) hSS hS rfl ?_
          simp only [Act.put, List.setIfInBounds_toArray, List.set_cons_zero, List.set_cons_succ]
          refine lin_not (i := 4) rfl (by kernel_rfl) (by kernel_rfl) (by kernel_rfl) (fun _ _ _ h => h) hSS hS rfl ?_
          simp only [Act.put, List.setIfInBounds_toArray, List.set_cons_zero, List.set_cons_succ]
          refine lin_not (i := 5) rfl (by kernel_rfl) (by kernel_rfl) (by kernel_rfl) (fun _ _ _ h => h) hSS hS rfl ?_
          simp only [Act.put, List.setIfInBounds_toArray, List.set_cons_zero, List.set_cons_succ]
          refine lin_not (i := 6) rfl (by kernel_rfl) (by kernel_rfl) (by kernel_rfl) (fun _ _ _ h => h) hSS hS rfl ?_
          simp only [Act.put, List.setIfInBounds_toArray, List.set_cons_zero, List.set_cons_succ]
          refine lin_not (i := 7) rfl (by kernel_rfl) (by kernel_rfl) (by kernel_rfl) (fun _ _ _ h => h) hSS hS rfl ?_
          simp only [Act.put, List.setIfInBounds_toArray, List.set_cons_zero, List.set_cons_succ]
          refine lin_not (i := 8) rfl (by kernel_rfl) (by kernel_rfl) (by kernel_rfl) (fun _ _ _ h => h) hSS hS rfl ?_
          simp only [Act.put, List.setIfInBounds_toArray, List.set_cons_zero, List.set_cons_succ]
          refine lin_not (i := 9) rfl (by kernel_rfl) (by kernel_rfl) (by kernel_rfl) (fun _ _ _ h => h) hSS hS rfl ?_
          simp only [Act.put, List.setIfInBounds_toArray, List.set_cons_zero, List.set_cons_succ]
          refine lin_val (i := 10) (v := ?_) rfl (by kernel_rfl) (by kernel_rfl) (by kernel_rfl) (fun _ _ _ h => h) hSS hS rfl (fun w hSw => ?_) ?_
          rotate_left
          · obtain ⟨q0, q1, q2, q3, q4, q5, q6, q7, q8, q9, q10, q11⟩ := hSw; go_simp; first | done | with_reducible rfl
          simp only [Act.put, List.setIfInBounds_toArray, List.set_cons_zero, List.set_cons_succ]
          refine lin_val (i := 11) (v := ?_) rfl (by kernel_rfl) (by kernel_rfl) (by kernel_rfl) (fun _ _ _ h => h) hSS hS rfl (fun w hSw => ?_) ?_
          rotate_left
          · obtain ⟨q0, q1, q2, q3, q4, q5, q6, q7, q8, q9, q10, q11⟩ := hSw; go_simp; first | done | with_reducible rfl
          simp only [Act.put, List.setIfInBounds_toArray, List.set_cons_zero, List.set_cons_succ]
          refine lin_done (by kernel_rfl) (fun wq kq => ?_) _
          clear hS hSS
          replace a0 := kq.cell a0 (by simp)
          replace a1 := kq.cell a1 (by simp)
          replace a2 := kq.cell a2 (by simp)
          replace b0 := kq.cell b0 (by simp)
          replace b1 := kq.cell b1 (by simp)
          replace b2 := kq.cell b2 (by simp)
          clear d0 d1 d2 z0 z1 z2
          go_wp2_with fail
          refine lin_start (fun w' => w'.cell? ⟨w.heap.size, 0, none⟩ = some (Value.bool a.neg) ∧ w'.cell? ⟨w.heap.size, 1, none⟩ = some (Value.string ⟨(dtxt a.n).toArray⟩) ∧ w'.cell? ⟨w.heap.size, 2, none⟩ = some (Value.int .i64 (a.s : Int)) ∧ w'.cell? ⟨(w.heap.size + 1), 0, none⟩ = some (Value.bool a.neg) ∧ w'.cell? ⟨(w.heap.size + 1), 1, none⟩ = some (Value.string ⟨(dtxt a.n).toArray⟩) ∧ w'.cell? ⟨(w.heap.size + 1), 2, none⟩ = some (Value.int .i64 (a.s : Int))) ((Stays.cell _ _).and ((Stays.cell _ _).and ((Stays.cell _ _).and ((Stays.cell _ _).and ((Stays.cell _ _).and ((Stays.cell _ _))))))) (by kernel_rfl) ⟨a0, a1, a2, b0, b1, b2⟩ (fun hSS hS => ?_)
          refine lin_val (i := 0) (v := ?_) rfl (by kernel_rfl) (by kernel_rfl) (by kernel_rfl) (fun _ _ _ h => h) hSS hS rfl (fun w hSw => ?_) ?_
          rotate_left
          · obtain ⟨q0, q1, q2, q3, q4, q5⟩ := hSw; go_simp; first | done | with_reducible rfl
          simp only [Act.put, List.setIfInBounds_toArray, List.set_cons_zero, List.set_cons_succ]
          refine lin_val (i := 1) (v := ?_) rfl (by kernel_rfl) (by kernel_rfl) (by kernel_rfl) (fun _ _ _ h => h) hSS hS rfl (fun w hSw => ?_) ?_
          rotate_left
          · obtain ⟨q0, q1, q2, q3, q4, q5⟩ := hSw; go_simp; first | done | with_reducible rfl
          simp only [Act.put, List.setIfInBounds_toArray, List.set_cons_zero, List.set_cons_succ]
          refine lin_val (i := 2) (v := ?_) rfl (by kernel_rfl) (by kernel_rfl) (by kernel_rfl) (fun _ _ _ h => h) hSS hS rfl (fun w hSw => ?_) ?_
          rotate_left
          · obtain ⟨q0, q1, q2, q3, q4, q5⟩ := hSw; go_simp; first | done | with_reducible rfl
          simp only [Act.put, List.setIfInBounds_toArray, List.set_cons_zero, List.set_cons_succ]
          refine lin_val (i := 3) (v := ?_) rfl (by kernel_rfl) (by kernel_rfl) (by kernel_rfl) (fun _ _ _ h => h) hSS hS rfl (fun w hSw => ?_) ?_
          rotate_left
          · obtain ⟨q0, q1, q2, q3, q4, q5⟩ := hSw; go_simp; first | done | with_reducible rfl
          simp only [Act.put, List.setIfInBounds_toArray, List.set_cons_zero, List.set_cons_succ]
          refine lin_val (i := 4) (v := ?_) rfl (by kernel_rfl) (by kernel_rfl) (by kernel_rfl) (fun _ _ _ h => h) hSS hS rfl (fun w hSw => ?_) ?_
          rotate_left
          · obtain ⟨q0, q1, q2, q3, q4, q5⟩ := hSw; go_simp; first | done | with_reducible rfl
          simp only [Act.put, List.setIfInBounds_toArray, List.set_cons_zero, List.set_cons_succ]
          refine lin_val (i := 5) (v := ?_) rfl (by kernel_rfl) (by kernel_rfl) (by kernel_rfl) (fun _ _ _ h => h) hSS hS rfl (fun w hSw => ?_) ?_
          rotate_left
          · obtain ⟨q0, q1, q2, q3, q4, q5⟩ := hSw; go_simp; first | done | with_reducible rfl
          simp only [Act.put, List.setIfInBounds_toArray, List.set_cons_zero, List.set_cons_succ]
          refine lin_val (i := 6) (v := ?_) rfl (by kernel_rfl) (by kernel_rfl) (by kernel_rfl) (fun _ _ _ h => h) hSS hS rfl (fun w hSw => ?_) ?_
          rotate_left
          · obtain ⟨q0, q1, q2, q3, q4, q5⟩ := hSw; go_simp; first | done | with_reducible rfl
          simp only [Act.put, List.setIfInBounds_toArray, List.set_cons_zero, List.set_cons_succ]
          refine lin_call (i := 7) rfl (by kernel_rfl) (by kernel_rfl) (by kernel_rfl) (fun _ _ _ h => h) hSS hS rfl (fun w _ => hcm w) (fun w hSw => ?_) ?_
          · obtain ⟨q0, q1, q2, q3, q4, q5⟩ := hSw; go_simp
          simp only [Act.put, List.setIfInBounds_toArray, List.set_cons_zero, List.set_cons_succ]
          refine lin_val (i := 8) (v := ?_) rfl (by kernel_rfl) (by kernel_rfl) (by kernel_rfl) (fun _ _ _ h => h) hSS hS rfl (fun w hSw => ?_) ?_
          rotate_left
          · obtain ⟨q0, q1, q2, q3, q4, q5⟩ := hSw; go_simp; first | done | with_reducible rfl
          simp only [Act.put, List.setIfInBounds_toArray, List.set_cons_zero, List.set_cons_succ]
          refine lin_val (i := 9) (v := ?_) rfl (by kernel_rfl) (by kernel_rfl) (by kernel_rfl) (fun _ _ _ h => h) hSS hS rfl (fun w hSw => ?_) ?_
          rotate_left
          · obtain ⟨q0, q1, q2, q3, q4, q5⟩ := hSw; go_simp; first | done | with_reducible rfl
          simp only [Act.put, List.setIfInBounds_toArray, List.set_cons_zero, List.set_cons_succ]
          refine lin_call (i := 10) rfl (by kernel_rfl) (by kernel_rfl) (by kernel_rfl) (fun _ _ _ h => h) hSS hS rfl (fun w _ => hcn w) (fun w hSw => ?_) ?_
          · obtain ⟨q0, q1, q2, q3, q4, q5⟩ := hSw; go_simp
          simp only [Act.put, List.setIfInBounds_toArray, List.set_cons_zero, List.set_cons_succ]
          refine lin_val (i := 11) (v := ?_) rfl (by kernel_rfl) (by kernel_rfl) (by kernel_rfl) (fun _ _ _ h => h) hSS hS rfl (fun w hSw => ?_) ?_
          rotate_left
          · obtain ⟨q0, q1, q2, q3, q4, q5⟩ := hSw; go_simp; first | done | with_reducible rfl
          simp only [Act.put, List.setIfInBounds_toArray, List.set_cons_zero, List.set_cons_succ]
          refine lin_val (i := 12) (v := ?_) rfl (by kernel_rfl) (by kernel_rfl) (by kernel_rfl) (fun _ _ _ h => h) hSS hS rfl (fun w hSw => ?_) ?_
          rotate_left
          · obtain ⟨q0, q1, q2, q3, q4, q5⟩ := hSw; go_simp; first | done | with_reducible rfl
          simp only [Act.put, List.setIfInBounds_toArray, List.set_cons_zero, List.set_cons_succ]
          refine lin_val (i := 13) (v := ?_) rfl (by kernel_rfl) (by kernel_rfl) (by kernel_rfl) (fun _ _ _ h => h) hSS hS rfl (fun w hSw => ?_) ?_
          rotate_left
          · obtain ⟨q0, q1, q2, q3, q4, q5⟩ := hSw; go_simp; first | done | with_reducible rfl
          simp only [Act.put, List.setIfInBounds_toArray, List.set_cons_zero, List.set_cons_succ]
          refine lin_val (i := 14) (v := ?_) rfl (by kernel_rfl) (by kernel_rfl) (by kernel_rfl) (fun _ _ _ h => h) hSS hS rfl (fun w hSw => ?_) ?_
          rotate_left
          · obtain ⟨q0, q1, q2, q3, q4, q5⟩ := hSw; go_simp; first | done | with_reducible rfl
          simp only [Act.put, List.setIfInBounds_toArray, List.set_cons_zero, List.set_cons_succ]
          refine lin_val (i := 15) (v := ?_) rfl (by kernel_rfl) (by kernel_rfl) (by kernel_rfl) (fun _ _ _ h => h) hSS hS rfl (fun w hSw => ?_) ?_
          rotate_left
          · obtain ⟨q0, q1, q2, q3, q4, q5⟩ := hSw; go_simp; first | done | with_reducible rfl
          simp only [Act.put, List.setIfInBounds_toArray, List.set_cons_zero, List.set_cons_succ]
          refine lin_val (i := 16) (v := ?_) rfl (by kernel_rfl) (by kernel_rfl) (by kernel_rfl) (fun _ _ _ h => h) hSS hS rfl (fun w hSw => ?_) ?_
          rotate_left
          · obtain ⟨q0, q1, q2, q3, q4, q5⟩ := hSw; go_simp; first | done | with_reducible rfl
          simp only [Act.put, List.setIfInBounds_toArray, List.set_cons_zero, List.set_cons_succ]
          refine lin_call (i := 17) rfl (by kernel_rfl) (by kernel_rfl) (by kernel_rfl) (fun _ _ _ h => h) hSS hS rfl (fun w _ => hcm w) (fun w hSw => ?_) ?_
          · obtain ⟨q0, q1, q2, q3, q4, q5⟩ := hSw; go_simp
          simp only [Act.put, List.setIfInBounds_toArray, List.set_cons_zero, List.set_cons_succ]
          refine lin_val (i := 18) (v := ?_) rfl (by kernel_rfl) (by kernel_rfl) (by kernel_rfl) (fun _ _ _ h => h) hSS hS rfl (fun w hSw => ?_) ?_
          rotate_left
          · obtain ⟨q0, q1, q2, q3, q4, q5⟩ := hSw; go_simp; first | done | with_reducible rfl
          simp only [Act.put, List.setIfInBounds_toArray, List.set_cons_zero, List.set_cons_succ]
          refine lin_val (i := 19) (v := ?_) rfl (by kernel_rfl) (by kernel_rfl) (by kernel_rfl) (fun _ _ _ h => h) hSS hS rfl (fun w hSw => ?_) ?_
          rotate_left
          · obtain ⟨q0, q1, q2, q3, q4, q5⟩ := hSw; go_simp; first | done | with_reducible rfl
          simp only [Act.put, List.setIfInBounds_toArray, List.set_cons_zero, List.set_cons_succ]
          refine lin_val (i := 20) (v := ?_) rfl (by kernel_rfl) (by kernel_rfl) (by kernel_rfl) (fun _ _ _ h => h) hSS hS rfl (fun w hSw => ?_) ?_
          rotate_left
          · obtain ⟨q0, q1, q2, q3, q4, q5⟩ := hSw; go_simp; first | done | with_reducible rfl
          simp only [Act.put, List.setIfInBounds_toArray, List.set_cons_zero, List.set_cons_succ]
          refine lin_val (i := 21) (v := ?_) rfl (by kernel_rfl) (by kernel_rfl) (by kernel_rfl) (fun _ _ _ h => h) hSS hS rfl (fun w hSw => ?_) ?_
          rotate_left
          · obtain ⟨q0, q1, q2, q3, q4, q5⟩ := hSw; go_simp; first | done | with_reducible rfl
          simp only [Act.put, List.setIfInBounds_toArray, List.set_cons_zero, List.set_cons_succ]
          refine lin_val (i := 22) (v := ?_) rfl (by kernel_rfl) (by kernel_rfl) (by kernel_rfl) (fun _ _ _ h => h) hSS hS rfl (fun w hSw => ?_) ?_
          rotate_left
          · obtain ⟨q0, q1, q2, q3, q4, q5⟩ := hSw; go_simp; first | done | with_reducible rfl
          simp only [Act.put, List.setIfInBounds_toArray, List.set_cons_zero, List.set_cons_succ]
          refine lin_val (i := 23) (v := ?_) rfl (by kernel_rfl) (by kernel_rfl) (by kernel_rfl) (fun _ _ _ h => h) hSS hS rfl (fun w hSw => ?_) ?_
          rotate_left
          · obtain ⟨q0, q1, q2, q3, q4, q5⟩ := hSw; go_simp; first | done | with_reducible rfl
          simp only [Act.put, List.setIfInBounds_toArray, List.set_cons_zero, List.set_cons_succ]
          refine lin_val (i := 24) (v := ?_) rfl (by kernel_rfl) (by kernel_rfl) (by kernel_rfl) (fun _ _ _ h => h) hSS hS rfl (fun w hSw => ?_) ?_
          rotate_left
          · obtain ⟨q0, q1, q2, q3, q4, q5⟩ := hSw; go_simp; first | done | with_reducible rfl
          simp only [Act.put, List.setIfInBounds_toArray, List.set_cons_zero, List.set_cons_succ]
          refine lin_done (by kernel_rfl) (fun wr kr => ?_) _
          clear hS hSS
          go_wp2_with fail
          go_ret
          exact ⟨rfl, (((HKK.out.nil KY.out).drew.nil kq).drew.nil kr)⟩
        · have hne : a ≠ b := fun e => hg0 (HZ.out.2 e)
          have hgz : (g == 0) = false := beq_eq_false_iff_ne.2 hg0
          have hst := hid (dc_ne hne)
          clear hne hg0
          refine lin_start (fun w' => w'.cell? ⟨w9.heap.size, 0, none⟩ = some (Value.bool (oN D)) ∧ w'.cell? ⟨w9.heap.size, 1, none⟩ = some (Value.string ⟨(oL D).toArray⟩) ∧ w'.cell? ⟨w9.heap.size, 2, none⟩ = some (Value.int .i64 (oS D)) ∧ w'.cell? ⟨(w9.heap.size + 1), 0, none⟩ = some (Value.bool false) ∧ w'.cell? ⟨(w9.heap.size + 1), 1, none⟩ = some (Value.string ⟨#[48]⟩) ∧ w'.cell? ⟨(w9.heap.size + 1), 2, none⟩ = some (Value.int .i64 0) ∧ w'.cell? ⟨w.heap.size, 0, none⟩ = some (Value.bool a.neg) ∧ w'.cell? ⟨w.heap.size, 1, none⟩ = some (Value.string ⟨(dtxt a.n).toArray⟩) ∧ w'.cell? ⟨w.heap.size, 2, none⟩ = some (Value.int .i64 (a.s : Int)) ∧ w'.cell? ⟨(w.heap.size + 1), 0, none⟩ = some (Value.bool b.neg) ∧ w'.cell? ⟨(w.heap.size + 1), 1, none⟩ = some (Value.string ⟨(dtxt b.n).toArray⟩) ∧ w'.cell? ⟨(w.heap.size + 1), 2, none⟩ = some (Value.int .i64 (b.s : Int))) ((Stays.cell _ _).and ((Stays.cell _ _).and ((Stays.cell _ _).and ((Stays.cell _ _).and ((Stays.cell _ _).and ((Stays.cell _ _).and ((Stays.cell _ _).and ((Stays.cell _ _).and ((Stays.cell _ _).and ((Stays.cell _ _).and ((Stays.cell _ _).and ((Stays.cell _ _))))))))))))) (by kernel_rfl) ⟨d0, d1, d2, z0, z1, z2, a0, a1, a2, b0, b1, b2⟩ (fun hSS hS => ?_)
          refine lin_val (i := 0) (v := ?_) rfl (by kernel_rfl) (by kernel_rfl) (by kernel_rfl) (fun _ _ _ h => h) hSS hS rfl (fun w hSw => ?_) ?_
          rotate_left
          · obtain ⟨q0, q1, q2, q3, q4, q5, q6, q7, q8, q9, q10, q11⟩ := hSw; go_simp; first | done | with_reducible rfl
          simp only [Act.put, List.setIfInBounds_toArray, List.set_cons_zero, List.set_cons_succ]
          refine lin_val (i := 1) (v := ?_) rfl (by kernel_rfl) (by kernel_rfl) (by kernel_rfl) (fun _ _ _ h => h) hSS hS rfl (fun w hSw => ?_) ?_
          rotate_left
          · obtain ⟨q0, q1, q2, q3, q4, q5, q6, q7, q8, q9, q10, q11⟩ := hSw; go_simp; first | done | with_reducible rfl
          simp only [Act.put, List.setIfInBounds_toArray, List.set_cons_zero, List.set_cons_succ]
          refine lin_val (i := 2) (v := ?_) rfl (by kernel_rfl) (by kernel_rfl) (by kernel_rfl) (fun _ _ _ h => h) hSS hS rfl (fun w hSw => ?_) ?_
          rotate_left
          · obtain ⟨q0, q1, q2, q3, q4, q5, q6, q7, q8, q9, q10, q11⟩ := hSw; go_simp; first | done | with_reducible rfl
          simp only [Act.put, List.setIfInBounds_toArray, List.set_cons_zero, List.set_cons_succ]
          refine lin_not (i := 3) rfl (by kernel_rfl) (by kernel_rfl) (by kernel_rfl) (fun _ _ _ h => h) hSS hS rfl ?_
          simp only [Act.put, List.setIfInBounds_toArray, List.set_cons_zero, List.set_cons_succ]
          refine lin_not (i := 4) rfl (by kernel_rfl) (by kernel_rfl) (by kernel_rfl) (fun _ _ _ h => h) hSS hS rfl ?_
          simp only [Act.put, List.setIfInBounds_toArray, List.set_cons_zero, List.set_cons_succ]
          refine lin_not (i := 5) rfl (by kernel_rfl) (by kernel_rfl) (by kernel_rfl) (fun _ _ _ h => h) hSS hS rfl ?_
          simp only [Act.put, List.setIfInBounds_toArray, List.set_cons_zero, List.set_cons_succ]
          refine lin_not (i := 6) rfl (by kernel_rfl) (by kernel_rfl) (by kernel_rfl) (fun _ _ _ h => h) hSS hS rfl ?_
          simp only [Act.put, List.setIfInBounds_toArray, List.set_cons_zero, List.set_cons_succ]
          refine lin_not (i := 7) rfl (by kernel_rfl) (by kernel_rfl) (by kernel_rfl) (fun _ _ _ h => h) hSS hS rfl ?_
          simp only [Act.put, List.setIfInBounds_toArray, List.set_cons_zero, List.set_cons_succ]
          refine lin_not (i := 8) rfl (by kernel_rfl) (by kernel_rfl) (by kernel_rfl) (fun _ _ _ h => h) hSS hS rfl ?_
          simp only [Act.put, List.setIfInBounds_toArray, List.set_cons_zero, List.set_cons_succ]
          refine lin_not (i := 9) rfl (by kernel_rfl) (by kernel_rfl) (by kernel_rfl) (fun _ _ _ h => h) hSS hS rfl ?_
          simp only [Act.put, List.setIfInBounds_toArray, List.set_cons_zero, List.set_cons_succ]
          refine lin_val (i := 10) (v := ?_) rfl (by kernel_rfl) (by kernel_rfl) (by kernel_rfl) (fun _ _ _ h => h) hSS hS rfl (fun w hSw => ?_) ?_
          rotate_left
          · obtain ⟨q0, q1, q2, q3, q4, q5, q6, q7, q8, q9, q10, q11⟩ := hSw; go_simp; first | done | with_reducible rfl
          simp only [Act.put, List.setIfInBounds_toArray, List.set_cons_zero, List.set_cons_succ]
          refine lin_val (i := 11) (v := ?_) rfl (by kernel_rfl) (by kernel_rfl) (by kernel_rfl) (fun _ _ _ h => h) hSS hS rfl (fun w hSw => ?_) ?_
          rotate_left
          · obtain ⟨q0, q1, q2, q3, q4, q5, q6, q7, q8, q9, q10, q11⟩ := hSw; go_simp; first | done | with_reducible rfl
          simp only [Act.put, List.setIfInBounds_toArray, List.set_cons_zero, List.set_cons_succ]
          refine lin_done (by kernel_rfl) (fun wq kq => ?_) _
          clear hS hSS
          replace a0 := kq.cell a0 (by simp)
          replace a1 := kq.cell a1 (by simp)
          replace a2 := kq.cell a2 (by simp)
          replace b0 := kq.cell b0 (by simp)
          replace b1 := kq.cell b1 (by simp)
          replace b2 := kq.cell b2 (by simp)
          clear d0 d1 d2 z0 z1 z2
          go_wp2_with fail
          refine lin_start (fun w' => w'.cell? ⟨w.heap.size, 0, none⟩ = some (Value.bool a.neg) ∧ w'.cell? ⟨w.heap.size, 1, none⟩ = some (Value.string ⟨(dtxt a.n).toArray⟩) ∧ w'.cell? ⟨w.heap.size, 2, none⟩ = some (Value.int .i64 (a.s : Int)) ∧ w'.cell? ⟨(w.heap.size + 1), 0, none⟩ = some (Value.bool b.neg) ∧ w'.cell? ⟨(w.heap.size + 1), 1, none⟩ = some (Value.string ⟨(dtxt b.n).toArray⟩) ∧ w'.cell? ⟨(w.heap.size + 1), 2, none⟩ = some (Value.int .i64 (b.s : Int))) ((Stays.cell _ _).and ((Stays.cell _ _).and ((Stays.cell _ _).and ((Stays.cell _ _).and ((Stays.cell _ _).and ((Stays.cell _ _))))))) (by kernel_rfl) ⟨a0, a1, a2, b0, b1, b2⟩ (fun hSS hS => ?_)
          refine lin_val (i := 0) (v := ?_) rfl (by kernel_rfl) (by kernel_rfl) (by kernel_rfl) (fun _ _ _ h => h) hSS hS rfl (fun w hSw => ?_) ?_
          rotate_left
          · obtain ⟨q0, q1, q2, q3, q4, q5⟩ := hSw; go_simp; first | done | with_reducible rfl
          simp only [Act.put, List.setIfInBounds_toArray, List.set_cons_zero, List.set_cons_succ]
          refine lin_val (i := 1) (v := ?_) rfl (by kernel_rfl) (by kernel_rfl) (by kernel_rfl) (fun _ _ _ h => h) hSS hS rfl (fun w hSw => ?_) ?_
          rotate_left
          · obtain ⟨q0, q1, q2, q3, q4, q5⟩ := hSw; go_simp; first | done | with_reducible rfl
          simp only [Act.put, List.setIfInBounds_toArray, List.set_cons_zero, List.set_cons_succ]
          refine lin_val (i := 2) (v := ?_) rfl (by kernel_rfl) (by kernel_rfl) (by kernel_rfl) (fun _ _ _ h => h) hSS hS rfl (fun w hSw => ?_) ?_
          rotate_left
          · obtain ⟨q0, q1, q2, q3, q4, q5⟩ := hSw; go_simp; first | done | with_reducible rfl
          simp only [Act.put, List.setIfInBounds_toArray, List.set_cons_zero, List.set_cons_succ]
          refine lin_val (i := 3) (v := ?_) rfl (by kernel_rfl) (by kernel_rfl) (by kernel_rfl) (fun _ _ _ h => h) hSS hS rfl (fun w hSw => ?_) ?_
          rotate_left
          · obtain ⟨q0, q1, q2, q3, q4, q5⟩ := hSw; go_simp; first | done | with_reducible rfl
          simp only [Act.put, List.setIfInBounds_toArray, List.set_cons_zero, List.set_cons_succ]
          refine lin_val (i := 4) (v := ?_) rfl (by kernel_rfl) (by kernel_rfl) (by kernel_rfl) (fun _ _ _ h => h) hSS hS rfl (fun w hSw => ?_) ?_
          rotate_left
          · obtain ⟨q0, q1, q2, q3, q4, q5⟩ := hSw; go_simp; first | done | with_reducible rfl
          simp only [Act.put, List.setIfInBounds_toArray, List.set_cons_zero, List.set_cons_succ]
          refine lin_val (i := 5) (v := ?_) rfl (by kernel_rfl) (by kernel_rfl) (by kernel_rfl) (fun _ _ _ h => h) hSS hS rfl (fun w hSw => ?_) ?_
          rotate_left
          · obtain ⟨q0, q1, q2, q3, q4, q5⟩ := hSw; go_simp; first | done | with_reducible rfl
          simp only [Act.put, List.setIfInBounds_toArray, List.set_cons_zero, List.set_cons_succ]
          refine lin_val (i := 6) (v := ?_) rfl (by kernel_rfl) (by kernel_rfl) (by kernel_rfl) (fun _ _ _ h => h) hSS hS rfl (fun w hSw => ?_) ?_
          rotate_left
          · obtain ⟨q0, q1, q2, q3, q4, q5⟩ := hSw; go_simp; first | done | with_reducible rfl
          simp only [Act.put, List.setIfInBounds_toArray, List.set_cons_zero, List.set_cons_succ]
          refine lin_call (i := 7) rfl (by kernel_rfl) (by kernel_rfl) (by kernel_rfl) (fun _ _ _ h => h) hSS hS rfl (fun w _ => hcm w) (fun w hSw => ?_) ?_
          · obtain ⟨q0, q1, q2, q3, q4, q5⟩ := hSw; go_simp
          simp only [Act.put, List.setIfInBounds_toArray, List.set_cons_zero, List.set_cons_succ]
          refine lin_val (i := 8) (v := ?_) rfl (by kernel_rfl) (by kernel_rfl) (by kernel_rfl) (fun _ _ _ h => h) hSS hS rfl (fun w hSw => ?_) ?_
          rotate_left
          · obtain ⟨q0, q1, q2, q3, q4, q5⟩ := hSw; go_simp; first | done | with_reducible rfl
          simp only [Act.put, List.setIfInBounds_toArray, List.set_cons_zero, List.set_cons_succ]
          refine lin_val (i := 9) (v := ?_) rfl (by kernel_rfl) (by kernel_rfl) (by kernel_rfl) (fun _ _ _ h => h) hSS hS rfl (fun w hSw => ?_) ?_
          rotate_left
          · obtain ⟨q0, q1, q2, q3, q4, q5⟩ := hSw; go_simp; first | done | with_reducible rfl
          simp only [Act.put, List.setIfInBounds_toArray, List.set_cons_zero, List.set_cons_succ]
          refine lin_call (i := 10) rfl (by kernel_rfl) (by kernel_rfl) (by kernel_rfl) (fun _ _ _ h => h) hSS hS rfl (fun w _ => hcn w) (fun w hSw => ?_) ?_
          · obtain ⟨q0, q1, q2, q3, q4, q5⟩ := hSw; go_simp
          simp only [Act.put, List.setIfInBounds_toArray, List.set_cons_zero, List.set_cons_succ]
          refine lin_val (i := 11) (v := ?_) rfl (by kernel_rfl) (by kernel_rfl) (by kernel_rfl) (fun _ _ _ h => h) hSS hS rfl (fun w hSw => ?_) ?_
          rotate_left
          · obtain ⟨q0, q1, q2, q3, q4, q5⟩ := hSw; go_simp; first | done | with_reducible rfl
          simp only [Act.put, List.setIfInBounds_toArray, List.set_cons_zero, List.set_cons_succ]
          refine lin_val (i := 12) (v := ?_) rfl (by kernel_rfl) (by kernel_rfl) (by kernel_rfl) (fun _ _ _ h => h) hSS hS rfl (fun w hSw => ?_) ?_
          rotate_left
          · obtain ⟨q0, q1, q2, q3, q4, q5⟩ := hSw; go_simp; first | done | with_reducible rfl
          simp only [Act.put, List.setIfInBounds_toArray, List.set_cons_zero, List.set_cons_succ]
          refine lin_val (i := 13) (v := ?_) rfl (by kernel_rfl) (by kernel_rfl) (by kernel_rfl) (fun _ _ _ h => h) hSS hS rfl (fun w hSw => ?_) ?_
          rotate_left
          · obtain ⟨q0, q1, q2, q3, q4, q5⟩ := hSw; go_simp; first | done | with_reducible rfl
          simp only [Act.put, List.setIfInBounds_toArray, List.set_cons_zero, List.set_cons_succ]
          refine lin_val (i := 14) (v := ?_) rfl (by kernel_rfl) (by kernel_rfl) (by kernel_rfl) (fun _ _ _ h => h) hSS hS rfl (fun w hSw => ?_) ?_
          rotate_left
          · obtain ⟨q0, q1, q2, q3, q4, q5⟩ := hSw; go_simp; first | done | with_reducible rfl
          simp only [Act.put, List.setIfInBounds_toArray, List.set_cons_zero, List.set_cons_succ]
          refine lin_val (i := 15) (v := ?_) rfl (by kernel_rfl) (by kernel_rfl) (by kernel_rfl) (fun _ _ _ h => h) hSS hS rfl (fun w hSw => ?_) ?_
          rotate_left
          · obtain ⟨q0, q1, q2, q3, q4, q5⟩ := hSw; go_simp; first | done | with_reducible rfl
          simp only [Act.put, List.setIfInBounds_toArray, List.set_cons_zero, List.set_cons_succ]
          refine lin_val (i := 16) (v := ?_) rfl (by kernel_rfl) (by kernel_rfl) (by kernel_rfl) (fun _ _ _ h => h) hSS hS rfl (fun w hSw => ?_) ?_
          rotate_left
          · obtain ⟨q0, q1, q2, q3, q4, q5⟩ := hSw; go_simp; first | done | with_reducible rfl
          simp only [Act.put, List.setIfInBounds_toArray, List.set_cons_zero, List.set_cons_succ]
          refine lin_call (i := 17) rfl (by kernel_rfl) (by kernel_rfl) (by kernel_rfl) (fun _ _ _ h => h) hSS hS rfl (fun w _ => hcm w) (fun w hSw => ?_) ?_
          · obtain ⟨q0, q1, q2, q3, q4, q5⟩ := hSw; go_simp
          simp only [Act.put, List.setIfInBounds_toArray, List.set_cons_zero, List.set_cons_succ]
          refine lin_val (i := 18) (v := ?_) rfl (by kernel_rfl) (by kernel_rfl) (by kernel_rfl) (fun _ _ _ h => h) hSS hS rfl (fun w hSw => ?_) ?_
          rotate_left
          · obtain ⟨q0, q1, q2, q3, q4, q5⟩ := hSw; go_simp; first | done | with_reducible rfl
          simp only [Act.put, List.setIfInBounds_toArray, List.set_cons_zero, List.set_cons_succ]
          refine lin_val (i := 19) (v := ?_) rfl (by kernel_rfl) (by kernel_rfl) (by kernel_rfl) (fun _ _ _ h => h) hSS hS rfl (fun w hSw => ?_) ?_
          rotate_left
          · obtain ⟨q0, q1, q2, q3, q4, q5⟩ := hSw; go_simp; first | done | with_reducible rfl
          simp only [Act.put, List.setIfInBounds_toArray, List.set_cons_zero, List.set_cons_succ]
          refine lin_val (i := 20) (v := ?_) rfl (by kernel_rfl) (by kernel_rfl) (by kernel_rfl) (fun _ _ _ h => h) hSS hS rfl (fun w hSw => ?_) ?_
          rotate_left
          · obtain ⟨q0, q1, q2, q3, q4, q5⟩ := hSw; go_simp; first | done | with_reducible rfl
          simp only [Act.put, List.setIfInBounds_toArray, List.set_cons_zero, List.set_cons_succ]
          refine lin_val (i := 21) (v := ?_) rfl (by kernel_rfl) (by kernel_rfl) (by kernel_rfl) (fun _ _ _ h => h) hSS hS rfl (fun w hSw => ?_) ?_
          rotate_left
          · obtain ⟨q0, q1, q2, q3, q4, q5⟩ := hSw; go_simp; first | done | with_reducible rfl | rw [ite3 hst.out]
          simp only [Act.put, List.setIfInBounds_toArray, List.set_cons_zero, List.set_cons_succ]
          refine lin_val (i := 22) (v := ?_) rfl (by kernel_rfl) (by kernel_rfl) (by kernel_rfl) (fun _ _ _ h => h) hSS hS rfl (fun w hSw => ?_) ?_
          rotate_left
          · obtain ⟨q0, q1, q2, q3, q4, q5⟩ := hSw; go_simp; first | done | with_reducible rfl
          simp only [Act.put, List.setIfInBounds_toArray, List.set_cons_zero, List.set_cons_succ]
          refine lin_val (i := 23) (v := ?_) rfl (by kernel_rfl) (by kernel_rfl) (by kernel_rfl) (fun _ _ _ h => h) hSS hS rfl (fun w hSw => ?_) ?_
          rotate_left
          · obtain ⟨q0, q1, q2, q3, q4, q5⟩ := hSw; go_simp; first | done | with_reducible rfl
          simp only [Act.put, List.setIfInBounds_toArray, List.set_cons_zero, List.set_cons_succ]
          refine lin_val (i := 24) (v := ?_) rfl (by kernel_rfl) (by kernel_rfl) (by kernel_rfl) (fun _ _ _ h => h) hSS hS rfl (fun w hSw => ?_) ?_
          rotate_left
          · obtain ⟨q0, q1, q2, q3, q4, q5⟩ := hSw; go_simp; first | done | with_reducible rfl
          simp only [Act.put, List.setIfInBounds_toArray, List.set_cons_zero, List.set_cons_succ]
          refine lin_done (by kernel_rfl) (fun wr kr => ?_) _
          clear hS hSS
          go_wp2_with fail
          go_ret
          exact ⟨rfl, (((HKK.out.nil KY.out).drew.nil kq).drew.nil kr)⟩
      · obtain ⟨eb, ec, e3⟩ := some_err hd
        have hdz := H2.out.2.2.2.2.2.2 dv (H1.out.2.2.2.2.1 dv hd).1
        rw [H1.out.2.2.2.1 dv hd] at hdz
        obtain ⟨eN, eL, eS⟩ := some_of hd
        simp only [eN, eL, eS] at hdz
        clear e3 hd eN eL eS
        by_cases hg0 : g = 0
        · obtain rfl := HZ.out.1 hg0
          subst hg0
          refine lin_start (fun w' => w'.cell? ⟨w9.heap.size, 0, none⟩ = some (Value.bool (oN D)) ∧ w'.cell? ⟨w9.heap.size, 1, none⟩ = some (Value.string ⟨(oL D).toArray⟩) ∧ w'.cell? ⟨w9.heap.size, 2, none⟩ = some (Value.int .i64 (oS D)) ∧ w'.cell? ⟨(w9.heap.size + 1), 0, none⟩ = some (Value.bool false) ∧ w'.cell? ⟨(w9.heap.size + 1), 1, none⟩ = some (Value.string ⟨#[48]⟩) ∧ w'.cell? ⟨(w9.heap.size + 1), 2, none⟩ = some (Value.int .i64 0) ∧ w'.cell? ⟨w.heap.size, 0, none⟩ = some (Value.bool a.neg) ∧ w'.cell? ⟨w.heap.size, 1, none⟩ = some (Value.string ⟨(dtxt a.n).toArray⟩) ∧ w'.cell? ⟨w.heap.size, 2, none⟩ = some (Value.int .i64 (a.s : Int)) ∧ w'.cell? ⟨(w.heap.size + 1), 0, none⟩ = some (Value.bool a.neg) ∧ w'.cell? ⟨(w.heap.size + 1), 1, none⟩ = some (Value.string ⟨(dtxt a.n).toArray⟩) ∧ w'.cell? ⟨(w.heap.size + 1), 2, none⟩ = some (Value.int .i64 (a.s : Int))) ((Stays.cell _ _).and ((Stays.cell _ _).and ((Stays.cell _ _).and ((Stays.cell _ _).and ((Stays.cell _ _).and ((Stays.cell _ _).and ((Stays.cell _ _).and ((Stays.cell _ _).and ((Stays.cell _ _).and ((Stays.cell _ _).and ((Stays.cell _ _).and ((Stays.cell _ _))))))))))))) (by kernel_rfl) ⟨d0, d1, d2, z0, z1, z2, a0, a1, a2, b0, b1, b2⟩ (fun hSS hS => ?_)
          refine lin_val (i := 0) (v := ?_) rfl (by kernel_rfl) (by kernel_rfl) (by kernel_rfl) (fun _ _ _ h => h) hSS hS rfl (fun w hSw => ?_) ?_
          rotate_left
          · obtain ⟨q0, q1, q2, q3, q4, q5, q6, q7, q8, q9, q10, q11⟩ := hSw; go_simp; first | done | with_reducible rfl
          simp only [Act.put, List.setIfInBounds_toArray, List.set_cons_zero, List.set_cons_succ]
          refine lin_val (i := 1) (v := ?_) rfl (by kernel_rfl) (by kernel_rfl) (by kernel_rfl) (fun _ _ _ h => h) hSS hS rfl (fun w hSw => ?_) ?_
          rotate_left
          · obtain ⟨q0, q1, q2, q3, q4, q5, q6, q7, q8, q9, q10, q11⟩ := hSw; go_simp; first | done | with_reducible rfl
          simp only [Act.put, List.setIfInBounds_toArray, List.set_cons_zero, List.set_cons_succ]
          refine lin_val (i := 2) (v := ?_) rfl (by kernel_rfl) (by kernel_rfl) (by kernel_rfl) (fun _ _ _ h => h) hSS hS rfl (fun w hSw => ?_) ?_
          rotate_left
          · obtain ⟨q0, q1, q2, q3, q4, q5, q6, q7, q8, q9, q10, q11⟩ := hSw; go_simp; first | done | with_reducible rfl
          simp only [Act.put, List.setIfInBounds_toArray, List.set_cons_zero, List.set_cons_succ]
          refine lin_val (i := 3) (v := ?_) rfl (by kernel_rfl) (by kernel_rfl) (by kernel_rfl) (fun _ _ _ h => h) hSS hS rfl (fun w hSw => ?_) ?_
          rotate_left
          · obtain ⟨q0, q1, q2, q3, q4, q5, q6, q7, q8, q9, q10, q11⟩ := hSw; go_simp; first | done | with_reducible rfl
          simp only [Act.put, List.setIfInBounds_toArray, List.set_cons_zero, List.set_cons_succ]
          refine lin_val (i := 4) (v := ?_) rfl (by kernel_rfl) (by kernel_rfl) (by kernel_rfl) (fun _ _ _ h => h) hSS hS rfl (fun w hSw => ?_) ?_
          rotate_left
          · obtain ⟨q0, q1, q2, q3, q4, q5, q6, q7, q8, q9, q10, q11⟩ := hSw; go_simp; first | done | with_reducible rfl
          simp only [Act.put, List.setIfInBounds_toArray, List.set_cons_zero, List.set_cons_succ]
          refine lin_call (i := 5) rfl (by kernel_rfl) (by kernel_rfl) (by kernel_rfl) (fun _ _ _ h => h) hSS hS rfl (fun w _ => hdz w) (fun w hSw => ?_) ?_
          · obtain ⟨q0, q1, q2, q3, q4, q5, q6, q7, q8, q9, q10, q11⟩ := hSw; go_simp
          simp only [Act.put, List.setIfInBounds_toArray, List.set_cons_zero, List.set_cons_succ]
          refine lin_val (i := 6) (v := ?_) rfl (by kernel_rfl) (by kernel_rfl) (by kernel_rfl) (fun _ _ _ h => h) hSS hS rfl (fun w hSw => ?_) ?_
          rotate_left
          · obtain ⟨q0, q1, q2, q3, q4, q5, q6, q7, q8, q9, q10, q11⟩ := hSw; go_simp; first | done | with_reducible rfl
          simp only [Act.put, List.setIfInBounds_toArray, List.set_cons_zero, List.set_cons_succ]
          refine lin_val (i := 7) (v := ?_) rfl (by kernel_rfl) (by kernel_rfl) (by kernel_rfl) (fun _ _ _ h => h) hSS hS rfl (fun w hSw => ?_) ?_
          rotate_left
          · obtain ⟨q0, q1, q2, q3, q4, q5, q6, q7, q8, q9, q10, q11⟩ := hSw; go_simp; first | done | with_reducible rfl
          simp only [Act.put, List.setIfInBounds_toArray, List.set_cons_zero, List.set_cons_succ]
          refine lin_call (i := 8) rfl (by kernel_rfl) (by kernel_rfl) (by kernel_rfl) (fun _ _ _ h => h) hSS hS rfl (fun w _ => hcm w) (fun w hSw => ?_) ?_
          · obtain ⟨q0, q1, q2, q3, q4, q5, q6, q7, q8, q9, q10, q11⟩ := hSw; go_simp
          simp only [Act.put, List.setIfInBounds_toArray, List.set_cons_zero, List.set_cons_succ]
          refine lin_val (i := 9) (v := ?_) rfl (by kernel_rfl) (by kernel_rfl) (by kernel_rfl) (fun _ _ _ h => h) hSS hS rfl (fun w hSw => ?_) ?_
          rotate_left
          · obtain ⟨q0, q1, q2, q3, q4, q5, q6, q7, q8, q9, q10, q11⟩ := hSw; go_simp; first | done | with_reducible rfl
          simp only [Act.put, List.setIfInBounds_toArray, List.set_cons_zero, List.set_cons_succ]
          refine lin_val (i := 10) (v := ?_) rfl (by kernel_rfl) (by kernel_rfl) (by kernel_rfl) (fun _ _ _ h => h) hSS hS rfl (fun w hSw => ?_) ?_
          rotate_left
          · obtain ⟨q0, q1, q2, q3, q4, q5, q6, q7, q8, q9, q10, q11⟩ := hSw; go_simp; first | done | with_reducible rfl
          simp only [Act.put, List.setIfInBounds_toArray, List.set_cons_zero, List.set_cons_succ]
          refine lin_val (i := 11) (v := ?_) rfl (by kernel_rfl) (by kernel_rfl) (by kernel_rfl) (fun _ _ _ h => h) hSS hS rfl (fun w hSw => ?_) ?_
          rotate_left
          · obtain ⟨q0, q1, q2, q3, q4, q5, q6, q7, q8, q9, q10, q11⟩ := hSw; go_simp; first | done | with_reducible rfl
          simp only [Act.put, List.setIfInBounds_toArray, List.set_cons_zero, List.set_cons_succ]
          refine lin_done (by kernel_rfl) (fun wq kq => ?_) _
          clear hS hSS
          replace a0 := kq.cell a0 (by simp)
          replace a1 := kq.cell a1 (by simp)
          replace a2 := kq.cell a2 (by simp)
          replace b0 := kq.cell b0 (by simp)
          replace b1 := kq.cell b1 (by simp)
          replace b2 := kq.cell b2 (by simp)
          clear d0 d1 d2 z0 z1 z2
          go_wp2_with fail
          refine lin_start (fun w' => w'.cell? ⟨w.heap.size, 0, none⟩ = some (Value.bool a.neg) ∧ w'.cell? ⟨w.heap.size, 1, none⟩ = some (Value.string ⟨(dtxt a.n).toArray⟩) ∧ w'.cell? ⟨w.heap.size, 2, none⟩ = some (Value.int .i64 (a.s : Int)) ∧ w'.cell? ⟨(w.heap.size + 1), 0, none⟩ = some (Value.bool a.neg) ∧ w'.cell? ⟨(w.heap.size + 1), 1, none⟩ = some (Value.string ⟨(dtxt a.n).toArray⟩) ∧ w'.cell? ⟨(w.heap.size + 1), 2, none⟩ = some (Value.int .i64 (a.s : Int))) ((Stays.cell _ _).and ((Stays.cell _ _).and ((Stays.cell _ _).and ((Stays.cell _ _).and ((Stays.cell _ _).and ((Stays.cell _ _))))))) (by kernel_rfl) ⟨a0, a1, a2, b0, b1, b2⟩ (fun hSS hS => ?_)
          refine lin_val (i := 0) (v := ?_) rfl (by kernel_rfl) (by kernel_rfl) (by kernel_rfl) (fun _ _ _ h => h) hSS hS rfl (fun w hSw => ?_) ?_
          rotate_left
          · obtain ⟨q0, q1, q2, q3, q4, q5⟩ := hSw; go_simp; first | done | with_reducible rfl
          simp only [Act.put, List.setIfInBounds_toArray, List.set_cons_zero, List.set_cons_succ]
          refine lin_val (i := 1) (v := ?_) rfl (by kernel_rfl) (by kernel_rfl) (by kernel_rfl) (fun _ _ _ h => h) hSS hS rfl (fun w hSw => ?_) ?_
          rotate_left
          · obtain ⟨q0, q1, q2, q3, q4, q5⟩ := hSw; go_simp; first | done | with_reducible rfl
          simp only [Act.put, List.setIfInBounds_toArray, List.set_cons_zero, List.set_cons_succ]
          refine lin_val (i := 2) (v := ?_) rfl (by kernel_rfl) (by kernel_rfl) (by kernel_rfl) (fun _ _ _ h => h) hSS hS rfl (fun w hSw => ?_) ?_
          rotate_left
          · obtain ⟨q0, q1, q2, q3, q4, q5⟩ := hSw; go_simp; first | done | with_reducible rfl
          simp only [Act.put, List.setIfInBounds_toArray, List.set_cons_zero, List.set_cons_succ]
          refine lin_val (i := 3) (v := ?_) rfl (by kernel_rfl) (by kernel_rfl) (by kernel_rfl) (fun _ _ _ h => h) hSS hS rfl (fun w hSw => ?_) ?_
          rotate_left
          · obtain ⟨q0, q1, q2, q3, q4, q5⟩ := hSw; go_simp; first | done | with_reducible rfl
          simp only [Act.put, List.setIfInBounds_toArray, List.set_cons_zero, List.set_cons_succ]
          refine lin_val (i := 4) (v := ?_) rfl (by kernel_rfl) (by kernel_rfl) (by kernel_rfl) (fun _ _ _ h => h) hSS hS rfl (fun w hSw => ?_) ?_
          rotate_left
          · obtain ⟨q0, q1, q2, q3, q4, q5⟩ := hSw; go_simp; first | done | with_reducible rfl
          simp only [Act.put, List.setIfInBounds_toArray, List.set_cons_zero, List.set_cons_succ]
          refine lin_val (i := 5) (v := ?_) rfl (by kernel_rfl) (by kernel_rfl) (by kernel_rfl) (fun _ _ _ h => h) hSS hS rfl (fun w hSw => ?_) ?_
          rotate_left
          · obtain ⟨q0, q1, q2, q3, q4, q5⟩ := hSw; go_simp; first | done | with_reducible rfl
          simp only [Act.put, List.setIfInBounds_toArray, List.set_cons_zero, List.set_cons_succ]
          refine lin_val (i := 6) (v := ?_) rfl (by kernel_rfl) (by kernel_rfl) (by kernel_rfl) (fun _ _ _ h => h) hSS hS rfl (fun w hSw => ?_) ?_
          rotate_left
          · obtain ⟨q0, q1, q2, q3, q4, q5⟩ := hSw; go_simp; first | done | with_reducible rfl
          simp only [Act.put, List.setIfInBounds_toArray, List.set_cons_zero, List.set_cons_succ]
          refine lin_call (i := 7) rfl (by kernel_rfl) (by kernel_rfl) (by kernel_rfl) (fun _ _ _ h => h) hSS hS rfl (fun w _ => hcm w) (fun w hSw => ?_) ?_
          · obtain ⟨q0, q1, q2, q3, q4, q5⟩ := hSw; go_simp
          simp only [Act.put, List.setIfInBounds_toArray, List.set_cons_zero, List.set_cons_succ]
          refine lin_val (i := 8) (v := ?_) rfl (by kernel_rfl) (by kernel_rfl) (by kernel_rfl) (fun _ _ _ h => h) hSS hS rfl (fun w hSw => ?_) ?_
          rotate_left
          · obtain ⟨q0, q1, q2, q3, q4, q5⟩ := hSw; go_simp; first | done | with_reducible rfl
          simp only [Act.put, List.setIfInBounds_toArray, List.set_cons_zero, List.set_cons_succ]
          refine lin_val (i := 9) (v := ?_) rfl (by kernel_rfl) (by kernel_rfl) (by kernel_rfl) (fun _ _ _ h => h) hSS hS rfl (fun w hSw => ?_) ?_
          rotate_left
          · obtain ⟨q0, q1, q2, q3, q4, q5⟩ := hSw; go_simp; first | done | with_reducible rfl
          simp only [Act.put, List.setIfInBounds_toArray, List.set_cons_zero, List.set_cons_succ]
          refine lin_call (i := 10) rfl (by kernel_rfl) (by kernel_rfl) (by kernel_rfl) (fun _ _ _ h => h) hSS hS rfl (fun w _ => hcn w) (fun w hSw => ?_) ?_
          · obtain ⟨q0, q1, q2, q3, q4, q5⟩ := hSw; go_simp
          simp only [Act.put, List.setIfInBounds_toArray, List.set_cons_zero, List.set_cons_succ]
          refine lin_val (i := 11) (v := ?_) rfl (by kernel_rfl) (by kernel_rfl) (by kernel_rfl) (fun _ _ _ h => h) hSS hS rfl (fun w hSw => ?_) ?_
          rotate_left
          · obtain ⟨q0, q1, q2, q3, q4, q5⟩ := hSw; go_simp; first | done | with_reducible rfl
          simp only [Act.put, List.setIfInBounds_toArray, List.set_cons_zero, List.set_cons_succ]
          refine lin_val (i := 12) (v := ?_) rfl (by kernel_rfl) (by kernel_rfl) (by kernel_rfl) (fun _ _ _ h => h) hSS hS rfl (fun w hSw => ?_) ?_
          rotate_left
          · obtain ⟨q0, q1, q2, q3, q4, q5⟩ := hSw; go_simp; first | done | with_reducible rfl
          simp only [Act.put, List.setIfInBounds_toArray, List.set_cons_zero, List.set_cons_succ]
          refine lin_val (i := 13) (v := ?_) rfl (by kernel_rfl) (by kernel_rfl) (by kernel_rfl) (fun _ _ _ h => h) hSS hS rfl (fun w hSw => ?_) ?_
          rotate_left
          · obtain ⟨q0, q1, q2, q3, q4, q5⟩ := hSw; go_simp; first | done | with_reducible rfl
          simp only [Act.put, List.setIfInBounds_toArray, List.set_cons_zero, List.set_cons_succ]
          refine lin_val (i := 14) (v := ?_) rfl (by kernel_rfl) (by kernel_rfl) (by kernel_rfl) (fun _ _ _ h => h) hSS hS rfl (fun w hSw => ?_) ?_
          rotate_left
          · obtain ⟨q0, q1, q2, q3, q4, q5⟩ := hSw; go_simp; first | done | with_reducible rfl
          simp only [Act.put, List.setIfInBounds_toArray, List.set_cons_zero, List.set_cons_succ]
          refine lin_val (i := 15) (v := ?_) rfl (by kernel_rfl) (by kernel_rfl) (by kernel_rfl) (fun _ _ _ h => h) hSS hS rfl (fun w hSw => ?_) ?_
          rotate_left
          · obtain ⟨q0, q1, q2, q3, q4, q5⟩ := hSw; go_simp; first | done | with_reducible rfl
          simp only [Act.put, List.setIfInBounds_toArray, List.set_cons_zero, List.set_cons_succ]
          refine lin_val (i := 16) (v := ?_) rfl (by kernel_rfl) (by kernel_rfl) (by kernel_rfl) (fun _ _ _ h => h) hSS hS rfl (fun w hSw => ?_) ?_
          rotate_left
          · obtain ⟨q0, q1, q2, q3, q4, q5⟩ := hSw; go_simp; first | done | with_reducible rfl
          simp only [Act.put, List.setIfInBounds_toArray, List.set_cons_zero, List.set_cons_succ]
          refine lin_call (i := 17) rfl (by kernel_rfl) (by kernel_rfl) (by kernel_rfl) (fun _ _ _ h => h) hSS hS rfl (fun w _ => hcm w) (fun w hSw => ?_) ?_
          · obtain ⟨q0, q1, q2, q3, q4, q5⟩ := hSw; go_simp
          simp only [Act.put, List.setIfInBounds_toArray, List.set_cons_zero, List.set_cons_succ]
          refine lin_val (i := 18) (v := ?_) rfl (by kernel_rfl) (by kernel_rfl) (by kernel_rfl) (fun _ _ _ h => h) hSS hS rfl (fun w hSw => ?_) ?_
          rotate_left
          · obtain ⟨q0, q1, q2, q3, q4, q5⟩ := hSw; go_simp; first | done | with_reducible rfl
          simp only [Act.put, List.setIfInBounds_toArray, List.set_cons_zero, List.set_cons_succ]
          refine lin_val (i := 19) (v := ?_) rfl (by kernel_rfl) (by kernel_rfl) (by kernel_rfl) (fun _ _ _ h => h) hSS hS rfl (fun w hSw => ?_) ?_
          rotate_left
          · obtain ⟨q0, q1, q2, q3, q4, q5⟩ := hSw; go_simp; first | done | with_reducible rfl
          simp only [Act.put, List.setIfInBounds_toArray, List.set_cons_zero, List.set_cons_succ]
          refine lin_val (i := 20) (v := ?_) rfl (by kernel_rfl) (by kernel_rfl) (by kernel_rfl) (fun _ _ _ h => h) hSS hS rfl (fun w hSw => ?_) ?_
          rotate_left
          · obtain ⟨q0, q1, q2, q3, q4, q5⟩ := hSw; go_simp; first | done | with_reducible rfl
          simp only [Act.put, List.setIfInBounds_toArray, List.set_cons_zero, List.set_cons_succ]
          refine lin_val (i := 21) (v := ?_) rfl (by kernel_rfl) (by kernel_rfl) (by kernel_rfl) (fun _ _ _ h => h) hSS hS rfl (fun w hSw => ?_) ?_
          rotate_left
          · obtain ⟨q0, q1, q2, q3, q4, q5⟩ := hSw; go_simp; first | done | with_reducible rfl
          simp only [Act.put, List.setIfInBounds_toArray, List.set_cons_zero, List.set_cons_succ]
          refine lin_val (i := 22) (v := ?_) rfl (by kernel_rfl) (by kernel_rfl) (by kernel_rfl) (fun _ _ _ h => h) hSS hS rfl (fun w hSw => ?_) ?_
          rotate_left
          · obtain ⟨q0, q1, q2, q3, q4, q5⟩ := hSw; go_simp; first | done | with_reducible rfl
          simp only [Act.put, List.setIfInBounds_toArray, List.set_cons_zero, List.set_cons_succ]
          refine lin_val (i := 23) (v := ?_) rfl (by kernel_rfl) (by kernel_rfl) (by kernel_rfl) (fun _ _ _ h => h) hSS hS rfl (fun w hSw => ?_) ?_
          rotate_left
          · obtain ⟨q0, q1, q2, q3, q4, q5⟩ := hSw; go_simp; first | done | with_reducible rfl
          simp only [Act.put, List.setIfInBounds_toArray, List.set_cons_zero, List.set_cons_succ]
          refine lin_val (i := 24) (v := ?_) rfl (by kernel_rfl) (by kernel_rfl) (by kernel_rfl) (fun _ _ _ h => h) hSS hS rfl (fun w hSw => ?_) ?_
          rotate_left
          · obtain ⟨q0, q1, q2, q3, q4, q5⟩ := hSw; go_simp; first | done | with_reducible rfl
          simp only [Act.put, List.setIfInBounds_toArray, List.set_cons_zero, List.set_cons_succ]
          refine lin_done (by kernel_rfl) (fun wr kr => ?_) _
          clear hS hSS
          go_wp2_with fail
          go_ret
          exact ⟨rfl, (((HKK.out.nil KY.out).drew.nil kq).drew.nil kr)⟩
        · have hne : a ≠ b := fun e => hg0 (HZ.out.2 e)
          have hgz : (g == 0) = false := beq_eq_false_iff_ne.2 hg0
          have hst := hid (dc_ne hne)
          clear hne hg0
          refine lin_start (fun w' => w'.cell? ⟨w9.heap.size, 0, none⟩ = some (Value.bool (oN D)) ∧ w'.cell? ⟨w9.heap.size, 1, none⟩ = some (Value.string ⟨(oL D).toArray⟩) ∧ w'.cell? ⟨w9.heap.size, 2, none⟩ = some (Value.int .i64 (oS D)) ∧ w'.cell? ⟨(w9.heap.size + 1), 0, none⟩ = some (Value.bool false) ∧ w'.cell? ⟨(w9.heap.size + 1), 1, none⟩ = some (Value.string ⟨#[48]⟩) ∧ w'.cell? ⟨(w9.heap.size + 1), 2, none⟩ = some (Value.int .i64 0) ∧ w'.cell? ⟨w.heap.size, 0, none⟩ = some (Value.bool a.neg) ∧ w'.cell? ⟨w.heap.size, 1, none⟩ = some (Value.string ⟨(dtxt a.n).toArray⟩) ∧ w'.cell? ⟨w.heap.size, 2, none⟩ = some (Value.int .i64 (a.s : Int)) ∧ w'.cell? ⟨(w.heap.size + 1), 0, none⟩ = some (Value.bool b.neg) ∧ w'.cell? ⟨(w.heap.size + 1), 1, none⟩ = some (Value.string ⟨(dtxt b.n).toArray⟩) ∧ w'.cell? ⟨(w.heap.size + 1), 2, none⟩ = some (Value.int .i64 (b.s : Int))) ((Stays.cell _ _).and ((Stays.cell _ _).and ((Stays.cell _ _).and ((Stays.cell _ _).and ((Stays.cell _ _).and ((Stays.cell _ _).and ((Stays.cell _ _).and ((Stays.cell _ _).and ((Stays.cell _ _).and ((Stays.cell _ _).and ((Stays.cell _ _).and ((Stays.cell _ _))))))))))))) (by kernel_rfl) ⟨d0, d1, d2, z0, z1, z2, a0, a1, a2, b0, b1, b2⟩ (fun hSS hS => ?_)
          refine lin_val (i := 0) (v := ?_) rfl (by kernel_rfl) (by kernel_rfl) (by kernel_rfl) (fun _ _ _ h => h) hSS hS rfl (fun w hSw => ?_) ?_
          rotate_left
          · obtain ⟨q0, q1, q2, q3, q4, q5, q6, q7, q8, q9, q10, q11⟩ := hSw; go_simp; first | done | with_reducible rfl
          simp only [Act.put, List.setIfInBounds_toArray, List.set_cons_zero, List.set_cons_succ]
          refine lin_val (i := 1) (v := ?_) rfl (by kernel_rfl) (by kernel_rfl) (by kernel_rfl) (fun _ _ _ h => h) hSS hS rfl (fun w hSw => ?_) ?_
          rotate_left
          · obtain ⟨q0, q1, q2, q3, q4, q5, q6, q7, q8, q9, q10, q11⟩ := hSw; go_simp; first | done | with_reducible rfl
          simp only [Act.put, List.setIfInBounds_toArray, List.set_cons_zero, List.set_cons_succ]
          refine lin_val (i := 2) (v := ?_) rfl (by kernel_rfl) (by kernel_rfl) (by kernel_rfl) (fun _ _ _ h => h) hSS hS rfl (fun w hSw => ?_) ?_
          rotate_left
          · obtain ⟨q0, q1, q2, q3, q4, q5, q6, q7, q8, q9, q10, q11⟩ := hSw; go_simp; first | done | with_reducible rfl
          simp only [Act.put, List.setIfInBounds_toArray, List.set_cons_zero, List.set_cons_succ]
          refine lin_val (i := 3) (v := ?_) rfl (by kernel_rfl) (by kernel_rfl) (by kernel_rfl) (fun _ _ _ h => h) hSS hS rfl (fun w hSw => ?_) ?_
          rotate_left
          · obtain ⟨q0, q1, q2, q3, q4, q5, q6, q7, q8, q9, q10, q11⟩ := hSw; go_simp; first | done | with_reducible rfl
          simp only [Act.put, List.setIfInBounds_toArray, List.set_cons_zero, List.set_cons_succ]
          refine lin_val (i := 4) (v := ?_) rfl (by kernel_rfl) (by kernel_rfl) (by kernel_rfl) (fun _ _ _ h => h) hSS hS rfl (fun w hSw => ?_) ?_
          rotate_left
          · obtain ⟨q0, q1, q2, q3, q4, q5, q6, q7, q8, q9, q10, q11⟩ := hSw; go_simp; first | done | with_reducible rfl
          simp only [Act.put, List.setIfInBounds_toArray, List.set_cons_zero, List.set_cons_succ]
          refine lin_call (i := 5) rfl (by kernel_rfl) (by kernel_rfl) (by kernel_rfl) (fun _ _ _ h => h) hSS hS rfl (fun w _ => hdz w) (fun w hSw => ?_) ?_
          · obtain ⟨q0, q1, q2, q3, q4, q5, q6, q7, q8, q9, q10, q11⟩ := hSw; go_simp
          simp only [Act.put, List.setIfInBounds_toArray, List.set_cons_zero, List.set_cons_succ]
          refine lin_val (i := 6) (v := ?_) rfl (by kernel_rfl) (by kernel_rfl) (by kernel_rfl) (fun _ _ _ h => h) hSS hS rfl (fun w hSw => ?_) ?_
          rotate_left
          · obtain ⟨q0, q1, q2, q3, q4, q5, q6, q7, q8, q9, q10, q11⟩ := hSw; go_simp; first | done | with_reducible rfl
          simp only [Act.put, List.setIfInBounds_toArray, List.set_cons_zero, List.set_cons_succ]
          refine lin_val (i := 7) (v := ?_) rfl (by kernel_rfl) (by kernel_rfl) (by kernel_rfl) (fun _ _ _ h => h) hSS hS rfl (fun w hSw => ?_) ?_
          rotate_left
          · obtain ⟨q0, q1, q2, q3, q4, q5, q6, q7, q8, q9, q10, q11⟩ := hSw; go_simp; first | done | with_reducible rfl
          simp only [Act.put, List.setIfInBounds_toArray, List.set_cons_zero, List.set_cons_succ]
          refine lin_call (i := 8) rfl (by kernel_rfl) (by kernel_rfl) (by kernel_rfl) (fun _ _ _ h => h) hSS hS rfl (fun w _ => hcm w) (fun w hSw => ?_) ?_
          · obtain ⟨q0, q1, q2, q3, q4, q5, q6, q7, q8, q9, q10, q11⟩ := hSw; go_simp
          simp only [Act.put, List.setIfInBounds_toArray, List.set_cons_zero, List.set_cons_succ]
          refine lin_val (i := 9) (v := ?_) rfl (by kernel_rfl) (by kernel_rfl) (by kernel_rfl) (fun _ _ _ h => h) hSS hS rfl (fun w hSw => ?_) ?_
          rotate_left
          · obtain ⟨q0, q1, q2, q3, q4, q5, q6, q7, q8, q9, q10, q11⟩ := hSw; go_simp; first | done | with_reducible rfl
          simp only [Act.put, List.setIfInBounds_toArray, List.set_cons_zero, List.set_cons_succ]
          refine lin_val (i := 10) (v := ?_) rfl (by kernel_rfl) (by kernel_rfl) (by kernel_rfl) (fun _ _ _ h => h) hSS hS rfl (fun w hSw => ?_) ?_
          rotate_left
          · obtain ⟨q0, q1, q2, q3, q4, q5, q6, q7, q8, q9, q10, q11⟩ := hSw; go_simp; first | done | with_reducible rfl
          simp only [Act.put, List.setIfInBounds_toArray, List.set_cons_zero, List.set_cons_succ]
          refine lin_val (i := 11) (v := ?_) rfl (by kernel_rfl) (by kernel_rfl) (by kernel_rfl) (fun _ _ _ h => h) hSS hS rfl (fun w hSw => ?_) ?_
          rotate_left
          · obtain ⟨q0, q1, q2, q3, q4, q5, q6, q7, q8, q9, q10, q11⟩ := hSw; go_simp; first | done | with_reducible rfl
          simp only [Act.put, List.setIfInBounds_toArray, List.set_cons_zero, List.set_cons_succ]
          refine lin_done (by kernel_rfl) (fun wq kq => ?_) _
          clear hS hSS
          replace a0 := kq.cell a0 (by simp)
          replace a1 := kq.cell a1 (by simp)
          replace a2 := kq.cell a2 (by simp)
          replace b0 := kq.cell b0 (by simp)
          replace b1 := kq.cell b1 (by simp)
          replace b2 := kq.cell b2 (by simp)
          clear d0 d1 d2 z0 z1 z2
          go_wp2_with fail
          refine lin_start (fun w' => w'.cell? ⟨w.heap.size, 0, none⟩ = some (Value.bool a.neg) ∧ w'.cell? ⟨w.heap.size, 1, none⟩ = some (Value.string ⟨(dtxt a.n).toArray⟩) ∧ w'.cell? ⟨w.heap.size, 2, none⟩ = some (Value.int .i64 (a.s : Int)) ∧ w'.cell? ⟨(w.heap.size + 1), 0, none⟩ = some (Value.bool b.neg) ∧ w'.cell? ⟨(w.heap.size + 1), 1, none⟩ = some (Value.string ⟨(dtxt b.n).toArray⟩) ∧ w'.cell? ⟨(w.heap.size + 1), 2, none⟩ = some (Value.int .i64 (b.s : Int))) ((Stays.cell _ _).and ((Stays.cell _ _).and ((Stays.cell _ _).and ((Stays.cell _ _).and ((Stays.cell _ _).and ((Stays.cell _ _))))))) (by kernel_rfl) ⟨a0, a1, a2, b0, b1, b2⟩ (fun hSS hS => ?_)
          refine lin_val (i := 0) (v := ?_) rfl (by kernel_rfl) (by kernel_rfl) (by kernel_rfl) (fun _ _ _ h => h) hSS hS rfl (fun w hSw => ?_) ?_
          rotate_left
          · obtain ⟨q0, q1, q2, q3, q4, q5⟩ := hSw; go_simp; first | done | with_reducible rfl
          simp only [Act.put, List.setIfInBounds_toArray, List.set_cons_zero, List.set_cons_succ]
          refine lin_val (i := 1) (v := ?_) rfl (by kernel_rfl) (by kernel_rfl) (by kernel_rfl) (fun _ _ _ h => h) hSS hS rfl (fun w hSw => ?_) ?_
          rotate_left
          · obtain ⟨q0, q1, q2, q3, q4, q5⟩ := hSw; go_simp; first | done | with_reducible rfl
          simp only [Act.put, List.setIfInBounds_toArray, List.set_cons_zero, List.set_cons_succ]
          refine lin_val (i := 2) (v := ?_) rfl (by kernel_rfl) (by kernel_rfl) (by kernel_rfl) (fun _ _ _ h => h) hSS hS rfl (fun w hSw => ?_) ?_
          rotate_left
          · obtain ⟨q0, q1, q2, q3, q4, q5⟩ := hSw; go_simp; first | done | with_reducible rfl
          simp only [Act.put, List.setIfInBounds_toArray, List.set_cons_zero, List.set_cons_succ]
          refine lin_val (i := 3) (v := ?_) rfl (by kernel_rfl) (by kernel_rfl) (by kernel_rfl) (fun _ _ _ h => h) hSS hS rfl (fun w hSw => ?_) ?_
          rotate_left
          · obtain ⟨q0, q1, q2, q3, q4, q5⟩ := hSw; go_simp; first | done | with_reducible rfl
          simp only [Act.put, List.setIfInBounds_toArray, List.set_cons_zero, List.set_cons_succ]
          refine lin_val (i := 4) (v := ?_) rfl (by kernel_rfl) (by kernel_rfl) (by kernel_rfl) (fun _ _ _ h => h) hSS hS rfl (fun w hSw => ?_) ?_
          rotate_left
          · obtain ⟨q0, q1, q2, q3, q4, q5⟩ := hSw; go_simp; first | done | with_reducible rfl
          simp only [Act.put, List.setIfInBounds_toArray, List.set_cons_zero, List.set_cons_succ]
          refine lin_val (i := 5) (v := ?_) rfl (by kernel_rfl) (by kernel_rfl) (by kernel_rfl) (fun _ _ _ h => h) hSS hS rfl (fun w hSw => ?_) ?_
          rotate_left
          · obtain ⟨q0, q1, q2, q3, q4, q5⟩ := hSw; go_simp; first | done | with_reducible rfl
          simp only [Act.put, List.setIfInBounds_toArray, List.set_cons_zero, List.set_cons_succ]
          refine lin_val (i := 6) (v := ?_) rfl (by kernel_rfl) (by kernel_rfl) (by kernel_rfl) (fun _ _ _ h => h) hSS hS rfl (fun w hSw => ?_) ?_
          rotate_left
          · obtain ⟨q0, q1, q2, q3, q4, q5⟩ := hSw; go_simp; first | done | with_reducible rfl
          simp only [Act.put, List.setIfInBounds_toArray, List.set_cons_zero, List.set_cons_succ]
          refine lin_call (i := 7) rfl (by kernel_rfl) (by kernel_rfl) (by kernel_rfl) (fun _ _ _ h => h) hSS hS rfl (fun w _ => hcm w) (fun w hSw => ?_) ?_
          · obtain ⟨q0, q1, q2, q3, q4, q5⟩ := hSw; go_simp
          simp only [Act.put, List.setIfInBounds_toArray, List.set_cons_zero, List.set_cons_succ]
          refine lin_val (i := 8) (v := ?_) rfl (by kernel_rfl) (by kernel_rfl) (by kernel_rfl) (fun _ _ _ h => h) hSS hS rfl (fun w hSw => ?_) ?_
          rotate_left
          · obtain ⟨q0, q1, q2, q3, q4, q5⟩ := hSw; go_simp; first | done | with_reducible rfl
          simp only [Act.put, List.setIfInBounds_toArray, List.set_cons_zero, List.set_cons_succ]
          refine lin_val (i := 9) (v := ?_) rfl (by kernel_rfl) (by kernel_rfl) (by kernel_rfl) (fun _ _ _ h => h) hSS hS rfl (fun w hSw => ?_) ?_
          rotate_left
          · obtain ⟨q0, q1, q2, q3, q4, q5⟩ := hSw; go_simp; first | done | with_reducible rfl
          simp only [Act.put, List.setIfInBounds_toArray, List.set_cons_zero, List.set_cons_succ]
          refine lin_call (i := 10) rfl (by kernel_rfl) (by kernel_rfl) (by kernel_rfl) (fun _ _ _ h => h) hSS hS rfl (fun w _ => hcn w) (fun w hSw => ?_) ?_
          · obtain ⟨q0, q1, q2, q3, q4, q5⟩ := hSw; go_simp
          simp only [Act.put, List.setIfInBounds_toArray, List.set_cons_zero, List.set_cons_succ]
          refine lin_val (i := 11) (v := ?_) rfl (by kernel_rfl) (by kernel_rfl) (by kernel_rfl) (fun _ _ _ h => h) hSS hS rfl (fun w hSw => ?_) ?_
          rotate_left
          · obtain ⟨q0, q1, q2, q3, q4, q5⟩ := hSw; go_simp; first | done | with_reducible rfl
          simp only [Act.put, List.setIfInBounds_toArray, List.set_cons_zero, List.set_cons_succ]
          refine lin_val (i := 12) (v := ?_) rfl (by kernel_rfl) (by kernel_rfl) (by kernel_rfl) (fun _ _ _ h => h) hSS hS rfl (fun w hSw => ?_) ?_
          rotate_left
          · obtain ⟨q0, q1, q2, q3, q4, q5⟩ := hSw; go_simp; first | done | with_reducible rfl
          simp only [Act.put, List.setIfInBounds_toArray, List.set_cons_zero, List.set_cons_succ]
          refine lin_val (i := 13) (v := ?_) rfl (by kernel_rfl) (by kernel_rfl) (by kernel_rfl) (fun _ _ _ h => h) hSS hS rfl (fun w hSw => ?_) ?_
          rotate_left
          · obtain ⟨q0, q1, q2, q3, q4, q5⟩ := hSw; go_simp; first | done | with_reducible rfl
          simp only [Act.put, List.setIfInBounds_toArray, List.set_cons_zero, List.set_cons_succ]
          refine lin_val (i := 14) (v := ?_) rfl (by kernel_rfl) (by kernel_rfl) (by kernel_rfl) (fun _ _ _ h => h) hSS hS rfl (fun w hSw => ?_) ?_
          rotate_left
          · obtain ⟨q0, q1, q2, q3, q4, q5⟩ := hSw; go_simp; first | done | with_reducible rfl
          simp only [Act.put, List.setIfInBounds_toArray, List.set_cons_zero, List.set_cons_succ]
          refine lin_val (i := 15) (v := ?_) rfl (by kernel_rfl) (by kernel_rfl) (by kernel_rfl) (fun _ _ _ h => h) hSS hS rfl (fun w hSw => ?_) ?_
          rotate_left
          · obtain ⟨q0, q1, q2, q3, q4, q5⟩ := hSw; go_simp; first | done | with_reducible rfl
          simp only [Act.put, List.setIfInBounds_toArray, List.set_cons_zero, List.set_cons_succ]
          refine lin_val (i := 16) (v := ?_) rfl (by kernel_rfl) (by kernel_rfl) (by kernel_rfl) (fun _ _ _ h => h) hSS hS rfl (fun w hSw => ?_) ?_
          rotate_left
          · obtain ⟨q0, q1, q2, q3, q4, q5⟩ := hSw; go_simp; first | done | with_reducible rfl
          simp only [Act.put, List.setIfInBounds_toArray, List.set_cons_zero, List.set_cons_succ]
          refine lin_call (i := 17) rfl (by kernel_rfl) (by kernel_rfl) (by kernel_rfl) (fun _ _ _ h => h) hSS hS rfl (fun w _ => hcm w) (fun w hSw => ?_) ?_
          · obtain ⟨q0, q1, q2, q3, q4, q5⟩ := hSw; go_simp
          simp only [Act.put, List.setIfInBounds_toArray, List.set_cons_zero, List.set_cons_succ]
          refine lin_val (i := 18) (v := ?_) rfl (by kernel_rfl) (by kernel_rfl) (by kernel_rfl) (fun _ _ _ h => h) hSS hS rfl (fun w hSw => ?_) ?_
          rotate_left
          · obtain ⟨q0, q1, q2, q3, q4, q5⟩ := hSw; go_simp; first | done | with_reducible rfl
          simp only [Act.put, List.setIfInBounds_toArray, List.set_cons_zero, List.set_cons_succ]
          refine lin_val (i := 19) (v := ?_) rfl (by kernel_rfl) (by kernel_rfl) (by kernel_rfl) (fun _ _ _ h => h) hSS hS rfl (fun w hSw => ?_) ?_
          rotate_left
          · obtain ⟨q0, q1, q2, q3, q4, q5⟩ := hSw; go_simp; first | done | with_reducible rfl
          simp only [Act.put, List.setIfInBounds_toArray, List.set_cons_zero, List.set_cons_succ]
          refine lin_val (i := 20) (v := ?_) rfl (by kernel_rfl) (by kernel_rfl) (by kernel_rfl) (fun _ _ _ h => h) hSS hS rfl (fun w hSw => ?_) ?_
          rotate_left
          · obtain ⟨q0, q1, q2, q3, q4, q5⟩ := hSw; go_simp; first | done | with_reducible rfl
          simp only [Act.put, List.setIfInBounds_toArray, List.set_cons_zero, List.set_cons_succ]
          refine lin_val (i := 21) (v := ?_) rfl (by kernel_rfl) (by kernel_rfl) (by kernel_rfl) (fun _ _ _ h => h) hSS hS rfl (fun w hSw => ?_) ?_
          rotate_left
          · obtain ⟨q0, q1, q2, q3, q4, q5⟩ := hSw; go_simp; first | done | with_reducible rfl | rw [ite3 hst.out]
          simp only [Act.put, List.setIfInBounds_toArray, List.set_cons_zero, List.set_cons_succ]
          refine lin_val (i := 22) (v := ?_) rfl (by kernel_rfl) (by kernel_rfl) (by kernel_rfl) (fun _ _ _ h => h) hSS hS rfl (fun w hSw => ?_) ?_
          rotate_left
          · obtain ⟨q0, q1, q2, q3, q4, q5⟩ := hSw; go_simp; first | done | with_reducible rfl
          simp only [Act.put, List.setIfInBounds_toArray, List.set_cons_zero, List.set_cons_succ]
          refine lin_val (i := 23) (v := ?_) rfl (by kernel_rfl) (by kernel_rfl) (by kernel_rfl) (fun _ _ _ h => h) hSS hS rfl (fun w hSw => ?_) ?_
          rotate_left
          · obtain ⟨q0, q1, q2, q3, q4, q5⟩ := hSw; go_simp; first | done | with_reducible rfl
          simp only [Act.put, List.setIfInBounds_toArray, List.set_cons_zero, List.set_cons_succ]
          refine lin_val (i := 24) (v := ?_) rfl (by kernel_rfl) (by kernel_rfl) (by kernel_rfl) (fun _ _ _ h => h) hSS hS rfl (fun w hSw => ?_) ?_
          rotate_left
          · obtain ⟨q0, q1, q2, q3, q4, q5⟩ := hSw; go_simp; first | done | with_reducible rfl
          simp only [Act.put, List.setIfInBounds_toArray, List.set_cons_zero, List.set_cons_succ]
          refine lin_done (by kernel_rfl) (fun wr kr => ?_) _
          clear hS hSS
          go_wp2_with fail
          go_ret
          exact ⟨rfl, (((HKK.out.nil KY.out).drew.nil kq).drew.nil kr)⟩
theorem rules_any (w : World) (a b c : RawD) (ha : a.ok) (hb : b.ok) (hc : c.ok) :
    Calls Tryd.prog 7 #[.agg #[.bool a.neg, .string ⟨a.l.toArray⟩, .int .i64 a.s], .agg #[.bool b.neg, .string ⟨b.l.toArray⟩, .int .i64 b.s], .agg #[.bool c.neg, .string ⟨c.l.toArray⟩, .int .i64 c.s]] w (YesPost w) := by
  cases ma : mayL a.neg a.l a.s with
  | false => exact rules_n0 w a b c ha ma
  | true =>
    cases mb : mayL b.neg b.l b.s with
    | false => exact rules_n1 w a b c ha ma hb mb
    | true =>
      cases mc : mayL c.neg c.l c.s with
      | false => exact rules_n2 w a b c ha ma hb mb hc mc
      | true =>
        obtain ⟨d, hd, rfl⟩ := RawD.is ma
        obtain ⟨e, he, rfl⟩ := RawD.is mb
        obtain ⟨f, hf, rfl⟩ := RawD.is mc
        exact rules_yes w d e f hd he hf
theorem rules_card (W : World) (_ : Tabs W) (b : Bool) (l : List UInt8) (z : Int) (hl : l.length ≤ 9223372036854775807) (h1 : -9223372036854775808 ≤ z) (h2 : z ≤ 9223372036854775807)
    (b' : Bool) (l' : List UInt8) (z' : Int) (hl' : l'.length ≤ 9223372036854775807) (h1' : -9223372036854775808 ≤ z') (h2' : z' ≤ 9223372036854775807)
    (b2 : Bool) (l2 : List UInt8) (z2 : Int) (hl2 : l2.length ≤ 9223372036854775807) (h12 : -9223372036854775808 ≤ z2) (h22 : z2 ≤ 9223372036854775807) :
    Calls Tryd.prog 7 #[.agg #[.bool b, .string ⟨l.toArray⟩, .int .i64 z], .agg #[.bool b', .string ⟨l'.toArray⟩, .int .i64 z'], .agg #[.bool b2, .string ⟨l2.toArray⟩, .int .i64 z2]] W (YesPost W) :=
  rules_any W ⟨b, l, z⟩ ⟨b', l', z'⟩ ⟨b2, l2, z2⟩ ⟨hl, h1, h2⟩ ⟨hl', h1', h2'⟩ ⟨hl2, h12, h22⟩
end Go.Proofs.YtampgimmodomoaaDoor
