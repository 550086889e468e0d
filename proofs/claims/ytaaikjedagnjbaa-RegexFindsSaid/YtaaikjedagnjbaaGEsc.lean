/- The reader's escaped. -/
import Derived.Test.YtaaikjedagnjbaaGClass
namespace Go.Proofs.Ytaaikjedagnjbaa
open Go Go.RowKit Go.Lib

theorem RdAt.mark {w : World} {rb mb d : Nat} {N : Nat → Prop} {L : List Nat} {bad : Bool} (h : RdAt w rb mb N L d bad) (b : Bool) : RdAt (w.setCell ⟨rb, 3, none⟩ (.bool b)) rb mb N L d b := by
  obtain ⟨A, c, hc, hs, h1, h2, h3⟩ := h.ex
  exact ⟨A, c, hc.put 3 _, hs.setCell (fun ad e => (h3 ad e).2) _, h1, h2, h3⟩
/-- What a rune behind a backslash stands for, and what is left. -/
def escOf : List Nat → Option (Nat × List Nat)
  | [] => none
  | c :: r => (escR c).map fun x => (x, r)
/-- A value read, and what is left; or the reader is marked. -/
def Took (w w' : World) (rb mb : Nat) (N : Nat → Prop) (d : Nat) (L : List Nat) (e : Ending) : Option (Nat × List Nat) → Prop
  | some (x, r) => Kp [rb] w w' ∧ e = .returned (.int .i32 (x : Int)) ∧ RdAt w' rb mb N r d false
  | none => Kp [rb] w w' ∧ e = .returned (.int .i32 0) ∧ RdAt w' rb mb N L d true
set_option maxRecDepth 100000 in
set_option maxHeartbeats 6400000 in
theorem escaped_any (w : World) (rb mb : Nat) (N : Nat → Prop) (L : List Nat) (d : Nat) (h : RdAt w rb mb N L d false) :
    Calls Try.prog 74 #[.pointer (some ⟨rb, 0, none⟩)] w fun e w' => Took w w' rb mb N d L e (escOf L) := by
  have q := peek_any w rb mb N L d false h
  obtain ⟨w1, hw1⟩ : ∃ w1, w1 = w.alloc (.cells #[.int .i32 48, .int .i32 57, .int .i32 97, .int .i32 122, .int .i32 65, .int .i32 90] 102) := ⟨_, rfl⟩
  have k1 : Kp [] w w1 := by rw [hw1]; exact (Kp.refl _ _).alloc _
  have hc1 : Cells w1 w.heap.size 102 (spansV [(48, 57), (97, 122), (65, 90)]) := by rw [hw1]; exact Cells.fresh w 102 _
  have qi := in_any w1 (.slice (some ⟨w.heap.size, 0, none⟩) 3 3) [(48, 57), (97, 122), (65, 90)] (OwnN.of_cells hc1 rfl (by decide)) (by decide) (peekR false L)
  have HH := hid h
  have HW1 := hid hw1
  have HK1 := hid k1
  clear h hw1 k1 hc1
  cases L with
  | nil =>
    have e0 : peekR false [] = -1 := rfl
    have e1 : inI [(48, 57), (97, 122), (65, 90)] (-1) = false := by decide
    have e2 : escOf [] = none := rfl
    rw [e0] at q qi
    rw [e1] at qi
    rw [e2]
    clear e0 e1 e2
    simp only [Took]
    go_enter Try.func74, Try.ntmps74
    go_wp2_with fail
    (with_reducible refine q.mono ?_)
    rintro e w' ⟨rfl, hw⟩
    rw [hw]
    clear q hw
    go_wp2_with (rw [← HW1.out])
    (with_reducible refine qi.mono ?_)
    rintro e w2 ⟨rfl, hk2⟩
    have hk : Kp [] w w2 := HK1.out.nil hk2
    clear qi hk2
    have hr2 := HH.out.kept hk
    obtain ⟨A, c, hc, -, -, -, -⟩ := hr2.ex
    have f3 := hc.free 3
    have x3 := hc.cell 3
    simp only [List.getElem?_cons_zero, List.getElem?_cons_succ] at x3
    have HR := hid hr2
    have HK := hid hk
    clear hc hr2 hk
    go_wp2_with fail
    go_ret
    exact ⟨(HK.out.mono (by simp)).setCell (fun _ => by simp) _, rfl, HR.out.mark true⟩
  | cons a r =>
    have e0 : peekR false (a :: r) = (a : Int) := rfl
    rw [e0] at q qi
    rw [inI_nat] at qi
    obtain ⟨lt, hlt⟩ : ∃ b, b = inR [(48, 57), (97, 122), (65, 90)] a := ⟨_, rfl⟩
    rw [← hlt] at qi
    by_cases a1 : a = 110
    · subst a1
      have e2 : escOf (110 :: r) = some (10, r) := rfl
      rw [e2]
      clear e0 e2 hlt
      simp only [Took]
      simp only [show ((110 : Nat) : Int) = 110 from rfl, show ((10 : Nat) : Int) = 10 from rfl] at q qi ⊢
      go_enter Try.func74, Try.ntmps74
      go_wp2_with fail
      (with_reducible refine q.mono ?_)
      rintro e w' ⟨rfl, hw⟩
      rw [hw]
      clear q hw
      go_wp2_with (rw [← HW1.out])
      (with_reducible refine qi.mono ?_)
      rintro e w2 ⟨rfl, hk2⟩
      have hk : Kp [] w w2 := HK1.out.nil hk2
      clear qi hk2
      obtain ⟨A, c, hc, hs, h1, h2, h3⟩ := (HH.out.kept hk).ex
      have x1 := hc.cell 1
      have f1 := hc.free 1
      have f3 := hc.free 3
      have x3 := hc.cell 3
      simp only [List.getElem?_cons_zero, List.getElem?_cons_succ] at x1 x3
      obtain ⟨n, hn'⟩ : ∃ n, n = (110 :: r).length := ⟨_, rfl⟩
      rw [← hn'] at x1 h1
      have hn1 : n = r.length + 1 := by rw [hn']; rfl
      have b0 : (1 : Int) ≤ (n : Int) := by omega
      have b1 : decide ((1 : Int) ≤ (n : Int)) = true := decide_eq_true b0
      have b2 : 1 ≤ n := by omega
      have b3 : c ≤ 9223372036854775807 := by omega
      have HC := hid (And.intro hc (And.intro hs (And.intro h3 hn1)))
      have HK := hid hk
      clear hc hs h3 hn' hk hn1
      go_wp2_with fail
      · obtain ⟨hc, hs, h3, hn1⟩ := HC.out
        go_ret
        have e1 : n - 1 = r.length := by omega
        rw [e1]
        have hr0 : r = [] := List.eq_nil_of_length_eq_zero (by omega)
        refine ⟨(HK.out.mono (by simp)).setCell (fun _ => by simp) _, rfl, ⟨A, 0, hc.put 1 (.slice A r.length 0), ?_, by omega, by omega, h3⟩⟩
        rw [hr0]; exact Span.nil _ _
      · obtain ⟨hc, hs, h3, hn1⟩ := HC.out
        go_ret
        have e1 : n - 1 = r.length := by omega
        rw [e1]
        refine ⟨(HK.out.mono (by simp)).setCell (fun _ => by simp) _, rfl, ⟨_, c - 1, hc.put 1 (.slice (A.map fun x => ⟨x.block, x.off + 1, none⟩) r.length (c - 1)), ?_, by omega, by omega, ?_⟩⟩
        · exact (span_tail hs).setCell (fun ad e => by obtain ⟨a', e1, e2⟩ := Option.map_eq_some_iff.1 e; subst e2; exact (h3 a' e1).2) _
        · intro ad e
          obtain ⟨a', e1, e2⟩ := Option.map_eq_some_iff.1 e
          subst e2
          exact h3 a' e1
    · by_cases a2 : a = 116
      · subst a2
        have e2 : escOf (116 :: r) = some (9, r) := rfl
        rw [e2]
        clear e0 e2 hlt a1
        simp only [Took]
        simp only [show ((116 : Nat) : Int) = 116 from rfl, show ((9 : Nat) : Int) = 9 from rfl] at q qi ⊢
        go_enter Try.func74, Try.ntmps74
        go_wp2_with fail
        (with_reducible refine q.mono ?_)
        rintro e w' ⟨rfl, hw⟩
        rw [hw]
        clear q hw
        go_wp2_with (rw [← HW1.out])
        (with_reducible refine qi.mono ?_)
        rintro e w2 ⟨rfl, hk2⟩
        have hk : Kp [] w w2 := HK1.out.nil hk2
        clear qi hk2
        obtain ⟨A, c, hc, hs, h1, h2, h3⟩ := (HH.out.kept hk).ex
        have x1 := hc.cell 1
        have f1 := hc.free 1
        have f3 := hc.free 3
        have x3 := hc.cell 3
        simp only [List.getElem?_cons_zero, List.getElem?_cons_succ] at x1 x3
        obtain ⟨n, hn'⟩ : ∃ n, n = (116 :: r).length := ⟨_, rfl⟩
        rw [← hn'] at x1 h1
        have hn1 : n = r.length + 1 := by rw [hn']; rfl
        have b0 : (1 : Int) ≤ (n : Int) := by omega
        have b1 : decide ((1 : Int) ≤ (n : Int)) = true := decide_eq_true b0
        have b2 : 1 ≤ n := by omega
        have b3 : c ≤ 9223372036854775807 := by omega
        have HC := hid (And.intro hc (And.intro hs (And.intro h3 hn1)))
        have HK := hid hk
        clear hc hs h3 hn' hk hn1
        go_wp2_with fail
        · obtain ⟨hc, hs, h3, hn1⟩ := HC.out
          go_ret
          have e1 : n - 1 = r.length := by omega
          rw [e1]
          have hr0 : r = [] := List.eq_nil_of_length_eq_zero (by omega)
          refine ⟨(HK.out.mono (by simp)).setCell (fun _ => by simp) _, rfl, ⟨A, 0, hc.put 1 (.slice A r.length 0), ?_, by omega, by omega, h3⟩⟩
          rw [hr0]; exact Span.nil _ _
        · obtain ⟨hc, hs, h3, hn1⟩ := HC.out
          go_ret
          have e1 : n - 1 = r.length := by omega
          rw [e1]
          refine ⟨(HK.out.mono (by simp)).setCell (fun _ => by simp) _, rfl, ⟨_, c - 1, hc.put 1 (.slice (A.map fun x => ⟨x.block, x.off + 1, none⟩) r.length (c - 1)), ?_, by omega, by omega, ?_⟩⟩
          · exact (span_tail hs).setCell (fun ad e => by obtain ⟨a', e1, e2⟩ := Option.map_eq_some_iff.1 e; subst e2; exact (h3 a' e1).2) _
          · intro ad e
            obtain ⟨a', e1, e2⟩ := Option.map_eq_some_iff.1 e
            subst e2
            exact h3 a' e1
      · have d1 : ((a : Int) == 110) = false := beq_eq_false_iff_ne.2 (by omega)
        have d2 : ((a : Int) == 116) = false := beq_eq_false_iff_ne.2 (by omega)
        have d1' : ¬ (a : Int) = 110 := by omega
        have d2' : ¬ (a : Int) = 116 := by omega
        obtain ⟨bd, hbd⟩ : ∃ b, b = (decide ((a : Int) ≤ 32) || (decide ((126 : Int) < (a : Int)) || lt)) := ⟨_, rfl⟩
        have e2 : escOf (a :: r) = if bd then none else some (a, r) := by
          show (escR a).map (fun x => (x, r)) = _
          unfold escR
          rw [if_neg a1, if_neg a2, ← hlt]
          have e3 : (a ≤ 32 ∨ 126 < a ∨ lt = true) ↔ bd = true := by
            rw [hbd]
            simp only [Bool.or_eq_true, decide_eq_true_eq]
            rw [show ((a : Int) ≤ 32) = (a ≤ 32) from propext (by omega), show ((126 : Int) < (a : Int)) = (126 < a) from propext (by omega)]
          cases bd
          · rw [if_neg (by rw [e3]; simp)]; rfl
          · rw [if_pos (by rw [e3])]; rfl
        rw [e2]
        clear e0 e2 hlt a1 a2
        by_cases p1 : (a : Int) ≤ 32
        · have p1' : decide ((a : Int) ≤ 32) = true := decide_eq_true p1
          rw [p1', Bool.true_or] at hbd
          subst hbd
          simp only [if_true, Took]
          go_enter Try.func74, Try.ntmps74
          go_wp2_with fail
          (with_reducible refine q.mono ?_)
          rintro e w' ⟨rfl, hw⟩
          rw [hw]
          clear q hw
          go_wp2_with (rw [← HW1.out])
          (with_reducible refine qi.mono ?_)
          rintro e w2 ⟨rfl, hk2⟩
          have hk : Kp [] w w2 := HK1.out.nil hk2
          clear qi hk2
          have hr2 := HH.out.kept hk
          obtain ⟨A, c, hc, -, -, -, -⟩ := hr2.ex
          have f3 := hc.free 3
          have x3 := hc.cell 3
          simp only [List.getElem?_cons_zero, List.getElem?_cons_succ] at x3
          have HR := hid hr2
          have HK := hid hk
          clear hc hr2 hk
          go_wp2_with fail
          go_ret
          exact ⟨(HK.out.mono (by simp)).setCell (fun _ => by simp) _, rfl, HR.out.mark true⟩
        · have p1' : decide ((a : Int) ≤ 32) = false := decide_eq_false p1
          rw [p1', Bool.false_or] at hbd
          by_cases p2 : (126 : Int) < (a : Int)
          · have p2' : decide ((126 : Int) < (a : Int)) = true := decide_eq_true p2
            rw [p2', Bool.true_or] at hbd
            subst hbd
            simp only [if_true, Took]
            go_enter Try.func74, Try.ntmps74
            go_wp2_with fail
            (with_reducible refine q.mono ?_)
            rintro e w' ⟨rfl, hw⟩
            rw [hw]
            clear q hw
            go_wp2_with (rw [← HW1.out])
            (with_reducible refine qi.mono ?_)
            rintro e w2 ⟨rfl, hk2⟩
            have hk : Kp [] w w2 := HK1.out.nil hk2
            clear qi hk2
            have hr2 := HH.out.kept hk
            obtain ⟨A, c, hc, -, -, -, -⟩ := hr2.ex
            have f3 := hc.free 3
            have x3 := hc.cell 3
            simp only [List.getElem?_cons_zero, List.getElem?_cons_succ] at x3
            have HR := hid hr2
            have HK := hid hk
            clear hc hr2 hk
            go_wp2_with fail
            go_ret
            exact ⟨(HK.out.mono (by simp)).setCell (fun _ => by simp) _, rfl, HR.out.mark true⟩
          · have p2' : decide ((126 : Int) < (a : Int)) = false := decide_eq_false p2
            rw [p2', Bool.false_or] at hbd
            subst hbd
            cases bd with
            | true =>
              simp only [if_true, Took]
              go_enter Try.func74, Try.ntmps74
              go_wp2_with fail
              (with_reducible refine q.mono ?_)
              rintro e w' ⟨rfl, hw⟩
              rw [hw]
              clear q hw
              go_wp2_with (rw [← HW1.out])
              (with_reducible refine qi.mono ?_)
              rintro e w2 ⟨rfl, hk2⟩
              have hk : Kp [] w w2 := HK1.out.nil hk2
              clear qi hk2
              have hr2 := HH.out.kept hk
              obtain ⟨A, c, hc, -, -, -, -⟩ := hr2.ex
              have f3 := hc.free 3
              have x3 := hc.cell 3
              simp only [List.getElem?_cons_zero, List.getElem?_cons_succ] at x3
              have HR := hid hr2
              have HK := hid hk
              clear hc hr2 hk
              go_wp2_with fail
              go_ret
              exact ⟨(HK.out.mono (by simp)).setCell (fun _ => by simp) _, rfl, HR.out.mark true⟩
            | false =>
              simp only [Bool.false_eq_true, if_false, Took]
              go_enter Try.func74, Try.ntmps74
              go_wp2_with fail
              (with_reducible refine q.mono ?_)
              rintro e w' ⟨rfl, hw⟩
              rw [hw]
              clear q hw
              go_wp2_with (rw [← HW1.out])
              (with_reducible refine qi.mono ?_)
              rintro e w2 ⟨rfl, hk2⟩
              have hk : Kp [] w w2 := HK1.out.nil hk2
              clear qi hk2
              obtain ⟨A, c, hc, hs, h1, h2, h3⟩ := (HH.out.kept hk).ex
              have x1 := hc.cell 1
              have f1 := hc.free 1
              have f3 := hc.free 3
              have x3 := hc.cell 3
              simp only [List.getElem?_cons_zero, List.getElem?_cons_succ] at x1 x3
              obtain ⟨n, hn'⟩ : ∃ n, n = (a :: r).length := ⟨_, rfl⟩
              rw [← hn'] at x1 h1
              have hn1 : n = r.length + 1 := by rw [hn']; rfl
              have b0 : (1 : Int) ≤ (n : Int) := by omega
              have b1 : decide ((1 : Int) ≤ (n : Int)) = true := decide_eq_true b0
              have b2 : 1 ≤ n := by omega
              have b3 : c ≤ 9223372036854775807 := by omega
              have HC := hid (And.intro hc (And.intro hs (And.intro h3 hn1)))
              have HK := hid hk
              clear hc hs h3 hn' hk hn1
              go_wp2_with fail
              · obtain ⟨hc, hs, h3, hn1⟩ := HC.out
                go_ret
                have e1 : n - 1 = r.length := by omega
                rw [e1]
                have hr0 : r = [] := List.eq_nil_of_length_eq_zero (by omega)
                refine ⟨(HK.out.mono (by simp)).setCell (fun _ => by simp) _, rfl, ⟨A, 0, hc.put 1 (.slice A r.length 0), ?_, by omega, by omega, h3⟩⟩
                rw [hr0]; exact Span.nil _ _
              · obtain ⟨hc, hs, h3, hn1⟩ := HC.out
                go_ret
                have e1 : n - 1 = r.length := by omega
                rw [e1]
                refine ⟨(HK.out.mono (by simp)).setCell (fun _ => by simp) _, rfl, ⟨_, c - 1, hc.put 1 (.slice (A.map fun x => ⟨x.block, x.off + 1, none⟩) r.length (c - 1)), ?_, by omega, by omega, ?_⟩⟩
                · exact (span_tail hs).setCell (fun ad e => by obtain ⟨a', e1, e2⟩ := Option.map_eq_some_iff.1 e; subst e2; exact (h3 a' e1).2) _
                · intro ad e
                  obtain ⟨a', e1, e2⟩ := Option.map_eq_some_iff.1 e
                  subst e2
                  exact h3 a' e1
end Go.Proofs.Ytaaikjedagnjbaa
