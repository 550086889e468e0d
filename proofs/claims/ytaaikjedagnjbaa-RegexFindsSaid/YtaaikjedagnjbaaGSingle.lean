/- The reader's single. -/
import Derived.Test.YtaaikjedagnjbaaGEsc
namespace Go.Proofs.Ytaaikjedagnjbaa
open Go Go.RowKit Go.Lib

/-- A value read, and what is left; or the reader is marked. -/
def TookS (w w' : World) (rb mb : Nat) (N : Nat → Prop) (d : Nat) (L : List Nat) (e : Ending) : Option (Nat × List Nat) → Prop
  | some (x, r) => Kp [rb] w w' ∧ e = .returned (.int .i32 (x : Int)) ∧ RdAt w' rb mb N r d false
  | none => Kp [rb] w w' ∧ e = .returned (.int .i32 0) ∧ ∃ L', L'.length ≤ L.length ∧ RdAt w' rb mb N L' d true
theorem ascii_of (l : List UInt8) (h : l.all (fun b => decide (b.toNat < 128)) = true) : ∀ (j : Nat) b, l[j]? = some b → b.toNat < 128 := fun _ b hb => of_decide_eq_true (List.all_eq_true.1 h b (List.mem_of_getElem? hb))
set_option maxRecDepth 100000 in
set_option maxHeartbeats 6400000 in
theorem single_any (w : World) (rb mb : Nat) (N : Nat → Prop) (L : List Nat) (d : Nat) (h : RdAt w rb mb N L d false) :
    Calls Try.prog 70 #[.pointer (some ⟨rb, 0, none⟩)] w fun e w' => TookS w w' rb mb N d L e (singleR L) := by
  have qn := next_any w rb mb N L d false h ⟨#[92]⟩ (ascii_of _ (by decide)) (by decide)
  have HH := hid h
  clear h
  cases L with
  | nil =>
    have e0 : peekR false [] = -1 := rfl
    have e1 : hits (⟨#[92]⟩ : ByteArray).data.toList false [] = false := rfl
    have e2 : singleR [] = none := rfl
    rw [e0, e1] at qn
    rw [e2]
    simp only [Bool.false_eq_true, if_false] at qn
    simp only [TookS]
    clear e1 e2
    go_enter Try.func70, Try.ntmps70
    go_wp2_with fail
    (with_reducible refine qn.mono ?_)
    rintro e w2 ⟨rfl, hr2, hk2⟩
    clear qn
    have qp := peek_any w2 rb mb N _ d false hr2
    go_wp2_with fail
    rw [e0] at qp
    (with_reducible refine qp.mono ?_)
    rintro e w3 ⟨rfl, hw3⟩
    rw [hw3]
    clear qp hw3
    have hr4 := hr2
    have hk4 := hk2
    clear hr2 hk2 e0
    obtain ⟨A, c, hc, -, -, -, -⟩ := hr4.ex
    have f3 := hc.free 3
    have x3 := hc.cell 3
    simp only [List.getElem?_cons_zero, List.getElem?_cons_succ] at x3
    have HR := hid hr4
    have HK := hid hk4
    clear hc hr4 hk4
    go_wp2_with fail
    go_ret
    exact ⟨(HK.out.mono (by simp)).setCell (fun _ => by simp) _, rfl, _, Nat.le_refl _, HR.out.mark true⟩
  | cons a r =>
    have e0 : peekR false (a :: r) = (a : Int) := rfl
    by_cases a1 : a = 92
    · subst a1
      have e1 : hits (⟨#[92]⟩ : ByteArray).data.toList false (92 :: r) = true := rfl
      have e2 : singleR (92 :: r) = escOf r := by cases r <;> rfl
      rw [e0, e1] at qn
      rw [e2]
      simp only [if_true, List.tail_cons] at qn
      simp only [show ((92 : Nat) : Int) = 92 from rfl] at qn
      clear e0 e1 e2
      go_enter Try.func70, Try.ntmps70
      go_wp2_with fail
      (with_reducible refine qn.mono ?_)
      rintro e w2 ⟨rfl, hr2, hk2⟩
      clear qn
      have qe := escaped_any w2 rb mb N r d hr2
      have HK2 := hid hk2
      clear hr2 hk2
      obtain ⟨o, ho⟩ : ∃ o, o = escOf r := ⟨_, rfl⟩
      rw [← ho] at qe
      have HO := hid ho
      clear ho
      go_wp2_with fail
      (with_reducible refine qe.mono ?_)
      clear qe
      intro e w3 ht
      cases o with
      | none =>
        obtain ⟨k3, rfl, r3⟩ := ht
        have H3 := hid (And.intro k3 r3)
        clear k3 r3
        go_wp2_with fail
        go_ret
        rw [← HO.out]
        exact ⟨HK2.out.trans H3.out.1 (fun x hx _ => hx), rfl, r, by simp, H3.out.2⟩
      | some xr =>
        obtain ⟨x, r'⟩ := xr
        obtain ⟨k3, rfl, r3⟩ := ht
        have H3 := hid (And.intro k3 r3)
        clear k3 r3
        go_wp2_with fail
        go_ret
        rw [← HO.out]
        exact ⟨HK2.out.trans H3.out.1 (fun x hx _ => hx), rfl, H3.out.2⟩
    · have e1 : hits (⟨#[92]⟩ : ByteArray).data.toList false (a :: r) = false := by
        show (!false && ([92] : List UInt8).any fun b => b.toNat == a) = false
        simp
        omega
      rw [e0, e1] at qn
      simp only [Bool.false_eq_true, if_false] at qn
      have qc := fun W => contains_any ⟨#[91, 93, 94, 45]⟩ a W (ascii_of _ (by decide)) (by decide)
      obtain ⟨hit, hhit⟩ : ∃ b, b = ((⟨#[91, 93, 94, 45]⟩ : ByteArray).data.toList.any fun b => b.toNat == a) := ⟨_, rfl⟩
      rw [← hhit] at qc
      have g0 : ¬ (a : Int) < 0 := by omega
      have g1 : decide ((a : Int) < 0) = false := decide_eq_false g0
      have e2 : singleR (a :: r) = if hit then none else some (a, r) := by
        rw [single_cons, if_neg a1]
        have e3 : (a = 91 ∨ a = 93 ∨ a = 94 ∨ a = 45) ↔ hit = true := by
          rw [hhit]
          show _ ↔ (([91, 93, 94, 45] : List UInt8).any fun b => b.toNat == a) = true
          simp
          omega
        cases hit
        · rw [if_neg (by rw [e3]; simp)]; rfl
        · rw [if_pos (by rw [e3])]; rfl
      rw [e2]
      clear e1 e2 hhit a1
      cases hit with
      | true =>
        simp only [if_true, TookS]
        go_enter Try.func70, Try.ntmps70
        go_wp2_with fail
        (with_reducible refine qn.mono ?_)
        rintro e w2 ⟨rfl, hr2, hk2⟩
        clear qn
        have qp := peek_any w2 rb mb N _ d false hr2
        go_wp2_with fail
        rw [e0] at qp
        (with_reducible refine qp.mono ?_)
        rintro e w3 ⟨rfl, hw3⟩
        rw [hw3]
        clear qp hw3
        clear e0
        go_wp2_with fail
        (with_reducible refine (qc w2).mono ?_)
        rintro e w4 ⟨rfl, hk24⟩
        have hr4 := hr2.kept hk24
        have hk4 := hk2.nil hk24
        clear qc hk24 hr2 hk2
        obtain ⟨A, c, hc, -, -, -, -⟩ := hr4.ex
        have f3 := hc.free 3
        have x3 := hc.cell 3
        simp only [List.getElem?_cons_zero, List.getElem?_cons_succ] at x3
        have HR := hid hr4
        have HK := hid hk4
        clear hc hr4 hk4
        go_wp2_with fail
        go_ret
        exact ⟨(HK.out.mono (by simp)).setCell (fun _ => by simp) _, rfl, _, Nat.le_refl _, HR.out.mark true⟩
      | false =>
        simp only [Bool.false_eq_true, if_false, TookS]
        go_enter Try.func70, Try.ntmps70
        go_wp2_with fail
        (with_reducible refine qn.mono ?_)
        rintro e w2 ⟨rfl, hr2, hk2⟩
        clear qn
        have qp := peek_any w2 rb mb N _ d false hr2
        go_wp2_with fail
        rw [e0] at qp
        (with_reducible refine qp.mono ?_)
        rintro e w3 ⟨rfl, hw3⟩
        rw [hw3]
        clear qp hw3
        clear e0
        go_wp2_with fail
        (with_reducible refine (qc w2).mono ?_)
        rintro e w4 ⟨rfl, hk24⟩
        have hr4 := hr2.kept hk24
        have hk4 := hk2.nil hk24
        clear qc hk24 hr2 hk2
        obtain ⟨A, c, hc, hs, h1, h2, h3⟩ := hr4.ex
        have x1 := hc.cell 1
        have f1 := hc.free 1
        simp only [List.getElem?_cons_zero, List.getElem?_cons_succ] at x1
        obtain ⟨n, hn'⟩ : ∃ n, n = (a :: r).length := ⟨_, rfl⟩
        rw [← hn'] at x1 h1
        have hn1 : n = r.length + 1 := by rw [hn']; rfl
        have b0 : (1 : Int) ≤ (n : Int) := by omega
        have b1 : decide ((1 : Int) ≤ (n : Int)) = true := decide_eq_true b0
        have b2 : 1 ≤ n := by omega
        have b3 : c ≤ 9223372036854775807 := by omega
        have HC := hid (And.intro hc (And.intro hs (And.intro h3 hn1)))
        have HK := hid hk4
        clear hc hs h3 hn' hk4 hn1 hr4
        go_wp2_with fail
        · obtain ⟨hc, hs, h3, hn1⟩ := HC.out
          go_ret
          have e1 : n - 1 = r.length := by omega
          rw [e1]
          have hr0 : r = [] := List.eq_nil_of_length_eq_zero (by omega)
          refine ⟨(HK.out.mono (by simp)).setCell (fun _ => by simp) _, rfl, ⟨A, 0, hc.put 1 (.slice A r.length 0), ?_, by omega, by omega, h3⟩⟩
          rw [hr0]; exact Span.nil _ _
        · obtain ⟨hc, hs, h3, hn1⟩ := HC.out
          go_ret
          have e1 : n - 1 = r.length := by omega
          rw [e1]
          refine ⟨(HK.out.mono (by simp)).setCell (fun _ => by simp) _, rfl, ⟨_, c - 1, hc.put 1 (.slice (A.map fun x => ⟨x.block, x.off + 1, none⟩) r.length (c - 1)), ?_, by omega, by omega, ?_⟩⟩
          · exact (span_tail hs).setCell (fun ad e => by obtain ⟨a', e1, e2⟩ := Option.map_eq_some_iff.1 e; subst e2; exact (h3 a' e1).2) _
          · intro ad e
            obtain ⟨a', e1, e2⟩ := Option.map_eq_some_iff.1 e
            subst e2
            exact h3 a' e1
end Go.Proofs.Ytaaikjedagnjbaa
