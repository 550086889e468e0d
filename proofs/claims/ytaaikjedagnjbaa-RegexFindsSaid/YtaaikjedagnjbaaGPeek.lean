/- The reader's peek and next. -/
import Derived.Test.YtaaikjedagnjbaaGIndex
import Derived.Test.YtaaikjedagnjbaaGMach
namespace Go.Proofs.Ytaaikjedagnjbaa
open Go Go.RowKit Go.Lib

def runesV (l : List Nat) : List Value := l.map fun c : Nat => Value.int .i32 (c : Int)
/-- A reader: its machine, what is left, how deep it is, whether something is wrong. -/
structure RdAt (w : World) (rb mb : Nat) (N : Nat → Prop) (L : List Nat) (d : Nat) (bad : Bool) : Prop where
  ex : ∃ A c, Cells w rb 69 [.pointer (some ⟨mb, 0, none⟩), .slice A L.length c, .int .i64 (d : Int), .bool bad] ∧ Span w A (runesV L) ∧ L.length ≤ c ∧ c ≤ 9223372036854775807 ∧ (∀ ad, A = some ad → N ad.block ∧ ad.block ≠ rb)
/-- The next rune; -1: none. -/
def peekR (bad : Bool) (L : List Nat) : Int := if bad then -1 else match L with
  | [] => -1
  | c :: _ => (c : Int)
set_option maxRecDepth 100000 in
set_option maxHeartbeats 6400000 in
theorem peek_any (w : World) (rb mb : Nat) (N : Nat → Prop) (L : List Nat) (d : Nat) (bad : Bool) (h : RdAt w rb mb N L d bad) :
    Calls Try.prog 48 #[.pointer (some ⟨rb, 0, none⟩)] w fun e w' => e = .returned (.int .i32 (peekR bad L)) ∧ w' = w := by
  obtain ⟨A, c, hc, hs, h1, h2, -⟩ := h.ex
  have x1 := hc.cell 1
  have x3 := hc.cell 3
  simp only [List.getElem?_cons_zero, List.getElem?_cons_succ] at x1 x3
  clear h hc
  cases bad
  · cases L with
    | nil =>
      have e0 : peekR false [] = -1 := rfl
      rw [e0]
      simp only [List.length_nil] at x1
      clear hs
      go_enter Try.func48, Try.ntmps48
      go_wp2_with fail
      go_ret
      exact ⟨rfl, rfl⟩
    | cons a r =>
      have e0 : peekR false (a :: r) = (a : Int) := rfl
      rw [e0]
      obtain ⟨ad, rfl, y0⟩ := hs 0 (.int .i32 (a : Int)) rfl
      obtain ⟨n, hn⟩ : ∃ n, n = (a :: r).length := ⟨_, rfl⟩
      have hn1 : 0 < n := by rw [hn]; simp
      rw [← hn] at x1 h1
      have ea : ad.add 0 = ad := by simp [Addr.add]
      rw [ea] at y0
      have b0 : (0 : Int) < (n : Int) := by omega
      have b1 : ((n : Int) == 0) = false := beq_eq_false_iff_ne.2 (by omega)
      have b2 : decide ((0 : Int) < (n : Int)) = true := decide_eq_true b0
      clear hs hn
      go_enter Try.func48, Try.ntmps48
      go_wp2_with fail
      go_ret
      exact ⟨rfl, rfl⟩
  · have e0 : peekR true L = -1 := rfl
    rw [e0]
    clear hs
    go_enter Try.func48, Try.ntmps48
    go_wp2_with fail
    go_ret
    exact ⟨rfl, rfl⟩
/-- Whether next takes one. -/
def hits (set : List UInt8) (bad : Bool) (L : List Nat) : Bool := match L with
  | [] => false
  | c :: _ => !bad && set.any fun b => b.toNat == c
theorem RdAt.kept {w w' : World} {rb mb d : Nat} {N : Nat → Prop} {L : List Nat} {bad : Bool} (h : RdAt w rb mb N L d bad) (k : Kp [] w w') : RdAt w' rb mb N L d bad := by
  obtain ⟨A, c, hc, hs, h1, h2, h3⟩ := h.ex
  exact ⟨A, c, hc.keep k (by simp), hs.kept k, h1, h2, h3⟩
theorem span_tail {w : World} {A : Option Addr} {v : Value} {xs : List Value} (h : Span w A (v :: xs)) : Span w (A.map fun x => ⟨x.block, x.off + 1, none⟩) xs := fun j u hj => by
  obtain ⟨ad, e, h1⟩ := h (j + 1) u hj
  subst e
  refine ⟨_, rfl, ?_⟩
  rw [← h1]
  obtain ⟨b, o, p⟩ := ad
  cases j with
  | zero => rfl
  | succ j =>
    have e : o + 1 + (j + 1) = o + (j + 1 + 1) := by omega
    show w.cell? ⟨b, o + 1 + (j + 1), none⟩ = w.cell? ⟨b, o + (j + 1 + 1), none⟩
    rw [e]
set_option maxRecDepth 100000 in
set_option maxHeartbeats 6400000 in
theorem next_any (w : World) (rb mb : Nat) (N : Nat → Prop) (L : List Nat) (d : Nat) (bad : Bool) (h : RdAt w rb mb N L d bad) (s : ByteArray) (hset : ∀ (j : Nat) b, s.data.toList[j]? = some b → b.toNat < 128) (hn : s.size ≤ 1000) :
    Calls Try.prog 40 #[.pointer (some ⟨rb, 0, none⟩), .string s] w fun e w' => e = .returned (.tuple #[.int .i32 (peekR bad L), .bool (hits s.data.toList bad L)]) ∧ RdAt w' rb mb N (if hits s.data.toList bad L then L.tail else L) d bad ∧ Kp [rb] w w' := by
  have q := peek_any w rb mb N L d bad h
  by_cases hneg : peekR bad L = -1
  · have hh : hits s.data.toList bad L = false := by
      cases L with
      | nil => rfl
      | cons a r =>
        cases bad
        · have : ((a : Nat) : Int) = -1 := hneg
          omega
        · rfl
    rw [hneg] at q
    rw [hh, hneg]
    simp only [Bool.false_eq_true, if_false]
    have HH := hid h
    clear h hset hneg hh
    go_enter Try.func40, Try.ntmps40
    go_wp2_with fail
    (with_reducible refine q.mono ?_)
    rintro e w' ⟨rfl, hw⟩
    rw [hw]
    clear q hw
    go_wp2_with fail
    go_ret2
    exact ⟨rfl, HH.out, Kp.refl _ _⟩
  · cases L with
    | nil => exact absurd (by cases bad <;> rfl) hneg
    | cons a r =>
      cases bad with
      | true => exact absurd rfl hneg
      | false =>
        have e0 : peekR false (a :: r) = (a : Int) := rfl
        have eh : hits s.data.toList false (a :: r) = s.data.toList.any fun b => b.toNat == a := rfl
        have qc := contains_any s a w hset hn
        rw [e0] at q
        rw [e0, eh]
        obtain ⟨hit, hhit⟩ : ∃ b, b = s.data.toList.any fun b => b.toNat == a := ⟨_, rfl⟩
        rw [← hhit] at qc ⊢
        have HH := hid h
        have g0 : ¬ (a : Int) < 0 := by omega
        have g1 : decide ((a : Int) < 0) = false := decide_eq_false g0
        clear h hset hneg hhit e0 eh
        cases hit with
        | false =>
          simp only [Bool.false_eq_true, if_false]
          go_enter Try.func40, Try.ntmps40
          go_wp2_with fail
          (with_reducible refine q.mono ?_)
          rintro e w' ⟨rfl, hw⟩
          rw [hw]
          clear q hw
          go_wp2_with fail
          (with_reducible refine qc.mono ?_)
          rintro e w2 ⟨rfl, hk⟩
          have HK := hid hk
          clear qc hk
          go_wp2_with fail
          go_ret2
          exact ⟨rfl, HH.out.kept HK.out, HK.out.mono (by simp)⟩
        | true =>
          simp only [if_true, List.tail_cons]
          go_enter Try.func40, Try.ntmps40
          go_wp2_with fail
          (with_reducible refine q.mono ?_)
          rintro e w' ⟨rfl, hw⟩
          rw [hw]
          clear q hw
          go_wp2_with fail
          (with_reducible refine qc.mono ?_)
          rintro e w2 ⟨rfl, hk⟩
          clear qc
          obtain ⟨A, c, hc, hs, h1, h2, h3⟩ := (HH.out.kept hk).ex
          have x1 := hc.cell 1
          have f1 := hc.free 1
          simp only [List.getElem?_cons_zero, List.getElem?_cons_succ] at x1
          obtain ⟨n, hn'⟩ : ∃ n, n = (a :: r).length := ⟨_, rfl⟩
          rw [← hn'] at x1 h1
          have hn1 : n = r.length + 1 := by rw [hn']; rfl
          have b0 : (1 : Int) ≤ (n : Int) := by omega
          have b1 : decide ((1 : Int) ≤ (n : Int)) = true := decide_eq_true b0
          have b2 : 1 ≤ n := by omega
          have b3 : c ≤ 9223372036854775807 := by omega
          have HC := hid (And.intro hc (And.intro hs (And.intro h3 hn1)))
          have HK := hid hk
          clear hc hs h3 hn' hk hn1
          go_wp2_with fail
          · obtain ⟨hc, hs, h3, hn1⟩ := HC.out
            go_ret2
            have e1 : n - 1 = r.length := by omega
            rw [e1]
            have hr0 : r = [] := List.eq_nil_of_length_eq_zero (by omega)
            refine ⟨rfl, ⟨A, 0, hc.put 1 (.slice A r.length 0), ?_, by omega, by omega, h3⟩, ?_⟩
            · rw [hr0]; exact Span.nil _ _
            · exact (HK.out.mono (by simp)).setCell (fun _ => by simp) _
          · obtain ⟨hc, hs, h3, hn1⟩ := HC.out
            go_ret2
            have e1 : n - 1 = r.length := by omega
            rw [e1]
            refine ⟨rfl, ⟨_, c - 1, hc.put 1 (.slice (A.map fun x => ⟨x.block, x.off + 1, none⟩) r.length (c - 1)), ?_, by omega, by omega, ?_⟩, ?_⟩
            · exact (span_tail hs).setCell (fun ad e => by obtain ⟨a', e1, e2⟩ := Option.map_eq_some_iff.1 e; subst e2; exact (h3 a' e1).2) _
            · intro ad e
              obtain ⟨a', e1, e2⟩ := Option.map_eq_some_iff.1 e
              subst e2
              exact h3 a' e1
            · exact (HK.out.mono (by simp)).setCell (fun _ => by simp) _
end Go.Proofs.Ytaaikjedagnjbaa
