/- The document's answer: whether two rows of texts, or of records, are the same. -/
import Derived.Test.YtepeopfdenieeaaDoorMay
import Derived.Deep.DeepCutAuto
namespace Go.Proofs.YtepeopfdenieeaaDoor
open Go Go.RowKit

noncomputable def alike {α : Type} (a b : α) : Bool := @decide (a = b) (Classical.propDecidable _)
theorem alike_iff {α : Type} {a b : α} : alike a b = true ↔ a = b := @decide_eq_true_iff _ (Classical.propDecidable _)
theorem alike_of {α : Type} {a b : α} {x : Bool} (h : x = true ↔ a = b) : x = alike a b := by
  cases x <;> cases h2 : alike a b
  · rfl
  · exact absurd (h.2 (alike_iff.1 h2)) (by simp)
  · exact absurd (alike_iff.2 (h.1 rfl)) (by simp [h2])
  · rfl
def SameTexts (w : World) (hs gs : List ByteArray) (e : Ending) (w' : World) : Prop := ∃ b, e = .returned (.bool b) ∧ (b = true ↔ hs = gs) ∧ ∃ q, w' = w.drewN q
theorem drewN_add (w : World) (a b : Nat) : (w.drewN a).drewN b = w.drewN (a + b) := by
  simp [World.drewN, Nat.add_assoc]
theorem text_ne {s t : ByteArray} (h : ¬ s = t) : (s.toList == t.toList) = false := by
  rw [beq_eq_false_iff_ne, ByteArray.toList_eq, ByteArray.toList_eq]
  intro e
  apply h
  cases s; cases t
  congr 1
  exact Array.toList_inj.1 e
set_option maxHeartbeats 400000 in
theorem texts_any (w : World) (A : Option Addr) (c : Nat) (hs : List ByteArray) (h1 : Span w A (hs.map .string)) (B : Option Addr) (d : Nat) (gs : List ByteArray) (h2 : Span w B (gs.map .string)) (hm : hs.length ≤ 9223372036854775807) :
    Calls Tryd.prog 42 #[.slice A hs.length c, .slice B gs.length d] w (SameTexts w hs gs) := by
  obtain ⟨n, hn⟩ : ∃ n, n = hs.length := ⟨_, rfl⟩
  obtain ⟨m, hm'⟩ : ∃ m, m = gs.length := ⟨_, rfl⟩
  rw [← hn] at hm ⊢
  rw [← hm']
  have Hn := hid hn
  have Hm := hid hm'
  clear hn hm'
  by_cases hl : n = m
  · subst hl
    go_enter Tryd.func42, Tryd.ntmps42
    go_wp2_with fail
    go_loopw [5] (fun i wr => ∃ (k q : Nat), k ≤ n ∧ i = .int .i64 k ∧ hs.take k = gs.take k ∧ wr = w.drewN q) (fun i _ => n - (intOf i).toNat)
    case atStart => exact ⟨0, 0, by omega, rfl, rfl, rfl⟩
    case round =>
      obtain ⟨k, q, hk, rfl, ht, hw⟩ := hrel
      by_cases hlt : k < n
      · have hk1 : k < hs.length := by rw [← Hn.out]; exact hlt
        have hk2 : k < gs.length := by rw [← Hm.out]; exact hlt
        have hkp : Kp [] w wr := by rw [hw]; exact (Kp.refl _ _).drewN q
        obtain ⟨ad, rfl, c1⟩ := (h1.kept hkp).get (j := k) (by simpa using hk1)
        obtain ⟨bd, rfl, c2⟩ := (h2.kept hkp).get (j := k) (by simpa using hk2)
        simp only [List.getElem_map] at c1 c2
        have t1 : hs.take (k + 1) = hs.take k ++ [hs[k]] := by rw [List.take_add_one, List.getElem?_eq_getElem hk1]; rfl
        have t2 : gs.take (k + 1) = gs.take k ++ [gs[k]] := by rw [List.take_add_one, List.getElem?_eq_getElem hk2]; rfl
        obtain ⟨s, hs1⟩ : ∃ s, s = hs[k] := ⟨_, rfl⟩
        obtain ⟨t, ht1⟩ : ∃ t, t = gs[k] := ⟨_, rfl⟩
        rw [← hs1] at c1 t1
        rw [← ht1] at c2 t2
        have T1 := hid t1
        have T2 := hid t2
        have Ht := hid ht
        have hne : s ≠ t → hs ≠ gs := by
          intro h1 h2
          subst h2
          exact h1 (hs1.trans ht1.symm)
        have Hne := hid hne
        have Hw := hid hw
        have i1 : (k : Int) < (n : Int) := by omega
        clear t1 t2 hs1 ht1 ht hne hw hkp
        by_cases hst : s = t
        · subst hst
          go_wp2_with fail
          go_quiet (fail)
          generalize nq = n1 at *
          go_wp2_with fail
          go_roundw
          case rel =>
            refine ⟨k + 1, q + n1, by omega, by go_num, by rw [T1.out, T2.out, Ht.out], ?_⟩
            rw [← drewN_add, ← Hw.out]
          case measure => simp [intOf]; omega
        · have hb1 := text_ne hst
          go_wp2_with fail
          go_quiet (fail)
          generalize nq = n1 at *
          go_wp2_with fail
          go_ret
          refine ⟨false, rfl, ?_, q + n1, ?_⟩
          · simp [Hne.out hst]
          · rw [← drewN_add, ← Hw.out]
      · rw [List.take_of_length_le (by have := Hn.out; omega), List.take_of_length_le (by have := Hm.out; omega)] at ht
        have Ht := hid ht
        have Hw := hid hw
        clear ht hw
        go_wp2_with fail
        go_ret
        exact ⟨true, rfl, by simp [Ht.out], q, Hw.out⟩
  · have hl' : (n : Int) ≠ (m : Int) := by omega
    go_enter Tryd.func42, Tryd.ntmps42
    go_wp2_with fail
    go_ret
    refine ⟨false, rfl, ?_, 0, rfl⟩
    simp only [Bool.false_eq_true, false_iff]
    rintro rfl
    exact hl (by rw [Hn.out, Hm.out])

theorem texts_quiet (w : World) (A : Option Addr) (c : Nat) (hs : List ByteArray) (h1 : Span w A (hs.map .string)) (B : Option Addr) (d : Nat) (gs : List ByteArray) (h2 : Span w B (gs.map .string)) (hm : hs.length ≤ 9223372036854775807) :
    Calls Tryd.prog 42 #[.slice A hs.length c, .slice B gs.length d] w fun e w' => e = .returned (.bool (alike hs gs)) ∧ ∃ q, w' = w.drewN q :=
  (texts_any w A c hs h1 B d gs h2 hm).mono fun e w' ⟨b, h3, h4, h5⟩ => ⟨by rw [h3, alike_of h4], h5⟩
/-- A record at the address P. -/
def RecAt (w : World) (P : Addr) (r : Rec) : Prop :=
  ∃ A c, w.cell? P = some (.int .i64 r.doc) ∧ w.cell? ⟨P.block, P.off + 1, none⟩ = some (.int .i64 r.out) ∧ w.cell? ⟨P.block, P.off + 2, none⟩ = some (.int .i64 r.len) ∧ w.cell? ⟨P.block, P.off + 3, none⟩ = some (.slice A r.holes.length c) ∧ Span w A (r.holes.map .string) ∧ r.holes.length ≤ c ∧ c ≤ 9223372036854775807
/-- A row of records. -/
def RecsAt (w : World) (A : Option Addr) (rs : List Rec) : Prop := ∀ (k : Nat) (r : Rec), rs[k]? = some r → ∃ ad, A = some ad ∧ RecAt w (ad.add (k * 4)) r
theorem RecAt.kept {w w' : World} {P : Addr} {r : Rec} (h : RecAt w P r) (kp : Kp [] w w') : RecAt w' P r := by
  obtain ⟨A, c, h0, h1, h2, h3, h4, h5⟩ := h
  exact ⟨A, c, kp.cell h0 (by simp), kp.cell h1 (by simp), kp.cell h2 (by simp), kp.cell h3 (by simp), h4.kept kp, h5⟩
theorem RecsAt.kept {w w' : World} {A : Option Addr} {rs : List Rec} (h : RecsAt w A rs) (kp : Kp [] w w') : RecsAt w' A rs := fun k r hk => by
  obtain ⟨ad, h1, h2⟩ := h k r hk
  exact ⟨ad, h1, h2.kept kp⟩

def SameRecs (w : World) (rs qs : List Rec) (e : Ending) (w' : World) : Prop := ∃ b, e = .returned (.bool b) ∧ (b = true ↔ rs = qs) ∧ ∃ q, w' = w.drewN q
set_option maxHeartbeats 8000000 in
theorem same_any (w : World) (A : Option Addr) (c : Nat) (rs : List Rec) (h1 : RecsAt w A rs) (B : Option Addr) (d : Nat) (qs : List Rec) (h2 : RecsAt w B qs) (hm : rs.length ≤ 9223372036854775807) :
    Calls Tryd.prog 19 #[.slice A rs.length c, .slice B qs.length d] w (SameRecs w rs qs) := by
  obtain ⟨n, hn⟩ : ∃ n, n = rs.length := ⟨_, rfl⟩
  obtain ⟨m, hm'⟩ : ∃ m, m = qs.length := ⟨_, rfl⟩
  rw [← hn] at hm ⊢
  rw [← hm']
  have Hn := hid hn
  have Hm := hid hm'
  clear hn hm'
  by_cases hl : n = m
  · subst hl
    go_enter Tryd.func19, Tryd.ntmps19
    go_wp2_with fail
    go_loopw [5] (fun i wr => ∃ (k q : Nat), k ≤ n ∧ i = .int .i64 k ∧ rs.take k = qs.take k ∧ wr = w.drewN q) (fun i _ => n - (intOf i).toNat)
    case atStart => exact ⟨0, 0, by omega, rfl, rfl, rfl⟩
    case round =>
      obtain ⟨k, q, hk, rfl, ht, hw⟩ := hrel
      by_cases hlt : k < n
      · have hk1 : k < rs.length := by rw [← Hn.out]; exact hlt
        have hk2 : k < qs.length := by rw [← Hm.out]; exact hlt
        have hkp : Kp [] w wr := by rw [hw]; exact (Kp.refl _ _).drewN q
        obtain ⟨ad, rfl, ⟨A1, c1, a0, a1, a2, a3, a4, a5, a6⟩⟩ := (h1.kept hkp) k _ (List.getElem?_eq_getElem hk1)
        obtain ⟨bd, rfl, ⟨A2, c2, b0, b1, b2, b3, b4, b5, b6⟩⟩ := (h2.kept hkp) k _ (List.getElem?_eq_getElem hk2)
        have t1 : rs.take (k + 1) = rs.take k ++ [rs[k]] := by rw [List.take_add_one, List.getElem?_eq_getElem hk1]; rfl
        have t2 : qs.take (k + 1) = qs.take k ++ [qs[k]] := by rw [List.take_add_one, List.getElem?_eq_getElem hk2]; rfl
        obtain ⟨r, hr1⟩ : ∃ r, r = rs[k] := ⟨_, rfl⟩
        obtain ⟨s, hs1⟩ : ∃ s, s = qs[k] := ⟨_, rfl⟩
        rw [← hr1] at a0 a1 a2 a3 a4 a5 t1
        rw [← hs1] at b0 b1 b2 b3 b4 b5 t2
        have T1 := hid t1
        have T2 := hid t2
        have Ht := hid ht
        have hne : r ≠ s → rs ≠ qs := by
          intro h1 h2
          subst h2
          exact h1 (hr1.trans hs1.symm)
        have Hne := hid hne
        have Hw := hid hw
        have i1 : (k : Int) < (n : Int) := by omega
        clear t1 t2 hr1 hs1 ht hne hw hkp
        go_wp2_with fail
        go_quiet (first | (go_at_call 42; exact Calls.quiet_of (texts_quiet _ A1 c1 r.holes (by exact a4) A2 c2 s.holes (by exact b4) (by omega))))
        generalize nq = n1 at *
        obtain ⟨b, hb⟩ : ∃ b, b = alike r.holes s.holes := ⟨_, rfl⟩
        rw [← hb]
        have hb2 : b = true ↔ r.holes = s.holes := by rw [hb]; exact alike_iff
        have Hb := hid hb2
        clear hb hb2
        by_cases e0 : r.doc = s.doc
        · rw [← e0] at b0
          by_cases e1 : r.out = s.out
          · rw [← e1] at b1
            by_cases e2 : r.len = s.len
            · rw [← e2] at b2
              cases b with
              | false =>
                go_wp2_with fail
                go_quiet (fail)
                generalize nq = n2 at *
                go_wp2_with fail
                go_ret
                refine ⟨false, rfl, ?_, q + (n1 + n2), ?_⟩
                · simp only [Bool.false_eq_true, false_iff]
                  exact Hne.out (fun e => absurd (Hb.out.2 (by rw [e])) (by simp))
                · (rw [Hw.out]; simp only [drewN_add, Nat.add_assoc])
              | true =>
                have hrs : r = s := by
                  have e3 := Hb.out.1 rfl
                  cases r; cases s
                  simp only at e0 e1 e2 e3
                  rw [e0, e1, e2, e3]
                have Hrs := hid hrs
                clear hrs
                go_wp2_with fail
                go_quiet (fail)
                generalize nq = n2 at *
                go_wp2_with fail
                go_roundw
                case rel =>
                  refine ⟨k + 1, q + (n1 + n2), by omega, by go_num, by rw [T1.out, T2.out, Ht.out, Hrs.out], ?_⟩
                  (rw [Hw.out]; simp only [drewN_add])
                case measure => simp [intOf]; omega
            · have q1 : (r.len != s.len) = true := by simpa using e2
              go_wp2_with fail
              go_quiet (fail)
              generalize nq = n2 at *
              go_wp2_with fail
              go_ret
              refine ⟨false, rfl, ?_, q + (n1 + n2), ?_⟩
              · simp only [Bool.false_eq_true, false_iff]
                exact Hne.out (fun e => e2 (by rw [e]))
              · (rw [Hw.out]; simp only [drewN_add, Nat.add_assoc])
          · have q1 : (r.out != s.out) = true := by simpa using e1
            go_wp2_with fail
            go_quiet (fail)
            generalize nq = n2 at *
            go_wp2_with fail
            go_ret
            refine ⟨false, rfl, ?_, q + (n1 + n2), ?_⟩
            · simp only [Bool.false_eq_true, false_iff]
              exact Hne.out (fun e => e1 (by rw [e]))
            · (rw [Hw.out]; simp only [drewN_add, Nat.add_assoc])
        · have q1 : (r.doc != s.doc) = true := by simpa using e0
          go_wp2_with fail
          go_quiet (fail)
          generalize nq = n2 at *
          go_wp2_with fail
          go_ret
          refine ⟨false, rfl, ?_, q + (n1 + n2), ?_⟩
          · simp only [Bool.false_eq_true, false_iff]
            exact Hne.out (fun e => e0 (by rw [e]))
          · (rw [Hw.out]; simp only [drewN_add, Nat.add_assoc])
      · rw [List.take_of_length_le (by have := Hn.out; omega), List.take_of_length_le (by have := Hm.out; omega)] at ht
        have Ht := hid ht
        have Hw := hid hw
        clear ht hw
        go_wp2_with fail
        go_ret
        exact ⟨true, rfl, by simp [Ht.out], q, Hw.out⟩
  · have hl' : (n : Int) ≠ (m : Int) := by omega
    go_enter Tryd.func19, Tryd.ntmps19
    go_wp2_with fail
    go_ret
    refine ⟨false, rfl, ?_, 0, rfl⟩
    simp only [Bool.false_eq_true, false_iff]
    rintro rfl
    exact hl (by rw [Hn.out, Hm.out])
end Go.Proofs.YtepeopfdenieeaaDoor
