/- The audit of layer 19: what New, Release, Code, Recover, Proved do. -/
import Derived.Test.YtepeopfdenieeaaDoorBytes
import Derived.Test.YtepeopfdenieeaaDoorAll
namespace Go.Proofs.YtepeopfdenieeaaDoor
open Go Go.RowKit

/-- Within these bounds a sink stays. -/
structure SK.Ok (s : SK) : Prop where
  l1 : -1 ≤ s.left
  l2 : s.left ≤ 9223372036854775807
  room : s.room ≤ 1048576
  len : s.xs.length ≤ 3000000
  live : s.dead = false → s.xs.length ≤ 1048576
theorem SK.Ok.write {s : SK} (h : s.Ok) (ys : List UInt8) (hy : ys.length ≤ 1900000) : (s.write ys).1.Ok := by
  obtain ⟨h1, h2, h3, h4, h5⟩ := h
  unfold SK.write
  split
  · exact ⟨h1, h2, h3, h4, h5⟩
  · rename_i hd
    have h6 := h5 (by simpa using hd)
    split
    · refine ⟨by simp, by simp, h3, ?_, by simp⟩
      simp only [List.length_append, List.length_take]
      omega
    · split
      · exact ⟨h1, h2, h3, h4, h5⟩
      · refine ⟨?_, ?_, h3, ?_, fun _ => ?_⟩
        · simp only
          split <;> omega
        · simp only
          split <;> omega
        · simp only [List.length_append]; omega
        · simp only [List.length_append]; omega
theorem SK.make_ok (room crash : Int) (h2 : crash ≤ 9223372036854775807) : (SK.make room crash).Ok :=
  ⟨by simp only [SK.make]; omega, by simp only [SK.make]; omega, by simp only [SK.make]; omega, by simp [SK.make], by simp [SK.make]⟩
/-- Bytes lie in no sink's block. -/
theorem span_not_sink {w : World} {a : Nat} {s : SK} (h : SinkAt w a s) {A : Option Addr} {ys : List UInt8} (hs : Span w A (u8s ys)) (hy : 0 < ys.length) : ∀ ad, A = some ad → ad.block ≠ a := by
  rintro ad rfl he
  obtain ⟨R, hc, _⟩ := h
  obtain ⟨ad', e, hcell⟩ := hs.get (j := 0) (by rw [length_u8s]; exact hy)
  injection e with e
  subst e
  have h0 : ad.add 0 = ad := by simp [Addr.add]
  rw [h0] at hcell
  unfold Cells at hc
  unfold World.cell? at hcell
  rw [he, hc] at hcell
  simp [u8s, u8] at hcell
  rcases ad with ⟨b, off, v⟩
  simp only at hcell
  match off, hcell with
  | 0, hcell => simp at hcell
  | 1, hcell => simp at hcell
  | 2, hcell => simp at hcell
  | 3, hcell => simp at hcell
  | n + 4, hcell => simp at hcell
theorem write_ok (w : World) (a : Nat) (s : SK) (A : Option Addr) (n c : Nat) (ys : List UInt8) (hs : SinkAt w a s) (hb : Span w A (u8s ys)) (hn : ys.length = n) (hc : n ≤ c) (ho : s.Ok) (h2 : n ≤ 1900000) :
    Calls Tryd.prog 48 #[.pointer (some ⟨a, 0, none⟩), .slice A n c] w (WritePost w a s ys) := by
  cases hd : s.dead
  · by_cases hl : 0 ≤ s.left ∧ s.left < n
    · exact write_crash w a s A n c ys hs hb (span_not_sink hs hb (by omega)) hn hd hl.1 hl.2 hc (Nat.le_trans ho.len (by omega)) (by omega)
    · by_cases hr : s.room < s.xs.length + n
      · exact write_full w a s A n c ys hs hn hd (by omega) hr (Nat.le_trans ho.len (by omega)) (by omega)
      · exact write_fits w a s A n c ys hs hb hn hd (by omega) (by omega) ho.l1 ho.l2 (Nat.le_trans ho.len (by omega)) (by omega)
  · exact write_dead w a s A n c ys hs hd

structure AK where
  log : SK
  out : SK
  code : Int
/-- What one Release does: the new state, which error. -/
def AK.release (s : AK) (r : Rec) (ys : List UInt8) : AK × Int :=
  if s.code ≠ 0 then (s, s.code)
  else if mayOf r ≠ 0 then (s, mayOf r)
  else if r.len ≠ ys.length then (s, 1)
  else if (s.log.write (putB r)).2.2 ≠ 0 then (⟨(s.log.write (putB r)).1, s.out, (s.log.write (putB r)).2.2⟩, (s.log.write (putB r)).2.2)
  else (⟨(s.log.write (putB r)).1, (s.out.write ys).1, (s.out.write ys).2.2⟩, (s.out.write ys).2.2)
/-- The audit at block a, its sinks at al and ao. -/
structure AuditAt (w : World) (a al ao : Nat) (s : AK) : Prop where
  c : Cells w a 88 [.pointer (some ⟨al, 0, none⟩), .pointer (some ⟨ao, 0, none⟩), .int .i64 s.code]
  l : SinkAt w al s.log
  o : SinkAt w ao s.out
  ne : al ≠ ao
theorem AuditAt.kept {w w' : World} {a al ao : Nat} {s : AK} (h : AuditAt w a al ao s) (k : Kp [] w w') : AuditAt w' a al ao s :=
  ⟨h.c.keep k (by simp), h.l.kept k, h.o.kept k, h.ne⟩
theorem SinkAt.ne_audit {w : World} {a b : Nat} {s : SK} (h : SinkAt w b s) {cs : List Value} (hc : Cells w a 88 cs) : b ≠ a := by
  obtain ⟨R, h1, _⟩ := h
  exact h1.ne hc (by decide)
theorem anew_any (w : World) (al ao : Nat) :
    Calls Tryd.prog 26 #[.pointer (some ⟨al, 0, none⟩), .pointer (some ⟨ao, 0, none⟩)] w fun e w' => e = .returned (.pointer (some ⟨w.heap.size, 0, none⟩)) ∧
      Cells w' w.heap.size 88 [.pointer (some ⟨al, 0, none⟩), .pointer (some ⟨ao, 0, none⟩), .int .i64 0] ∧ Kp [] w w' := by
  go_enter Tryd.func26, Tryd.ntmps26
  go_wp2_with fail
  go_ret
  exact ⟨rfl, Cells.fresh _ _ _, (Kp.refl _ _).alloc _⟩
theorem code_any (w : World) (a al ao : Nat) (s : AK) (h : AuditAt w a al ao s) :
    Calls Tryd.prog 31 #[.pointer (some ⟨a, 0, none⟩)] w fun e w' => e = .returned (.int .i64 s.code) ∧ w = w' := by
  have c2 := h.c.cell 2
  simp only [List.getElem?_cons_zero, List.getElem?_cons_succ] at c2
  go_enter Tryd.func31, Tryd.ntmps31
  go_wp2_with fail
  go_ret
  exact ⟨rfl, rfl⟩
theorem note_any (w : World) (a : Nat) (s : SK) (A : Option Addr) (n c : Nat) (ys : List UInt8) (hs : SinkAt w a s) (hb : Span w A (u8s ys)) (hn : ys.length = n) (hc : n ≤ c) (ho : s.Ok) (h2 : n ≤ 1900000) :
    Calls Tryd.prog 47 #[.agg #[.pointer (some ⟨a, 0, none⟩)], .slice A n c] w fun e w' => e = .returned (.int .i64 (s.write ys).2.2) ∧ SinkAt w' a (s.write ys).1 ∧ Kp [a] w w' := by
  have Hn := hid hn
  clear hn
  go_enter Tryd.func47, Tryd.ntmps47
  go_wp2_with fail
  have k1 : Kp [] w (w.alloc (.cells #[.pointer (some ⟨a, 0, none⟩)] 86)) := (Kp.refl _ _).alloc _
  refine (write_ok _ a s A n c ys (hs.kept k1) (hb.kept k1) Hn.out hc ho h2).mono ?_
  rintro e w1 ⟨rfl, h3, h4, -⟩
  go_wp2_with fail
  go_ret
  exact ⟨rfl, h3, (k1.mono (by simp)).trans h4 (fun x hx _ => hx)⟩
theorem recover_any (w : World) (hT : Tabs w) (A : Option Addr) (n c : Nat) (l : List UInt8) (hs : Span w A (u8s l)) (hn : l.length = n) (hc : n ≤ c) (hc2 : c ≤ 9223372036854775807) (hm : n ≤ 1099511627776) :
    Calls Tryd.prog 33 #[.slice A n c] w (AllPost w l) := by
  go_enter Tryd.func33, Tryd.ntmps33
  go_wp2_with fail
  refine (all_any w hT A n c l hs hn hc hc2 hm).mono ?_
  rintro e w1 ⟨rs, rest, v, h1, rfl, h2, h3, h4⟩
  obtain ⟨B, d, rfl, -⟩ := h2.shape
  go_wp2_with fail
  go_ret2
  exact ⟨rs, rest, _, h1, rfl, h2, h3, h4⟩
end Go.Proofs.YtepeopfdenieeaaDoor
