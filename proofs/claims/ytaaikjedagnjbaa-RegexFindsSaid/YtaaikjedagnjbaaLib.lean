/- Plain words for memory, no program in sight: a block known whole, cells that read as a list, what a call keeps. -/
import Derived.WalkKit
import Derived.Below
import Derived.Laws.OwnMore
import Derived.Laws.CopyOwn
import Derived.Deep.QuietTactic
import Derived.BigQuiet
import Derived.Deep.RegionHeld3
import Derived.Maps.AppendAt
import Derived.Lib.SlBytesConst
import Derived.Handy
import Derived.Deep.AppendLies
import Derived.Deep.Draws
import Derived.Laws.Rows
import Derived.WalkSpells
import Derived.WalkLawsBesides
namespace Go.Proofs.Ytaaikjedagnjbaa
open Go Go.RowKit

theorem hid {p : Prop} (h : p) : Hid p := h
/-- Block g is just these cells of element type t, none frozen. -/
def Cells (w : World) (g : Nat) (t : TypeId) (cs : List Value) : Prop := w.heap[g]? = some (.cells cs.toArray t (0, 0))
/-- From address A on lie these cells (nothing is said of A if there are none). -/
def Span (w : World) (A : Option Addr) (xs : List Value) : Prop := ∀ j u, xs[j]? = some u → ∃ ad, A = some ad ∧ w.cell? (ad.add j) = some u
/-- A call keeps all blocks that were there but those of S, and the streams. -/
structure Kp (S : List Nat) (w w' : World) : Prop where
  os : w'.os = w.os
  tape : w'.tape = w.tape
  output : w'.output = w.output
  size : w.heap.size ≤ w'.heap.size
  block : ∀ k, k < w.heap.size → k ∉ S → w'.heap[k]? = w.heap[k]?

theorem add_block (a : Addr) (n : Nat) : (a.add n).block = a.block := by
  unfold Addr.add
  split <;> rfl
theorem add_add (a : Addr) (i j : Nat) : (a.add i).add j = a.add (i + j) := by
  rcases Nat.eq_zero_or_pos i with hi | hi
  · subst hi; simp [Addr.add]
  · rcases Nat.eq_zero_or_pos j with hj | hj
    · subst hj; simp [Addr.add]
    · simp [Addr.add, Nat.ne_of_gt hi, Nat.ne_of_gt hj, Nat.add_assoc]

section
variable {w w' w1 w2 : World} {S T : List Nat} {g : Nat} {t : TypeId} {cs xs : List Value} {A : Option Addr}

theorem Kp.refl (S : List Nat) (w : World) : Kp S w w := ⟨rfl, rfl, rfl, Nat.le_refl _, fun _ _ _ => rfl⟩
theorem Kp.trans (h : Kp S w w1) (k : Kp T w1 w2) (hT : ∀ x ∈ T, x < w.heap.size → x ∈ S) : Kp S w w2 :=
  ⟨k.os.trans h.os, k.tape.trans h.tape, k.output.trans h.output, Nat.le_trans h.size k.size,
   fun b hb hS => (k.block b (Nat.lt_of_lt_of_le hb h.size) (fun hm => hS (hT b hm hb))).trans (h.block b hb hS)⟩
theorem Kp.nil (h : Kp S w w1) (k : Kp [] w1 w2) : Kp S w w2 := h.trans k (by simp)
theorem Kp.fresh (h : Kp S w w1) (k : Kp [g] w1 w2) (hg : w.heap.size ≤ g) : Kp S w w2 := h.trans k (by intro x hx hl; simp at hx; omega)
theorem Kp.mono (h : Kp S w w1) (hS : ∀ x ∈ S, x ∈ T) : Kp T w w1 := ⟨h.os, h.tape, h.output, h.size, fun b hb hn => h.block b hb (fun hm => hn (hS b hm))⟩
theorem Kp.less (h : Kp T w w1) (hT : ∀ x ∈ T, x < w.heap.size → x ∈ S) : Kp S w w1 := (Kp.refl S w).trans h hT
theorem Kp.below (h : Kp [] w w1) : Below w.heap.size w w1 := ⟨h.os, h.tape, h.output, h.size, fun k hk => h.block k hk (by simp)⟩
theorem Kp.of_below (h : Below w.heap.size w w1) : Kp [] w w1 := ⟨h.os, h.tape, h.output, h.size, fun k hk _ => h.block k hk⟩
theorem Kp.of_grown {row : Option Nat} (h : w.grownBy w1 row) (hr : ∀ k, row = some k → k < w.heap.size → k ∈ S) : Kp S w w1 :=
  ⟨h.os, h.tape, h.output, h.size, fun k hk hS => h.block k hk (fun e => hS (hr k e.symm hk))⟩
theorem Kp.drew (h : Kp S w w1) : Kp S w w1.drew := ⟨h.os, h.tape, h.output, h.size, h.block⟩
theorem Kp.drewN (h : Kp S w w1) (n : Nat) : Kp S w (w1.drewN n) := ⟨h.os, h.tape, h.output, h.size, h.block⟩
theorem Kp.alloc (h : Kp S w w1) (o : Obj) : Kp S w (w1.alloc o) :=
  ⟨h.os, h.tape, h.output, by have := h.size; simp; omega, fun k hk hS => (Below.heap_alloc w1 o k (Nat.lt_of_lt_of_le hk h.size)).trans (h.block k hk hS)⟩
theorem Kp.setCell (h : Kp S w w1) {p : Addr} (hp : p.block < w.heap.size → p.block ∈ S) (u : Value) : Kp S w (w1.setCell p u) :=
  ⟨h.os, h.tape, h.output, by have := h.size; simp [World.setCell]; omega,
   fun k hk hS => (Below.heap_setCell w1 p u k (fun e => hS (by subst e; exact hp hk))).trans (h.block k hk hS)⟩
theorem Kp.cell (h : Kp S w w1) {p : Addr} {v : Value} (hc : w.cell? p = some v) (hp : p.block ∉ S) : w1.cell? p = some v :=
  (World.cell?_of_block (h.block _ (World.block_lt_of_cell? w p hc) hp)).trans hc

theorem Cells.lt (h : Cells w g t cs) : g < w.heap.size := by
  unfold Cells at h
  exact (Array.getElem?_eq_some_iff.1 h).1
theorem Cells.cell (h : Cells w g t cs) (i : Nat) : w.cell? ⟨g, i, none⟩ = cs[i]? := by
  unfold Cells at h
  simp [World.cell?, h]
theorem Cells.free (h : Cells w g t cs) (i : Nat) : w.frozen? ⟨g, i, none⟩ = false := by
  unfold Cells at h
  simp [World.frozen?, h]
theorem Cells.fresh (w : World) (t : TypeId) (cs : List Value) : Cells (w.alloc (.cells cs.toArray t)) w.heap.size t cs := heap_alloc_new w _
theorem Cells.fresh1 (w : World) (o : Obj) (t : TypeId) (cs : List Value) : Cells ((w.alloc o).alloc (.cells cs.toArray t)) (w.heap.size + 1) t cs := by
  have := Cells.fresh (w.alloc o) t cs
  simpa using this
theorem Cells.drew (h : Cells w g t cs) : Cells w.drew g t cs := h
theorem Cells.drewN (h : Cells w g t cs) (n : Nat) : Cells (w.drewN n) g t cs := h
theorem Cells.alloc (h : Cells w g t cs) (o : Obj) : Cells (w.alloc o) g t cs := (Below.heap_alloc w o g h.lt).trans h
theorem Cells.put (h : Cells w g t cs) (i : Nat) (u : Value) : Cells (w.setCell ⟨g, i, none⟩ u) g t (cs.set i u) := by
  unfold Cells at h ⊢
  simp [World.setCell, Array.getElem?_modify, h]
theorem Cells.other (h : Cells w g t cs) {p : Addr} (hp : g ≠ p.block) (u : Value) : Cells (w.setCell p u) g t cs := (Below.heap_setCell w p u g hp).trans h
theorem Cells.keep (h : Cells w g t cs) (k : Kp S w w1) (hg : g ∉ S) : Cells w1 g t cs := (k.block g h.lt hg).trans h
theorem Cells.ne {g' : Nat} {t' : TypeId} {cs' : List Value} (h : Cells w g t cs) (h' : Cells w g' t' cs') (hne : t ≠ t') : g ≠ g' := by
  rintro rfl
  unfold Cells at h h'
  rw [h] at h'
  injection h' with h'
  injection h' with _ ht
  exact hne ht

theorem Span.nil (w : World) (A : Option Addr) : Span w A [] := fun j u h => by simp at h
theorem Span.of_cells (h : Cells w g t cs) : Span w (some ⟨g, 0, none⟩) cs := fun j u hj => ⟨_, rfl, by
  have := h.cell j
  rw [hj] at this
  rcases Nat.eq_zero_or_pos j with h0 | h0
  · subst h0; simpa [Addr.add] using this
  · simpa [Addr.add, Nat.ne_of_gt h0] using this⟩
theorem Span.of_new (w : World) (t : TypeId) (fr : Nat × Nat) (cs : List Value) : Span (w.alloc (.cells cs.toArray t fr)) (some ⟨w.heap.size, 0, none⟩) cs := fun j u hj => ⟨_, rfl, by
  have hb : (w.alloc (.cells cs.toArray t fr)).heap[w.heap.size]? = some (.cells cs.toArray t fr) := heap_alloc_new w _
  rcases Nat.eq_zero_or_pos j with h0 | h0
  · subst h0
    simp only [Addr.add, if_pos, World.cell?]
    rw [hb]
    simpa using hj
  · simp only [Addr.add, if_neg (Nat.ne_of_gt h0), World.cell?]
    rw [hb]
    simpa using hj⟩
theorem Span.keep (h : Span w A xs) (k : Kp S w w1) (hA : ∀ ad, A = some ad → ad.block ∉ S) : Span w1 A xs := fun j u hj => by
  obtain ⟨ad, rfl, hc⟩ := h j u hj
  exact ⟨ad, rfl, k.cell hc (by rw [add_block]; exact hA ad rfl)⟩
theorem Span.kept (h : Span w A xs) (k : Kp [] w w1) : Span w1 A xs := h.keep k (by simp)
theorem Span.drew (h : Span w A xs) : Span w.drew A xs := h
theorem Span.alloc (h : Span w A xs) (o : Obj) : Span (w.alloc o) A xs := h.kept ((Kp.refl _ _).alloc o)
theorem Span.setCell (h : Span w A xs) {p : Addr} (hp : ∀ ad, A = some ad → ad.block ≠ p.block) (u : Value) : Span (w.setCell p u) A xs := fun j v hj => by
  obtain ⟨ad, rfl, hc⟩ := h j v hj
  exact ⟨ad, rfl, (World.cell?_of_block (Below.heap_setCell w p u _ (by rw [add_block]; exact hp ad rfl))).trans hc⟩
theorem Span.take (h : Span w A xs) (n : Nat) : Span w A (xs.take n) := fun j u hj => h j u (by
  rw [List.getElem?_take] at hj
  split at hj
  · exact hj
  · cases hj)
/-- A cut 's[k:]' as the model lays it: at the capacity's end the old address stands. -/
theorem Span.drop (h : Span w A xs) {k cap : Nat} (hc : xs.length ≤ cap) : Span w (if cap = k then A else A.map (·.add k)) (xs.drop k) := fun j u hj => by
  rw [List.getElem?_drop] at hj
  obtain ⟨ad, rfl, hcell⟩ := h _ u hj
  have hlt : k + j < xs.length := (List.getElem?_eq_some_iff.1 hj).1
  rw [if_neg (by omega)]
  exact ⟨ad.add k, rfl, by rw [add_add]; exact hcell⟩
/-- A cut 's[k:k+m]'. -/
theorem Span.sub (h : Span w A xs) (k m : Nat) : Span w (A.map (·.add k)) ((xs.drop k).take m) := Span.take (fun j u hj => by
  rw [List.getElem?_drop] at hj
  obtain ⟨ad, rfl, hcell⟩ := h _ u hj
  exact ⟨ad.add k, rfl, by rw [add_add]; exact hcell⟩) m
theorem Span.sub0 (h : Span w A xs) (m : Nat) (ys : List Value) (hy : ys = xs.take m) : Span w A ys := hy ▸ h.take m
theorem Span.old (h : Span w A xs) (hx : 0 < xs.length) : ∀ ad, A = some ad → ad.block < w.heap.size := by
  intro ad hA
  obtain ⟨ad', e, hc⟩ := h 0 _ (List.getElem?_eq_getElem hx)
  rw [hA] at e
  injection e with e
  subst e
  have := World.block_lt_of_cell? w _ hc
  rwa [add_block] at this
theorem Span.get (h : Span w A xs) {j : Nat} (hj : j < xs.length) : ∃ ad, A = some ad ∧ w.cell? (ad.add j) = some xs[j] := h j _ (List.getElem?_eq_getElem hj)
end

/-- A row of cells of the kind t: nil and empty, or a whole block. -/
def Row (w : World) (t : TypeId) (R : Option Addr) (cs : List Value) : Prop := (R = none ∧ cs = []) ∨ ∃ g, R = some ⟨g, 0, none⟩ ∧ Cells w g t cs
section
variable {w w' : World} {S : List Nat} {g : Nat} {t t' : TypeId} {cs cs' : List Value} {R : Option Addr}
theorem Cells.not (h : Cells w g t' cs') (hne : t' ≠ t) : ∀ cs, ¬ Cells w g t cs := fun _ h' => h'.ne h (Ne.symm hne) rfl
theorem Row.nil (w : World) (t : TypeId) : Row w t none [] := .inl ⟨rfl, rfl⟩
theorem Row.of_cells (h : Cells w g t cs) : Row w t (some ⟨g, 0, none⟩) cs := .inr ⟨g, rfl, h⟩
theorem Row.span (h : Row w t R cs) : Span w R cs := by
  rcases h with ⟨rfl, rfl⟩ | ⟨g, rfl, h⟩
  · exact Span.nil _ _
  · exact Span.of_cells h
theorem Row.keep (h : Row w t R cs) (k : Kp S w w') (hS : ∀ x ∈ S, ∀ cs, ¬ Cells w x t cs) : Row w' t R cs := by
  rcases h with ⟨rfl, rfl⟩ | ⟨g, rfl, h⟩
  · exact .inl ⟨rfl, rfl⟩
  · exact .inr ⟨g, rfl, h.keep k (fun hm => hS g hm _ h)⟩
theorem Row.kept (h : Row w t R cs) (k : Kp [] w w') : Row w' t R cs := h.keep k (by simp)
theorem Row.other (h : Row w t R cs) {p : Addr} (hp : ∀ cs, ¬ Cells w p.block t cs) (u : Value) : Row (w.setCell p u) t R cs := by
  rcases h with ⟨rfl, rfl⟩ | ⟨g, rfl, h⟩
  · exact .inl ⟨rfl, rfl⟩
  · exact .inr ⟨g, rfl, h.other (fun e => hp _ (e ▸ h)) u⟩
theorem Row.ne (h : Row w t R cs) (h' : ∀ cs, ¬ Cells w g t cs) : ∀ ad, R = some ad → ad.block ≠ g := by
  rcases h with ⟨rfl, rfl⟩ | ⟨g', rfl, h⟩
  · simp
  · intro ad e hb
    injection e with e
    subst e
    subst hb
    exact h' _ h
end

/-- Bytes as cells. -/
def u8 (c : UInt8) : Value := .int .u8 (c.toNat : Int)
def u8s (l : List UInt8) : List Value := l.map u8
theorem length_u8s (l : List UInt8) : (u8s l).length = l.length := by simp [u8s]
theorem u8s_append (l m : List UInt8) : u8s (l ++ m) = u8s l ++ u8s m := by simp [u8s]
theorem u8s_one (l : List UInt8) : ∀ u ∈ u8s l, u.oneCell' = true := by
  intro u hu
  obtain ⟨c, _, rfl⟩ := List.mem_map.1 hu
  rfl
theorem u8s_take (l : List UInt8) (n : Nat) : u8s (l.take n) = (u8s l).take n := by simp [u8s]
theorem u8s_drop (l : List UInt8) (n : Nat) : u8s (l.drop n) = (u8s l).drop n := by simp [u8s]
theorem u8s_get (l : List UInt8) (j : Nat) (h : j < l.length) : (u8s l)[j]? = some (.int .u8 (l[j].toNat : Int)) := by simp [u8s, u8, h]
end Go.Proofs.Ytaaikjedagnjbaa
