/- Plain words for memory, no program in sight: a block known whole, cells that read as a list, what a call keeps. -/
import Derived.WalkKit
import Derived.Below
import Derived.Laws.OwnMore
import Derived.Laws.CopyOwn
import Derived.Deep.QuietTactic
import Derived.BigQuiet
import Derived.Deep.RegionHeld3
import Derived.Maps.AppendAt
import Derived.Lib.SlBytesConst
import Derived.Handy
import Derived.Deep.AppendLies
import Derived.Deep.Draws
import Derived.Laws.Rows
import Derived.WalkSpells
import Derived.WalkLawsBesides
import Derived.ProofKit
import Derived.OpenShut
import Derived.ShutString
import Derived.ChangeOld
import Derived.Lib.ValidLaws
import Derived.Lib.MapLaws
import Derived.Lib.RuneCount
import Derived.Lib.ItoaNum
namespace Go.Proofs.YtpeldjihalldkaaDoor
open Go Go.RowKit

theorem hid {p : Prop} (h : p) : Hid p := h
/-- Block g is just these cells of element type t, none frozen. -/
def Cells (w : World) (g : Nat) (t : TypeId) (cs : List Value) : Prop := w.heap[g]? = some (.cells cs.toArray t (0, 0))
/-- From address A on lie these cells (nothing is said of A if there are none). -/
def Span (w : World) (A : Option Addr) (xs : List Value) : Prop := ∀ j u, xs[j]? = some u → ∃ ad, A = some ad ∧ w.cell? (ad.add j) = some u
/-- A call keeps all blocks that were there but those of S, and the streams. -/
structure Kp (S : List Nat) (w w' : World) : Prop where
  os : w'.os = w.os
  tape : w'.tape = w.tape
  output : w'.output = w.output
  size : w.heap.size ≤ w'.heap.size
  block : ∀ k, k < w.heap.size → k ∉ S → w'.heap[k]? = w.heap[k]?

theorem add_block (a : Addr) (n : Nat) : (a.add n).block = a.block := by
  unfold Addr.add
  split <;> rfl
theorem add_add (a : Addr) (i j : Nat) : (a.add i).add j = a.add (i + j) := by
  rcases Nat.eq_zero_or_pos i with hi | hi
  · subst hi; simp [Addr.add]
  · rcases Nat.eq_zero_or_pos j with hj | hj
    · subst hj; simp [Addr.add]
    · simp [Addr.add, Nat.ne_of_gt hi, Nat.ne_of_gt hj, Nat.add_assoc]

section
variable {w w' w1 w2 : World} {S T : List Nat} {g : Nat} {t : TypeId} {cs xs : List Value} {A : Option Addr}

theorem Kp.refl (S : List Nat) (w : World) : Kp S w w := ⟨rfl, rfl, rfl, Nat.le_refl _, fun _ _ _ => rfl⟩
theorem Kp.trans (h : Kp S w w1) (k : Kp T w1 w2) (hT : ∀ x ∈ T, x < w.heap.size → x ∈ S) : Kp S w w2 :=
  ⟨k.os.trans h.os, k.tape.trans h.tape, k.output.trans h.output, Nat.le_trans h.size k.size,
   fun b hb hS => (k.block b (Nat.lt_of_lt_of_le hb h.size) (fun hm => hS (hT b hm hb))).trans (h.block b hb hS)⟩
theorem Kp.nil (h : Kp S w w1) (k : Kp [] w1 w2) : Kp S w w2 := h.trans k (by simp)
theorem Kp.fresh (h : Kp S w w1) (k : Kp [g] w1 w2) (hg : w.heap.size ≤ g) : Kp S w w2 := h.trans k (by intro x hx hl; simp at hx; omega)
theorem Kp.mono (h : Kp S w w1) (hS : ∀ x ∈ S, x ∈ T) : Kp T w w1 := ⟨h.os, h.tape, h.output, h.size, fun b hb hn => h.block b hb (fun hm => hn (hS b hm))⟩
theorem Kp.less (h : Kp T w w1) (hT : ∀ x ∈ T, x < w.heap.size → x ∈ S) : Kp S w w1 := (Kp.refl S w).trans h hT
theorem Kp.below (h : Kp [] w w1) : Below w.heap.size w w1 := ⟨h.os, h.tape, h.output, h.size, fun k hk => h.block k hk (by simp)⟩
theorem Kp.of_below (h : Below w.heap.size w w1) : Kp [] w w1 := ⟨h.os, h.tape, h.output, h.size, fun k hk _ => h.block k hk⟩
theorem Kp.of_grown {row : Option Nat} (h : w.grownBy w1 row) (hr : ∀ k, row = some k → k < w.heap.size → k ∈ S) : Kp S w w1 :=
  ⟨h.os, h.tape, h.output, h.size, fun k hk hS => h.block k hk (fun e => hS (hr k e.symm hk))⟩
theorem Kp.drew (h : Kp S w w1) : Kp S w w1.drew := ⟨h.os, h.tape, h.output, h.size, h.block⟩
theorem Kp.drewN (h : Kp S w w1) (n : Nat) : Kp S w (w1.drewN n) := ⟨h.os, h.tape, h.output, h.size, h.block⟩
theorem Kp.alloc (h : Kp S w w1) (o : Obj) : Kp S w (w1.alloc o) :=
  ⟨h.os, h.tape, h.output, by have := h.size; simp; omega, fun k hk hS => (Below.heap_alloc w1 o k (Nat.lt_of_lt_of_le hk h.size)).trans (h.block k hk hS)⟩
theorem Kp.setCell (h : Kp S w w1) {p : Addr} (hp : p.block < w.heap.size → p.block ∈ S) (u : Value) : Kp S w (w1.setCell p u) :=
  ⟨h.os, h.tape, h.output, by have := h.size; simp [World.setCell]; omega,
   fun k hk hS => (Below.heap_setCell w1 p u k (fun e => hS (by subst e; exact hp hk))).trans (h.block k hk hS)⟩
theorem Kp.cell (h : Kp S w w1) {p : Addr} {v : Value} (hc : w.cell? p = some v) (hp : p.block ∉ S) : w1.cell? p = some v :=
  (World.cell?_of_block (h.block _ (World.block_lt_of_cell? w p hc) hp)).trans hc

theorem Cells.lt (h : Cells w g t cs) : g < w.heap.size := by
  unfold Cells at h
  exact (Array.getElem?_eq_some_iff.1 h).1
theorem Cells.cell (h : Cells w g t cs) (i : Nat) : w.cell? ⟨g, i, none⟩ = cs[i]? := by
  unfold Cells at h
  simp [World.cell?, h]
theorem Cells.free (h : Cells w g t cs) (i : Nat) : w.frozen? ⟨g, i, none⟩ = false := by
  unfold Cells at h
  simp [World.frozen?, h]
theorem Cells.fresh (w : World) (t : TypeId) (cs : List Value) : Cells (w.alloc (.cells cs.toArray t)) w.heap.size t cs := heap_alloc_new w _
theorem Cells.fresh1 (w : World) (o : Obj) (t : TypeId) (cs : List Value) : Cells ((w.alloc o).alloc (.cells cs.toArray t)) (w.heap.size + 1) t cs := by
  have := Cells.fresh (w.alloc o) t cs
  simpa using this
theorem Cells.drew (h : Cells w g t cs) : Cells w.drew g t cs := h
theorem Cells.drewN (h : Cells w g t cs) (n : Nat) : Cells (w.drewN n) g t cs := h
theorem Cells.alloc (h : Cells w g t cs) (o : Obj) : Cells (w.alloc o) g t cs := (Below.heap_alloc w o g h.lt).trans h
theorem Cells.put (h : Cells w g t cs) (i : Nat) (u : Value) : Cells (w.setCell ⟨g, i, none⟩ u) g t (cs.set i u) := by
  unfold Cells at h ⊢
  simp [World.setCell, Array.getElem?_modify, h]
theorem Cells.other (h : Cells w g t cs) {p : Addr} (hp : g ≠ p.block) (u : Value) : Cells (w.setCell p u) g t cs := (Below.heap_setCell w p u g hp).trans h
theorem Cells.keep (h : Cells w g t cs) (k : Kp S w w1) (hg : g ∉ S) : Cells w1 g t cs := (k.block g h.lt hg).trans h
theorem Cells.ne {g' : Nat} {t' : TypeId} {cs' : List Value} (h : Cells w g t cs) (h' : Cells w g' t' cs') (hne : t ≠ t') : g ≠ g' := by
  rintro rfl
  unfold Cells at h h'
  rw [h] at h'
  injection h' with h'
  injection h' with _ ht
  exact hne ht

theorem Span.nil (w : World) (A : Option Addr) : Span w A [] := fun j u h => by simp at h
theorem Span.of_cells (h : Cells w g t cs) : Span w (some ⟨g, 0, none⟩) cs := fun j u hj => ⟨_, rfl, by
  have := h.cell j
  rw [hj] at this
  rcases Nat.eq_zero_or_pos j with h0 | h0
  · subst h0; simpa [Addr.add] using this
  · simpa [Addr.add, Nat.ne_of_gt h0] using this⟩
theorem Span.of_new (w : World) (t : TypeId) (fr : Nat × Nat) (cs : List Value) : Span (w.alloc (.cells cs.toArray t fr)) (some ⟨w.heap.size, 0, none⟩) cs := fun j u hj => ⟨_, rfl, by
  have hb : (w.alloc (.cells cs.toArray t fr)).heap[w.heap.size]? = some (.cells cs.toArray t fr) := heap_alloc_new w _
  rcases Nat.eq_zero_or_pos j with h0 | h0
  · subst h0
    simp only [Addr.add, if_pos, World.cell?]
    rw [hb]
    simpa using hj
  · simp only [Addr.add, if_neg (Nat.ne_of_gt h0), World.cell?]
    rw [hb]
    simpa using hj⟩
theorem Span.keep (h : Span w A xs) (k : Kp S w w1) (hA : ∀ ad, A = some ad → ad.block ∉ S) : Span w1 A xs := fun j u hj => by
  obtain ⟨ad, rfl, hc⟩ := h j u hj
  exact ⟨ad, rfl, k.cell hc (by rw [add_block]; exact hA ad rfl)⟩
theorem Span.kept (h : Span w A xs) (k : Kp [] w w1) : Span w1 A xs := h.keep k (by simp)
theorem Span.drew (h : Span w A xs) : Span w.drew A xs := h
theorem Span.alloc (h : Span w A xs) (o : Obj) : Span (w.alloc o) A xs := h.kept ((Kp.refl _ _).alloc o)
theorem Span.setCell (h : Span w A xs) {p : Addr} (hp : ∀ ad, A = some ad → ad.block ≠ p.block) (u : Value) : Span (w.setCell p u) A xs := fun j v hj => by
  obtain ⟨ad, rfl, hc⟩ := h j v hj
  exact ⟨ad, rfl, (World.cell?_of_block (Below.heap_setCell w p u _ (by rw [add_block]; exact hp ad rfl))).trans hc⟩
theorem Span.take (h : Span w A xs) (n : Nat) : Span w A (xs.take n) := fun j u hj => h j u (by
  rw [List.getElem?_take] at hj
  split at hj
  · exact hj
  · cases hj)
/-- A cut 's[k:]' as the model lays it: at the capacity's end the old address stands. -/
theorem Span.drop (h : Span w A xs) {k cap : Nat} (hc : xs.length ≤ cap) : Span w (if cap = k then A else A.map (·.add k)) (xs.drop k) := fun j u hj => by
  rw [List.getElem?_drop] at hj
  obtain ⟨ad, rfl, hcell⟩ := h _ u hj
  have hlt : k + j < xs.length := (List.getElem?_eq_some_iff.1 hj).1
  rw [if_neg (by omega)]
  exact ⟨ad.add k, rfl, by rw [add_add]; exact hcell⟩
/-- A cut 's[k:k+m]'. -/
theorem Span.sub (h : Span w A xs) (k m : Nat) : Span w (A.map (·.add k)) ((xs.drop k).take m) := Span.take (fun j u hj => by
  rw [List.getElem?_drop] at hj
  obtain ⟨ad, rfl, hcell⟩ := h _ u hj
  exact ⟨ad.add k, rfl, by rw [add_add]; exact hcell⟩) m
theorem Span.sub0 (h : Span w A xs) (m : Nat) (ys : List Value) (hy : ys = xs.take m) : Span w A ys := hy ▸ h.take m
theorem Span.old (h : Span w A xs) (hx : 0 < xs.length) : ∀ ad, A = some ad → ad.block < w.heap.size := by
  intro ad hA
  obtain ⟨ad', e, hc⟩ := h 0 _ (List.getElem?_eq_getElem hx)
  rw [hA] at e
  injection e with e
  subst e
  have := World.block_lt_of_cell? w _ hc
  rwa [add_block] at this
theorem Span.get (h : Span w A xs) {j : Nat} (hj : j < xs.length) : ∃ ad, A = some ad ∧ w.cell? (ad.add j) = some xs[j] := h j _ (List.getElem?_eq_getElem hj)
end

/-- A row of cells of the kind t: nil and empty, or a whole block. -/
def Row (w : World) (t : TypeId) (R : Option Addr) (cs : List Value) : Prop := (R = none ∧ cs = []) ∨ ∃ g, R = some ⟨g, 0, none⟩ ∧ Cells w g t cs
section
variable {w w' : World} {S : List Nat} {g : Nat} {t t' : TypeId} {cs cs' : List Value} {R : Option Addr}
theorem Cells.not (h : Cells w g t' cs') (hne : t' ≠ t) : ∀ cs, ¬ Cells w g t cs := fun _ h' => h'.ne h (Ne.symm hne) rfl
theorem Row.nil (w : World) (t : TypeId) : Row w t none [] := .inl ⟨rfl, rfl⟩
theorem Row.of_cells (h : Cells w g t cs) : Row w t (some ⟨g, 0, none⟩) cs := .inr ⟨g, rfl, h⟩
theorem Row.span (h : Row w t R cs) : Span w R cs := by
  rcases h with ⟨rfl, rfl⟩ | ⟨g, rfl, h⟩
  · exact Span.nil _ _
  · exact Span.of_cells h
theorem Row.keep (h : Row w t R cs) (k : Kp S w w') (hS : ∀ x ∈ S, ∀ cs, ¬ Cells w x t cs) : Row w' t R cs := by
  rcases h with ⟨rfl, rfl⟩ | ⟨g, rfl, h⟩
  · exact .inl ⟨rfl, rfl⟩
  · exact .inr ⟨g, rfl, h.keep k (fun hm => hS g hm _ h)⟩
theorem Row.kept (h : Row w t R cs) (k : Kp [] w w') : Row w' t R cs := h.keep k (by simp)
theorem Row.other (h : Row w t R cs) {p : Addr} (hp : ∀ cs, ¬ Cells w p.block t cs) (u : Value) : Row (w.setCell p u) t R cs := by
  rcases h with ⟨rfl, rfl⟩ | ⟨g, rfl, h⟩
  · exact .inl ⟨rfl, rfl⟩
  · exact .inr ⟨g, rfl, h.other (fun e => hp _ (e ▸ h)) u⟩
theorem Row.ne (h : Row w t R cs) (h' : ∀ cs, ¬ Cells w g t cs) : ∀ ad, R = some ad → ad.block ≠ g := by
  rcases h with ⟨rfl, rfl⟩ | ⟨g', rfl, h⟩
  · simp
  · intro ad e hb
    injection e with e
    subst e
    subst hb
    exact h' _ h
end

/-- Bytes as cells. -/
def u8 (c : UInt8) : Value := .int .u8 (c.toNat : Int)
def u8s (l : List UInt8) : List Value := l.map u8
theorem length_u8s (l : List UInt8) : (u8s l).length = l.length := by simp [u8s]
theorem u8s_append (l m : List UInt8) : u8s (l ++ m) = u8s l ++ u8s m := by simp [u8s]
theorem u8s_one (l : List UInt8) : ∀ u ∈ u8s l, u.oneCell' = true := by
  intro u hu
  obtain ⟨c, _, rfl⟩ := List.mem_map.1 hu
  rfl
theorem u8s_take (l : List UInt8) (n : Nat) : u8s (l.take n) = (u8s l).take n := by simp [u8s]
theorem u8s_drop (l : List UInt8) (n : Nat) : u8s (l.drop n) = (u8s l).drop n := by simp [u8s]
theorem u8s_get (l : List UInt8) (j : Nat) (h : j < l.length) : (u8s l)[j]? = some (.int .u8 (l[j].toNat : Int)) := by simp [u8s, u8, h]
end Go.Proofs.YtpeldjihalldkaaDoor

/- What a law's parameters give: bytes, numbers, rows of bytes, texts. Over any program. -/
namespace Go.Proofs.YtpeldjihalldkaaDoor
open Go Go.ChangeShapes Go.WideShapes Go.ChangeAt Go.RowKit

theorem wf_i64 {n : Int} (h : (Lit.int .i64 n).wf = true) : -9223372036854775808 ≤ n ∧ n ≤ 9223372036854775807 := by
  have h' := h
  simp only [Lit.wf, Bool.and_eq_true, decide_eq_true_eq] at h'
  exact h'
theorem wf_u8 {n : Int} (h : (Lit.int .u8 n).wf = true) : 0 ≤ n ∧ n ≤ 255 := by
  have h' := h
  simp only [Lit.wf, Bool.and_eq_true, decide_eq_true_eq] at h'
  exact h'
theorem wf_i32 {n : Int} (h : (Lit.int .i32 n).wf = true) : -2147483648 ≤ n ∧ n ≤ 2147483647 := by
  have h' := h
  simp only [Lit.wf, Bool.and_eq_true, decide_eq_true_eq] at h'
  exact h'
theorem wf_u32 {n : Int} (h : (Lit.int .u32 n).wf = true) : 0 ≤ n ∧ n ≤ 4294967295 := by
  have h' := h
  simp only [Lit.wf, Bool.and_eq_true, decide_eq_true_eq] at h'
  exact h'
theorem wf_u64 {n : Int} (h : (Lit.int .u64 n).wf = true) : 0 ≤ n ∧ n ≤ 18446744073709551615 := by
  have h' := h
  simp only [Lit.wf, Bool.and_eq_true, decide_eq_true_eq] at h'
  exact h'

section
variable {P : Program} {W : World} {H : Type} {enc : TypeId × Value → H}

/-- A slice of elements of one cell, as a list of cells, each of which reads as its type says. -/
theorem open_cells {T E : TypeId} (hT : P.underlying T = some (.slice E)) (hc : P.cellsOf E = 1) (Q : Value → Prop)
    (hQ : ∀ n v y, DataW.trod enc P W 0 (fun _ => true) true n E [v] = some y → Q v)
    {a : Option Addr} {len cap fuel : Nat} {x : DataW H × List MemPlace} (h : DataW.trod enc P W 0 (fun _ => true) true fuel T [.slice a len cap] = some x) :
    ∃ vs : List Value, Span W a vs ∧ vs.length = len ∧ len ≤ cap ∧ cap ≤ 9223372036854775807 ∧ (∀ v ∈ vs, Q v) ∧ (a = none → cap = 0) := by
  rcases DataW.trod_slice hT h with ⟨hcs, _⟩ | ⟨ad, len', cap', elems, rest, n, _, hcs, _, _, hl, hm, hlen, hel, _, _⟩
  · injection hcs with hcs
    injection hcs with h1 h2 h3
    subst h1 h2 h3
    exact ⟨[], Span.nil _ _, rfl, Nat.le_refl _, by omega, by simp, fun _ => rfl⟩
  · injection hcs with hcs
    injection hcs with h1 h2 h3
    subst h1 h2 h3
    have each : ∀ i, i < len → ∃ v, W.cell? (ad.add i) = some v ∧ Q v := by
      intro i hi
      have h1 := hel i hi
      rw [hc, Nat.mul_one] at h1
      have hsome : elems[i]? = some elems[i] := List.getElem?_eq_getElem (by omega)
      rw [hsome, Option.bind_eq_some_iff] at h1
      obtain ⟨cs', hcs, hy⟩ := h1
      have hlen1 : ∃ v, cs' = [v] := by
        have := hcs
        unfold World.cells? at this
        rw [if_pos (Nat.zero_le _)] at this
        simp only [List.range_succ, List.range_zero, List.nil_append, List.mapM_cons, List.mapM_nil] at this
        cases hw : W.cell? ((ad.add i).add 0) with
        | none => simp [hw] at this
        | some v => simp [hw] at this; exact ⟨v, this.symm⟩
      obtain ⟨v, rfl⟩ := hlen1
      exact ⟨v, cell_of_cells?_one hcs, hQ _ _ _ hy⟩
    refine ⟨(List.range len).map fun i => (W.cell? (ad.add i)).getD undef, ?_, by simp, hl, by simpa [maxLen] using hm, ?_, by simp⟩
    · intro j u hj
      rw [List.getElem?_map] at hj
      rcases Nat.lt_or_ge j len with hlt | hge
      · rw [List.getElem?_range hlt] at hj
        obtain ⟨v, hv, _⟩ := each j hlt
        simp only [Option.map_some, hv, Option.getD_some] at hj
        injection hj with hj
        subst hj
        exact ⟨ad, rfl, hv⟩
      · rw [List.getElem?_eq_none (by simpa using hge)] at hj
        simp at hj
    · intro v hv
      obtain ⟨i, hi, rfl⟩ := List.mem_map.1 hv
      obtain ⟨v, hv, hq⟩ := each i (List.mem_range.1 hi)
      rw [hv]
      exact hq

/-- Numbers as cells. -/
def nums (k : IntKind) (l : List Int) : List Value := l.map (Value.int k)
theorem pick_list {α : Type} {Q : α → Value → Prop} : ∀ vs : List Value, (∀ v ∈ vs, ∃ x, Q x v) → ∃ l : List α, l.length = vs.length ∧ ∀ (i : Nat) (x : α), l[i]? = some x → ∃ v, vs[i]? = some v ∧ Q x v
  | [], _ => ⟨[], rfl, by simp⟩
  | v :: vs, h => by
    obtain ⟨x, hx⟩ := h v (by simp)
    obtain ⟨l, hl, hq⟩ := pick_list vs (fun v hv => h v (by simp [hv]))
    refine ⟨x :: l, by simp [hl], ?_⟩
    intro i y hi
    cases i with
    | zero => simp at hi; subst hi; exact ⟨v, rfl, hx⟩
    | succ i => simpa using hq i y (by simpa using hi)
theorem nums_of {k : IntKind} {vs : List Value} {l : List Int} (hl : l.length = vs.length) (h : ∀ (i : Nat) (x : Int), l[i]? = some x → ∃ v : Value, vs[i]? = some v ∧ v = .int k x ∧ (Lit.int k x).wf = true) :
    vs = nums k l ∧ ∀ n ∈ l, (Lit.int k n).wf = true := by
  constructor
  · apply List.ext_getElem?
    intro i
    rcases Nat.lt_or_ge i l.length with hi | hi
    · obtain ⟨v, h1, rfl, _⟩ := h i l[i] (List.getElem?_eq_getElem hi)
      simp [nums, h1, hi]
    · rw [List.getElem?_eq_none (by omega), List.getElem?_eq_none (by simpa [nums] using hi)]
  · intro n hn
    obtain ⟨i, hi⟩ := List.getElem?_of_mem hn
    obtain ⟨_, _, _, h3⟩ := h i n hi
    exact h3

theorem nums_fuel {T E : TypeId} {k : IntKind} (hT : P.underlying T = some (.slice E)) (hE : P.underlying E = some (.int k)) (hc : P.cellsOf E = 1)
    {a : Option Addr} {len cap fuel : Nat} {x : DataW H × List MemPlace} (h : DataW.trod enc P W 0 (fun _ => true) true fuel T [.slice a len cap] = some x) :
    ∃ l : List Int, Span W a (nums k l) ∧ l.length = len ∧ len ≤ cap ∧ cap ≤ 9223372036854775807 ∧ (∀ n ∈ l, (Lit.int k n).wf = true) ∧ (a = none → cap = 0) := by
  obtain ⟨vs, h1, h2, h3, h4, h5, h6⟩ := open_cells (enc := enc) hT hc (fun v => ∃ n, v = .int k n ∧ (Lit.int k n).wf = true) (fun n v y hy => by
    obtain ⟨m, hm, _, hw⟩ := DataW.trod_int hE hy
    injection hm with hm
    exact ⟨m, hm, hw⟩) h
  obtain ⟨l, hl, hq⟩ := pick_list (Q := fun (n : Int) v => v = .int k n ∧ (Lit.int k n).wf = true) vs h5
  obtain ⟨rfl, hw⟩ := nums_of hl hq
  exact ⟨l, h1, by omega, h3, h4, hw, h6⟩

theorem u8s_of_nums (l : List Int) (h : ∀ n ∈ l, (Lit.int .u8 n).wf = true) : nums .u8 l = u8s (l.map fun n => UInt8.ofNat n.toNat) := by
  simp only [nums, u8s, List.map_map]
  apply List.map_congr_left
  intro n hn
  have := wf_u8 (h n hn)
  simp only [Function.comp, u8]
  congr 1
  simp
  omega

theorem bytes_fuel {T E : TypeId} (hT : P.underlying T = some (.slice E)) (hE : P.underlying E = some (.int .u8)) (hc : P.cellsOf E = 1)
    {a : Option Addr} {len cap fuel : Nat} {x : DataW H × List MemPlace} (h : DataW.trod enc P W 0 (fun _ => true) true fuel T [.slice a len cap] = some x) :
    ∃ l : List UInt8, Span W a (u8s l) ∧ l.length = len ∧ len ≤ cap ∧ cap ≤ 9223372036854775807 ∧ (a = none → cap = 0) := by
  obtain ⟨l, h1, h2, h3, h4, h5, h6⟩ := nums_fuel hT hE hc h
  exact ⟨_, (u8s_of_nums l h5) ▸ h1, by simpa using h2, h3, h4, h6⟩

theorem open_bytes {T E : TypeId} (hT : P.underlying T = some (.slice E)) (hE : P.underlying E = some (.int .u8)) (hc : P.cellsOf E = 1)
    {a : Option Addr} {len cap : Nat} {d : DataW H} {p : List MemPlace} (h : DataW.Trod enc P W 0 (fun _ => true) true T (.slice a len cap) d p) :
    ∃ l : List UInt8, Span W a (u8s l) ∧ l.length = len ∧ len ≤ cap ∧ cap ≤ 9223372036854775807 := by
  obtain ⟨fuel, hf⟩ := h
  obtain ⟨l, h1, h2, h3, h4, _⟩ := bytes_fuel hT hE hc hf
  exact ⟨l, h1, h2, h3, h4⟩
theorem open_nums {T E : TypeId} {k : IntKind} (hT : P.underlying T = some (.slice E)) (hE : P.underlying E = some (.int k)) (hc : P.cellsOf E = 1)
    {a : Option Addr} {len cap : Nat} {d : DataW H} {p : List MemPlace} (h : DataW.Trod enc P W 0 (fun _ => true) true T (.slice a len cap) d p) :
    ∃ l : List Int, Span W a (nums k l) ∧ l.length = len ∧ len ≤ cap ∧ cap ≤ 9223372036854775807 ∧ ∀ n ∈ l, (Lit.int k n).wf = true := by
  obtain ⟨fuel, hf⟩ := h
  obtain ⟨l, h1, h2, h3, h4, h5, _⟩ := nums_fuel hT hE hc hf
  exact ⟨l, h1, h2, h3, h4, h5⟩

/-- A slice value that reads as these bytes. -/
def IsBytes (W : World) (l : List UInt8) (v : Value) : Prop := ∃ A c, v = .slice A l.length c ∧ Span W A (u8s l) ∧ l.length ≤ c ∧ c ≤ 9223372036854775807 ∧ (A = none → c = 0)
theorem open_rows {T E B : TypeId} (hT : P.underlying T = some (.slice E)) (hE : P.underlying E = some (.slice B)) (hB : P.underlying B = some (.int .u8)) (hc : P.cellsOf E = 1) (hb : P.cellsOf B = 1)
    {a : Option Addr} {len cap : Nat} {d : DataW H} {p : List MemPlace} (h : DataW.Trod enc P W 0 (fun _ => true) true T (.slice a len cap) d p) :
    ∃ ls : List (List UInt8), (∀ (i : Nat) (l : List UInt8), ls[i]? = some l → ∃ ad v, a = some ad ∧ W.cell? (ad.add i) = some v ∧ IsBytes W l v) ∧ ls.length = len ∧ len ≤ cap ∧ cap ≤ 9223372036854775807 := by
  obtain ⟨fuel, hf⟩ := h
  obtain ⟨vs, h1, h2, h3, h4, h5, h6⟩ := open_cells (enc := enc) hT hc (fun v => ∃ l, IsBytes W l v) (fun n v y hy => by
    rcases DataW.trod_slice hE hy with ⟨hcs, _⟩ | ⟨ad, len', cap', _, _, _, _, hcs, _⟩
    · injection hcs with hcs
      subst hcs
      exact ⟨[], none, 0, rfl, Span.nil _ _, by simp, by omega, fun _ => rfl⟩
    · injection hcs with hcs
      subst hcs
      obtain ⟨l, g1, g2, g3, g4, g5⟩ := bytes_fuel hE hB hb hy
      exact ⟨l, some ad, cap', by rw [g2], g1, by omega, g4, g5⟩) hf
  obtain ⟨ls, hl, hq⟩ := pick_list (Q := fun l v => IsBytes W l v) vs h5
  refine ⟨ls, fun i l hi => ?_, by omega, h3, h4⟩
  obtain ⟨v, hv, hi⟩ := hq i l hi
  obtain ⟨ad, ha, hcell⟩ := h1 i v hv
  exact ⟨ad, v, ha, hcell, hi⟩
end
end Go.Proofs.YtpeldjihalldkaaDoor

/- What a law's parameter gives that is a slice of elements of several cells. Over any program. -/
namespace Go.Proofs.YtpeldjihalldkaaDoor
open Go Go.ChangeShapes Go.WideShapes Go.ChangeAt Go.RowKit

theorem pick_lists {α β : Type} {Q : α → β → Prop} : ∀ us : List β, (∀ u ∈ us, ∃ x, Q x u) → ∃ l : List α, l.length = us.length ∧ ∀ (i : Nat) (x : α), l[i]? = some x → ∃ u, us[i]? = some u ∧ Q x u
  | [], _ => ⟨[], rfl, by simp⟩
  | u :: us, h => by
    obtain ⟨x, hx⟩ := h u (by simp)
    obtain ⟨l, hl, hq⟩ := pick_lists us (fun v hv => h v (by simp [hv]))
    refine ⟨x :: l, by simp [hl], fun i y hy => ?_⟩
    cases i with
    | zero =>
      simp only [List.getElem?_cons_zero, Option.some.injEq] at hy
      subst hy
      exact ⟨u, rfl, hx⟩
    | succ i => exact hq i y (by simpa using hy)
section
variable {P : Program} {W : World} {H : Type} {enc : TypeId × Value → H}
/-- The elements, each as its cells. -/
theorem open_wide {T E : TypeId} (hT : P.underlying T = some (.slice E)) (s : Nat) (hc : P.cellsOf E = s) (Q : List Value → Prop)
    (hQ : ∀ n cs y, DataW.trod enc P W 0 (fun _ => true) true n E cs = some y → Q cs)
    {a : Option Addr} {len cap fuel : Nat} {x : DataW H × List MemPlace} (h : DataW.trod enc P W 0 (fun _ => true) true fuel T [.slice a len cap] = some x) :
    ∃ vs : List (List Value), vs.length = len ∧ len ≤ cap ∧ cap ≤ 9223372036854775807 ∧ (∀ (i : Nat) cs, vs[i]? = some cs → Q cs ∧ cs.length = s ∧ ∃ ad, a = some ad ∧ ∀ j u, cs[j]? = some u → W.cell? ((ad.add (i * s)).add j) = some u) ∧ (a = none → cap = 0) := by
  rcases DataW.trod_slice hT h with ⟨hcs, _⟩ | ⟨ad, len', cap', elems, rest, n, _, hcs, _, _, hl, hm, hlen, hel, _, _⟩
  · injection hcs with hcs
    injection hcs with h1 h2 h3
    subst h1 h2 h3
    exact ⟨[], rfl, Nat.le_refl _, by omega, by simp, fun _ => rfl⟩
  · injection hcs with hcs
    injection hcs with h1 h2 h3
    subst h1 h2 h3
    have each : ∀ i, i < len → ∃ cs, W.cells? 0 (ad.add (i * s)) s = some cs ∧ Q cs := by
      intro i hi
      have h1 := hel i hi
      rw [hc] at h1
      have hsome : elems[i]? = some elems[i] := List.getElem?_eq_getElem (by omega)
      rw [hsome, Option.bind_eq_some_iff] at h1
      obtain ⟨cs', hcs, hy⟩ := h1
      exact ⟨cs', hcs, hQ _ _ _ hy⟩
    refine ⟨(List.range len).map fun i => (W.cells? 0 (ad.add (i * s)) s).getD [], by simp, hl, by simpa [maxLen] using hm, ?_, by simp⟩
    intro i cs hi
    have hlt : i < len := by
      have := (List.getElem?_eq_some_iff.1 hi).1
      simpa using this
    obtain ⟨cs', h1, h2⟩ := each i hlt
    rw [List.getElem?_map, List.getElem?_range hlt] at hi
    simp only [Option.map_some, h1, Option.getD_some, Option.some.injEq] at hi
    subst hi
    obtain ⟨-, g2, g3⟩ := World.cells?_some h1
    refine ⟨h2, g2, ad, rfl, fun j u hj => ?_⟩
    have hjs : j < s := by
      have := (List.getElem?_eq_some_iff.1 hj).1
      omega
    rw [g3 j hjs]
    exact hj
end
end Go.Proofs.YtpeldjihalldkaaDoor

/- Plain: texts as lists of bytes: the rune at the head, the parts of a text, valid texts. No program in sight. -/
namespace Go.Proofs.YtpeldjihalldkaaDoor
open Go Go.Lib

/-- No rune stands at the head. -/
def Bad (l : List UInt8) : Prop := (decodeL l).1 = 65533 ∧ (decodeL l).2 = 1
instance (l : List UInt8) : Decidable (Bad l) := inferInstanceAs (Decidable (_ ∧ _))
/-- How many bytes stand at the head, a rune or a byte that is none. -/
def wd (l : List UInt8) : Nat := (decodeL l).2
theorem wd_pos (l : List UInt8) : 1 ≤ wd l := decodeL_width l
theorem wd_le (l : List UInt8) (h : l ≠ []) : wd l ≤ l.length := decodeL_le l h
theorem wd_4 (l : List UInt8) : wd l ≤ 4 := by
  unfold wd
  rw [decodeL_N]
  rcases decodeN_shape l.length (l.getD 0 0).toNat (l.getD 1 0).toNat (l.getD 2 0).toNat (l.getD 3 0).toNat with ⟨c, e⟩ | ⟨c1, c2, c3, cv, e⟩ | ⟨c1, c2, c3, c4, cv, cs, e⟩ | ⟨c1, c2, c3, c4, c5, cv, cw, e⟩ | e
  all_goals (rw [e]; dsimp only; omega)
theorem decodeN_mk2 {n b0 b1 b2 b3 : Nat} (h0 : b0 / 32 = 6) (h1 : 1 < n) (h2 : b1 / 64 = 2) (h3 : 128 ≤ b0 % 32 * 64 + b1 % 64) : decodeN n b0 b1 b2 b3 = (b0 % 32 * 64 + b1 % 64, 2) := by
  unfold decodeN
  rw [if_neg (by omega), if_pos ⟨h0, h1, h2⟩, if_pos h3]
theorem decodeN_mk3 {n b0 b1 b2 b3 : Nat} (h0 : b0 / 16 = 14) (h1 : 2 < n) (h2 : b1 / 64 = 2) (h3 : b2 / 64 = 2) (h4 : 2048 ≤ b0 % 16 * 4096 + b1 % 64 * 64 + b2 % 64)
    (h5 : b0 % 16 * 4096 + b1 % 64 * 64 + b2 % 64 < 55296 ∨ 57344 ≤ b0 % 16 * 4096 + b1 % 64 * 64 + b2 % 64) : decodeN n b0 b1 b2 b3 = (b0 % 16 * 4096 + b1 % 64 * 64 + b2 % 64, 3) := by
  unfold decodeN
  rw [if_neg (by omega), if_neg (by omega), if_pos (by omega), if_pos (by omega)]
theorem decodeN_mk4 {n b0 b1 b2 b3 : Nat} (h0 : b0 / 8 = 30) (h1 : 3 < n) (h2 : b1 / 64 = 2) (h3 : b2 / 64 = 2) (h4 : b3 / 64 = 2) (h5 : 65536 ≤ b0 % 8 * 262144 + b1 % 64 * 4096 + b2 % 64 * 64 + b3 % 64)
    (h6 : b0 % 8 * 262144 + b1 % 64 * 4096 + b2 % 64 * 64 + b3 % 64 ≤ 1114111) : decodeN n b0 b1 b2 b3 = (b0 % 8 * 262144 + b1 % 64 * 4096 + b2 % 64 * 64 + b3 % 64, 4) := by
  unfold decodeN
  rw [if_neg (by omega), if_neg (by omega), if_neg (by omega), if_pos (by omega), if_pos (by omega)]
theorem decodeN_mk1 {n b0 b1 b2 b3 : Nat} (h0 : b0 < 128) : decodeN n b0 b1 b2 b3 = (b0, 1) := by
  unfold decodeN
  rw [if_pos h0]
theorem getD_take_eq {l m : List UInt8} {n j : Nat} (h : m.take n = l.take n) (hj : j < n) : m.getD j 0 = l.getD j 0 := by
  have := congrArg (fun x => x.getD j 0) h
  simp only [List.getD_eq_getElem?_getD, List.getElem?_take, if_pos hj] at this
  simpa [List.getD_eq_getElem?_getD] using this
/-- The first bytes alone decide which rune stands at the head. -/
theorem decode_prefix {l m : List UInt8} (hb : ¬ Bad l) (hm : m.take (wd l) = l.take (wd l)) (hl : wd l ≤ m.length) : decodeL m = decodeL l := by
  unfold Bad at hb
  unfold wd at hm hl
  rw [decodeL_N l] at hb hm hl ⊢
  rw [decodeL_N m]
  rcases decodeN_shape l.length (l.getD 0 0).toNat (l.getD 1 0).toNat (l.getD 2 0).toNat (l.getD 3 0).toNat with ⟨c, e⟩ | ⟨c1, c2, c3, cv, e⟩ | ⟨c1, c2, c3, c4, cv, cs, e⟩ | ⟨c1, c2, c3, c4, c5, cv, cw, e⟩ | e
  · rw [e] at hm hl ⊢
    rw [getD_take_eq hm (j := 0) (by omega)]
    exact decodeN_mk1 c
  · rw [e] at hm hl ⊢
    rw [getD_take_eq hm (j := 0) (by omega), getD_take_eq hm (j := 1) (by omega)]
    exact decodeN_mk2 c1 hl c3 cv
  · rw [e] at hm hl ⊢
    rw [getD_take_eq hm (j := 0) (by omega), getD_take_eq hm (j := 1) (by omega), getD_take_eq hm (j := 2) (by omega)]
    exact decodeN_mk3 c1 hl c3 c4 cv cs
  · rw [e] at hm hl ⊢
    rw [getD_take_eq hm (j := 0) (by omega), getD_take_eq hm (j := 1) (by omega), getD_take_eq hm (j := 2) (by omega), getD_take_eq hm (j := 3) (by omega)]
    exact decodeN_mk4 c1 hl c3 c4 c5 cv cw
  · rw [e] at hb
    exact absurd ⟨rfl, rfl⟩ hb
/-- A rune of several bytes has none below 128. -/
theorem high_bytes {l : List UInt8} (h2 : 2 ≤ wd l) : ∀ b ∈ l.take (wd l), 128 ≤ b.toNat := by
  unfold wd at h2 ⊢
  rw [decodeL_N l] at h2 ⊢
  intro b hb
  rcases decodeN_shape l.length (l.getD 0 0).toNat (l.getD 1 0).toNat (l.getD 2 0).toNat (l.getD 3 0).toNat with ⟨c, e⟩ | ⟨c1, c2, c3, cv, e⟩ | ⟨c1, c2, c3, c4, cv, cs, e⟩ | ⟨c1, c2, c3, c4, c5, cv, cw, e⟩ | e
  · rw [e] at h2; dsimp only at h2; omega
  · rw [e] at hb
    dsimp only at hb
    rw [takeB l c2] at hb
    simp only [List.mem_cons, List.not_mem_nil, or_false] at hb
    rcases hb with rfl | rfl <;> omega
  · rw [e] at hb
    dsimp only at hb
    rw [takeC l c2] at hb
    simp only [List.mem_cons, List.not_mem_nil, or_false] at hb
    rcases hb with rfl | rfl | rfl <;> omega
  · rw [e] at hb
    dsimp only at hb
    rw [takeD l c2] at hb
    simp only [List.mem_cons, List.not_mem_nil, or_false] at hb
    rcases hb with rfl | rfl | rfl | rfl <;> omega
  · rw [e] at h2; dsimp only at h2; omega
/-- A rune of one byte is it, below 128. -/
theorem low_byte {l : List UInt8} (hb : ¬ Bad l) (h1 : wd l = 1) (hne : l ≠ []) : ∃ c t, l = c :: t ∧ c.toNat < 128 ∧ decodeL l = (c.toNat, 1) := by
  unfold Bad at hb
  unfold wd at h1
  rw [decodeL_N l] at hb h1 ⊢
  obtain ⟨c, t, rfl⟩ := List.exists_cons_of_ne_nil hne
  refine ⟨c, t, rfl, ?_⟩
  rcases decodeN_shape (c :: t).length ((c :: t).getD 0 0).toNat ((c :: t).getD 1 0).toNat ((c :: t).getD 2 0).toNat ((c :: t).getD 3 0).toNat with ⟨c, e⟩ | ⟨c1, c2, c3, cv, e⟩ | ⟨c1, c2, c3, c4, cv, cs, e⟩ | ⟨c1, c2, c3, c4, c5, cv, cw, e⟩ | e
  · exact ⟨c, e⟩
  · rw [e] at h1; dsimp only at h1; omega
  · rw [e] at h1; dsimp only at h1; omega
  · rw [e] at h1; dsimp only at h1; omega
  · rw [e] at hb
    exact absurd ⟨rfl, rfl⟩ hb
/-- A rune that is cut is none. -/
theorem cut_bad {l : List UInt8} {j : Nat} (h0 : 0 < j) (hj : j < wd l) : Bad (l.take j) := by
  unfold wd at hj
  rw [decodeL_N l] at hj
  unfold Bad
  rw [decodeL_N (l.take j)]
  have hg : ∀ i, i < j → (l.take j).getD i 0 = l.getD i 0 := fun i hi => by
    simp only [List.getD_eq_getElem?_getD, List.getElem?_take, if_pos hi]
  have hlen : (l.take j).length ≤ j := by rw [List.length_take]; omega
  rw [hg 0 h0]
  suffices h : decodeN (l.take j).length (l.getD 0 0).toNat ((l.take j).getD 1 0).toNat ((l.take j).getD 2 0).toNat ((l.take j).getD 3 0).toNat = (65533, 1) by rw [h]; exact ⟨rfl, rfl⟩
  rcases decodeN_shape l.length (l.getD 0 0).toNat (l.getD 1 0).toNat (l.getD 2 0).toNat (l.getD 3 0).toNat with ⟨c, e⟩ | ⟨c1, c2, c3, cv, e⟩ | ⟨c1, c2, c3, c4, cv, cs, e⟩ | ⟨c1, c2, c3, c4, c5, cv, cw, e⟩ | e
  all_goals (rw [e] at hj; dsimp only at hj)
  · omega
  · unfold decodeN
    rw [if_neg (by omega), if_neg (by omega), if_neg (by omega), if_neg (by omega)]
  · unfold decodeN
    rw [if_neg (by omega), if_neg (by omega), if_neg (by omega), if_neg (by omega)]
  · unfold decodeN
    rw [if_neg (by omega), if_neg (by omega), if_neg (by omega), if_neg (by omega)]
  · omega
theorem valid_yes {l : List UInt8} (hb : ¬ Bad l) (hne : l ≠ []) : validD l = validD (l.drop (wd l)) := by
  rw [validD_step l hne, if_neg (show ¬ ((decodeL l).1 = 65533 ∧ (decodeL l).2 = 1) from hb)]
  rfl
theorem valid_no {l : List UInt8} (hb : Bad l) (hne : l ≠ []) : validD l = false := by
  rw [validD_step l hne, if_pos (show (decodeL l).1 = 65533 ∧ (decodeL l).2 = 1 from hb)]
/-- Valid texts, rune by rune. -/
theorem valid_ind {P : List UInt8 → Prop} (h0 : P []) (h1 : ∀ l, l ≠ [] → ¬ Bad l → validD (l.drop (wd l)) = true → P (l.drop (wd l)) → P l) : ∀ l, validD l = true → P l := by
  have key : ∀ (n : Nat) (l : List UInt8), l.length ≤ n → validD l = true → P l := by
    intro n
    induction n with
    | zero =>
      intro l hl _
      have : l = [] := List.eq_nil_of_length_eq_zero (by omega)
      rw [this]
      exact h0
    | succ n ih =>
      intro l hl hv
      by_cases hne : l = []
      · rw [hne]; exact h0
      · by_cases hb : Bad l
        · rw [valid_no hb hne] at hv; cases hv
        · rw [valid_yes hb hne] at hv
          exact h1 l hne hb hv (ih _ (by have := wd_pos l; have := List.length_pos_iff.2 hne; rw [List.length_drop]; unfold wd at *; omega) hv)
  exact fun l hv => key l.length l (Nat.le_refl _) hv
theorem take_app {l m : List UInt8} {n : Nat} (h : n ≤ l.length) : (l.take n ++ m).take n = l.take n := by
  rw [List.take_append_of_le_length (by rw [List.length_take]; omega), List.take_take, Nat.min_self]
/-- A rune in front of whatever. -/
theorem decode_front {l m : List UInt8} (hb : ¬ Bad l) (hne : l ≠ []) : decodeL (l.take (wd l) ++ m) = decodeL l :=
  decode_prefix hb (take_app (wd_le l hne)) (by rw [List.length_append, List.length_take]; have := wd_le l hne; omega)
theorem bad_front {l m : List UInt8} (hb : ¬ Bad l) (hne : l ≠ []) : ¬ Bad (l.take (wd l) ++ m) := by
  unfold Bad
  rw [decode_front hb hne]
  exact hb
theorem wd_front {l m : List UInt8} (hb : ¬ Bad l) (hne : l ≠ []) : wd (l.take (wd l) ++ m) = wd l := by
  have := congrArg Prod.snd (decode_front (m := m) hb hne)
  exact this
theorem front_ne {l m : List UInt8} (hne : l ≠ []) : l.take (wd l) ++ m ≠ [] := by
  intro h
  have := congrArg List.length h
  rw [List.length_append, List.length_take, List.length_nil] at this
  have := wd_pos l
  have := List.length_pos_iff.2 hne
  omega
theorem drop_front {l m : List UInt8} (hne : l ≠ []) : (l.take (wd l) ++ m).drop (wd l) = m := by
  rw [List.drop_append_of_le_length (by rw [List.length_take]; have := wd_le l hne; omega), List.drop_eq_nil_of_le (by rw [List.length_take]; omega), List.nil_append]
theorem valid_front {l m : List UInt8} (hb : ¬ Bad l) (hne : l ≠ []) : validD (l.take (wd l) ++ m) = validD m := by
  rw [valid_yes (bad_front hb hne) (front_ne hne), wd_front hb hne, drop_front hne]
theorem valid_append : ∀ a, validD a = true → ∀ b, validD (a ++ b) = validD b := by
  refine valid_ind (fun b => rfl) ?_
  intro l hne hb hv ih b
  have e : l ++ b = l.take (wd l) ++ (l.drop (wd l) ++ b) := by rw [← List.append_assoc, List.take_append_drop]
  rw [e, valid_front hb hne, ih b]
end Go.Proofs.YtpeldjihalldkaaDoor

/- Plain: what a text in quotes is: written, and read. -/
namespace Go.Proofs.YtpeldjihalldkaaDoor
open Go Go.Lib

/-- A digit below 16, in hexadecimal. -/
def hexB (n : Nat) : UInt8 := if n < 10 then UInt8.ofNat (48 + n) else UInt8.ofNat (87 + n)
/-- A byte as it stands in quotes. -/
def qb (c : UInt8) : List UInt8 :=
  if c = 34 ∨ c = 92 then [92, c] else if c = 10 then [92, 110] else if c = 13 then [92, 114] else if c = 9 then [92, 116]
  else if c.toNat < 32 ∨ c = 127 then [92, 117, 48, 48, hexB (c.toNat / 16), hexB (c.toNat % 16)] else [c]
def body (l : List UInt8) : List UInt8 := l.flatMap qb
def quoteL (l : List UInt8) : List UInt8 := 34 :: (body l ++ [34])
/-- The value of a hexadecimal digit. -/
def hexV (c : UInt8) : Option Nat :=
  if 48 ≤ c.toNat ∧ c.toNat ≤ 57 then some (c.toNat - 48) else if 97 ≤ c.toNat ∧ c.toNat ≤ 102 then some (c.toNat - 87) else if 65 ≤ c.toNat ∧ c.toNat ≤ 70 then some (c.toNat - 55) else none
/-- The number of four of them. -/
def four : List UInt8 → Option Nat
  | a :: b :: c :: d :: _ => match hexV a, hexV b, hexV c, hexV d with
    | some x, some y, some z, some u => some (((x * 16 + y) * 16 + z) * 16 + u)
    | _, _, _, _ => none
  | _ => none
/-- What a letter behind a backslash stands for, but u. -/
def simpleE (c : UInt8) : Option Nat :=
  if c = 34 then some 34 else if c = 92 then some 92 else if c = 47 then some 47 else if c = 98 then some 8 else if c = 102 then some 12 else if c = 110 then some 10 else if c = 114 then some 13 else if c = 116 then some 9 else none
/-- The number behind \u, if that stands at the head. -/
def unitL : List UInt8 → Option Nat
  | a :: b :: t => if a = 92 ∧ b = 117 then four t else none
  | _ => none
/-- The rune for which a text that begins with a backslash stands, and how many bytes that has. -/
def escL (l : List UInt8) : Option (Nat × Nat) :=
  match l with
  | _ :: c :: _ => match simpleE c with
    | some r => some (r, 2)
    | none => match unitL l with
      | none => none
      | some x => if x / 1024 = 55 then none else if x / 1024 ≠ 54 then some (x, 6) else match unitL (l.drop 6) with
        | some y => if y / 1024 = 55 then some (65536 + (x % 1024) * 1024 + y % 1024, 12) else none
        | none => none
  | _ => none
/-- Reading on, behind the first quote: what was read so far, and where it stands. -/
def unqGo : Nat → List UInt8 → List UInt8 → Nat → List UInt8 × Nat × Int
  | 0, _, _, _ => ([], 0, 6)
  | f + 1, l, out, at_ => match l with
    | [] => ([], 0, 6)
    | c :: t => if c = 34 then (if 4096 < out.length then ([], 0, 3) else (out, at_ + 1, 0))
      else if c = 92 then (match escL (c :: t) with
        | none => ([], 0, 6)
        | some (r, n) => unqGo f ((c :: t).drop n) (out ++ encodeRune (r : Int)) (at_ + n))
      else if Bad (c :: t) ∨ (decodeL (c :: t)).1 < 32 then ([], 0, 6)
      else unqGo f ((c :: t).drop (wd (c :: t))) (out ++ (c :: t).take (wd (c :: t))) (at_ + wd (c :: t))
def unq (l : List UInt8) : List UInt8 × Nat × Int :=
  match l with
  | [] => ([], 0, 6)
  | c :: t => if c = 34 then unqGo (t.length + 1) t [] 1 else ([], 0, 6)

theorem body_append (a b : List UInt8) : body (a ++ b) = body a ++ body b := List.flatMap_append
theorem length_quoteL (l : List UInt8) : (quoteL l).length = (body l).length + 2 := by simp [quoteL]
theorem hexV_hexB (n : Nat) (h : n < 16) : hexV (hexB n) = some n := by
  have : ∀ m : Fin 16, hexV (hexB m.val) = some m.val := by decide
  exact this ⟨n, h⟩
/-- A byte that is escaped, what it is. -/
theorem qb_shape (c : UInt8) : (qb c = [c] ∧ c ≠ 34 ∧ c ≠ 92 ∧ 32 ≤ c.toNat ∧ c ≠ 127) ∨ (∃ x, qb c = [92, x] ∧ simpleE x = some c.toNat ∧ c.toNat < 128) ∨
    (qb c = [92, 117, 48, 48, hexB (c.toNat / 16), hexB (c.toNat % 16)] ∧ c.toNat < 128) := by
  unfold qb
  by_cases h1 : c = 34 ∨ c = 92
  · rw [if_pos h1]
    refine .inr (.inl ⟨c, rfl, ?_, ?_⟩)
    · rcases h1 with rfl | rfl <;> rfl
    · rcases h1 with rfl | rfl <;> decide
  · rw [if_neg h1]
    by_cases h2 : c = 10
    · subst h2; exact .inr (.inl ⟨110, rfl, rfl, by decide⟩)
    · rw [if_neg h2]
      by_cases h3 : c = 13
      · subst h3; exact .inr (.inl ⟨114, rfl, rfl, by decide⟩)
      · rw [if_neg h3]
        by_cases h4 : c = 9
        · subst h4; exact .inr (.inl ⟨116, rfl, rfl, by decide⟩)
        · rw [if_neg h4]
          by_cases h5 : c.toNat < 32 ∨ c = 127
          · rw [if_pos h5]
            refine .inr (.inr ⟨rfl, ?_⟩)
            rcases h5 with h5 | rfl
            · omega
            · decide
          · rw [if_neg h5]
            exact .inl ⟨rfl, fun h => h1 (.inl h), fun h => h1 (.inr h), by omega, fun h => h5 (.inr h)⟩
theorem qb_high {c : UInt8} (h : 128 ≤ c.toNat) : qb c = [c] := by
  rcases qb_shape c with ⟨h1, _⟩ | ⟨x, _, _, h1⟩ | ⟨_, h1⟩
  · exact h1
  · omega
  · omega
theorem body_high : ∀ l : List UInt8, (∀ b ∈ l, 128 ≤ b.toNat) → body l = l
  | [], _ => rfl
  | c :: l, h => by
    show qb c ++ body l = c :: l
    rw [qb_high (h c (by simp)), body_high l (fun b hb => h b (by simp [hb]))]
    rfl
theorem encode_low {n : Nat} (h : n < 128) : encodeRune (n : Int) = [UInt8.ofNat n] := by
  unfold encodeRune
  rw [encodeRuneZ_one (by omega) (by omega)]
  simp
theorem four_low (c : UInt8) (h : c.toNat < 128) (t : List UInt8) : four (48 :: 48 :: hexB (c.toNat / 16) :: hexB (c.toNat % 16) :: t) = some c.toNat := by
  have e0 : hexV 48 = some 0 := by decide
  simp only [four, e0, hexV_hexB (c.toNat / 16) (by omega), hexV_hexB (c.toNat % 16) (by omega)]
  congr 1
  omega
/-- What is written for a byte below 128 is read as it. -/
theorem unq_byte (c : UInt8) (h : c.toNat < 128) (f : Nat) (rest out : List UInt8) (a : Nat) : unqGo (f + 1) (qb c ++ rest) out a = unqGo f rest (out ++ [c]) (a + (qb c).length) := by
  have ec : UInt8.ofNat c.toNat = c := by simp
  rcases qb_shape c with ⟨h1, h2, h3, h4, h5⟩ | ⟨x, h1, h2, _⟩ | ⟨h1, _⟩
  · rw [h1]
    have hd : decodeL (c :: rest) = (c.toNat, 1) := decodeL_ascii c rest h
    have hb : ¬ (Bad (c :: rest) ∨ (decodeL (c :: rest)).1 < 32) := by
      unfold Bad
      rw [hd]
      dsimp only
      omega
    have hw : wd (c :: rest) = 1 := by unfold wd; rw [hd]
    show unqGo (f + 1) (c :: rest) out a = _
    simp only [unqGo]
    rw [if_neg h2, if_neg h3, if_neg hb, hw]
    rfl
  · rw [h1]
    show unqGo (f + 1) (92 :: x :: rest) out a = _
    have he : escL (92 :: x :: rest) = some (c.toNat, 2) := by simp only [escL, h2]
    simp only [unqGo]
    rw [if_neg (by decide), if_pos trivial, he]
    simp only
    rw [encode_low h, ec]
    rfl
  · rw [h1]
    show unqGo (f + 1) (92 :: 117 :: 48 :: 48 :: hexB (c.toNat / 16) :: hexB (c.toNat % 16) :: rest) out a = _
    have he : escL (92 :: 117 :: 48 :: 48 :: hexB (c.toNat / 16) :: hexB (c.toNat % 16) :: rest) = some (c.toNat, 6) := by
      have e1 : simpleE 117 = none := by decide
      simp only [escL, e1, unitL]
      rw [if_pos ⟨trivial, trivial⟩, four_low c h rest]
      simp only
      rw [if_neg (by omega), if_pos (by omega)]
    simp only [unqGo]
    rw [if_neg (by decide), if_pos trivial, he]
    simp only
    rw [encode_low h, ec]
    rfl
/-- What was written of a valid text is read as it was. -/
theorem unq_body : ∀ l, validD l = true → ∀ (f : Nat) (rest out : List UInt8) (a : Nat), (body l).length ≤ f → ∃ g, f ≤ g + (body l).length ∧ unqGo f (body l ++ rest) out a = unqGo g rest (out ++ l) (a + (body l).length) := by
  refine valid_ind (fun f rest out a _ => ⟨f, by simp [body], by simp [body]⟩) ?_
  intro l hne hb hv ih f rest out a hf
  have e : l = l.take (wd l) ++ l.drop (wd l) := (List.take_append_drop _ _).symm
  have eb : body l = body (l.take (wd l)) ++ body (l.drop (wd l)) := by rw [← body_append, ← e]
  rcases Nat.lt_or_ge 1 (wd l) with h1 | h1
  · have hh := high_bytes (l := l) (by omega)
    rw [body_high _ hh] at eb
    rw [eb] at hf ⊢
    have hlen : (l.take (wd l)).length = wd l := by rw [List.length_take]; have := wd_le l hne; omega
    rw [List.length_append, hlen] at hf
    obtain ⟨f', rfl⟩ : ∃ f', f = f' + 1 := ⟨f - 1, by omega⟩
    rw [List.append_assoc]
    obtain ⟨c, t, hct⟩ := List.exists_cons_of_ne_nil (front_ne (m := body (l.drop (wd l)) ++ rest) hne)
    have hc : c ∈ l.take (wd l) := by
      have h9 : (l.take (wd l) ++ (body (l.drop (wd l)) ++ rest))[0]? = some c := by rw [hct]; rfl
      rw [List.getElem?_append_left (by omega)] at h9
      exact List.mem_of_getElem? h9
    have hc1 := hh c hc
    have hbad := bad_front (m := body (l.drop (wd l)) ++ rest) hb hne
    have hdec := decode_front (m := body (l.drop (wd l)) ++ rest) hb hne
    have hwd := wd_front (m := body (l.drop (wd l)) ++ rest) hb hne
    have hdrop := drop_front (m := body (l.drop (wd l)) ++ rest) hne
    have htake : (l.take (wd l) ++ (body (l.drop (wd l)) ++ rest)).take (wd l) = l.take (wd l) := take_app (wd_le l hne)
    have hr32 : ¬ (decodeL l).1 < 32 := by
      intro h32
      have h8 : encodeRune ((decodeL l).1 : Int) = l.take (wd l) := encode_decode l hne hb
      rw [encode_low (by omega)] at h8
      have := congrArg List.length h8
      rw [hlen] at this
      simp at this
      omega
    have hstep : unqGo (f' + 1) (l.take (wd l) ++ (body (l.drop (wd l)) ++ rest)) out a = unqGo f' (body (l.drop (wd l)) ++ rest) (out ++ l.take (wd l)) (a + wd l) := by
      rw [hct] at hbad hdec hwd hdrop htake ⊢
      simp only [unqGo]
      rw [if_neg (by rintro rfl; revert hc1; decide), if_neg (by rintro rfl; revert hc1; decide), if_neg (by rw [hdec]; exact fun h => h.elim hbad hr32), hwd, hdrop, htake]
    rw [hstep]
    obtain ⟨g, hg, hgo⟩ := ih f' rest (out ++ l.take (wd l)) (a + wd l) (by omega)
    refine ⟨g, by rw [List.length_append, hlen]; omega, ?_⟩
    rw [hgo, List.append_assoc, List.take_append_drop, List.length_append, hlen, Nat.add_assoc]
  · obtain ⟨c, t, rfl, hc, hd⟩ := low_byte hb (by have := wd_pos l; omega) hne
    have hw : wd (c :: t) = 1 := by unfold wd; rw [hd]
    rw [hw] at ih
    simp only [List.drop_succ_cons, List.drop_zero] at ih
    have e2 : body (c :: t) = qb c ++ body t := rfl
    rw [e2, List.length_append] at hf
    have hq : 1 ≤ (qb c).length := by
      rcases qb_shape c with ⟨h1, _⟩ | ⟨x, h1, _⟩ | ⟨h1, _⟩ <;> rw [h1] <;> simp
    obtain ⟨f', rfl⟩ : ∃ f', f = f' + 1 := ⟨f - 1, by omega⟩
    obtain ⟨g, hg, hgo⟩ := ih f' rest (out ++ [c]) (a + (qb c).length) (by omega)
    refine ⟨g, by rw [e2, List.length_append]; omega, ?_⟩
    rw [e2, List.append_assoc, unq_byte c hc, hgo, List.length_append]
    simp [Nat.add_assoc]
end Go.Proofs.YtpeldjihalldkaaDoor

/- Plain: digits and numbers; limbs. No program in sight. -/
namespace Go.Proofs.YtpeldjihalldkaaDoor

/-- A byte that is a digit. -/
def Dig (c : UInt8) : Prop := 48 ≤ c.toNat ∧ c.toNat ≤ 57
instance (c : UInt8) : Decidable (Dig c) := inferInstanceAs (Decidable (_ ∧ _))
def Digs (l : List UInt8) : Prop := ∀ c ∈ l, Dig c
instance (l : List UInt8) : Decidable (Digs l) := inferInstanceAs (Decidable (∀ c ∈ l, Dig c))
/-- The number that digits say. -/
def val (l : List UInt8) : Nat := l.foldl (fun a c => a * 10 + (c.toNat - 48)) 0
/-- The last digit of a number. -/
def dg (n : Nat) : UInt8 := UInt8.ofNat (48 + n % 10)
/-- The last k digits of a number. -/
def digN : Nat → Nat → List UInt8
  | 0, _ => []
  | k + 1, n => digN k (n / 10) ++ [dg n]
def dstrF : Nat → Nat → List UInt8
  | 0, _ => []
  | f + 1, n => if n = 0 then [] else dstrF f (n / 10) ++ [dg n]
/-- A number's digits, no nought ahead (of nought: none). -/
def dstr (n : Nat) : List UInt8 := dstrF n n

theorem Digs.nil : Digs [] := fun c h => by cases h
theorem Digs.append {a b : List UInt8} (ha : Digs a) (hb : Digs b) : Digs (a ++ b) := fun c h => (List.mem_append.1 h).elim (ha c) (hb c)
theorem Digs.left {a b : List UInt8} (h : Digs (a ++ b)) : Digs a := fun c hc => h c (List.mem_append.2 (.inl hc))
theorem Digs.right {a b : List UInt8} (h : Digs (a ++ b)) : Digs b := fun c hc => h c (List.mem_append.2 (.inr hc))
theorem Digs.take {l : List UInt8} (h : Digs l) (k : Nat) : Digs (l.take k) := fun c hc => h c (List.mem_of_mem_take hc)
theorem Digs.drop {l : List UInt8} (h : Digs l) (k : Nat) : Digs (l.drop k) := fun c hc => h c (List.mem_of_mem_drop hc)
theorem Digs.zeros (n : Nat) : Digs (List.replicate n 48) := fun c h => by rw [(List.mem_replicate.1 h).2]; decide
theorem val_nil : val [] = 0 := rfl
theorem foldl_val (l : List UInt8) : ∀ a, l.foldl (fun a c => a * 10 + (c.toNat - 48)) a = a * 10 ^ l.length + val l := by
  unfold val
  induction l with
  | nil => intro a; simp
  | cons c l ih =>
    intro a
    simp only [List.foldl_cons, List.length_cons]
    rw [ih (a * 10 + (c.toNat - 48)), ih (0 * 10 + (c.toNat - 48))]
    simp only [Nat.zero_mul, Nat.zero_add, Nat.add_mul, Nat.pow_succ]
    rw [Nat.mul_assoc, Nat.mul_comm 10]
    omega
theorem val_append (a b : List UInt8) : val (a ++ b) = val a * 10 ^ b.length + val b := by
  show (a ++ b).foldl _ 0 = _
  rw [List.foldl_append, foldl_val]
  rfl
theorem val_snoc (l : List UInt8) (c : UInt8) : val (l ++ [c]) = val l * 10 + (c.toNat - 48) := by
  rw [val_append]
  simp [val]
theorem val_cons (c : UInt8) (l : List UInt8) : val (c :: l) = (c.toNat - 48) * 10 ^ l.length + val l := by
  have := val_append [c] l
  rw [List.singleton_append] at this
  rw [this]
  simp [val]
theorem val_lt : ∀ l : List UInt8, Digs l → val l < 10 ^ l.length
  | [], _ => by decide
  | c :: l, h => by
    have h1 := val_lt l (fun x hx => h x (by simp [hx]))
    have h2 := h c (by simp)
    unfold Dig at h2
    rw [val_cons, List.length_cons, Nat.pow_succ]
    have : (c.toNat - 48) * 10 ^ l.length ≤ 9 * 10 ^ l.length := Nat.mul_le_mul_right _ (by omega)
    omega
theorem val_zeros (n : Nat) : val (List.replicate n 48) = 0 := by
  induction n with
  | zero => rfl
  | succ n ih =>
    rw [List.replicate_succ, val_cons, ih]
    simp
theorem dg_toNat (n : Nat) : (dg n).toNat = 48 + n % 10 := by
  unfold dg
  have : n % 10 < 10 := Nat.mod_lt _ (by decide)
  rw [UInt8.toNat_ofNat']
  omega
theorem dg_dig (n : Nat) : Dig (dg n) := by unfold Dig; rw [dg_toNat]; omega
theorem dg_of {c : UInt8} (h : Dig c) (n : Nat) (hn : n % 10 = c.toNat - 48) : dg n = c := by
  unfold Dig at h
  apply UInt8.toNat_inj.1
  rw [dg_toNat]
  omega
theorem length_digN : ∀ k n, (digN k n).length = k
  | 0, _ => rfl
  | k + 1, n => by rw [digN, List.length_append, length_digN k]; rfl
theorem digs_digN : ∀ k n, Digs (digN k n)
  | 0, _ => Digs.nil
  | k + 1, n => (digs_digN k _).append (fun c h => by rw [List.mem_singleton.1 h]; exact dg_dig n)
theorem val_digN : ∀ k n, val (digN k n) = n % 10 ^ k
  | 0, n => by simp [digN, val, Nat.mod_one]
  | k + 1, n => by
    rw [digN, val_snoc, val_digN k, dg_toNat, Nat.pow_succ, Nat.mul_comm (10 ^ k) 10, Nat.mod_mul]
    omega
theorem digN_val : ∀ (k : Nat) (l : List UInt8), Digs l → l.length = k → digN k (val l) = l
  | 0, l, _, h => by rw [List.eq_nil_of_length_eq_zero h]; rfl
  | k + 1, l, hd, h => by
    have hne : l ≠ [] := by intro e; rw [e] at h; cases h
    obtain ⟨m, c, rfl⟩ : ∃ m c, l = m ++ [c] := ⟨l.dropLast, l.getLast hne, (List.dropLast_concat_getLast hne).symm⟩
    have hc := hd.right c (by simp)
    have hc' := hc
    unfold Dig at hc'
    rw [digN, val_snoc]
    have e : (val m * 10 + (c.toNat - 48)) / 10 = val m := by omega
    rw [e, digN_val k m hd.left (by simpa using h), dg_of hc]
    omega
theorem digN_zeros (k : Nat) : digN k 0 = List.replicate k 48 := by
  have h := digN_val k (List.replicate k 48) (Digs.zeros k) (by simp)
  rwa [val_zeros] at h
theorem digN_mod (k n : Nat) : digN k (n % 10 ^ k) = digN k n := by
  have h := digN_val k (digN k n) (digs_digN k n) (length_digN k n)
  rwa [val_digN] at h
theorem digN_add (a b n : Nat) : digN (a + b) n = digN a (n / 10 ^ b) ++ digN b n := by
  induction b generalizing n with
  | zero => simp [digN]
  | succ b ih =>
    show digN (a + b) (n / 10) ++ [dg n] = _
    rw [ih, digN, Nat.div_div_eq_div_mul, Nat.pow_succ, Nat.mul_comm 10, List.append_assoc]
theorem dstrF_fuel : ∀ (f g n : Nat), n ≤ f → n ≤ g → dstrF f n = dstrF g n
  | 0, g, n, h, _ => by
    obtain rfl : n = 0 := by omega
    cases g <;> simp [dstrF]
  | f + 1, 0, n, _, h => by
    obtain rfl : n = 0 := by omega
    simp [dstrF]
  | f + 1, g + 1, n, h1, h2 => by
    by_cases h : n = 0
    · simp [dstrF, h]
    · simp only [dstrF, if_neg h]
      rw [dstrF_fuel f g (n / 10) (by omega) (by omega)]
theorem dstr_zero : dstr 0 = [] := rfl
theorem dstr_step {n : Nat} (h : n ≠ 0) : dstr n = dstr (n / 10) ++ [dg n] := by
  unfold dstr
  obtain ⟨m, rfl⟩ : ∃ m, n = m + 1 := ⟨n - 1, by omega⟩
  show (if m + 1 = 0 then [] else dstrF m ((m + 1) / 10) ++ [dg (m + 1)]) = _
  rw [if_neg h, dstrF_fuel m ((m + 1) / 10) _ (by omega) (by omega)]
theorem dstr_ind {P : Nat → Prop} (h0 : P 0) (h1 : ∀ n, n ≠ 0 → P (n / 10) → P n) (n : Nat) : P n := by
  induction n using Nat.strongRecOn with
  | ind n ih =>
    by_cases h : n = 0
    · rw [h]; exact h0
    · exact h1 n h (ih _ (by omega))
theorem digs_dstr : ∀ n, Digs (dstr n) := by
  refine dstr_ind Digs.nil ?_
  intro n h ih
  rw [dstr_step h]
  exact ih.append (fun c hc => by rw [List.mem_singleton.1 hc]; exact dg_dig n)
theorem val_dstr : ∀ n, val (dstr n) = n := by
  refine dstr_ind rfl ?_
  intro n h ih
  rw [dstr_step h, val_snoc, ih, dg_toNat]
  omega
theorem dstr_nil {n : Nat} : dstr n = [] ↔ n = 0 := by
  constructor
  · intro h
    have := congrArg val h
    rwa [val_dstr] at this
  · rintro rfl; rfl
theorem dstr_head : ∀ n, n ≠ 0 → ∃ c t, dstr n = c :: t ∧ c ≠ 48 := by
  refine dstr_ind (fun h => absurd rfl h) ?_
  intro n h ih _
  rw [dstr_step h]
  by_cases h2 : n / 10 = 0
  · rw [h2, dstr_zero]
    refine ⟨dg n, [], rfl, ?_⟩
    intro e
    have := congrArg UInt8.toNat e
    rw [dg_toNat] at this
    simp at this
    omega
  · obtain ⟨c, t, e, hc⟩ := ih h2
    rw [e]
    exact ⟨c, _, rfl, hc⟩
/-- Digits without the noughts ahead are the number's. -/
theorem dropZeros : ∀ l : List UInt8, Digs l → l.dropWhile (· == 48) = dstr (val l) := by
  have key : ∀ l : List UInt8, Digs l → (∀ c t, l = c :: t → c ≠ 48) → l = dstr (val l) := by
    intro l hd hh
    by_cases hne : l = []
    · rw [hne]; rfl
    · obtain ⟨c, t, rfl⟩ := List.exists_cons_of_ne_nil hne
      have hc := hd c (by simp)
      have hn : c ≠ 48 := hh c t rfl
      have hn' : c.toNat ≠ 48 := fun e => hn (UInt8.toNat_inj.1 e)
      unfold Dig at hc
      have h1 : digN (t.length + 1) (val (c :: t)) = c :: t := digN_val _ _ hd rfl
      have hv := val_cons c t
      have hlow : 10 ^ t.length ≤ val (c :: t) := by
        rw [hv]
        have : 1 * 10 ^ t.length ≤ (c.toNat - 48) * 10 ^ t.length := Nat.mul_le_mul_right _ (by omega)
        omega
      have hup := val_lt _ hd
      rw [List.length_cons] at hup
      have gen : ∀ (k n : Nat), 10 ^ k ≤ n → n < 10 ^ (k + 1) → digN (k + 1) n = dstr n := by
        intro k
        induction k with
        | zero =>
          intro n h2 h3
          rw [dstr_step (by omega)]
          have : n / 10 = 0 := by omega
          rw [this]
          rfl
        | succ k ih =>
          intro n h2 h3
          have hp : 0 < 10 ^ k := Nat.pow_pos (by decide)
          rw [Nat.pow_succ] at h2 h3
          rw [Nat.pow_succ] at h3
          rw [dstr_step (by omega), digN, ih (n / 10) (by omega) (by rw [Nat.pow_succ]; omega)]
      rw [← gen _ _ hlow hup, h1]
  intro l
  induction l with
  | nil => intro _; rfl
  | cons c t ih =>
    intro hd
    by_cases hc : c = 48
    · subst hc
      rw [List.dropWhile_cons_of_pos (by rfl), ih (fun x hx => hd x (by simp [hx])), val_cons]
      simp
    · rw [List.dropWhile_cons_of_neg (by simpa using hc)]
      exact key _ hd (fun c' t' e => by injection e with e; exact e ▸ hc)
theorem length_dstr_le {n k : Nat} (h : n < 10 ^ k) : (dstr n).length ≤ k := by
  rw [← Nat.mod_eq_of_lt h, ← val_digN, ← dropZeros _ (digs_digN k n)]
  exact Nat.le_trans (List.dropWhile_suffix _).length_le (Nat.le_of_eq (length_digN k n))
theorem lt_pow_dstr (n : Nat) : n < 10 ^ (dstr n).length := by
  have := val_lt _ (digs_dstr n)
  rwa [val_dstr] at this
theorem length_dstr_iff {n k : Nat} : (dstr n).length ≤ k ↔ n < 10 ^ k :=
  ⟨fun h => Nat.lt_of_lt_of_le (lt_pow_dstr n) (Nat.pow_le_pow_right (by decide) h), length_dstr_le⟩
theorem dstr_val {l : List UInt8} (hd : Digs l) (hh : ∀ c t, l = c :: t → c ≠ 48) : dstr (val l) = l := by
  rw [← dropZeros l hd]
  cases l with
  | nil => rfl
  | cons c t => rw [List.dropWhile_cons_of_neg (by simpa using hh c t rfl)]
/-- The digits in k places: noughts, and the number's. -/
theorem digN_dstr {n k : Nat} (h : n < 10 ^ k) : digN k n = List.replicate (k - (dstr n).length) 48 ++ dstr n := by
  have hl := length_dstr_le h
  have h2 := digN_val k (List.replicate (k - (dstr n).length) 48 ++ dstr n) ((Digs.zeros _).append (digs_dstr n)) (by rw [List.length_append, List.length_replicate]; omega)
  rw [val_append, val_zeros, val_dstr] at h2
  simpa using h2

/-- Limbs, the lowest first. -/
def Bs : Nat := 1000000000
def lval : List Nat → Nat
  | [] => 0
  | x :: l => x + Bs * lval l
def limbsF : Nat → Nat → List Nat
  | 0, _ => []
  | f + 1, n => if n = 0 then [] else n % Bs :: limbsF f (n / Bs)
/-- A number's limbs, no nought at the end. -/
def limbs (n : Nat) : List Nat := limbsF n n
def Lims (l : List Nat) : Prop := ∀ x ∈ l, x < Bs
theorem limbsF_fuel : ∀ (f g n : Nat), n ≤ f → n ≤ g → limbsF f n = limbsF g n
  | 0, g, n, h, _ => by
    obtain rfl : n = 0 := by omega
    cases g <;> simp [limbsF]
  | f + 1, 0, n, _, h => by
    obtain rfl : n = 0 := by omega
    simp [limbsF]
  | f + 1, g + 1, n, h1, h2 => by
    by_cases h : n = 0
    · simp [limbsF, h]
    · simp only [limbsF, if_neg h]
      have : n / Bs < n := Nat.div_lt_self (by omega) (by decide)
      rw [limbsF_fuel f g (n / Bs) (by omega) (by omega)]
theorem limbs_zero : limbs 0 = [] := rfl
theorem limbs_step {n : Nat} (h : n ≠ 0) : limbs n = n % Bs :: limbs (n / Bs) := by
  unfold limbs
  obtain ⟨m, rfl⟩ : ∃ m, n = m + 1 := ⟨n - 1, by omega⟩
  show (if m + 1 = 0 then [] else (m + 1) % Bs :: limbsF m ((m + 1) / Bs)) = _
  have : (m + 1) / Bs < m + 1 := Nat.div_lt_self (by omega) (by decide)
  rw [if_neg h, limbsF_fuel m ((m + 1) / Bs) _ (by omega) (by omega)]
theorem limbs_ind {P : Nat → Prop} (h0 : P 0) (h1 : ∀ n, n ≠ 0 → P (n / Bs) → P n) (n : Nat) : P n := by
  induction n using Nat.strongRecOn with
  | ind n ih =>
    by_cases h : n = 0
    · rw [h]; exact h0
    · exact h1 n h (ih _ (Nat.div_lt_self (by omega) (by decide)))
theorem lims_limbs : ∀ n, Lims (limbs n) := by
  refine limbs_ind (fun x h => by cases h) ?_
  intro n h ih x hx
  rw [limbs_step h] at hx
  rcases List.mem_cons.1 hx with rfl | hx
  · exact Nat.mod_lt _ (by decide)
  · exact ih x hx
theorem lval_limbs : ∀ n, lval (limbs n) = n := by
  refine limbs_ind rfl ?_
  intro n h ih
  rw [limbs_step h, lval, ih]
  exact Nat.mod_add_div n Bs
theorem lval_append (a b : List Nat) : lval (a ++ b) = lval a + Bs ^ a.length * lval b := by
  induction a with
  | nil => simp [lval]
  | cons x a ih =>
    rw [List.cons_append, lval, ih, lval, List.length_cons, Nat.pow_succ, Nat.mul_add, Nat.mul_comm (Bs ^ a.length) Bs, Nat.mul_assoc]
    omega
theorem lval_snoc (l : List Nat) (x : Nat) : lval (l ++ [x]) = lval l + Bs ^ l.length * x := by
  rw [lval_append]
  simp [lval]
theorem lval_lt : ∀ l, Lims l → lval l < Bs ^ l.length
  | [], _ => by decide
  | x :: l, h => by
    have h1 := lval_lt l (fun y hy => h y (by simp [hy]))
    have h2 := h x (by simp)
    rw [lval, List.length_cons, Nat.pow_succ, Nat.mul_comm (Bs ^ l.length)]
    have : Bs * (lval l + 1) ≤ Bs * Bs ^ l.length := Nat.mul_le_mul_left _ h1
    rw [Nat.mul_add] at this
    omega
/-- Limbs without noughts at the end are the number's. -/
theorem limbs_lval : ∀ l, Lims l → (∀ m, l ≠ m ++ [0]) → limbs (lval l) = l := by
  intro l
  induction l with
  | nil => intro _ _; rfl
  | cons x l ih =>
    intro h hz
    have hx := h x (by simp)
    have hB : 0 < Bs := by decide
    have e : lval (x :: l) % Bs = x := by
      rw [lval, Nat.add_mul_mod_self_left, Nat.mod_eq_of_lt hx]
    have e2 : lval (x :: l) / Bs = lval l := by
      rw [lval, Nat.add_mul_div_left _ _ hB, Nat.div_eq_of_lt hx]
      omega
    have i := ih (fun y hy => h y (by simp [hy])) (fun m e => hz (x :: m) (by rw [e]; rfl))
    have hne : lval (x :: l) ≠ 0 := by
      intro e0
      rw [lval] at e0
      have hx0 : x = 0 := by omega
      have hl0 : lval l = 0 := by
        rcases Nat.mul_eq_zero.1 (show Bs * lval l = 0 by omega) with h0 | h0
        · exact absurd h0 (by decide)
        · exact h0
      rw [hl0] at i
      have hl : l = [] := by rw [← i]; rfl
      subst hx0 hl
      exact hz [] rfl
    rw [limbs_step hne, e, e2, i]
theorem lval_zeros (n : Nat) : lval (List.replicate n 0) = 0 := by
  induction n with
  | zero => rfl
  | succ n ih => rw [List.replicate_succ, lval, ih]; rfl
theorem limbs_len {n k : Nat} (h : n < Bs ^ k) : (limbs n).length ≤ k := by
  rcases Nat.lt_or_ge k (limbs n).length with h1 | h1
  · exfalso
    have hne : limbs n ≠ [] := by intro e; rw [e] at h1; simp at h1
    have hsplit := (List.dropLast_concat_getLast hne)
    have hlast : (limbs n).getLast hne ≠ 0 := by
      have key : ∀ n, ∀ m, limbs n ≠ m ++ [0] := by
        refine limbs_ind (fun m e => by cases m <;> cases e) ?_
        intro n hn ih m e
        rw [limbs_step hn] at e
        cases m with
        | nil =>
          injection e with e1 e2
          have h0 : n / Bs = 0 := by have := congrArg lval e2; rwa [lval_limbs] at this
          have := Nat.mod_add_div n Bs
          rw [e1, h0] at this
          omega
        | cons y m =>
          injection e with e1 e2
          exact ih m e2
      intro e0
      rw [e0] at hsplit
      exact key n _ hsplit.symm
    have hv := lval_limbs n
    rw [← hsplit, lval_snoc] at hv
    have hlen : k ≤ (limbs n).dropLast.length := by rw [List.length_dropLast]; omega
    have : Bs ^ k ≤ Bs ^ (limbs n).dropLast.length := Nat.pow_le_pow_right (by decide) hlen
    have h2 : Bs ^ (limbs n).dropLast.length * 1 ≤ Bs ^ (limbs n).dropLast.length * (limbs n).getLast hne := Nat.mul_le_mul_left _ (by omega)
    omega
  · exact h1
theorem limbs_last (n : Nat) : ∀ m, limbs n ≠ m ++ [0] := by
  revert n
  refine limbs_ind (fun m e => by cases m <;> cases e) ?_
  intro n hn ih m e
  rw [limbs_step hn] at e
  cases m with
  | nil =>
    injection e with e1 e2
    have h0 : n / Bs = 0 := by have := congrArg lval e2; rwa [lval_limbs] at this
    have := Nat.mod_add_div n Bs
    rw [e1, h0] at this
    omega
  | cons y m =>
    injection e with e1 e2
    exact ih m e2
theorem limbs_mono {a b : Nat} (h : (limbs a).length < (limbs b).length) : a < b := by
  have h1 := lval_lt _ (lims_limbs a)
  rw [lval_limbs] at h1
  rcases Nat.lt_or_ge a b with h2 | h2
  · exact h2
  · have h3 := limbs_len (Nat.lt_of_le_of_lt h2 h1)
    omega
end Go.Proofs.YtpeldjihalldkaaDoor

/- Plain: decimals in their one form, and what is done with them. No program in sight. -/
namespace Go.Proofs.YtpeldjihalldkaaDoor

/-- A decimal: its sign, the number of its digits, how many stand behind the point. -/
structure Dc where
  neg : Bool
  n : Nat
  s : Nat
/-- Without noughts at the end, behind the point. -/
def redN : Nat → Nat → Nat × Nat
  | n, 0 => (n, 0)
  | n, s + 1 => if n ≠ 0 ∧ n % 10 = 0 then redN (n / 10) s else (n, s + 1)
def topN : Nat := 10 ^ 60
def norm (neg : Bool) (n s : Nat) : Option Dc :=
  if n = 0 then some ⟨false, 0, 0⟩ else if topN ≤ (redN n s).1 ∨ 60 < (redN n s).2 then none else some ⟨neg, (redN n s).1, (redN n s).2⟩
/-- A decimal that may be. -/
def Ok (d : Dc) : Prop := d.n < topN ∧ d.s ≤ 60 ∧ (d.n = 0 → d.s = 0 ∧ d.neg = false) ∧ (d.s = 0 ∨ d.n % 10 ≠ 0)
def Dc.z (d : Dc) : Int := if d.neg then -(d.n : Int) else d.n
/-- The decimal of a whole number and a scale. -/
def normZ (z : Int) (s : Nat) : Option Dc := norm (decide (z < 0)) z.natAbs s
def addD (a b : Dc) : Option Dc := normZ (a.z * 10 ^ b.s + b.z * 10 ^ a.s) (a.s + b.s)
def subD (a b : Dc) : Option Dc := normZ (a.z * 10 ^ b.s - b.z * 10 ^ a.s) (a.s + b.s)
def mulD (a b : Dc) : Option Dc := normZ (a.z * b.z) (a.s + b.s)
def sgn (x : Int) : Int := if x < 0 then -1 else if 0 < x then 1 else 0
def cmpD (a b : Dc) : Int := sgn (a.z * 10 ^ b.s - b.z * 10 ^ a.s)

theorem p10 (k : Nat) : 0 < (10 : Int) ^ k := Int.pow_pos (by decide)
theorem n10 (k : Nat) : 0 < 10 ^ k := Nat.pow_pos (by decide)
theorem redN_ten {n s : Nat} (h : n ≠ 0) : redN (n * 10) (s + 1) = redN n s := by
  show (if n * 10 ≠ 0 ∧ n * 10 % 10 = 0 then redN (n * 10 / 10) s else (n * 10, s + 1)) = _
  rw [if_pos ⟨by omega, by omega⟩, Nat.mul_div_cancel _ (by decide)]
theorem redN_pow {n : Nat} (h : n ≠ 0) (s : Nat) : ∀ k, redN (n * 10 ^ k) (s + k) = redN n s
  | 0 => by simp
  | k + 1 => by
    have e : n * 10 ^ (k + 1) = n * 10 ^ k * 10 := by rw [Nat.pow_succ, Nat.mul_assoc]
    rw [e, ← Nat.add_assoc, redN_ten (Nat.mul_ne_zero h (Nat.pos_iff_ne_zero.1 (n10 k))), redN_pow h s k]
theorem redN_val : ∀ s n, ∃ k, n = (redN n s).1 * 10 ^ k ∧ s = (redN n s).2 + k
  | 0, n => ⟨0, by simp [redN], by simp [redN]⟩
  | s + 1, n => by
    unfold redN
    by_cases h : n ≠ 0 ∧ n % 10 = 0
    · rw [if_pos h]
      obtain ⟨k, h1, h2⟩ := redN_val s (n / 10)
      refine ⟨k + 1, ?_, by omega⟩
      rw [Nat.pow_succ, ← Nat.mul_assoc, ← h1]
      omega
    · rw [if_neg h]
      exact ⟨0, by simp, by simp⟩
theorem redN_end : ∀ s n, (redN n s).2 = 0 ∨ ¬ ((redN n s).1 ≠ 0 ∧ (redN n s).1 % 10 = 0)
  | 0, n => .inl rfl
  | s + 1, n => by
    unfold redN
    by_cases h : n ≠ 0 ∧ n % 10 = 0
    · rw [if_pos h]; exact redN_end s _
    · rw [if_neg h]; exact .inr h
theorem redN_fix {n s : Nat} (h : s = 0 ∨ n % 10 ≠ 0) : redN n s = (n, s) := by
  cases s with
  | zero => rfl
  | succ s =>
    unfold redN
    rw [if_neg (by omega)]
theorem redN_ne {n s : Nat} (h : n ≠ 0) : (redN n s).1 ≠ 0 := by
  obtain ⟨k, h1, _⟩ := redN_val s n
  intro e
  rw [e] at h1
  omega
theorem norm_pow (neg : Bool) (n s k : Nat) : norm neg (n * 10 ^ k) (s + k) = norm neg n s := by
  by_cases h : n = 0
  · subst h; simp [norm]
  · unfold norm
    rw [if_neg (Nat.mul_ne_zero h (Nat.pos_iff_ne_zero.1 (n10 k))), if_neg h, redN_pow h]
theorem normZ_pow (z : Int) (s k : Nat) : normZ (z * 10 ^ k) (s + k) = normZ z s := by
  unfold normZ
  have e : (z * 10 ^ k).natAbs = z.natAbs * 10 ^ k := by
    rw [Int.natAbs_mul, Int.natAbs_pow]
    rfl
  have e2 : decide (z * 10 ^ k < 0) = decide (z < 0) := by
    rw [decide_eq_decide]
    have := p10 k
    constructor
    · intro h
      rcases Int.lt_or_le z 0 with h2 | h2
      · exact h2
      · have := Int.mul_nonneg h2 (Int.le_of_lt this); omega
    · intro h
      exact Int.mul_neg_of_neg_of_pos h this
  rw [e, e2, norm_pow]
/-- The same number, the same decimal. -/
theorem normZ_eq {z y : Int} {s t : Nat} (h : z * 10 ^ t = y * 10 ^ s) : normZ z s = normZ y t := by
  rw [← normZ_pow z s t, ← normZ_pow y t s, h, Nat.add_comm]
theorem z_neg {d : Dc} (h : Ok d) : decide (d.z < 0) = d.neg ∧ d.z.natAbs = d.n := by
  obtain ⟨_, _, h3, _⟩ := h
  unfold Dc.z
  cases hn : d.neg with
  | false => simp
  | true =>
    simp
    rcases Nat.eq_zero_or_pos d.n with h0 | h0
    · have := (h3 h0).2; rw [hn] at this; cases this
    · omega
theorem normZ_self {d : Dc} (h : Ok d) : normZ d.z d.s = some d := by
  obtain ⟨e1, e2⟩ := z_neg h
  unfold normZ
  rw [e1, e2]
  obtain ⟨h1, h2, h3, h4⟩ := h
  unfold norm
  by_cases h0 : d.n = 0
  · rw [if_pos h0]
    obtain ⟨a, b⟩ := h3 h0
    obtain ⟨neg, n, s⟩ := d
    dsimp only at h0 a b
    subst h0 a b
    rfl
  · rw [if_neg h0, redN_fix h4, if_neg (by simp only; omega)]
theorem norm_ok {neg : Bool} {n s : Nat} {d : Dc} (h : norm neg n s = some d) : Ok d ∧ (d.n = 0 ↔ n = 0) ∧ (n ≠ 0 → d.neg = neg) ∧ ∃ k, n = d.n * 10 ^ k ∧ (n ≠ 0 → s = d.s + k) := by
  unfold norm at h
  by_cases h0 : n = 0
  · rw [if_pos h0] at h
    injection h with h
    subst h
    exact ⟨⟨by show 0 < topN; decide, Nat.zero_le _, fun _ => ⟨rfl, rfl⟩, .inl rfl⟩, ⟨fun _ => h0, fun _ => rfl⟩, fun h => absurd h0 h, 0, by simp [h0], fun h => absurd h0 h⟩
  · rw [if_neg h0] at h
    by_cases h1 : topN ≤ (redN n s).1 ∨ 60 < (redN n s).2
    · rw [if_pos h1] at h; cases h
    · rw [if_neg h1] at h
      injection h with h
      subst h
      have hne := redN_ne (s := s) h0
      obtain ⟨k, e1, e2⟩ := redN_val s n
      refine ⟨⟨by dsimp only; omega, by dsimp only; omega, fun h => absurd h hne, ?_⟩, ⟨fun h => absurd h hne, fun h => absurd h h0⟩, fun _ => rfl, k, e1, fun _ => e2⟩
      rcases redN_end s n with h2 | h2
      · exact .inl h2
      · exact .inr (fun h3 => h2 ⟨hne, h3⟩)
theorem normZ_ok {z : Int} {s : Nat} {d : Dc} (h : normZ z s = some d) : Ok d ∧ d.z * 10 ^ s = z * 10 ^ d.s := by
  unfold normZ at h
  obtain ⟨hok, h0, hneg, k, e1, e2⟩ := norm_ok h
  refine ⟨hok, ?_⟩
  by_cases hz : z = 0
  · subst hz
    have : d.n = 0 := h0.2 rfl
    have : d.z = 0 := by unfold Dc.z; rw [this]; split <;> rfl
    rw [this]
    simp
  · have hn0 : z.natAbs ≠ 0 := by omega
    have e3 := e2 hn0
    have e4 := hneg hn0
    have e5 : z = d.z * 10 ^ k := by
      unfold Dc.z
      rw [e4]
      have e6 : (z.natAbs : Int) = (d.n : Int) * 10 ^ k := by rw [e1]; simp
      by_cases hl : z < 0
      · rw [decide_eq_true hl, if_pos rfl, Int.neg_mul, ← e6]
        omega
      · rw [decide_eq_false hl, if_neg (by simp), ← e6]
        omega
    rw [e5, e3, Int.mul_assoc, ← Int.pow_add, Nat.add_comm]
/-- The decimal of which a number is, if one may be. -/
theorem normZ_is {z : Int} {s : Nat} {d : Dc} (hd : Ok d) (h : d.z * 10 ^ s = z * 10 ^ d.s) : normZ z s = some d := by
  rw [normZ_eq (y := d.z) (t := d.s) h.symm, normZ_self hd]
theorem Dc.inj {a b : Dc} (ha : Ok a) (hb : Ok b) (h : a.z * 10 ^ b.s = b.z * 10 ^ a.s) : a = b := by
  have h1 := normZ_self ha
  have h2 := normZ_is (z := a.z) (s := a.s) hb h.symm
  rw [h1] at h2
  injection h2
theorem addD_comm (a b : Dc) : addD a b = addD b a := by
  unfold addD
  rw [Int.add_comm, Nat.add_comm]
theorem mulD_comm (a b : Dc) : mulD a b = mulD b a := by
  unfold mulD
  rw [Int.mul_comm, Nat.add_comm]
theorem addD_ok {a b x : Dc} (h : addD a b = some x) : Ok x ∧ x.z * (10 ^ a.s * 10 ^ b.s) = (a.z * 10 ^ b.s + b.z * 10 ^ a.s) * 10 ^ x.s := by
  obtain ⟨h1, h2⟩ := normZ_ok h
  rw [Int.pow_add] at h2
  exact ⟨h1, h2⟩
theorem mulD_ok {a b x : Dc} (h : mulD a b = some x) : Ok x ∧ x.z * (10 ^ a.s * 10 ^ b.s) = a.z * b.z * 10 ^ x.s := by
  obtain ⟨h1, h2⟩ := normZ_ok h
  rw [Int.pow_add] at h2
  exact ⟨h1, h2⟩
theorem subD_ok {a b x : Dc} (h : subD a b = some x) : Ok x ∧ x.z * (10 ^ a.s * 10 ^ b.s) = (a.z * 10 ^ b.s - b.z * 10 ^ a.s) * 10 ^ x.s := by
  obtain ⟨h1, h2⟩ := normZ_ok h
  rw [Int.pow_add] at h2
  exact ⟨h1, h2⟩
theorem addD_is {a b x : Dc} (hx : Ok x) (h : x.z * (10 ^ a.s * 10 ^ b.s) = (a.z * 10 ^ b.s + b.z * 10 ^ a.s) * 10 ^ x.s) : addD a b = some x := normZ_is hx (by rw [Int.pow_add]; exact h)
theorem subD_is {a b x : Dc} (hx : Ok x) (h : x.z * (10 ^ a.s * 10 ^ b.s) = (a.z * 10 ^ b.s - b.z * 10 ^ a.s) * 10 ^ x.s) : subD a b = some x := normZ_is hx (by rw [Int.pow_add]; exact h)
theorem mulD_is {a b x : Dc} (hx : Ok x) (h : x.z * (10 ^ a.s * 10 ^ b.s) = a.z * b.z * 10 ^ x.s) : mulD a b = some x := normZ_is hx (by rw [Int.pow_add]; exact h)
theorem cancel {a b c : Int} (hc : 0 < c) (h : a * c = b * c) : a = b := Int.eq_of_mul_eq_mul_right (by omega) h
/-- The difference of a sum and the second is the first. -/
theorem sub_add {a b x : Dc} (ha : Ok a) (h : addD a b = some x) : subD x b = some a := by
  obtain ⟨_, h2⟩ := addD_ok h
  refine subD_is ha ?_
  grind
/-- A product with a sum is the sum of products. -/
theorem mul_add {a b c x l m n : Dc} (hx : addD a b = some x) (hl : mulD x c = some l) (hm : mulD a c = some m) (hn : mulD b c = some n) : addD m n = some l := by
  obtain ⟨_, x2⟩ := addD_ok hx
  obtain ⟨l1, l2⟩ := mulD_ok hl
  obtain ⟨_, m2⟩ := mulD_ok hm
  obtain ⟨_, n2⟩ := mulD_ok hn
  refine addD_is l1 ?_
  have pa := p10 a.s; have pb := p10 b.s; have pc := p10 c.s; have px := p10 x.s
  generalize (10 : Int) ^ a.s = A at *
  generalize (10 : Int) ^ b.s = B at *
  generalize (10 : Int) ^ c.s = C at *
  generalize (10 : Int) ^ x.s = X at *
  generalize (10 : Int) ^ l.s = L at *
  generalize (10 : Int) ^ m.s = M at *
  generalize (10 : Int) ^ n.s = N at *
  refine cancel (c := A * C * B * C * X) (Int.mul_pos (Int.mul_pos (Int.mul_pos (Int.mul_pos pa pc) pb) pc) px) ?_
  grind
theorem sgn_cases (x : Int) : (x < 0 ∧ sgn x = -1) ∨ (x = 0 ∧ sgn x = 0) ∨ (0 < x ∧ sgn x = 1) := by
  unfold sgn
  rcases Int.lt_trichotomy x 0 with h | h | h
  · left; exact ⟨h, if_pos h⟩
  · right; left; exact ⟨h, by rw [if_neg (by omega), if_neg (by omega)]⟩
  · right; right; exact ⟨h, by rw [if_neg (by omega), if_pos h]⟩
theorem sgn_neg (x : Int) : sgn (-x) = - sgn x := by
  rcases sgn_cases x with ⟨h, e⟩ | ⟨h, e⟩ | ⟨h, e⟩ <;> rcases sgn_cases (-x) with ⟨h2, e2⟩ | ⟨h2, e2⟩ | ⟨h2, e2⟩ <;> omega
theorem sgn_mul {x c : Int} (hc : 0 < c) : sgn (x * c) = sgn x := by
  rcases sgn_cases x with ⟨h, e⟩ | ⟨h, e⟩ | ⟨h, e⟩
  · rw [e]; exact if_pos (Int.mul_neg_of_neg_of_pos h hc)
  · rw [h, Int.zero_mul]
  · have := Int.mul_pos h hc
    rw [e]; unfold sgn; rw [if_neg (by omega), if_pos this]
theorem cmpD_swap (a b : Dc) : cmpD a b = - cmpD b a := by
  unfold cmpD
  rw [← sgn_neg]
  congr 1
  omega
theorem cmpD_zero {a b : Dc} (ha : Ok a) (hb : Ok b) : cmpD a b = 0 ↔ a = b := by
  unfold cmpD
  constructor
  · intro h
    rcases sgn_cases (a.z * 10 ^ b.s - b.z * 10 ^ a.s) with ⟨_, e⟩ | ⟨h2, _⟩ | ⟨_, e⟩
    · omega
    · exact Dc.inj ha hb (by omega)
    · omega
  · rintro rfl
    rw [Int.sub_self]
    rfl
def zeroD : Dc := ⟨false, 0, 0⟩
theorem ok_zero : Ok zeroD := ⟨by decide, Nat.zero_le _, fun _ => ⟨rfl, rfl⟩, .inl rfl⟩
/-- The order goes with the difference. -/
theorem cmp_sub {a b d : Dc} (h : subD a b = some d) : cmpD d zeroD = cmpD a b := by
  obtain ⟨_, h2⟩ := subD_ok h
  unfold cmpD zeroD
  have e : (⟨false, 0, 0⟩ : Dc).z = 0 := rfl
  rw [e]
  simp only [Int.pow_zero, Int.mul_one, Int.zero_mul, Int.sub_zero]
  have pa := p10 a.s; have pb := p10 b.s; have pd := p10 d.s
  rw [← sgn_mul (x := d.z) (Int.mul_pos pa pb), h2, sgn_mul pd]
theorem cmpD_le_trans {a b c : Dc} (h1 : cmpD a b ≤ 0) (h2 : cmpD b c ≤ 0) : cmpD a c ≤ 0 := by
  unfold cmpD at *
  have pa := p10 a.s; have pb := p10 b.s; have pc := p10 c.s
  have le : ∀ x : Int, sgn x ≤ 0 ↔ x ≤ 0 := fun x => by rcases sgn_cases x with ⟨h, e⟩ | ⟨h, e⟩ | ⟨h, e⟩ <;> omega
  rw [le] at *
  generalize (10 : Int) ^ a.s = A at *
  generalize (10 : Int) ^ b.s = B at *
  generalize (10 : Int) ^ c.s = C at *
  have e1 : (a.z * B - b.z * A) * C ≤ 0 := by
    have := Int.mul_le_mul_of_nonneg_right h1 (Int.le_of_lt pc)
    simpa using this
  have e2 : (b.z * C - c.z * B) * A ≤ 0 := by
    have := Int.mul_le_mul_of_nonneg_right h2 (Int.le_of_lt pa)
    simpa using this
  have e3 : (a.z * C - c.z * A) * B ≤ 0 := by
    have : (a.z * C - c.z * A) * B = (a.z * B - b.z * A) * C + (b.z * C - c.z * B) * A := by grind
    omega
  rcases Int.lt_or_le 0 (a.z * C - c.z * A) with h | h
  · have := Int.mul_pos h pb; omega
  · exact h
/-- What may be refused, and what not. -/
theorem mulD_one {d one : Dc} (hd : Ok d) (h1 : one.z = 1) (h2 : one.s = 0) : mulD d one = some d := by
  refine mulD_is hd ?_
  rw [h1, h2]
  simp
theorem mulD_zero {d zero : Dc} (h1 : zero.z = 0) : mulD d zero = some zeroD := by
  refine mulD_is ok_zero ?_
  have e : zeroD.z = 0 := rfl
  rw [h1, e]
  simp
/-- A tenth of ten times as much. -/
theorem mul_tenth {d ten tenth x : Dc} (hd : Ok d) (h1 : ten.z = 10) (h2 : ten.s = 0) (h3 : tenth.z = 1) (h4 : tenth.s = 1) (h : mulD d ten = some x) : mulD x tenth = some d := by
  obtain ⟨_, e⟩ := mulD_ok h
  refine mulD_is hd ?_
  rw [h1, h2] at e
  rw [h3, h4]
  simp only [Int.pow_zero, Int.mul_one, Int.pow_one] at *
  grind
theorem tenth_mul {d ten tenth x : Dc} (hd : Ok d) (h1 : ten.z = 10) (h2 : ten.s = 0) (h3 : tenth.z = 1) (h4 : tenth.s = 1) (h : mulD d tenth = some x) : mulD x ten = some d ∧ cmpD x zeroD = cmpD d zeroD := by
  obtain ⟨_, e⟩ := mulD_ok h
  rw [h3, h4] at e
  simp only [Int.pow_one, Int.mul_one] at e
  refine ⟨?_, ?_⟩
  · refine mulD_is hd ?_
    rw [h1, h2]
    simp only [Int.pow_zero, Int.mul_one] at *
    grind
  · unfold cmpD
    have e0 : zeroD.z = 0 := rfl
    have e1 : zeroD.s = 0 := rfl
    rw [e0, e1]
    simp only [Int.pow_zero, Int.mul_one, Int.zero_mul, Int.sub_zero]
    have pd := p10 d.s; have px := p10 x.s
    rw [← sgn_mul (x := x.z) (Int.mul_pos pd (show (0 : Int) < 10 by decide)), e, sgn_mul px]
end Go.Proofs.YtpeldjihalldkaaDoor

/- Plain: decimals written, and read. No program in sight. -/
namespace Go.Proofs.YtpeldjihalldkaaDoor

/-- A number's digits; of nought: one. -/
def dtxt (n : Nat) : List UInt8 := if n = 0 then [48] else dstr n
def isDig (c : UInt8) : Bool := decide (Dig c)
def lead (l : List UInt8) : List UInt8 := l.takeWhile isDig
def rest (l : List UInt8) : List UInt8 := l.dropWhile isDig
/-- What stands behind e. -/
def expoS (l : List UInt8) : Option Int :=
  if rest l ≠ [] ∨ (lead l).length < 1 ∨ 2 < (lead l).length then none else some (val (lead l) : Int)
def expoL : List UInt8 → Option Int
  | [] => some 0
  | c :: t => if c ≠ 101 ∧ c ≠ 69 then none else
    match t with
    | 45 :: u => (expoS u).map (fun x => -x)
    | 43 :: u => expoS u
    | _ => expoS t
/-- The digits ahead of the point and behind it, and what follows. -/
def partL (l : List UInt8) : Option (List UInt8 × List UInt8) :=
  match l with
  | 46 :: t => if lead t = [] then none else some (lead t, rest t)
  | _ => some ([], l)
def plainN (l : List UInt8) : Option (Nat × Nat) :=
  match partL (rest l) with
  | none => none
  | some (p, r) => match expoL r with
    | none => none
    | some up => if lead l = [] ∨ (1 < (lead l).length ∧ (lead l).head? = some 48) then none else
      if (p.length : Int) - up < 0 then some (val (lead l ++ p) * 10 ^ (up - p.length).toNat, 0) else some (val (lead l ++ p), ((p.length : Int) - up).toNat)
def signL (l : List UInt8) : Bool × List UInt8 :=
  match l with
  | 45 :: t => (true, t)
  | _ => (false, l)
/-- What a text is: nothing that may be read; or what it is read as, if that is not too big. -/
def parseL (l : List UInt8) : Option (Option Dc) := (plainN (signL l).2).map fun x => norm (signL l).1 x.1 x.2
/-- A decimal's text. -/
def padL (d : Dc) : List UInt8 := List.replicate (d.s + 1 - (dtxt d.n).length) 48 ++ dtxt d.n
def bareL (d : Dc) : List UInt8 := if d.s = 0 then padL d else (padL d).take ((padL d).length - d.s) ++ 46 :: (padL d).drop ((padL d).length - d.s)
def printL (d : Dc) : List UInt8 := (if d.neg then [45] else []) ++ bareL d

theorem digs_dtxt (n : Nat) : Digs (dtxt n) := by
  unfold dtxt
  split
  · intro c h; rw [List.mem_singleton.1 h]; decide
  · exact digs_dstr n
theorem val_dtxt (n : Nat) : val (dtxt n) = n := by
  unfold dtxt
  split
  · rename_i h; rw [h]; rfl
  · exact val_dstr n
theorem length_dtxt (n : Nat) : 1 ≤ (dtxt n).length := by
  unfold dtxt
  split
  · exact Nat.le_refl _
  · rename_i h
    rcases Nat.eq_zero_or_pos (dstr n).length with h0 | h0
    · exact absurd (dstr_nil.1 (List.eq_nil_of_length_eq_zero h0)) h
    · exact h0
theorem dtxt_head (n : Nat) (h : 1 < (dtxt n).length) : (dtxt n).head? ≠ some 48 := by
  unfold dtxt at h ⊢
  split
  · rename_i h0; rw [if_pos h0] at h; simp at h
  · rename_i h0
    obtain ⟨c, t, e, hc⟩ := dstr_head n h0
    rw [e]
    intro h2
    injection h2 with h2
    exact hc h2
theorem dtxt_inj {a b : Nat} (h : dtxt a = dtxt b) : a = b := by
  have := congrArg val h
  rwa [val_dtxt, val_dtxt] at this
theorem length_dtxt_le {n k : Nat} (h : n < 10 ^ k) (hk : 1 ≤ k) : (dtxt n).length ≤ k := by
  unfold dtxt
  split
  · exact hk
  · exact length_dstr_le h
theorem isDig_iff (c : UInt8) : isDig c = true ↔ Dig c := decide_eq_true_iff
theorem lead_rest (l : List UInt8) : lead l ++ rest l = l := List.takeWhile_append_dropWhile
theorem digs_lead (l : List UInt8) : Digs (lead l) := by
  intro c hc
  unfold lead at hc
  have : ∀ m : List UInt8, c ∈ m.takeWhile isDig → isDig c = true := by
    intro m
    induction m with
    | nil => intro h; cases h
    | cons a m ih =>
      intro h
      by_cases ha : isDig a = true
      · rw [List.takeWhile_cons_of_pos ha] at h
        rcases List.mem_cons.1 h with rfl | h
        · exact ha
        · exact ih h
      · rw [List.takeWhile_cons_of_neg ha] at h
        cases h
  exact (isDig_iff c).1 (this l hc)
theorem lead_append {a : List UInt8} (ha : Digs a) (b : List UInt8) : lead (a ++ b) = a ++ lead b ∧ rest (a ++ b) = rest b := by
  induction a with
  | nil => exact ⟨rfl, rfl⟩
  | cons c a ih =>
    have hc : isDig c = true := (isDig_iff c).2 (ha c (by simp))
    obtain ⟨i1, i2⟩ := ih (fun x hx => ha x (by simp [hx]))
    unfold lead rest at *
    rw [List.cons_append, List.takeWhile_cons_of_pos hc, List.dropWhile_cons_of_pos hc, i1, i2]
    exact ⟨rfl, rfl⟩
theorem lead_stop {c : UInt8} (hc : ¬ Dig c) (t : List UInt8) : lead (c :: t) = [] ∧ rest (c :: t) = c :: t := by
  have : ¬ isDig c = true := fun h => hc ((isDig_iff c).1 h)
  unfold lead rest
  rw [List.takeWhile_cons_of_neg this, List.dropWhile_cons_of_neg this]
  exact ⟨rfl, rfl⟩
theorem lead_all {a : List UInt8} (ha : Digs a) : lead a = a ∧ rest a = [] := by
  have := lead_append ha []
  rw [List.append_nil] at this
  rw [this.1, this.2]
  exact ⟨List.append_nil _, rfl⟩
/-- A text of digits, a point, digits, and an end that begins with no digit and no point. -/
theorem plain_form {W P E : List UInt8} (hW : Digs W) (hP : Digs P) (hne : W ≠ []) (hh : 1 < W.length → W.head? ≠ some 48) (hE : lead E = []) (hE2 : ∀ t, E ≠ 46 :: t) (up : Int) (hup : expoL E = some up) :
    plainN (W ++ ((if P = [] then [] else 46 :: P) ++ E)) = if (P.length : Int) - up < 0 then some (val (W ++ P) * 10 ^ (up - P.length).toNat, 0) else some (val (W ++ P), ((P.length : Int) - up).toNat) := by
  have hrE : rest E = E := by have := lead_rest E; rw [hE] at this; exact this
  have hw : ¬ (W = [] ∨ (1 < W.length ∧ W.head? = some 48)) := by
    rintro (h | ⟨h1, h2⟩)
    · exact hne h
    · exact hh h1 h2
  by_cases hp : P = []
  · subst hp
    simp only [if_pos, List.nil_append]
    obtain ⟨e1, e2⟩ := lead_append hW E
    unfold plainN
    rw [e1, e2, hE, hrE, List.append_nil]
    have e3 : partL E = some ([], E) := by
      unfold partL
      split
      · rename_i t _ ; exact absurd rfl (hE2 _)
      · rfl
    rw [e3]
    simp only [hup, if_neg hw, List.append_nil]
  · simp only [if_neg hp]
    obtain ⟨e1, e2⟩ := lead_append hW (46 :: P ++ E)
    obtain ⟨s1, s2⟩ := lead_stop (c := 46) (by decide) (P ++ E)
    obtain ⟨p1, p2⟩ := lead_append hP E
    unfold plainN
    rw [e1, e2]
    simp only [List.cons_append, s1, s2, List.append_nil]
    have e3 : partL (46 :: (P ++ E)) = some (P, E) := by
      show (if lead (P ++ E) = [] then none else some (lead (P ++ E), rest (P ++ E))) = _
      rw [p1, p2, hE, hrE, List.append_nil, if_neg hp]
    rw [e3]
    simp only [hup, if_neg hw]
theorem padL_ok (d : Dc) : Digs (padL d) ∧ val (padL d) = d.n ∧ d.s + 1 ≤ (padL d).length := by
  unfold padL
  refine ⟨(Digs.zeros _).append (digs_dtxt _), ?_, ?_⟩
  · rw [val_append, val_zeros, val_dtxt]; simp
  · rw [List.length_append, List.length_replicate]; omega
/-- A decimal's text: digits, and behind a point as many as it says. -/
theorem bare_form (d : Dc) : ∃ W P, Digs W ∧ Digs P ∧ W ≠ [] ∧ (1 < W.length → W.head? ≠ some 48) ∧ P.length = d.s ∧ val (W ++ P) = d.n ∧ bareL d = W ++ (if P = [] then [] else 46 :: P) := by
  obtain ⟨h1, h2, h3⟩ := padL_ok d
  refine ⟨(padL d).take ((padL d).length - d.s), (padL d).drop ((padL d).length - d.s), h1.take _, h1.drop _, ?_, ?_, ?_, ?_, ?_⟩
  · intro e
    have := congrArg List.length e
    rw [List.length_take] at this
    simp at this
    omega
  · intro hlt
    rw [List.length_take] at hlt
    have hrep : d.s + 1 - (dtxt d.n).length = 0 := by
      have : (padL d).length = (d.s + 1 - (dtxt d.n).length) + (dtxt d.n).length := by unfold padL; rw [List.length_append, List.length_replicate]
      omega
    have hpad : padL d = dtxt d.n := by unfold padL; rw [hrep]; rfl
    rw [hpad] at hlt ⊢
    have hl := dtxt_head d.n (by omega)
    rw [List.head?_take, if_neg (by omega)]
    exact hl
  · rw [List.length_drop]; omega
  · rw [List.take_append_drop]; exact h2
  · unfold bareL
    by_cases hs : d.s = 0
    · rw [if_pos hs, hs]
      have e : (padL d).drop ((padL d).length - 0) = [] := by rw [Nat.sub_zero, List.drop_length]
      rw [e, if_pos rfl, List.append_nil, Nat.sub_zero, List.take_length]
    · rw [if_neg hs, if_neg]
      intro e
      have := congrArg List.length e
      rw [List.length_drop] at this
      simp at this
      omega
theorem sign_print (d : Dc) (E : List UInt8) : signL (printL d ++ E) = (d.neg, bareL d ++ E) := by
  unfold printL
  cases hn : d.neg with
  | true => rfl
  | false =>
    obtain ⟨W, P, hW, _, hne, _, _, _, e⟩ := bare_form d
    obtain ⟨c, t, rfl⟩ := List.exists_cons_of_ne_nil hne
    have hc := hW c (by simp)
    rw [e]
    unfold signL
    simp only [Bool.false_eq_true, if_false, List.nil_append, List.cons_append]
    split
    · rename_i h
      injection h with h
      subst h
      exact absurd hc (by decide)
    · rfl
/-- A decimal's text with an end behind it. -/
theorem parse_print (d : Dc) (E : List UInt8) (hE : lead E = []) (hE2 : ∀ t, E ≠ 46 :: t) (up : Int) (hup : expoL E = some up) :
    parseL (printL d ++ E) = some (if (d.s : Int) - up < 0 then norm d.neg (d.n * 10 ^ (up - d.s).toNat) 0 else norm d.neg d.n ((d.s : Int) - up).toNat) := by
  unfold parseL
  rw [sign_print]
  obtain ⟨W, P, hW, hP, hne, hh, hl, hv, e⟩ := bare_form d
  rw [e]
  simp only
  rw [List.append_assoc, plain_form hW hP hne hh hE hE2 up hup, hl, hv]
  split <;> rfl
/-- What was printed is parsed as it was. -/
theorem parse_back {d : Dc} (h : Ok d) : parseL (printL d) = some (some d) := by
  have := parse_print d [] rfl (by simp) 0 rfl
  rw [List.append_nil] at this
  rw [this, if_neg (by omega)]
  have e := normZ_self h
  obtain ⟨e1, e2⟩ := z_neg h
  unfold normZ at e
  rw [e1, e2] at e
  rw [← e]
  congr 2
theorem parse_ok {l : List UInt8} {d : Dc} (h : parseL l = some (some d)) : Ok d := by
  unfold parseL at h
  cases hp : plainN (signL l).2 with
  | none => rw [hp] at h; cases h
  | some x =>
    rw [hp] at h
    injection h with h
    exact (norm_ok h).1
/-- A decimal's text is as long as it says. -/
theorem print_form (d : Dc) : ∃ W P, Digs W ∧ Digs P ∧ W ≠ [] ∧ P.length = d.s ∧ printL d = (if d.neg then [45] else []) ++ (W ++ (if P = [] then [] else 46 :: P)) := by
  obtain ⟨W, P, h1, h2, h3, _, h4, _, h5⟩ := bare_form d
  exact ⟨W, P, h1, h2, h3, h4, by unfold printL; rw [h5]⟩

/-- A whole number. -/
def intD (x : Int) : Dc := ⟨decide (x < 0), x.natAbs, 0⟩
theorem z_int (x : Int) : (intD x).z = x := by
  unfold intD Dc.z
  dsimp only
  by_cases h : x < 0
  · rw [decide_eq_true h, if_pos rfl]; omega
  · rw [decide_eq_false h, if_neg (by simp)]; omega
theorem ok_int {x : Int} (h : x.natAbs < topN) : Ok (intD x) :=
  ⟨h, Nat.zero_le _, fun h0 => ⟨rfl, decide_eq_false (by have : x.natAbs = 0 := h0; omega)⟩, .inl rfl⟩
theorem norm_int {x : Int} (h : x.natAbs < topN) : norm (decide (x < 0)) x.natAbs 0 = some (intD x) := by
  have := normZ_self (ok_int h)
  rw [z_int] at this
  exact this
theorem norm_zero_neg (neg : Bool) (s : Nat) : norm neg 0 s = some zeroD := by unfold norm; rw [if_pos rfl]; rfl
theorem add_int {x y : Int} (h : (x + y).natAbs < topN) : addD (intD x) (intD y) = some (intD (x + y)) := by
  refine addD_is (ok_int h) ?_
  rw [z_int, z_int, z_int]
  have e : ∀ v, (intD v).s = 0 := fun _ => rfl
  simp only [e]
  simp
theorem sub_int {x y : Int} (h : (x - y).natAbs < topN) : subD (intD x) (intD y) = some (intD (x - y)) := by
  refine subD_is (ok_int h) ?_
  rw [z_int, z_int, z_int]
  have e : ∀ v, (intD v).s = 0 := fun _ => rfl
  simp only [e]
  simp
theorem mul_int {x y : Int} (h : (x * y).natAbs < topN) : mulD (intD x) (intD y) = some (intD (x * y)) := by
  refine mulD_is (ok_int h) ?_
  rw [z_int, z_int, z_int]
  have e : ∀ v, (intD v).s = 0 := fun _ => rfl
  simp only [e]
  simp
theorem cmp_int (x y : Int) : cmpD (intD x) (intD y) = sgn (x - y) := by
  unfold cmpD
  rw [z_int, z_int]
  have e : ∀ v, (intD v).s = 0 := fun _ => rfl
  simp only [e]
  simp
/-- To multiply by ten again and again. -/
def tens (d : Dc) : Nat → Option Dc
  | 0 => some d
  | k + 1 => (tens d k).bind fun x => mulD x (intD 10)
theorem norm_none_more {z : Int} {s : Nat} (hs : s ≤ 60) (h : normZ z s = none) : normZ (z * 10) s = none := by
  unfold normZ norm at *
  have hz : z.natAbs ≠ 0 := by
    intro h0
    rw [if_pos h0] at h
    cases h
  have hz2 : (z * 10).natAbs ≠ 0 := by omega
  rw [if_neg hz] at h
  rw [if_neg hz2]
  have hle : ∀ t n : Nat, (redN n t).2 ≤ t := fun t n => by
    obtain ⟨k, _, h2⟩ := redN_val t n
    omega
  have h1 : topN ≤ (redN z.natAbs s).1 := by
    by_cases h2 : topN ≤ (redN z.natAbs s).1 ∨ 60 < (redN z.natAbs s).2
    · rcases h2 with h2 | h2
      · exact h2
      · have := hle s z.natAbs; omega
    · rw [if_neg h2] at h; cases h
  have e : (z * 10).natAbs = z.natAbs * 10 := by omega
  suffices h9 : topN ≤ (redN (z * 10).natAbs s).1 by rw [if_pos (.inl h9)]
  rw [e]
  cases s with
  | zero => show topN ≤ z.natAbs * 10; have : topN ≤ z.natAbs := h1; omega
  | succ s =>
    rw [redN_ten hz]
    have : ∀ t n, (redN n (t + 1)).1 ≤ (redN n t).1 := by
      intro t
      induction t with
      | zero => intro n; unfold redN; split <;> (simp only [redN]; omega)
      | succ t ih =>
        intro n
        by_cases hc : n ≠ 0 ∧ n % 10 = 0
        · have e1 : redN n (t + 1 + 1) = redN (n / 10) (t + 1) := if_pos hc
          have e2 : redN n (t + 1) = redN (n / 10) t := if_pos hc
          rw [e1, e2]
          exact ih _
        · have e1 : redN n (t + 1 + 1) = (n, t + 1 + 1) := if_neg hc
          have e2 : redN n (t + 1) = (n, t + 1) := if_neg hc
          rw [e1, e2]
          exact Nat.le_refl _
    exact Nat.le_trans h1 (this s _)
theorem tens_norm {d : Dc} (hd : Ok d) : ∀ k, tens d k = normZ (d.z * 10 ^ k) d.s
  | 0 => by simp only [tens, Int.pow_zero, Int.mul_one]; exact (normZ_self hd).symm
  | k + 1 => by
    unfold tens
    rw [tens_norm hd k]
    cases h : normZ (d.z * 10 ^ k) d.s with
    | none =>
      rw [Int.pow_succ, ← Int.mul_assoc, norm_none_more hd.2.1 h]
      rfl
    | some x =>
      obtain ⟨h1, h2⟩ := normZ_ok h
      show mulD x (intD 10) = _
      unfold mulD
      rw [z_int]
      have e : (intD 10).s = 0 := rfl
      rw [e, Nat.add_zero]
      refine normZ_eq ?_
      rw [Int.pow_succ]
      grind
/-- With an exponent behind it a decimal is parsed as it is multiplied. -/
theorem parse_expo {d : Dc} (hd : Ok d) (k : Nat) (hk : k < 10) : parseL (printL d ++ [101, UInt8.ofNat (48 + k)]) = some (tens d k) := by
  have hdg : UInt8.ofNat (48 + k) = dg k := by unfold dg; rw [Nat.mod_eq_of_lt hk]
  have hup : expoL [101, UInt8.ofNat (48 + k)] = some (k : Int) := by
    rw [hdg]
    have hD := dg_dig k
    have hl : lead [dg k] = [dg k] ∧ rest [dg k] = [] := lead_all (fun c h => by rw [List.mem_singleton.1 h]; exact hD)
    have hes : expoS [dg k] = some (k : Int) := by
      unfold expoS
      rw [hl.1, hl.2, if_neg (by simp)]
      have : val [dg k] = k := by
        have := val_snoc [] (dg k)
        rw [List.nil_append] at this
        rw [this, dg_toNat]
        simp [val]
        omega
      rw [this]
    unfold Dig at hD
    have h45 : dg k ≠ 45 := by intro e; rw [e] at hD; revert hD; decide
    have h43 : dg k ≠ 43 := by intro e; rw [e] at hD; revert hD; decide
    unfold expoL
    simp only
    rw [if_neg (by decide)]
    split
    · rename_i h; injection h with h; exact absurd h h45
    · rename_i h; injection h with h; exact absurd h h43
    · exact hes
  rw [parse_print d _ (lead_stop (by decide) _).1 (fun t h => by injection h with h; revert h; decide) k hup, tens_norm hd]
  congr 1
  obtain ⟨e1, e2⟩ := z_neg hd
  have key : ∀ n s : Nat, (n : Nat) * 10 ^ s = n * 10 ^ s := fun _ _ => rfl
  have ez : normZ (d.z * 10 ^ k) d.s = norm d.neg (d.n * 10 ^ k) d.s := by
    unfold normZ
    have a1 : decide (d.z * 10 ^ k < 0) = d.neg := by
      rw [← e1, decide_eq_decide]
      have := p10 k
      constructor
      · intro h
        rcases Int.lt_or_le d.z 0 with h2 | h2
        · exact h2
        · have := Int.mul_nonneg h2 (Int.le_of_lt this); omega
      · intro h
        exact Int.mul_neg_of_neg_of_pos h this
    have a2 : (d.z * 10 ^ k).natAbs = d.n * 10 ^ k := by
      rw [Int.natAbs_mul, Int.natAbs_pow, e2]
      rfl
    rw [a1, a2]
  rw [ez]
  by_cases h : (d.s : Int) - (k : Int) < 0
  · rw [if_pos h]
    have e3 : ((k : Int) - (d.s : Int)).toNat = k - d.s := by omega
    have e4 : d.n * 10 ^ k = d.n * 10 ^ (k - d.s) * 10 ^ d.s := by
      rw [Nat.mul_assoc, ← Nat.pow_add]
      congr 2
      omega
    have := norm_pow d.neg (d.n * 10 ^ (k - d.s)) 0 d.s
    rw [Nat.zero_add] at this
    rw [e3, e4, this]
  · rw [if_neg h]
    have e3 : ((d.s : Int) - (k : Int)).toNat = d.s - k := by omega
    have := norm_pow d.neg d.n (d.s - k) k
    have e4 : d.s - k + k = d.s := by omega
    rw [e4] at this
    rw [e3, this]
end Go.Proofs.YtpeldjihalldkaaDoor

/- Trees, what is shown of them, which look the same. Plain. -/
namespace Go.Proofs.YtpeldjihalldkaaDoor
open Go Go.Lib

deriving instance DecidableEq for Dc
abbrev Txt := List UInt8
inductive Vl where
  | mk (kind mask : Nat) (num : Option Dc) (text : Txt) (keys : List Txt) (kids : List Vl) (code : Nat)
def hidB (m cl : Nat) : Bool := !decide (m ||| cl = cl)
/-- Texts with commas between. -/
def joinC : List Txt → Txt
  | [] => []
  | [x] => x
  | x :: y :: r => x ++ 44 :: joinC (y :: r)
/-- The text of one that has no kids. -/
def atomL (k : Nat) (num : Option Dc) (t : Txt) (code : Nat) : Txt :=
  match k with
  | 1 => [110, 117, 108, 108]
  | 2 => [102, 97, 108, 115, 101]
  | 3 => [116, 114, 117, 101]
  | 4 => (match num with
    | some d => printL d
    | none => [])
  | 5 => quoteL t
  | _ => 33 :: Go.Lib.decDigits code
mutual
def showL (cl : Nat) (hole : Txt) : Vl → Txt
  | .mk k m num t keys kids code =>
    if hidB m cl then hole else if k = 7 then 123 :: (joinC (kidsO cl hole keys kids) ++ [125]) else if k = 6 then 91 :: (joinC (kidsL cl hole kids) ++ [93]) else atomL k num t code
def kidsL (cl : Nat) (hole : Txt) : List Vl → List Txt
  | [] => []
  | v :: r => showL cl hole v :: kidsL cl hole r
def kidsO (cl : Nat) (hole : Txt) : List Txt → List Vl → List Txt
  | _, [] => []
  | keys, v :: r => (quoteL (keys.headD []) ++ 58 :: showL cl hole v) :: kidsO cl hole keys.tail r
end
mutual
def sizeV : Vl → Nat
  | .mk _ _ _ _ _ kids _ => 1 + sizes kids
def sizes : List Vl → Nat
  | [] => 0
  | v :: r => sizeV v + sizes r
end
mutual
def alikeL (cl : Nat) : Vl → Vl → Bool
  | .mk k m num t keys kids code, .mk k' m' num' t' keys' kids' code' =>
    if hidB m cl || hidB m' cl then hidB m cl && hidB m' cl
    else decide (k = k' ∧ m = m' ∧ num = num' ∧ t = t' ∧ code = code' ∧ keys = keys') && alikes cl kids kids'
def alikes (cl : Nat) : List Vl → List Vl → Bool
  | [], [] => true
  | v :: r, v' :: r' => alikeL cl v v' && alikes cl r r'
  | [], _ :: _ => false
  | _ :: _, [] => false
end
/-- What may be in a tree. -/
inductive FineV : Vl → Prop where
  | mk (k m : Nat) (num : Option Dc) (t : Txt) (keys : List Txt) (kids : List Vl) (code : Nat) (hk : 1 ≤ k ∧ k ≤ 8) (hm : m < 18446744073709551616)
      (hn : k = 4 → ∃ d, num = some d ∧ Ok d) (hn0 : k ≠ 4 → num = none) (ht : t.length ≤ 100 ∧ validD t = true) (ht0 : k ≠ 5 → t = [])
      (hkl : k = 7 → keys.length = kids.length) (hk0 : k ≠ 7 → keys = []) (hks : ∀ x ∈ keys, x.length ≤ 100 ∧ validD x = true) (hkd : keys.Nodup)
      (hc : k ≠ 6 → k ≠ 7 → kids = []) (hcode : code < 100) (hc0 : k ≠ 8 → code = 0) (hc8 : k = 8 → code ≠ 0) (hmany : kids.length ≤ 10)
      (hf : ∀ (i : Nat) v, kids[i]? = some v → FineV v) : FineV (.mk k m num t keys kids code)
end Go.Proofs.YtpeldjihalldkaaDoor

