/- Plain words for memory, no program in sight: a block known whole, cells that read as a list, what a call keeps. -/
import Derived.WalkKit
import Derived.Below
import Derived.Laws.OwnMore
import Derived.Laws.CopyOwn
import Derived.Deep.QuietTactic
import Derived.BigQuiet
import Derived.Deep.RegionHeld3
import Derived.Maps.AppendAt
import Derived.Lib.SlBytesConst
import Derived.Handy
import Derived.Deep.AppendLies
import Derived.Deep.Draws
import Derived.Laws.Rows
import Derived.WalkSpells
import Derived.WalkLawsBesides
import Derived.Test.YtampgimmodomoaaDoorChecked
import Derived.Lib.ConvBytes
import Derived.Lib.AppendStr
namespace Go.Proofs.YtampgimmodomoaaDoor
open Go Go.RowKit

theorem hid {p : Prop} (h : p) : Hid p := h
/-- Block g is just these cells of element type t, none frozen. -/
def Cells (w : World) (g : Nat) (t : TypeId) (cs : List Value) : Prop := w.heap[g]? = some (.cells cs.toArray t (0, 0))
/-- From address A on lie these cells (nothing is said of A if there are none). -/
def Span (w : World) (A : Option Addr) (xs : List Value) : Prop := ∀ j u, xs[j]? = some u → ∃ ad, A = some ad ∧ w.cell? (ad.add j) = some u
/-- A call keeps all blocks that were there but those of S, and the streams. -/
structure Kp (S : List Nat) (w w' : World) : Prop where
  os : w'.os = w.os
  tape : w'.tape = w.tape
  output : w'.output = w.output
  size : w.heap.size ≤ w'.heap.size
  block : ∀ k, k < w.heap.size → k ∉ S → w'.heap[k]? = w.heap[k]?

theorem add_block (a : Addr) (n : Nat) : (a.add n).block = a.block := by
  unfold Addr.add
  split <;> rfl
theorem add_add (a : Addr) (i j : Nat) : (a.add i).add j = a.add (i + j) := by
  rcases Nat.eq_zero_or_pos i with hi | hi
  · subst hi; simp [Addr.add]
  · rcases Nat.eq_zero_or_pos j with hj | hj
    · subst hj; simp [Addr.add]
    · simp [Addr.add, Nat.ne_of_gt hi, Nat.ne_of_gt hj, Nat.add_assoc]

section
variable {w w' w1 w2 : World} {S T : List Nat} {g : Nat} {t : TypeId} {cs xs : List Value} {A : Option Addr}

theorem Kp.refl (S : List Nat) (w : World) : Kp S w w := ⟨rfl, rfl, rfl, Nat.le_refl _, fun _ _ _ => rfl⟩
theorem Kp.trans (h : Kp S w w1) (k : Kp T w1 w2) (hT : ∀ x ∈ T, x < w.heap.size → x ∈ S) : Kp S w w2 :=
  ⟨k.os.trans h.os, k.tape.trans h.tape, k.output.trans h.output, Nat.le_trans h.size k.size,
   fun b hb hS => (k.block b (Nat.lt_of_lt_of_le hb h.size) (fun hm => hS (hT b hm hb))).trans (h.block b hb hS)⟩
theorem Kp.nil (h : Kp S w w1) (k : Kp [] w1 w2) : Kp S w w2 := h.trans k (by simp)
theorem Kp.fresh (h : Kp S w w1) (k : Kp [g] w1 w2) (hg : w.heap.size ≤ g) : Kp S w w2 := h.trans k (by intro x hx hl; simp at hx; omega)
theorem Kp.mono (h : Kp S w w1) (hS : ∀ x ∈ S, x ∈ T) : Kp T w w1 := ⟨h.os, h.tape, h.output, h.size, fun b hb hn => h.block b hb (fun hm => hn (hS b hm))⟩
theorem Kp.less (h : Kp T w w1) (hT : ∀ x ∈ T, x < w.heap.size → x ∈ S) : Kp S w w1 := (Kp.refl S w).trans h hT
theorem Kp.below (h : Kp [] w w1) : Below w.heap.size w w1 := ⟨h.os, h.tape, h.output, h.size, fun k hk => h.block k hk (by simp)⟩
theorem Kp.of_below (h : Below w.heap.size w w1) : Kp [] w w1 := ⟨h.os, h.tape, h.output, h.size, fun k hk _ => h.block k hk⟩
theorem Kp.of_grown {row : Option Nat} (h : w.grownBy w1 row) (hr : ∀ k, row = some k → k < w.heap.size → k ∈ S) : Kp S w w1 :=
  ⟨h.os, h.tape, h.output, h.size, fun k hk hS => h.block k hk (fun e => hS (hr k e.symm hk))⟩
theorem Kp.drew (h : Kp S w w1) : Kp S w w1.drew := ⟨h.os, h.tape, h.output, h.size, h.block⟩
theorem Kp.drewN (h : Kp S w w1) (n : Nat) : Kp S w (w1.drewN n) := ⟨h.os, h.tape, h.output, h.size, h.block⟩
theorem Kp.alloc (h : Kp S w w1) (o : Obj) : Kp S w (w1.alloc o) :=
  ⟨h.os, h.tape, h.output, by have := h.size; simp; omega, fun k hk hS => (Below.heap_alloc w1 o k (Nat.lt_of_lt_of_le hk h.size)).trans (h.block k hk hS)⟩
theorem Kp.setCell (h : Kp S w w1) {p : Addr} (hp : p.block < w.heap.size → p.block ∈ S) (u : Value) : Kp S w (w1.setCell p u) :=
  ⟨h.os, h.tape, h.output, by have := h.size; simp [World.setCell]; omega,
   fun k hk hS => (Below.heap_setCell w1 p u k (fun e => hS (by subst e; exact hp hk))).trans (h.block k hk hS)⟩
theorem Kp.cell (h : Kp S w w1) {p : Addr} {v : Value} (hc : w.cell? p = some v) (hp : p.block ∉ S) : w1.cell? p = some v :=
  (World.cell?_of_block (h.block _ (World.block_lt_of_cell? w p hc) hp)).trans hc

theorem Cells.lt (h : Cells w g t cs) : g < w.heap.size := by
  unfold Cells at h
  exact (Array.getElem?_eq_some_iff.1 h).1
theorem Cells.cell (h : Cells w g t cs) (i : Nat) : w.cell? ⟨g, i, none⟩ = cs[i]? := by
  unfold Cells at h
  simp [World.cell?, h]
theorem Cells.free (h : Cells w g t cs) (i : Nat) : w.frozen? ⟨g, i, none⟩ = false := by
  unfold Cells at h
  simp [World.frozen?, h]
theorem Cells.fresh (w : World) (t : TypeId) (cs : List Value) : Cells (w.alloc (.cells cs.toArray t)) w.heap.size t cs := heap_alloc_new w _
theorem Cells.fresh1 (w : World) (o : Obj) (t : TypeId) (cs : List Value) : Cells ((w.alloc o).alloc (.cells cs.toArray t)) (w.heap.size + 1) t cs := by
  have := Cells.fresh (w.alloc o) t cs
  simpa using this
theorem Cells.drew (h : Cells w g t cs) : Cells w.drew g t cs := h
theorem Cells.drewN (h : Cells w g t cs) (n : Nat) : Cells (w.drewN n) g t cs := h
theorem Cells.alloc (h : Cells w g t cs) (o : Obj) : Cells (w.alloc o) g t cs := (Below.heap_alloc w o g h.lt).trans h
theorem Cells.put (h : Cells w g t cs) (i : Nat) (u : Value) : Cells (w.setCell ⟨g, i, none⟩ u) g t (cs.set i u) := by
  unfold Cells at h ⊢
  simp [World.setCell, Array.getElem?_modify, h]
theorem Cells.other (h : Cells w g t cs) {p : Addr} (hp : g ≠ p.block) (u : Value) : Cells (w.setCell p u) g t cs := (Below.heap_setCell w p u g hp).trans h
theorem Cells.keep (h : Cells w g t cs) (k : Kp S w w1) (hg : g ∉ S) : Cells w1 g t cs := (k.block g h.lt hg).trans h
theorem Cells.ne {g' : Nat} {t' : TypeId} {cs' : List Value} (h : Cells w g t cs) (h' : Cells w g' t' cs') (hne : t ≠ t') : g ≠ g' := by
  rintro rfl
  unfold Cells at h h'
  rw [h] at h'
  injection h' with h'
  injection h' with _ ht
  exact hne ht

theorem Span.nil (w : World) (A : Option Addr) : Span w A [] := fun j u h => by simp at h
theorem Span.of_cells (h : Cells w g t cs) : Span w (some ⟨g, 0, none⟩) cs := fun j u hj => ⟨_, rfl, by
  have := h.cell j
  rw [hj] at this
  rcases Nat.eq_zero_or_pos j with h0 | h0
  · subst h0; simpa [Addr.add] using this
  · simpa [Addr.add, Nat.ne_of_gt h0] using this⟩
theorem Span.of_new (w : World) (t : TypeId) (fr : Nat × Nat) (cs : List Value) : Span (w.alloc (.cells cs.toArray t fr)) (some ⟨w.heap.size, 0, none⟩) cs := fun j u hj => ⟨_, rfl, by
  have hb : (w.alloc (.cells cs.toArray t fr)).heap[w.heap.size]? = some (.cells cs.toArray t fr) := heap_alloc_new w _
  rcases Nat.eq_zero_or_pos j with h0 | h0
  · subst h0
    simp only [Addr.add, if_pos, World.cell?]
    rw [hb]
    simpa using hj
  · simp only [Addr.add, if_neg (Nat.ne_of_gt h0), World.cell?]
    rw [hb]
    simpa using hj⟩
theorem Span.keep (h : Span w A xs) (k : Kp S w w1) (hA : ∀ ad, A = some ad → ad.block ∉ S) : Span w1 A xs := fun j u hj => by
  obtain ⟨ad, rfl, hc⟩ := h j u hj
  exact ⟨ad, rfl, k.cell hc (by rw [add_block]; exact hA ad rfl)⟩
theorem Span.kept (h : Span w A xs) (k : Kp [] w w1) : Span w1 A xs := h.keep k (by simp)
theorem Span.drew (h : Span w A xs) : Span w.drew A xs := h
theorem Span.alloc (h : Span w A xs) (o : Obj) : Span (w.alloc o) A xs := h.kept ((Kp.refl _ _).alloc o)
theorem Span.setCell (h : Span w A xs) {p : Addr} (hp : ∀ ad, A = some ad → ad.block ≠ p.block) (u : Value) : Span (w.setCell p u) A xs := fun j v hj => by
  obtain ⟨ad, rfl, hc⟩ := h j v hj
  exact ⟨ad, rfl, (World.cell?_of_block (Below.heap_setCell w p u _ (by rw [add_block]; exact hp ad rfl))).trans hc⟩
theorem Span.take (h : Span w A xs) (n : Nat) : Span w A (xs.take n) := fun j u hj => h j u (by
  rw [List.getElem?_take] at hj
  split at hj
  · exact hj
  · cases hj)
/-- A cut 's[k:]' as the model lays it: at the capacity's end the old address stands. -/
theorem Span.drop (h : Span w A xs) {k cap : Nat} (hc : xs.length ≤ cap) : Span w (if cap = k then A else A.map (·.add k)) (xs.drop k) := fun j u hj => by
  rw [List.getElem?_drop] at hj
  obtain ⟨ad, rfl, hcell⟩ := h _ u hj
  have hlt : k + j < xs.length := (List.getElem?_eq_some_iff.1 hj).1
  rw [if_neg (by omega)]
  exact ⟨ad.add k, rfl, by rw [add_add]; exact hcell⟩
/-- A cut 's[k:k+m]'. -/
theorem Span.sub (h : Span w A xs) (k m : Nat) : Span w (A.map (·.add k)) ((xs.drop k).take m) := Span.take (fun j u hj => by
  rw [List.getElem?_drop] at hj
  obtain ⟨ad, rfl, hcell⟩ := h _ u hj
  exact ⟨ad.add k, rfl, by rw [add_add]; exact hcell⟩) m
theorem Span.sub0 (h : Span w A xs) (m : Nat) (ys : List Value) (hy : ys = xs.take m) : Span w A ys := hy ▸ h.take m
theorem Span.old (h : Span w A xs) (hx : 0 < xs.length) : ∀ ad, A = some ad → ad.block < w.heap.size := by
  intro ad hA
  obtain ⟨ad', e, hc⟩ := h 0 _ (List.getElem?_eq_getElem hx)
  rw [hA] at e
  injection e with e
  subst e
  have := World.block_lt_of_cell? w _ hc
  rwa [add_block] at this
theorem Span.get (h : Span w A xs) {j : Nat} (hj : j < xs.length) : ∃ ad, A = some ad ∧ w.cell? (ad.add j) = some xs[j] := h j _ (List.getElem?_eq_getElem hj)
end

/-- A row of cells of the kind t: nil and empty, or a whole block. -/
def Row (w : World) (t : TypeId) (R : Option Addr) (cs : List Value) : Prop := (R = none ∧ cs = []) ∨ ∃ g, R = some ⟨g, 0, none⟩ ∧ Cells w g t cs
section
variable {w w' : World} {S : List Nat} {g : Nat} {t t' : TypeId} {cs cs' : List Value} {R : Option Addr}
theorem Cells.not (h : Cells w g t' cs') (hne : t' ≠ t) : ∀ cs, ¬ Cells w g t cs := fun _ h' => h'.ne h (Ne.symm hne) rfl
theorem Row.nil (w : World) (t : TypeId) : Row w t none [] := .inl ⟨rfl, rfl⟩
theorem Row.of_cells (h : Cells w g t cs) : Row w t (some ⟨g, 0, none⟩) cs := .inr ⟨g, rfl, h⟩
theorem Row.span (h : Row w t R cs) : Span w R cs := by
  rcases h with ⟨rfl, rfl⟩ | ⟨g, rfl, h⟩
  · exact Span.nil _ _
  · exact Span.of_cells h
theorem Row.keep (h : Row w t R cs) (k : Kp S w w') (hS : ∀ x ∈ S, ∀ cs, ¬ Cells w x t cs) : Row w' t R cs := by
  rcases h with ⟨rfl, rfl⟩ | ⟨g, rfl, h⟩
  · exact .inl ⟨rfl, rfl⟩
  · exact .inr ⟨g, rfl, h.keep k (fun hm => hS g hm _ h)⟩
theorem Row.kept (h : Row w t R cs) (k : Kp [] w w') : Row w' t R cs := h.keep k (by simp)
theorem Row.other (h : Row w t R cs) {p : Addr} (hp : ∀ cs, ¬ Cells w p.block t cs) (u : Value) : Row (w.setCell p u) t R cs := by
  rcases h with ⟨rfl, rfl⟩ | ⟨g, rfl, h⟩
  · exact .inl ⟨rfl, rfl⟩
  · exact .inr ⟨g, rfl, h.other (fun e => hp _ (e ▸ h)) u⟩
theorem Row.ne (h : Row w t R cs) (h' : ∀ cs, ¬ Cells w g t cs) : ∀ ad, R = some ad → ad.block ≠ g := by
  rcases h with ⟨rfl, rfl⟩ | ⟨g', rfl, h⟩
  · simp
  · intro ad e hb
    injection e with e
    subst e
    subst hb
    exact h' _ h
end

/-- Bytes as cells. -/
def u8 (c : UInt8) : Value := .int .u8 (c.toNat : Int)
def u8s (l : List UInt8) : List Value := l.map u8
theorem length_u8s (l : List UInt8) : (u8s l).length = l.length := by simp [u8s]
theorem u8s_append (l m : List UInt8) : u8s (l ++ m) = u8s l ++ u8s m := by simp [u8s]
theorem u8s_one (l : List UInt8) : ∀ u ∈ u8s l, u.oneCell' = true := by
  intro u hu
  obtain ⟨c, _, rfl⟩ := List.mem_map.1 hu
  rfl
theorem u8s_take (l : List UInt8) (n : Nat) : u8s (l.take n) = (u8s l).take n := by simp [u8s]
theorem u8s_drop (l : List UInt8) (n : Nat) : u8s (l.drop n) = (u8s l).drop n := by simp [u8s]
theorem u8s_get (l : List UInt8) (j : Nat) (h : j < l.length) : (u8s l)[j]? = some (.int .u8 (l[j].toNat : Int)) := by simp [u8s, u8, h]
end Go.Proofs.YtampgimmodomoaaDoor

/- Laws for the walk in those words: make, copy. Over any program. -/
namespace Go.Proofs.YtampgimmodomoaaDoor
open Go Go.RowKit

/-- min and max of two integers, as omega reads them (no parting of the walk). -/
@[go_sem high] theorem run_min_int {P : Program} (w : World) (ts : Array TypeId) (t : TypeId) (k k' : IntKind) (x y : Int) : (Builtin.min_ ts t #[.int k x, .int k' y]).run P w = .ok (.int k (min x y)) w := by
  rw [run_min_int2]
  congr 2
  split <;> omega
@[go_sem high] theorem run_max_int {P : Program} (w : World) (ts : Array TypeId) (t : TypeId) (k k' : IntKind) (x y : Int) : (Builtin.max_ ts t #[.int k x, .int k' y]).run P w = .ok (.int k (max x y)) w := by
  rw [run_max_int2]
  congr 2
  split <;> omega

theorem run_min2 {P : Program} (w : World) (k k' : IntKind) (x y : Int) : (Builtin.min2 (.int k x) (.int k' y)).run P w = .ok (.int k (min x y)) w := by
  simp only [Builtin.min2]
  simp
  split <;> omega
@[go_sem high] theorem run_min_int3 {P : Program} (w : World) (ts : Array TypeId) (t : TypeId) (k k' k2 : IntKind) (x y z : Int) : (Builtin.min_ ts t #[.int k x, .int k' y, .int k2 z]).run P w = .ok (.int k (min (min x y) z)) w := by
  simp [Builtin.min_, run_min2]
@[go_sem high] theorem run_min_int4 {P : Program} (w : World) (ts : Array TypeId) (t : TypeId) (k k' k2 k3 : IntKind) (x y z u : Int) : (Builtin.min_ ts t #[.int k x, .int k' y, .int k2 z, .int k3 u]).run P w = .ok (.int k (min (min (min x y) z) u)) w := by
  simp [Builtin.min_, run_min2]

theorem kp_setRow (w : World) (g : Nat) (cs : Array Value) : Kp [g] w (w.setRow g cs) :=
  ⟨rfl, rfl, rfl, by simp [World.setRow], fun k _ hS => setRow_other w g k cs (by intro e; exact hS (by simp [e]))⟩

/-- 'make([]T, n)', elements of one cell. -/
theorem wpList_make1 {P : Program} {w : World} {ops : Array Oper} {rest : List Oper} {o : Oper} {a : Act} {Q : Exit → Act → World → Prop}
    (hg : o.guard = none) (l c : Operand) (t : TypeId) (hop : o.op = Op.makeSlice t l c)
    (e : TypeId) (z : Value) (bytes : Nat) (h1 : P.underlying t = some (.slice e)) (h2 : (P.info? e).map (fun i => (i.zero, i.size, i.bytes)) = some (some z, 1, bytes)) (hz : z.cells = #[z])
    (kl kc : IntKind) (L C : Int) (n : Nat) (hl : a.eval l = .int kl L) (hc : a.eval c = .int kc C) (hL : L = (n : Int)) (hC : C = (n : Int)) (b2 : bytes * n ≤ 281474976710656) (b3 : n ≤ 9223372036854775807)
    (hK : ∀ w' Z, Hid (Z = List.replicate n z) → Cells w' w.heap.size e Z → Kp [] w w' → wpList P ops Q rest (a.put o.dst (.slice (some ⟨w.heap.size, 0, none⟩) n n)) w') :
    wpList P ops Q (o :: rest) a w := by
  obtain ⟨i, hi, hz0, hz1, hz2⟩ := info_parts h2
  subst hL hC
  refine wpList_plain hg fun K hK' => ?_
  have hb : (i.bytes : Int) * (n : Int) ≤ 281474976710656 := by
    have h : ((i.bytes * n : Nat) : Int) ≤ 281474976710656 := by rw [hz2]; omega
    rwa [Int.natCast_mul] at h
  have hr := run_make (P := P) w t e i z h1 hi hz0 kl kc n n (by omega) (Int.le_refl _) hb (by omega)
  simp only [Int.toNat_natCast, hz1, Nat.mul_one, hz] at hr
  unfold Oper.wp
  simp [execOp, hop, hl, hc, hr, Result.andThen]
  refine hK' _ _ (hK _ _ rfl ?_ ((Kp.refl _ _).alloc _))
  have he : madeCells #[z] n = (List.replicate n z).toArray := Array.toList_inj.1 (by rw [toList_madeCells_one])
  rw [he]
  exact Cells.fresh _ _ _

/-- 'copy(dst, src)' where dst lies in a block that is known whole. -/
theorem wpList_copy1 {P : Program} {w : World} {ops : Array Oper} {rest : List Oper} {o : Oper} {a : Act} {Q : Exit → Act → World → Prop} (hgd : o.guard = none) (d s : Operand) (dT sT : TypeId)
    (ho : o.op = .call { callee := .builtin .copy, args := #[d, s], argTypes := #[dT, sT] }) (elem : TypeId) (hu : P.underlying dT = some (.slice elem)) (hsz : (P.info? elem).map (·.size) = some 1)
    (dp sp : Option Addr) (dLen dCap sLen sCap : Nat) (hd : a.eval d = .slice dp dLen dCap) (hs : a.eval s = .slice sp sLen sCap)
    (g off : Nat) (cur : List Value) (t : TypeId) (hg : Cells w g t cur) (cs : List Value) (k : Nat) (hk : cs.length = k) (hn : k = Nat.min sLen dLen)
    (hpos : 0 < k → dp = some ⟨g, off, none⟩) (hsrc : Span w sp cs)
    (hfit : off + k ≤ cur.length) (h1 : ∀ v ∈ cs, v.oneCell' = true)
    (h : ∀ w', Hid (Cells w' g t (splice cur off cs)) → Kp [g] w w' → wpList P ops Q rest (a.put o.dst (.int .i64 (k : Int))) w') :
    wpList P ops Q (o :: rest) a w := by
  subst hk
  by_cases h0 : cs.length = 0
  · obtain rfl : cs = [] := List.eq_nil_of_length_eq_zero h0
    refine wpList_copy_nothing hgd d s dT sT ho elem hu hsz dp sp dLen dCap sLen sCap hd hs (by simpa using hn.symm) ?_
    exact h w (show Cells _ _ _ _ by simpa [splice] using hg) (Kp.refl _ _)
  · obtain rfl := hpos (by omega)
    obtain ⟨ad, rfl, _⟩ := hsrc.get (j := 0) (by omega)
    refine wpList_copy_own hgd d s dT sT ho elem hu hsz g off dLen dCap ad sLen sCap hd hs cur.toArray t hg cs hn (fun j v hj => ?_) (by simpa using hfit) h1 ?_
    · obtain ⟨ad', e, hc⟩ := hsrc j v hj
      injection e with e
      subst e
      exact hc
    · refine h _ (show Cells _ _ _ _ from ?_) (kp_setRow w g _)
      simpa [splice, Cells] using setRow_heap w g _ _ t _ hg

theorem splice_two {α : Type} (Z X Y : List α) (hZ : Z.length = X.length + Y.length) : splice (splice Z 0 X) X.length Y = X ++ Y := by
  simp only [splice, List.take_zero, List.nil_append, Nat.zero_add, List.take_left']
  rw [List.drop_append, List.drop_eq_nil_of_le (by omega : X.length ≤ X.length + Y.length), List.drop_drop,
    List.drop_eq_nil_of_le (by omega)]
  simp

/-- A slice value v of n elements, nil or at the head of a block of the kind e, that begins with the cells xs. -/
def Own (w : World) (e : TypeId) (v : Value) (n : Nat) (xs : List Value) : Prop := w.ownsRow 0 e 1 v n xs
theorem Own.nil (w : World) (e : TypeId) : Own w e (.slice none 0 0) 0 [] := World.ownsRow_nil _ _ _ _
theorem Own.of_cells {w : World} {g : Nat} {e : TypeId} {xs : List Value} (h : Cells w g e xs) (hm : xs.length ≤ 9223372036854775807) : Own w e (.slice (some ⟨g, 0, none⟩) xs.length xs.length) xs.length xs :=
  ⟨by simp, .inr ⟨g, xs.length, xs.toArray, rfl, Nat.zero_le _, h, Nat.le_refl _, by simpa [maxLen] using hm, by simp, by simp⟩⟩
theorem Own.lt {w : World} {e : TypeId} {v : Value} {n : Nat} {xs : List Value} (h : Own w e v n xs) : ∀ k, v.ownBlock = some k → k < w.heap.size := fun k hk => (World.ownsRow.lt h k hk).2
theorem Own.shape {w : World} {e : TypeId} {v : Value} {n : Nat} {xs : List Value} (h : Own w e v n xs) : ∃ A c, v = .slice A n c ∧ Span w A xs ∧ n ≤ c ∧ xs.length = n ∧ ∀ ad, A = some ad → ad = ⟨ad.block, 0, none⟩ ∧ v.ownBlock = some ad.block := by
  obtain ⟨h1, h2⟩ := h
  rcases h2 with ⟨rfl, rfl⟩ | ⟨g, cap, cur, rfl, _, hg, hn, _, _, ht⟩
  · obtain rfl : xs = [] := List.eq_nil_of_length_eq_zero (by simpa using h1)
    exact ⟨none, 0, rfl, Span.nil _ _, Nat.le_refl _, rfl, by simp⟩
  · refine ⟨some ⟨g, 0, none⟩, cap, rfl, ?_, hn, by simpa using h1, fun ad he => by injection he with he; subst he; exact ⟨rfl, rfl⟩⟩
    have hc : Cells w g e cur.toList := by simpa [Cells] using hg
    have := (Span.of_cells hc).take (n * 1)
    rwa [ht] at this
theorem Own.keep {w w' : World} {e : TypeId} {v : Value} {n : Nat} {xs : List Value} {S : List Nat} (h : Own w e v n xs) (k : Kp S w w') (hv : ∀ g, v.ownBlock = some g → g ∉ S) : Own w' e v n xs := by
  obtain ⟨h1, h2⟩ := h
  refine ⟨h1, ?_⟩
  rcases h2 with h2 | ⟨g, cap, cur, rfl, h3, hg, r⟩
  · exact .inl h2
  · exact .inr ⟨g, cap, cur, rfl, h3, (k.block g (Array.getElem?_eq_some_iff.1 hg).1 (hv g rfl)).trans hg, r⟩
theorem Own.kept {w w' : World} {e : TypeId} {v : Value} {n : Nat} {xs : List Value} (h : Own w e v n xs) (k : Kp [] w w') : Own w' e v n xs := h.keep k (by simp)
/-- A slice value at the head of its block: what can be read and written there. -/
theorem Own.at {w : World} {e : TypeId} {A : Option Addr} {n c : Nat} {xs : List Value} (h : Own w e (.slice A n c) n xs) (h0 : 0 < n) :
    ∃ g, A = some ⟨g, 0, none⟩ ∧ g < w.heap.size ∧ (∀ j, j < n → w.cell? ⟨g, j, none⟩ = xs[j]?) ∧ (∀ j, j < n → w.frozen? ⟨g, j, none⟩ = false) ∧
      ∀ j u, j < n → Own (w.setCell ⟨g, j, none⟩ u) e (.slice A n c) n (xs.set j u) := by
  obtain ⟨h1, h2⟩ := h
  rcases h2 with ⟨h2, _⟩ | ⟨g, cap, cur, hv, h3, hg, hn, hm, hs, ht⟩
  · injection h2 with _ h2 _; omega
  · injection hv with hA hn' hc
    subst hA hc
    have hc : Cells w g e cur.toList := by simpa [Cells] using hg
    have hcell : ∀ j, j < n → cur.toList[j]? = xs[j]? := by
      intro j hj
      rw [← ht, List.getElem?_take, if_pos (by omega)]
    refine ⟨g, rfl, hc.lt, fun j hj => by rw [hc.cell j, hcell j hj], fun j _ => hc.free j, fun j u hj => ⟨by simpa using h1, .inr ⟨g, c, (cur.toList.set j u).toArray, rfl, h3, by simpa [Cells] using hc.put j u, hn, hm, by simpa using hs, ?_⟩⟩⟩
    simp only [List.take_set]
    rw [ht]
theorem Own.put {w : World} {e : TypeId} {g n c : Nat} {xs : List Value} (h : Own w e (.slice (some ⟨g, 0, none⟩) n c) n xs) {j : Nat} (hj : j < n) (u : Value) : Own (w.setCell ⟨g, j, none⟩ u) e (.slice (some ⟨g, 0, none⟩) n c) n (xs.set j u) := by
  obtain ⟨g', e', _, _, _, hp⟩ := h.at (by omega)
  injection e' with e'
  injection e' with e'
  subst e'
  exact hp j u hj
theorem Own.ne_cells {w : World} {e t : TypeId} {v : Value} {n g : Nat} {xs cs : List Value} (h : Own w e v n xs) (hc : Cells w g t cs) (hne : e ≠ t) : v.ownBlock ≠ some g := by
  rcases h.2 with ⟨rfl, _⟩ | ⟨g', cap, cur, rfl, _, hg, _⟩
  · simp [Value.ownBlock]
  · intro he
    have : g' = g := by simpa [Value.ownBlock] using he
    subst this
    unfold Cells at hc
    rw [hg] at hc
    injection hc with hc
    injection hc with _ ht
    exact hne ht

theorem run_append_bare {P : Program} (w : World) (t ty e : TypeId) (i : TypeInfo) (ht : P.underlying t = some (.slice e)) (hi : P.info? e = some i)
    (v : Value) (n : Nat) (xs : List Value) (hown : Own w e v n xs) (c : Nat) : (Builtin.append_ #[t, t] ty #[v, .slice none 0 c]).run P w = .ok v w := by
  rcases hown.2 with ⟨rfl, rfl⟩ | ⟨g, cap, cur, rfl, _, _, hn, _⟩
  · simp [Builtin.append_, run_underlying ht, sizeOf, typeInfo, hi, Builtin.lenOf, Builtin.firstCells]
  · simp [Builtin.append_, run_underlying ht, sizeOf, typeInfo, hi, Builtin.lenOf, Builtin.firstCells, hn, storeCells]

/-- 'append' onto such a slice, of cells that read as a list (nil let in). -/
theorem wpList_append1 {P : Program} {w : World} {ops : Array Oper} {rest : List Oper} {o : Oper} {a : Act} {Q : Exit → Act → World → Prop} (hgd : o.guard = none) (s x : Operand) (t : TypeId)
    (ho : o.op = .call { callee := .builtin .append, args := #[s, x], argTypes := #[t, t] })
    (e : TypeId) (z : Value) (bytes : Nat) (ht : P.underlying t = some (.slice e)) (h2 : (P.info? e).map (fun i => (i.zero, i.size, i.bytes)) = some (some z, 1, bytes)) (hz : z.cells.size = 1)
    (v : Value) (n : Nat) (xs : List Value) (hs : a.eval s = v) (hown : Own w e v n xs)
    (A : Option Addr) (m c : Nat) (news : List Value) (hx : a.eval x = .slice A m c) (hr : Span w A news) (hm : news.length = m) (h1 : ∀ u ∈ news, u.oneCell' = true)
    (h63 : n + m ≤ 9223372036854775807) (hbytes : (n + m) * bytes ≤ 140737488355328)
    (h : ∀ v' w', Own w' e v' (n + m) (xs ++ news) → Kp v.ownBlock.toList w w' → (v'.ownBlock = v.ownBlock ∨ v'.ownBlock = some w.heap.size) → wpList P ops Q rest (a.put o.dst v') w') :
    wpList P ops Q (o :: rest) a w := by
  obtain ⟨i, hi, hz0, hz1, hz2⟩ := info_parts h2
  cases A with
  | none =>
    have hn : news = [] := by
      cases news with
      | nil => rfl
      | cons u l => obtain ⟨ad, e, _⟩ := hr 0 u rfl; cases e
    subst hn
    simp only [List.length_nil] at hm
    subst hm
    refine wpList_plain hgd fun K hK => ?_
    have hrun := run_append_bare (P := P) w t o.type e i ht hi v n xs hown c
    unfold Oper.wp
    simp [execOp, ho, resolve, invoke, builtin, hs, hx, hrun, Result.andThen]
    exact hK _ _ (h v w (by simpa using hown) (Kp.refl _ _) (.inl rfl))
  | some ad =>
    refine wpList_plain hgd fun K hK => ?_
    obtain ⟨v', w', hrun, r1, r2, _, r4⟩ := run_append_own_at (P := P) w 0 t o.type e i z 1 bytes ht hi hz0 hz1 hz2 hz (by omega) v n xs hown ad m c news (by omega)
      (fun j u hj => by obtain ⟨ad', e, hc⟩ := hr j u hj; injection e with e; subst e; exact hc) h1 (by simpa [maxLen] using h63) hbytes (Nat.zero_le _)
    unfold Oper.wp
    simp [execOp, ho, resolve, invoke, builtin, hs, hx, hrun, Result.andThen]
    exact hK _ _ (h v' w' r1 (Kp.of_grown r2 (by intro k hk _; simp [hk])) r4)

/-- The same as one operation (of any region). -/
theorem oper_append1 {P : Program} {w : World} {o : Oper} {a : Act} {K : Act → World → Prop} {Q : Exit → Act → World → Prop} (s x : Operand) (t : TypeId)
    (ho : o.op = .call { callee := .builtin .append, args := #[s, x], argTypes := #[t, t] })
    (e : TypeId) (z : Value) (bytes : Nat) (ht : P.underlying t = some (.slice e)) (h2 : (P.info? e).map (fun i => (i.zero, i.size, i.bytes)) = some (some z, 1, bytes)) (hz : z.cells.size = 1)
    (v : Value) (n : Nat) (xs : List Value) (hs : a.eval s = v) (hown : Own w e v n xs)
    (A : Option Addr) (m c : Nat) (news : List Value) (hx : a.eval x = .slice A m c) (hr : Span w A news) (hm : news.length = m) (h1 : ∀ u ∈ news, u.oneCell' = true)
    (h63 : n + m ≤ 9223372036854775807) (hbytes : (n + m) * bytes ≤ 140737488355328)
    (h : ∀ v' w', Own w' e v' (n + m) (xs ++ news) → Kp v.ownBlock.toList w w' → (v'.ownBlock = v.ownBlock ∨ v'.ownBlock = some w.heap.size) → K (a.put o.dst v') w') :
    o.wp P a w K Q := by
  obtain ⟨i, hi, hz0, hz1, hz2⟩ := info_parts h2
  cases A with
  | none =>
    have hn : news = [] := by
      cases news with
      | nil => rfl
      | cons u l => obtain ⟨ad, e, _⟩ := hr 0 u rfl; cases e
    subst hn
    simp only [List.length_nil] at hm
    subst hm
    have hrun := run_append_bare (P := P) w t o.type e i ht hi v n xs hown c
    unfold Oper.wp
    simp [execOp, ho, resolve, invoke, builtin, hs, hx, hrun, Result.andThen]
    exact h v w (by simpa using hown) (Kp.refl _ _) (.inl rfl)
  | some ad =>
    obtain ⟨v', w', hrun, r1, r2, _, r4⟩ := run_append_own_at (P := P) w 0 t o.type e i z 1 bytes ht hi hz0 hz1 hz2 hz (by omega) v n xs hown ad m c news (by omega)
      (fun j u hj => by obtain ⟨ad', e, hc⟩ := hr j u hj; injection e with e; subst e; exact hc) h1 (by simpa [maxLen] using h63) hbytes (Nat.zero_le _)
    unfold Oper.wp
    simp [execOp, ho, resolve, invoke, builtin, hs, hx, hrun, Result.andThen]
    exact h v' w' r1 (Kp.of_grown r2 (by intro k hk _; simp [hk])) r4

theorem step_append1 {P : Program} {w : World} {ops : Array Oper} {o : Oper} {a : Act} {K : Act → World → Prop} {Q : Exit → Act → World → Prop} {E : Prop} (hgd : o.guard = none) (s x : Operand) (t : TypeId)
    (ho : o.op = .call { callee := .builtin .append, args := #[s, x], argTypes := #[t, t] })
    (e : TypeId) (z : Value) (bytes : Nat) (ht : P.underlying t = some (.slice e)) (h2 : (P.info? e).map (fun i => (i.zero, i.size, i.bytes)) = some (some z, 1, bytes)) (hz : z.cells.size = 1)
    (v : Value) (n : Nat) (xs : List Value) (hs : a.eval s = v) (hown : Own w e v n xs)
    (A : Option Addr) (m c : Nat) (news : List Value) (hx : a.eval x = .slice A m c) (hr : Span w A news) (hm : news.length = m) (h1 : ∀ u ∈ news, u.oneCell' = true)
    (h63 : n + m ≤ 9223372036854775807) (hbytes : (n + m) * bytes ≤ 140737488355328)
    (h : ∀ v' w', Own w' e v' (n + m) (xs ++ news) → Kp v.ownBlock.toList w w' → (v'.ownBlock = v.ownBlock ∨ v'.ownBlock = some w.heap.size) → K (a.put o.dst v') w') :
    if Region.wanted o (yielded ops a.tmps) = true then Oper.wp P o a w K Q else E := by
  rw [if_pos (by simp [Region.wanted, hgd])]
  exact oper_append1 s x t ho e z bytes ht h2 hz v n xs hs hown A m c news hx hr hm h1 h63 hbytes h

/-- 'string(b)' of bytes that read as a list. -/
theorem run_text {P : Program} {src e dst : TypeId} (hs : P.underlying src = some (.slice e)) (he : P.underlying e = some (.int .u8)) (hd : P.underlying dst = some .string)
    {w : World} {A : Option Addr} {l : List UInt8} (h : Span w A (u8s l)) (n c : Nat) (hn : l.length = n) :
    (convert src dst (.slice A n c)).run P w = .ok (.string ⟨l.toArray⟩) w := by
  subst hn
  cases A with
  | none =>
    obtain rfl : l = [] := by
      cases l with
      | nil => rfl
      | cons u l => obtain ⟨ad, e, _⟩ := h 0 _ rfl; cases e
    exact run_convert_bytes_nil w src e hs he _ c dst hd
  | some ad =>
    have hl : (loadCells ad l.length).run P w = .ok (l.map u8).toArray w := by
      have := run_loadCells_list (P := P) w ad (l.map u8) (fun j v hj => by
        obtain ⟨ad', e, hc⟩ := h j v hj
        injection e with e
        subst e
        exact hc)
      simpa using this
    have hmap : l.map u8 = (l.map fun c => (c.toNat : Int)).map (Value.int .u8) := by simp [u8]
    rw [hmap] at hl
    rw [run_convert_bytes_string w src dst e _ l.length c hs he hd, run_bytesToString w _ l.length c _ hl, foldl_push_bytes]
    have hback : l.map ((fun n : Int => UInt8.ofNat n.toNat) ∘ fun c : UInt8 => (c.toNat : Int)) = l := by
      rw [List.map_congr_left (g := id) (fun c _ => by simp)]
      simp
    simp [ByteArray.empty, ByteArray.emptyWithCapacity]
    rw [hback]
    rfl

/-- '+' of two texts, as lists of bytes. -/
theorem run_add_text {P : Program} (l m r : List UInt8) (hr : r = l ++ m) (h : l.length + m.length ≤ 9223372036854775807) (w : World) :
    (Op.stringOp .add ⟨l.toArray⟩ ⟨m.toArray⟩).run P w = .ok (.string ⟨r.toArray⟩) w := by
  subst hr
  rw [run_string_add_sum _ _ _ (by simpa [ByteArray.size] using h)]
  congr 2
end Go.Proofs.YtampgimmodomoaaDoor

/- A text turned into bytes, in the words of memory. -/
namespace Go.Proofs.YtampgimmodomoaaDoor
open Go Go.RowKit

theorem kp_bytes (w : World) (s : ByteArray) : Kp [] w (Lib.bytesWorld w 5 s) := by
  refine ⟨rfl, rfl, rfl, by rw [Lib.bytesWorld_size]; omega, fun k hk _ => Lib.bytesWorld_at_old w 5 s k hk⟩
theorem bytes_cell (w : World) (l : List UInt8) (j : Nat) (h : j < l.length) : (Lib.bytesWorld w 5 ⟨l.toArray⟩).cell? ⟨w.heap.size, j, none⟩ = some (.int .u8 (l[j].toNat : Int)) := by
  have h2 := Lib.bytesWorld_cell w 5 ⟨l.toArray⟩ j (by simpa [ByteArray.size] using h)
  rw [h2, List.getD_eq_getElem?_getD]
  simp [h]
theorem conv_bytes (w : World) (l : List UInt8) (n : Nat) (hn : n = l.length) : (convert 9 32 (.string ⟨l.toArray⟩)).run Tryd.prog w = .ok (.slice (some ⟨w.heap.size, 0, none⟩) n (grownCap w n 0 5)) (Lib.bytesWorld w 5 ⟨l.toArray⟩) := by
  subst hn
  have h := Lib.run_convert_string_bytes (P := Tryd.prog) w 9 32 5 ⟨l.toArray⟩ Tryd.underlying9 Tryd.underlying32 Tryd.underlying5
  have e : (⟨l.toArray⟩ : ByteArray).size = l.length := by simp [ByteArray.size]
  rw [e] at h
  exact h
theorem size_mk (l : List UInt8) : (⟨l.toArray⟩ : ByteArray).size = l.length := by simp [ByteArray.size]
theorem extract_mk (l : List UInt8) (i j : Nat) : (⟨l.toArray⟩ : ByteArray).extract i j = ⟨((l.take j).drop i).toArray⟩ := by
  apply ByteArray.ext
  rw [ByteArray.data_extract]
  apply Array.toList_inj.1
  rw [Array.toList_extract]
  simp [List.extract, List.drop_take]
end Go.Proofs.YtampgimmodomoaaDoor

/- append of a text's bytes, onto a slice that is new; and slices that are new. -/
namespace Go.Proofs.YtampgimmodomoaaDoor
open Go Go.RowKit

/-- Since w0 nothing that was there was written, and v's block is newer than w0. -/
structure New (w0 w : World) (v : Value) : Prop where
  kp : Kp [] w0 w
  blk : ∀ g, v.ownBlock = some g → w0.heap.size ≤ g
theorem New.nil {w0 w : World} (k : Kp [] w0 w) : New w0 w (.slice none 0 0) := ⟨k, by simp [Value.ownBlock]⟩
theorem New.step {w0 w w' : World} {v v' : Value} (h : New w0 w v) (k : Kp v.ownBlock.toList w w') (hb : ∀ g, v'.ownBlock = some g → w0.heap.size ≤ g) : New w0 w' v' :=
  ⟨h.kp.trans k (by intro x hx hl; simp only [Option.mem_toList] at hx; have := h.blk x hx; omega), hb⟩
theorem New.append {w0 w w' : World} {v v' : Value} {N : Nat} (h : New w0 w v) (k : Kp v.ownBlock.toList w w') (hb : v'.ownBlock = v.ownBlock ∨ v'.ownBlock = some N) (hN : w.heap.size ≤ N) : New w0 w' v' :=
  h.step k (fun g hg => by
    rcases hb with hb | hb
    · exact h.blk g (hb ▸ hg)
    · rw [hb] at hg; injection hg with hg; have := h.kp.size; omega)
theorem New.kept {w0 w w' : World} {v : Value} (h : New w0 w v) (k : Kp [] w w') : New w0 w' v := ⟨h.kp.nil k, h.blk⟩
theorem New.since {w0 w1 w : World} {v : Value} (k : Kp [] w0 w1) (h : New w1 w v) : New w0 w v := ⟨k.nil h.kp, fun g hg => Nat.le_trans k.size (h.blk g hg)⟩

theorem strCells_u8s (s : ByteArray) : Lib.strCells s = u8s s.data.toList := rfl
theorem Own.based {w : World} {e : TypeId} {v : Value} {n B : Nat} {xs : List Value} (h : Own w e v n xs) (hb : ∀ g, v.ownBlock = some g → B ≤ g) : w.ownsRow B e 1 v n xs := by
  obtain ⟨h1, h2⟩ := h
  rcases h2 with h2 | ⟨g, cap, cur, rfl, h3, r⟩
  · exact ⟨h1, .inl h2⟩
  · exact ⟨h1, .inr ⟨g, cap, cur, rfl, hb g rfl, r⟩⟩
theorem Own.unbased {w : World} {e : TypeId} {v : Value} {n B : Nat} {xs : List Value} (h : w.ownsRow B e 1 v n xs) : Own w e v n xs ∧ ∀ g, v.ownBlock = some g → B ≤ g := by
  obtain ⟨h1, h2⟩ := h
  rcases h2 with ⟨rfl, h2⟩ | ⟨g, cap, cur, rfl, h3, r⟩
  · exact ⟨⟨h1, .inl ⟨rfl, h2⟩⟩, by simp [Value.ownBlock]⟩
  · refine ⟨⟨h1, .inr ⟨g, cap, cur, rfl, Nat.zero_le _, r⟩⟩, fun g' hg => ?_⟩
    have : g = g' := by simpa [Value.ownBlock] using hg
    omega

/-- 'append(b, s...)', s a text. -/
theorem wpList_append_text {P : Program} {w w0 : World} {ops : Array Oper} {rest : List Oper} {o : Oper} {a : Act} {Q : Exit → Act → World → Prop} (hgd : o.guard = none) (sl x : Operand) (t u : TypeId)
    (ho : o.op = .call { callee := .builtin .append, args := #[sl, x], argTypes := #[t, u] })
    (e : TypeId) (ht : P.underlying t = some (.slice e)) (hu : P.underlying u = some .string) (h2 : (P.info? e).map (fun i => (i.zero, i.size, i.bytes)) = some (some (.int .u8 0), 1, 1))
    (v : Value) (n : Nat) (xs : List Value) (hs : a.eval sl = v) (hown : Own w e v n xs) (hnew : New w0 w v) (s : ByteArray) (hx : a.eval x = .string s)
    (hbytes : n + s.size ≤ 140737488355328)
    (h : ∀ v' w', Own w' e v' (n + s.size) (xs ++ u8s s.data.toList) → New w0 w' v' → wpList P ops Q rest (a.put o.dst v') w') : wpList P ops Q (o :: rest) a w := by
  obtain ⟨i, hi, hz0, hz1, hz2⟩ := info_parts h2
  refine Lib.wpList_append_own_string w hgd sl x t u ho w0.heap.size e i ht hu hi hz0 hz1 hz2 v n xs hs (hown.based hnew.blk) s hx (by simp only [maxLen]; omega) hbytes hnew.kp.size ?_
  intro v' w' h3 h4 _
  obtain ⟨h5, h6⟩ := Own.unbased h3
  exact h v' w' h5 (hnew.step (Kp.of_grown h4 (by intro k hk _; simp [hk])) h6)

/-- Bytes that a slice value holds, from its block's head on. -/
def OwnB (e : TypeId) (w : World) (v : Value) (l : List UInt8) : Prop := Own w e v l.length (u8s l)
theorem OwnB.nil (e : TypeId) (w : World) : OwnB e w (.slice none 0 0) [] := Own.nil _ _
theorem OwnB.kept {e : TypeId} {w w' : World} {v : Value} {l : List UInt8} (h : OwnB e w v l) (k : Kp [] w w') : OwnB e w' v l := Own.kept h k
theorem OwnB.shape {e : TypeId} {w : World} {v : Value} {l : List UInt8} (h : OwnB e w v l) : ∃ A c, v = .slice A l.length c ∧ Span w A (u8s l) ∧ l.length ≤ c ∧ ∀ ad, A = some ad → ad = ⟨ad.block, 0, none⟩ ∧ v.ownBlock = some ad.block := by
  obtain ⟨A, c, h1, h2, h3, _, h4⟩ := Own.shape h
  exact ⟨A, c, h1, h2, h3, h4⟩
theorem OwnB.of_own {e : TypeId} {w : World} {v : Value} {n : Nat} {xs : List Value} {l : List UInt8} (h : Own w e v n xs) (hx : xs = u8s l) (hn : n = l.length) : OwnB e w v l := by
  subst hx hn
  exact h

theorem wpList_append_textB {P : Program} {w w0 : World} {ops : Array Oper} {rest : List Oper} {o : Oper} {a : Act} {Q : Exit → Act → World → Prop} (hgd : o.guard = none) (sl x : Operand) (t u : TypeId)
    (ho : o.op = .call { callee := .builtin .append, args := #[sl, x], argTypes := #[t, u] })
    (e : TypeId) (ht : P.underlying t = some (.slice e)) (hu : P.underlying u = some .string) (h2 : (P.info? e).map (fun i => (i.zero, i.size, i.bytes)) = some (some (.int .u8 0), 1, 1))
    (v : Value) (l : List UInt8) (hs : a.eval sl = v) (hown : OwnB e w v l) (hnew : New w0 w v) (s : ByteArray) (hx : a.eval x = .string s)
    (hbytes : l.length + s.size ≤ 140737488355328)
    (h : ∀ v' w', OwnB e w' v' (l ++ s.data.toList) → New w0 w' v' → wpList P ops Q rest (a.put o.dst v') w') : wpList P ops Q (o :: rest) a w :=
  wpList_append_text hgd sl x t u ho e ht hu h2 v _ _ hs hown hnew s hx hbytes fun v' w' h3 h4 =>
    h v' w' (OwnB.of_own h3 (by rw [u8s_append]) (by rw [List.length_append, Array.length_toList]; rfl)) h4
theorem wpList_append_bytesB {P : Program} {w w0 : World} {ops : Array Oper} {rest : List Oper} {o : Oper} {a : Act} {Q : Exit → Act → World → Prop} (hgd : o.guard = none) (s x : Operand) (t : TypeId)
    (ho : o.op = .call { callee := .builtin .append, args := #[s, x], argTypes := #[t, t] })
    (e : TypeId) (ht : P.underlying t = some (.slice e)) (h2 : (P.info? e).map (fun i => (i.zero, i.size, i.bytes)) = some (some (.int .u8 0), 1, 1))
    (v : Value) (l : List UInt8) (hs : a.eval s = v) (hown : OwnB e w v l) (hnew : New w0 w v)
    (A : Option Addr) (m c : Nat) (news : List UInt8) (hx : a.eval x = .slice A m c) (hr : Span w A (u8s news)) (hm : news.length = m)
    (hbytes : l.length + m ≤ 140737488355328)
    (h : ∀ v' w', OwnB e w' v' (l ++ news) → New w0 w' v' → wpList P ops Q rest (a.put o.dst v') w') :
    wpList P ops Q (o :: rest) a w :=
  wpList_append1 hgd s x t ho e (.int .u8 0) 1 ht h2 rfl v _ _ hs hown A m c (u8s news) hx hr (by rw [length_u8s]; exact hm) (u8s_one _) (by omega) (by omega) fun v' w' h3 h4 h5 =>
    h v' w' (OwnB.of_own h3 (by rw [u8s_append]) (by rw [List.length_append]; omega)) (hnew.append h4 h5 (Nat.le_refl _))
/-- Two rows of bytes in blocks apart: the one is appended to, the other stays. -/
theorem OwnB.apart {e : TypeId} {w w' : World} {v v' u : Value} {m : List UInt8} (h : OwnB e w u m) (hv : ∀ g, v.ownBlock = some g → u.ownBlock ≠ some g) (k : Kp v.ownBlock.toList w w') (hb : v'.ownBlock = v.ownBlock ∨ v'.ownBlock = some w.heap.size) :
    OwnB e w' u m ∧ ∀ g, v'.ownBlock = some g → u.ownBlock ≠ some g := by
  refine ⟨h.keep k (fun g hg hm => ?_), fun g hg => ?_⟩
  · simp only [Option.mem_toList] at hm
    exact hv g hm hg
  · rcases hb with hb | hb
    · exact hv g (hb ▸ hg)
    · rw [hb] at hg
      injection hg with hg
      intro hu
      have := h.lt _ hu
      omega
theorem step_append_bytesB {P : Program} {w w0 : World} {ops : Array Oper} {o : Oper} {a : Act} {K : Act → World → Prop} {Q : Exit → Act → World → Prop} {E : Prop} (hgd : o.guard = none) (s x : Operand) (t : TypeId)
    (ho : o.op = .call { callee := .builtin .append, args := #[s, x], argTypes := #[t, t] })
    (e : TypeId) (ht : P.underlying t = some (.slice e)) (h2 : (P.info? e).map (fun i => (i.zero, i.size, i.bytes)) = some (some (.int .u8 0), 1, 1))
    (v : Value) (l : List UInt8) (hs : a.eval s = v) (hown : OwnB e w v l) (hnew : New w0 w v)
    (A : Option Addr) (m c : Nat) (news : List UInt8) (hx : a.eval x = .slice A m c) (hr : Span w A (u8s news)) (hm : news.length = m)
    (hbytes : l.length + m ≤ 140737488355328)
    (h : ∀ v' w', OwnB e w' v' (l ++ news) → New w0 w' v' → Kp v.ownBlock.toList w w' → (v'.ownBlock = v.ownBlock ∨ v'.ownBlock = some w.heap.size) → K (a.put o.dst v') w') :
    if Region.wanted o (yielded ops a.tmps) = true then Oper.wp P o a w K Q else E :=
  step_append1 hgd s x t ho e (.int .u8 0) 1 ht h2 rfl v _ _ hs hown A m c (u8s news) hx hr (by rw [length_u8s]; exact hm) (u8s_one _) (by omega) (by omega) fun v' w' h3 h4 h5 =>
    h v' w' (OwnB.of_own h3 (by rw [u8s_append]) (by rw [List.length_append]; omega)) (hnew.append h4 h5 (Nat.le_refl _)) h4 h5
end Go.Proofs.YtampgimmodomoaaDoor

/- Laws for the walk: slices of elements of several cells, appended to. Over any program. -/
namespace Go.Proofs.YtampgimmodomoaaDoor
open Go Go.RowKit

/-- A slice value v of n elements of s cells each, nil or at the head of a block of the kind e, that begins with the cells xs. -/
def OwnN (w : World) (e : TypeId) (s : Nat) (v : Value) (n : Nat) (xs : List Value) : Prop := w.ownsRow 0 e s v n xs
section
variable {w w' : World} {e : TypeId} {s : Nat} {v : Value} {n : Nat} {xs : List Value} {S : List Nat}
theorem OwnN.nil (w : World) (e : TypeId) (s : Nat) : OwnN w e s (.slice none 0 0) 0 [] := World.ownsRow_nil _ _ _ _
theorem OwnN.of_cells {g : Nat} (h : Cells w g e xs) (hn : xs.length = n * s) (hm : n ≤ 9223372036854775807) : OwnN w e s (.slice (some ⟨g, 0, none⟩) n n) n xs :=
  ⟨hn, .inr ⟨g, n, xs.toArray, rfl, Nat.zero_le _, h, Nat.le_refl _, by simpa [maxLen] using hm, by simpa using hn, by rw [List.toList_toArray]; exact List.take_of_length_le (by omega)⟩⟩
theorem OwnN.length (h : OwnN w e s v n xs) : xs.length = n * s := h.1
theorem OwnN.lt (h : OwnN w e s v n xs) : ∀ k, v.ownBlock = some k → k < w.heap.size := fun k hk => (World.ownsRow.lt h k hk).2
theorem OwnN.keep (h : OwnN w e s v n xs) (k : Kp S w w') (hv : ∀ g, v.ownBlock = some g → g ∉ S) : OwnN w' e s v n xs := by
  obtain ⟨h1, h2⟩ := h
  refine ⟨h1, ?_⟩
  rcases h2 with h2 | ⟨g, cap, cur, rfl, h3, hg, r⟩
  · exact .inl h2
  · exact .inr ⟨g, cap, cur, rfl, h3, (k.block g (Array.getElem?_eq_some_iff.1 hg).1 (hv g rfl)).trans hg, r⟩
theorem OwnN.kept (h : OwnN w e s v n xs) (k : Kp [] w w') : OwnN w' e s v n xs := h.keep k (by simp)
theorem OwnN.shape (h : OwnN w e s v n xs) : ∃ A c, v = .slice A n c ∧ Span w A xs ∧ n ≤ c ∧ c ≤ 9223372036854775807 ∧ ∀ ad, A = some ad → ad = ⟨ad.block, 0, none⟩ ∧ v.ownBlock = some ad.block := by
  obtain ⟨h1, h2⟩ := h
  rcases h2 with ⟨rfl, rfl⟩ | ⟨g, cap, cur, rfl, _, hg, hn, hm, hs, ht⟩
  · obtain rfl : xs = [] := List.eq_nil_of_length_eq_zero (by simpa using h1)
    exact ⟨none, 0, rfl, Span.nil _ _, Nat.le_refl _, by omega, by simp⟩
  · refine ⟨some ⟨g, 0, none⟩, cap, rfl, ?_, hn, by simpa [maxLen] using hm, fun ad he => by injection he with he; subst he; exact ⟨rfl, rfl⟩⟩
    have hc : Cells w g e cur.toList := by simpa [Cells] using hg
    have := (Span.of_cells hc).take (n * s)
    rwa [ht] at this
end

/-- 'append' of m elements onto such a slice (nil let in). -/
theorem wpList_appendN {P : Program} {w : World} {ops : Array Oper} {rest : List Oper} {o : Oper} {a : Act} {Q : Exit → Act → World → Prop} (hgd : o.guard = none) (s x : Operand) (t : TypeId)
    (ho : o.op = .call { callee := .builtin .append, args := #[s, x], argTypes := #[t, t] })
    (e : TypeId) (z : Value) (size bytes : Nat) (ht : P.underlying t = some (.slice e)) (h2 : (P.info? e).map (fun i => (i.zero, i.size, i.bytes)) = some (some z, size, bytes)) (hz : z.cells.size = size) (hsz : 0 < size)
    (v : Value) (n : Nat) (xs : List Value) (hs : a.eval s = v) (hown : OwnN w e size v n xs)
    (ad : Addr) (m c : Nat) (news : List Value) (hx : a.eval x = .slice (some ad) m c) (hr : Span w (some ad) news) (hm : news.length = m * size) (h1 : ∀ u ∈ news, u.oneCell' = true)
    (h63 : n + m ≤ 9223372036854775807) (hbytes : (n + m) * bytes ≤ 140737488355328)
    (h : ∀ v' w', OwnN w' e size v' (n + m) (xs ++ news) → Kp v.ownBlock.toList w w' → (v'.ownBlock = v.ownBlock ∨ v'.ownBlock = some w.heap.size) → wpList P ops Q rest (a.put o.dst v') w') :
    wpList P ops Q (o :: rest) a w := by
  obtain ⟨i, hi, hz0, hz1, hz2⟩ := info_parts h2
  refine wpList_plain hgd fun K hK => ?_
  obtain ⟨v', w', hrun, r1, r2, _, r4⟩ := run_append_own_at (P := P) w 0 t o.type e i z size bytes ht hi hz0 hz1 hz2 hz hsz v n xs hown ad m c news hm
    (fun j u hj => by obtain ⟨ad', e, hc⟩ := hr j u hj; injection e with e; subst e; exact hc) h1 (by simpa [maxLen] using h63) hbytes (Nat.zero_le _)
  unfold Oper.wp
  simp [execOp, ho, resolve, invoke, builtin, hs, hx, hrun, Result.andThen]
  exact hK _ _ (h v' w' r1 (Kp.of_grown r2 (by intro k hk _; simp [hk])) r4)

/-- Taking one from the front of a list. -/
theorem take_snoc_get {α : Type} (l : List α) (k : Nat) (h : k < l.length) : l.take (k + 1) = l.take k ++ [l[k]] := by
  rw [List.take_add_one, List.getElem?_eq_getElem h]
  rfl
end Go.Proofs.YtampgimmodomoaaDoor

/- A drawn region of loads, sums and calls that only make memory, in one way: each such operation may be taken first; what follows is shown of every later world. -/
namespace Go.Proofs.YtampgimmodomoaaDoor
open Go Go.RowKit

section
variable {P : Program} {ops : Array Oper} {Q : Exit → Act → World → Prop} {md : Region.Mode} {S : World → Prop}

/-- In every world that meets S operation o leaves v in its temporary, and what was there before is kept. -/
def YieldsK (P : Program) (ops : Array Oper) (S : World → Prop) (o : Oper) (v : Value) (a : Act) : Prop :=
  (Region.wanted o (yielded ops a.tmps) = true ∧ ∀ w, S w → (∃ w', (execOp a.eval o).run P w = .ok (.value v) w' ∧ Kp [] w w') ∨
    ∃ f args w', (execOp a.eval o).run P w = .ok (.enter f args) w' ∧ Calls P f args w' fun e w'' => e = .returned v ∧ Kp [] w w'') ∨
  (Region.wanted o (yielded ops a.tmps) = false ∧ v = undef)

theorem YieldsK.wpOp {i : Nat} {o : Oper} {v : Value} {a : Act} (hi : ops[i]? = some o) (hy : YieldsK P ops S o v a)
    {K : Act → World → Prop} {w : World} (hS : S w) (h : ∀ w', Kp [] w w' → K (a.put o.dst v) w') : wpOp P ops Q i K a w := by
  unfold Go.wpOp
  simp only [hi]
  rcases hy with ⟨hw, hv⟩ | ⟨hw, rfl⟩
  · simp only [hw, if_true, Oper.wp]
    refine .inl ?_
    rcases hv w hS with ⟨w', hr, hk⟩ | ⟨f, args, w', hr, hc⟩
    · rw [hr]
      exact h w' hk
    · rw [hr]
      simp only [Oper.upon]
      refine hc.mono fun e w'' he => ?_
      obtain ⟨rfl, hk⟩ := he
      exact h w'' hk
  · simp only [hw, Bool.false_eq_true, if_false]; exact h w (Kp.refl _ _)

theorem YieldsK.of_same {o : Oper} {v : Value} {a a' : Act} (hy : YieldsK P ops S o v a) (he : execOp a'.eval o = execOp a.eval o)
    (hw : Region.wanted o (yielded ops a'.tmps) = Region.wanted o (yielded ops a.tmps)) : YieldsK P ops S o v a' := by
  unfold YieldsK at *
  rw [he, hw]
  exact hy

theorem wpOp_putK {j : Nat} {oi oj : Oper} {v : Value} (hj : ops[j]? = some oj) (hap : oi.apart ops oj = true)
    (hsi : ∀ cs b, oi.op ≠ .select cs b) (hsj : ∀ cs b, oj.op ≠ .select cs b)
    (hQ : ∀ c a w, Q (.panic c) (a.put oi.dst v) w → Q (.panic c) a w) {K : Act → World → Prop} {a : Act} {w : World}
    (hy : YieldsK P ops S oi v a) (h : wpOp P ops Q j K (a.put oi.dst v) w) :
    wpOp P ops Q j (fun a' w' => YieldsK P ops S oi v a' ∧ K (a'.put oi.dst v) w') a w := by
  obtain ⟨h1, h2, h3⟩ := Oper.apart_spec hap
  have keep : ∀ (a : Act), YieldsK P ops S oi v a → ∀ u, YieldsK P ops S oi v (a.put oj.dst u) := fun a hy u =>
    hy.of_same (execOp_put oi hsi a oj.dst u h3) (wanted_put oi a oj.dst u h3)
  have keepD : ∀ d, YieldsK P ops S oi v { a with defers := d :: a.defers } := fun d => hy.of_same rfl rfl
  unfold wpOp at *
  simp only [hj] at *
  rw [wanted_put oj a oi.dst v h1] at h
  split
  · rename_i hw
    simp only [hw, if_true] at h
    rcases h with h | ⟨hasks, hlets⟩
    case inr => exact .inr ⟨by unfold Oper.asks at *; rw [execOp_put oj hsj a oi.dst v h1] at hasks; exact hasks, hlets⟩
    refine .inl ?_
    unfold Oper.wp at *
    rw [execOp_put oj hsj a oi.dst v h1] at h
    generalize (execOp a.eval oj).run P w = r at *
    cases r with
    | ok n w' =>
      cases n <;> simp only [Oper.upon] at h ⊢
      case value u => exact ⟨keep a hy u, by rw [← Act.put_comm a v u h2]; exact h⟩
      case skip => exact ⟨keep a hy _, by rw [← Act.put_comm a v undef h2]; exact h⟩
      case defer d =>
        refine ⟨keep _ (keepD d) _, ?_⟩
        rw [← Act.put_comm _ v undef h2, ← Act.put_defers]
        exact h
      case enter f args =>
        refine Calls.mono h fun e w'' he => ?_
        cases e with
        | returned u => exact ⟨keep a hy u, by rw [← Act.put_comm a v u h2]; exact he⟩
        | panicked c => exact hQ _ _ _ he
        | outgrown => exact he
      case row row args => exact Rows.mono h fun u w'' he => ⟨keep a hy u, by rw [← Act.put_comm a v u h2]; exact he⟩
    | halt x w' =>
      cases x <;> simp only [Oper.upon] at h ⊢
      case panic u => exact hQ _ _ _ h
  · rename_i hw
    simp only [hw] at h
    exact ⟨keep a hy _, by rw [← Act.put_comm a v undef h2]; exact h⟩

/-- An operation that waits for all others. -/
def finalOp (md : Region.Mode) (ops : Array Oper) (i : Nat) : Bool :=
  match ops[i]? with
  | none => false
  | some o => (List.range ops.size).all fun k => k == i || o.after.any fun e => Region.binds md e && e.on == k
theorem final_listed {i : Nat} {listed : Array Bool} (hf : finalOp md ops i = true) (hr : i ∈ Region.ready md ops listed) {k : Nat} (hk : k < ops.size) (hki : k ≠ i) : listed.getD k false = true := by
  obtain ⟨_, o, ho, hall⟩ := mem_ready.1 hr
  unfold finalOp at hf
  rw [ho] at hf
  have h1 := List.all_eq_true.1 hf k (List.mem_range.2 hk)
  simp only [Bool.or_eq_true, beq_iff_eq, hki, false_or, Array.any_eq_true, Bool.and_eq_true] at h1
  obtain ⟨m, hm, hb, he⟩ := h1
  rw [← he]
  exact hall _ (Array.getElem_mem hm) hb
theorem final_end {i : Nat} {listed : Array Bool} (hf : finalOp md ops i = true) (hr : i ∈ Region.ready md ops listed) : Region.ready md ops (listed.setIfInBounds i true) = [] := by
  refine List.eq_nil_iff_forall_not_mem.2 fun j hj => ?_
  obtain ⟨h0, o, ho, _⟩ := mem_ready.1 hj
  have hjs : j < ops.size := (Array.getElem?_eq_some_iff.1 ho).1
  by_cases hji : j = i
  · subst hji
    rcases Nat.lt_or_ge j listed.size with h | h
    · simp [h] at h0
    · simp at h0
  · have h1 := final_listed hf hr hjs hji
    rw [getD_set_ne true (Ne.symm hji)] at h0
    rcases Nat.lt_or_ge j listed.size with h | h
    · simp [h] at h0 h1
      rw [h0] at h1
      cases h1
    · simp [Array.getElem?_eq_none h] at h0

/-- Whatever order is picked from here on, from every later world. -/
def wpAnyK (P : Program) (md : Region.Mode) (ops : Array Oper) (Q : Exit → Act → World → Prop) (S : World → Prop) : Nat → Array Bool → Act → World → Prop
  | 0, listed, a, w => Region.ready md ops listed = [] ∧ ∀ w', Kp [] w w' → Q .normal a w'
  | fuel + 1, listed, a, w =>
    (Region.ready md ops listed = [] → ∀ w', Kp [] w w' → Q .normal a w') ∧
    ∀ i ∈ Region.ready md ops listed, ∀ w1, Kp [] w w1 → wpOp P ops Q i (fun a' w' => (S w' ∧ wpAnyK P md ops Q S fuel (listed.setIfInBounds i true) a' w') ∨ (finalOp md ops i = true ∧ Q .normal a' w')) a w1

theorem wpAny_of_K : ∀ (fuel : Nat) (listed : Array Bool) (a : Act) (w : World), wpAnyK P md ops Q S fuel listed a w → wpAny P md ops Q fuel listed a w
  | 0, _, _, _, h => ⟨h.1, h.2 _ (Kp.refl _ _)⟩
  | fuel + 1, listed, _, _, h => ⟨fun hr => h.1 hr _ (Kp.refl _ _), fun i hi => wpOp_mono (fun a' w' h' => by
      rcases h' with h' | ⟨hf, hq⟩
      · exact wpAny_of_K fuel _ a' w' h'.2
      · have he := final_end hf hi
        cases fuel with
        | zero => exact ⟨he, hq⟩
        | succ n => exact ⟨fun _ => hq, fun j hj => by rw [he] at hj; cases hj⟩) (h.2 i hi _ (Kp.refl _ _))⟩

theorem wpAnyK.later : ∀ (fuel : Nat) {listed : Array Bool} {a : Act} {w w1 : World}, wpAnyK P md ops Q S fuel listed a w → Kp [] w w1 → wpAnyK P md ops Q S fuel listed a w1
  | 0, _, _, _, _, h, k => ⟨h.1, fun w' k' => h.2 w' (k.nil k')⟩
  | _ + 1, _, _, _, _, h, k => ⟨fun hr w' k' => h.1 hr w' (k.nil k'), fun i hi w' k' => h.2 i hi w' (k.nil k')⟩

theorem wpAnyK_first {i : Nat} {oi : Oper} {v : Value} (hi : ops[i]? = some oi) (hsel : ∀ (j : Nat) (o : Oper) cs b, ops[j]? = some o → o.op ≠ .select cs b)
    (hQ : ∀ c a w, Q (.panic c) (a.put oi.dst v) w → Q (.panic c) a w) (hSS : ∀ w w', S w → Kp [] w w' → S w') :
    ∀ (fuel : Nat) (listed : Array Bool) (a : Act) (w : World),
      (∀ j oj, ops[j]? = some oj → j ≠ i → listed.getD j true = false → (∀ e ∈ oj.after, Region.binds md e = true → e.on ≠ i) → oi.apart ops oj = true) →
      i ∈ Region.ready md ops listed → YieldsK P ops S oi v a → S w →
      wpAnyK P md ops Q S fuel (listed.setIfInBounds i true) (a.put oi.dst v) w → wpAnyK P md ops Q S (fuel + 1) listed a w := by
  intro fuel
  induction fuel with
  | zero =>
    intro listed a w _ hr hy hS H
    refine ⟨fun h => (by rw [h] at hr; cases hr), fun j hj w1 k1 => ?_⟩
    by_cases hji : j = i
    · subst hji; exact hy.wpOp hi (hSS _ _ hS k1) (fun w' k => .inl ⟨hSS _ _ (hSS _ _ hS k1) k, wpAnyK.later _ H (k1.nil k)⟩)
    · have := ready_mono hj hji
      rw [H.1] at this
      cases this
  | succ fuel ih =>
    intro listed a w hfree hr hy hS H
    refine ⟨fun h => (by rw [h] at hr; cases hr), fun j hj w1 k1 => ?_⟩
    by_cases hji : j = i
    · subst hji; exact hy.wpOp hi (hSS _ _ hS k1) (fun w' k => .inl ⟨hSS _ _ (hSS _ _ hS k1) k, wpAnyK.later _ H (k1.nil k)⟩)
    · have h1 := H.2 j (ready_mono hj hji) w1 k1
      obtain ⟨hjun, oj, hoj, hall⟩ := mem_ready.1 hj
      have hnot : ∀ e ∈ oj.after, Region.binds md e = true → e.on ≠ i := fun e he hb heq => by
        have h1 := hall e he hb
        have h0 := (mem_ready.1 hr).1
        rw [heq] at h1
        rcases Nat.lt_or_ge i listed.size with h' | h'
        · simp [h'] at h0 h1; rw [h0] at h1; cases h1
        · simp [Array.getElem?_eq_none h'] at h1
      have hnf : finalOp md ops j ≠ true := fun hf => by
        have h1 := final_listed hf hj (Array.getElem?_eq_some_iff.1 hi).1 (Ne.symm hji)
        have h0 := (mem_ready.1 hr).1
        rcases Nat.lt_or_ge i listed.size with h' | h'
        · simp [h'] at h0 h1; rw [h0] at h1; cases h1
        · simp [Array.getElem?_eq_none h'] at h1
      have h2 := wpOp_putK hoj (hfree j oj hoj hji hjun hnot) (fun cs b => hsel i oi cs b hi) (fun cs b => hsel j oj cs b hoj) hQ hy h1
      have hfree' : ∀ k ok, ops[k]? = some ok → k ≠ i → (listed.setIfInBounds j true).getD k true = false →
          (∀ e ∈ ok.after, Region.binds md e = true → e.on ≠ i) → oi.apart ops ok = true := fun k ok hk hki hun hno => by
        refine hfree k ok hk hki ?_ hno
        by_cases hjk : j = k
        · subst hjk; exact hjun
        · rw [getD_set_ne true hjk] at hun; exact hun
      refine wpOp_mono (fun a' w' h3 => ?_) h2
      obtain ⟨h3, h4 | ⟨hf, _⟩⟩ := h3
      · refine .inl ⟨h4.1, ih (listed.setIfInBounds j true) a' w' hfree' (ready_mono hr (Ne.symm hji)) h3 h4.1 ?_⟩
        rw [Array.setIfInBounds_comm _ _ hji]
        exact h4.2
      · exact absurd hf hnf

/-- A condition on the world that every later one meets too. -/
def Stays (S : World → Prop) : Prop := ∀ w w', S w → Kp [] w w' → S w'
theorem Stays.true : Stays (fun _ => True) := fun _ _ _ _ => trivial
theorem Stays.cell (p : Addr) (v : Value) : Stays (fun w => w.cell? p = some v) := fun _ _ h k => k.cell h (by simp)
theorem Stays.and {S T : World → Prop} (h : Stays S) (k : Stays T) : Stays (fun w => S w ∧ T w) := fun _ _ hs hk => ⟨h _ _ hs.1 hk, k _ _ hs.2 hk⟩
theorem Stays.cells (g : Nat) (t : TypeId) (cs : List Value) : Stays (fun w => Cells w g t cs) := fun _ _ h k => h.keep k (by simp)
theorem Stays.span (A : Option Addr) (xs : List Value) : Stays (fun w => Span w A xs) := fun _ _ h k => h.kept k

theorem at_list {i : Nat} {o : Oper} (h : ops.toList[i]? = some o) : ops[i]? = some o := by rw [← h]; simp
/-- The beginning. -/
theorem lin_start {id : Nat} {a : Act} {w : World} (S : World → Prop) (hSS : Stays S) (hm : P.follows .mixedOrders = true) (hS : S w.drew)
    (h : Stays S → S w.drew → wpAnyK P .any ops Q S ops.size (Array.replicate ops.size false) a w.drew) : (Code.region id ops true).wp P Q a w :=
  wp_region_any hm (wpAny_of_K _ _ _ _ (h hSS hS))
/-- A load, a sum: taken first. -/
theorem lin_val {i : Nat} {oi : Oper} {v : Value} {fuel : Nat} {listed : Array Bool} {a : Act} {w : World} (hi : ops.toList[i]? = some oi)
    (hs : Region.noSelect ops = true) (hf : Region.free md ops listed i = true) (hr : (Region.ready md ops listed).contains i = true)
    (hQ : ∀ c a w, Q (.panic c) (a.put oi.dst v) w → Q (.panic c) a w) (hSS : Stays S) (hS : S w) (hw : Region.wanted oi (yielded ops a.tmps) = true)
    (hy : ∀ w, S w → (execOp a.eval oi).run P w = .ok (.value v) w)
    (h : wpAnyK P md ops Q S fuel (listed.setIfInBounds i true) (a.put oi.dst v) w) : wpAnyK P md ops Q S (fuel + 1) listed a w :=
  wpAnyK_first (at_list hi) (Region.noSelect_spec hs) hQ hSS fuel listed a w (Region.free_spec (at_list hi) hf) (by simpa using hr) (.inl ⟨hw, fun w hS => .inl ⟨w, hy w hS, Kp.refl _ _⟩⟩) hS h
/-- One that is not wanted. -/
theorem lin_not {i : Nat} {oi : Oper} {fuel : Nat} {listed : Array Bool} {a : Act} {w : World} (hi : ops.toList[i]? = some oi)
    (hs : Region.noSelect ops = true) (hf : Region.free md ops listed i = true) (hr : (Region.ready md ops listed).contains i = true)
    (hQ : ∀ c a w, Q (.panic c) (a.put oi.dst undef) w → Q (.panic c) a w) (hSS : Stays S) (hS : S w) (hw : Region.wanted oi (yielded ops a.tmps) = false)
    (h : wpAnyK P md ops Q S fuel (listed.setIfInBounds i true) (a.put oi.dst undef) w) : wpAnyK P md ops Q S (fuel + 1) listed a w :=
  wpAnyK_first (at_list hi) (Region.noSelect_spec hs) hQ hSS fuel listed a w (Region.free_spec (at_list hi) hf) (by simpa using hr) (.inr ⟨hw, rfl⟩) hS h
/-- A call whose result does not hang on the world: taken first. -/
theorem lin_call {i : Nat} {oi : Oper} {v : Value} {f : FuncId} {args : Array Value} {fuel : Nat} {listed : Array Bool} {a : Act} {w : World} (hi : ops.toList[i]? = some oi)
    (hs : Region.noSelect ops = true) (hf : Region.free md ops listed i = true) (hr : (Region.ready md ops listed).contains i = true)
    (hQ : ∀ c a w, Q (.panic c) (a.put oi.dst v) w → Q (.panic c) a w) (hSS : Stays S) (hS : S w) (hw : Region.wanted oi (yielded ops a.tmps) = true)
    (hc : ∀ w, S w → Calls P f args w fun e w' => e = .returned v ∧ Kp [] w w')
    (hy : ∀ w, S w → (execOp a.eval oi).run P w = .ok (.enter f args) w)
    (h : wpAnyK P md ops Q S fuel (listed.setIfInBounds i true) (a.put oi.dst v) w) : wpAnyK P md ops Q S (fuel + 1) listed a w :=
  wpAnyK_first (at_list hi) (Region.noSelect_spec hs) hQ hSS fuel listed a w (Region.free_spec (at_list hi) hf) (by simpa using hr) (.inl ⟨hw, fun w hS => .inr ⟨f, args, w, hy w hS, hc w hS⟩⟩) hS h
/-- All have come up. -/
theorem lin_done {listed : Array Bool} {a : Act} {w : World} (hr : Region.ready md ops listed = []) (h : ∀ w', Kp [] w w' → Q .normal a w') :
    ∀ fuel, wpAnyK P md ops Q S fuel listed a w
  | 0 => ⟨hr, h⟩
  | _ + 1 => ⟨fun _ => h, by rw [hr]; simp⟩

/-- One alone may come up: it is carried out. -/
theorem lin_step {i : Nat} {o : Oper} {fuel : Nat} {listed : Array Bool} {a : Act} {w : World} (hr : Region.ready md ops listed = [i]) (ho : ops.toList[i]? = some o)
    (h : ∀ w1, Kp [] w w1 → ∀ K' : Act → World → Prop, Shut (∀ a w, S w → (S w → wpAnyK P md ops Q S fuel (listed.setIfInBounds i true) a w) → K' a w) → if Region.wanted o (yielded ops a.tmps) = true then Oper.wp P o a w1 K' Q else K' (a.put o.dst undef) w1) :
    wpAnyK P md ops Q S (fuel + 1) listed a w :=
  ⟨fun h0 => (by rw [hr] at h0; cases h0), fun j hj w1 k1 => by
    rw [hr] at hj
    obtain rfl : j = i := by simpa using hj
    exact wpOp_step (at_list ho) (fun K' hK => h w1 k1 K' (fun a w hS hW => hK a w (.inl ⟨hS, hW hS⟩)))⟩
/-- The last one, for which all others are waited: nothing is asked of the world behind it. -/
theorem lin_last {i : Nat} {o : Oper} {fuel : Nat} {listed : Array Bool} {a : Act} {w : World} (hr : Region.ready md ops listed = [i]) (ho : ops.toList[i]? = some o) (hf : finalOp md ops i = true)
    (h : ∀ w1, Kp [] w w1 → ∀ K' : Act → World → Prop, Shut (∀ a w, Q .normal a w → K' a w) → if Region.wanted o (yielded ops a.tmps) = true then Oper.wp P o a w1 K' Q else K' (a.put o.dst undef) w1) :
    wpAnyK P md ops Q S (fuel + 1) listed a w :=
  ⟨fun h0 => (by rw [hr] at h0; cases h0), fun j hj w1 k1 => by
    rw [hr] at hj
    obtain rfl : j = i := by simpa using hj
    exact wpOp_step (at_list ho) (fun K' hK => h w1 k1 K' (fun a w hq => hK a w (.inr ⟨hf, hq⟩)))⟩
/-- One of two comes up. -/
theorem lin_two {i j : Nat} {oi oj : Oper} {fuel : Nat} {listed : Array Bool} {a : Act} {w : World} (hr : Region.ready md ops listed = [i, j]) (hi : ops.toList[i]? = some oi) (hj : ops.toList[j]? = some oj)
    (h1 : ∀ w1, Kp [] w w1 → ∀ K' : Act → World → Prop, Shut (∀ a w, S w → (S w → wpAnyK P md ops Q S fuel (listed.setIfInBounds i true) a w) → K' a w) → if Region.wanted oi (yielded ops a.tmps) = true then Oper.wp P oi a w1 K' Q else K' (a.put oi.dst undef) w1)
    (h2 : ∀ w1, Kp [] w w1 → ∀ K' : Act → World → Prop, Shut (∀ a w, S w → (S w → wpAnyK P md ops Q S fuel (listed.setIfInBounds j true) a w) → K' a w) → if Region.wanted oj (yielded ops a.tmps) = true then Oper.wp P oj a w1 K' Q else K' (a.put oj.dst undef) w1) :
    wpAnyK P md ops Q S (fuel + 1) listed a w :=
  ⟨fun h0 => (by rw [hr] at h0; cases h0), fun l hl w1 k1 => by
    rw [hr] at hl
    rcases (show l = i ∨ l = j by simpa using hl) with rfl | rfl
    · exact wpOp_step (at_list hi) (fun K' hK => h1 w1 k1 K' (fun a w hS hW => hK a w (.inl ⟨hS, hW hS⟩)))
    · exact wpOp_step (at_list hj) (fun K' hK => h2 w1 k1 K' (fun a w hS hW => hK a w (.inl ⟨hS, hW hS⟩)))⟩
end
end Go.Proofs.YtampgimmodomoaaDoor

