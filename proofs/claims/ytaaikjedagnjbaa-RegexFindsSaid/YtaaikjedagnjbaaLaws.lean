/- Laws for the walk in those words: make, copy. Over any program. -/
import Derived.Test.YtaaikjedagnjbaaLib
namespace Go.Proofs.Ytaaikjedagnjbaa
open Go Go.RowKit

/-- min and max of two integers, as omega reads them (no parting of the walk). -/
@[go_sem high] theorem run_min_int {P : Program} (w : World) (ts : Array TypeId) (t : TypeId) (k k' : IntKind) (x y : Int) : (Builtin.min_ ts t #[.int k x, .int k' y]).run P w = .ok (.int k (min x y)) w := by
  rw [run_min_int2]
  congr 2
  split <;> omega
@[go_sem high] theorem run_max_int {P : Program} (w : World) (ts : Array TypeId) (t : TypeId) (k k' : IntKind) (x y : Int) : (Builtin.max_ ts t #[.int k x, .int k' y]).run P w = .ok (.int k (max x y)) w := by
  rw [run_max_int2]
  congr 2
  split <;> omega

theorem run_min2 {P : Program} (w : World) (k k' : IntKind) (x y : Int) : (Builtin.min2 (.int k x) (.int k' y)).run P w = .ok (.int k (min x y)) w := by
  simp only [Builtin.min2]
  simp
  split <;> omega
@[go_sem high] theorem run_min_int3 {P : Program} (w : World) (ts : Array TypeId) (t : TypeId) (k k' k2 : IntKind) (x y z : Int) : (Builtin.min_ ts t #[.int k x, .int k' y, .int k2 z]).run P w = .ok (.int k (min (min x y) z)) w := by
  simp [Builtin.min_, run_min2]
@[go_sem high] theorem run_min_int4 {P : Program} (w : World) (ts : Array TypeId) (t : TypeId) (k k' k2 k3 : IntKind) (x y z u : Int) : (Builtin.min_ ts t #[.int k x, .int k' y, .int k2 z, .int k3 u]).run P w = .ok (.int k (min (min (min x y) z) u)) w := by
  simp [Builtin.min_, run_min2]

theorem kp_setRow (w : World) (g : Nat) (cs : Array Value) : Kp [g] w (w.setRow g cs) :=
  ⟨rfl, rfl, rfl, by simp [World.setRow], fun k _ hS => setRow_other w g k cs (by intro e; exact hS (by simp [e]))⟩

/-- 'make([]T, n)', elements of one cell. -/
theorem wpList_make1 {P : Program} {w : World} {ops : Array Oper} {rest : List Oper} {o : Oper} {a : Act} {Q : Exit → Act → World → Prop}
    (hg : o.guard = none) (l c : Operand) (t : TypeId) (hop : o.op = Op.makeSlice t l c)
    (e : TypeId) (z : Value) (bytes : Nat) (h1 : P.underlying t = some (.slice e)) (h2 : (P.info? e).map (fun i => (i.zero, i.size, i.bytes)) = some (some z, 1, bytes)) (hz : z.cells = #[z])
    (kl kc : IntKind) (L C : Int) (n : Nat) (hl : a.eval l = .int kl L) (hc : a.eval c = .int kc C) (hL : L = (n : Int)) (hC : C = (n : Int)) (b2 : bytes * n ≤ 281474976710656) (b3 : n ≤ 9223372036854775807)
    (hK : ∀ w' Z, Hid (Z = List.replicate n z) → Cells w' w.heap.size e Z → Kp [] w w' → wpList P ops Q rest (a.put o.dst (.slice (some ⟨w.heap.size, 0, none⟩) n n)) w') :
    wpList P ops Q (o :: rest) a w := by
  obtain ⟨i, hi, hz0, hz1, hz2⟩ := info_parts h2
  subst hL hC
  refine wpList_plain hg fun K hK' => ?_
  have hb : (i.bytes : Int) * (n : Int) ≤ 281474976710656 := by
    have h : ((i.bytes * n : Nat) : Int) ≤ 281474976710656 := by rw [hz2]; omega
    rwa [Int.natCast_mul] at h
  have hr := run_make (P := P) w t e i z h1 hi hz0 kl kc n n (by omega) (Int.le_refl _) hb (by omega)
  simp only [Int.toNat_natCast, hz1, Nat.mul_one, hz] at hr
  unfold Oper.wp
  simp [execOp, hop, hl, hc, hr, Result.andThen]
  refine hK' _ _ (hK _ _ rfl ?_ ((Kp.refl _ _).alloc _))
  have he : madeCells #[z] n = (List.replicate n z).toArray := Array.toList_inj.1 (by rw [toList_madeCells_one])
  rw [he]
  exact Cells.fresh _ _ _

/-- 'copy(dst, src)' where dst lies in a block that is known whole. -/
theorem wpList_copy1 {P : Program} {w : World} {ops : Array Oper} {rest : List Oper} {o : Oper} {a : Act} {Q : Exit → Act → World → Prop} (hgd : o.guard = none) (d s : Operand) (dT sT : TypeId)
    (ho : o.op = .call { callee := .builtin .copy, args := #[d, s], argTypes := #[dT, sT] }) (elem : TypeId) (hu : P.underlying dT = some (.slice elem)) (hsz : (P.info? elem).map (·.size) = some 1)
    (dp sp : Option Addr) (dLen dCap sLen sCap : Nat) (hd : a.eval d = .slice dp dLen dCap) (hs : a.eval s = .slice sp sLen sCap)
    (g off : Nat) (cur : List Value) (t : TypeId) (hg : Cells w g t cur) (cs : List Value) (k : Nat) (hk : cs.length = k) (hn : k = Nat.min sLen dLen)
    (hpos : 0 < k → dp = some ⟨g, off, none⟩) (hsrc : Span w sp cs)
    (hfit : off + k ≤ cur.length) (h1 : ∀ v ∈ cs, v.oneCell' = true)
    (h : ∀ w', Hid (Cells w' g t (splice cur off cs)) → Kp [g] w w' → wpList P ops Q rest (a.put o.dst (.int .i64 (k : Int))) w') :
    wpList P ops Q (o :: rest) a w := by
  subst hk
  by_cases h0 : cs.length = 0
  · obtain rfl : cs = [] := List.eq_nil_of_length_eq_zero h0
    refine wpList_copy_nothing hgd d s dT sT ho elem hu hsz dp sp dLen dCap sLen sCap hd hs (by simpa using hn.symm) ?_
    exact h w (show Cells _ _ _ _ by simpa [splice] using hg) (Kp.refl _ _)
  · obtain rfl := hpos (by omega)
    obtain ⟨ad, rfl, _⟩ := hsrc.get (j := 0) (by omega)
    refine wpList_copy_own hgd d s dT sT ho elem hu hsz g off dLen dCap ad sLen sCap hd hs cur.toArray t hg cs hn (fun j v hj => ?_) (by simpa using hfit) h1 ?_
    · obtain ⟨ad', e, hc⟩ := hsrc j v hj
      injection e with e
      subst e
      exact hc
    · refine h _ (show Cells _ _ _ _ from ?_) (kp_setRow w g _)
      simpa [splice, Cells] using setRow_heap w g _ _ t _ hg

theorem splice_two {α : Type} (Z X Y : List α) (hZ : Z.length = X.length + Y.length) : splice (splice Z 0 X) X.length Y = X ++ Y := by
  simp only [splice, List.take_zero, List.nil_append, Nat.zero_add, List.take_left']
  rw [List.drop_append, List.drop_eq_nil_of_le (by omega : X.length ≤ X.length + Y.length), List.drop_drop,
    List.drop_eq_nil_of_le (by omega)]
  simp

/-- A slice value v of n elements, nil or at the head of a block of the kind e, that begins with the cells xs. -/
def Own (w : World) (e : TypeId) (v : Value) (n : Nat) (xs : List Value) : Prop := w.ownsRow 0 e 1 v n xs
theorem Own.nil (w : World) (e : TypeId) : Own w e (.slice none 0 0) 0 [] := World.ownsRow_nil _ _ _ _
theorem Own.of_cells {w : World} {g : Nat} {e : TypeId} {xs : List Value} (h : Cells w g e xs) (hm : xs.length ≤ 9223372036854775807) : Own w e (.slice (some ⟨g, 0, none⟩) xs.length xs.length) xs.length xs :=
  ⟨by simp, .inr ⟨g, xs.length, xs.toArray, rfl, Nat.zero_le _, h, Nat.le_refl _, by simpa [maxLen] using hm, by simp, by simp⟩⟩
theorem Own.lt {w : World} {e : TypeId} {v : Value} {n : Nat} {xs : List Value} (h : Own w e v n xs) : ∀ k, v.ownBlock = some k → k < w.heap.size := fun k hk => (World.ownsRow.lt h k hk).2
theorem Own.shape {w : World} {e : TypeId} {v : Value} {n : Nat} {xs : List Value} (h : Own w e v n xs) : ∃ A c, v = .slice A n c ∧ Span w A xs ∧ n ≤ c ∧ xs.length = n ∧ ∀ ad, A = some ad → ad = ⟨ad.block, 0, none⟩ ∧ v.ownBlock = some ad.block := by
  obtain ⟨h1, h2⟩ := h
  rcases h2 with ⟨rfl, rfl⟩ | ⟨g, cap, cur, rfl, _, hg, hn, _, _, ht⟩
  · obtain rfl : xs = [] := List.eq_nil_of_length_eq_zero (by simpa using h1)
    exact ⟨none, 0, rfl, Span.nil _ _, Nat.le_refl _, rfl, by simp⟩
  · refine ⟨some ⟨g, 0, none⟩, cap, rfl, ?_, hn, by simpa using h1, fun ad he => by injection he with he; subst he; exact ⟨rfl, rfl⟩⟩
    have hc : Cells w g e cur.toList := by simpa [Cells] using hg
    have := (Span.of_cells hc).take (n * 1)
    rwa [ht] at this
theorem Own.keep {w w' : World} {e : TypeId} {v : Value} {n : Nat} {xs : List Value} {S : List Nat} (h : Own w e v n xs) (k : Kp S w w') (hv : ∀ g, v.ownBlock = some g → g ∉ S) : Own w' e v n xs := by
  obtain ⟨h1, h2⟩ := h
  refine ⟨h1, ?_⟩
  rcases h2 with h2 | ⟨g, cap, cur, rfl, h3, hg, r⟩
  · exact .inl h2
  · exact .inr ⟨g, cap, cur, rfl, h3, (k.block g (Array.getElem?_eq_some_iff.1 hg).1 (hv g rfl)).trans hg, r⟩
theorem Own.kept {w w' : World} {e : TypeId} {v : Value} {n : Nat} {xs : List Value} (h : Own w e v n xs) (k : Kp [] w w') : Own w' e v n xs := h.keep k (by simp)
/-- A slice value at the head of its block: what can be read and written there. -/
theorem Own.at {w : World} {e : TypeId} {A : Option Addr} {n c : Nat} {xs : List Value} (h : Own w e (.slice A n c) n xs) (h0 : 0 < n) :
    ∃ g, A = some ⟨g, 0, none⟩ ∧ g < w.heap.size ∧ (∀ j, j < n → w.cell? ⟨g, j, none⟩ = xs[j]?) ∧ (∀ j, j < n → w.frozen? ⟨g, j, none⟩ = false) ∧
      ∀ j u, j < n → Own (w.setCell ⟨g, j, none⟩ u) e (.slice A n c) n (xs.set j u) := by
  obtain ⟨h1, h2⟩ := h
  rcases h2 with ⟨h2, _⟩ | ⟨g, cap, cur, hv, h3, hg, hn, hm, hs, ht⟩
  · injection h2 with _ h2 _; omega
  · injection hv with hA hn' hc
    subst hA hc
    have hc : Cells w g e cur.toList := by simpa [Cells] using hg
    have hcell : ∀ j, j < n → cur.toList[j]? = xs[j]? := by
      intro j hj
      rw [← ht, List.getElem?_take, if_pos (by omega)]
    refine ⟨g, rfl, hc.lt, fun j hj => by rw [hc.cell j, hcell j hj], fun j _ => hc.free j, fun j u hj => ⟨by simpa using h1, .inr ⟨g, c, (cur.toList.set j u).toArray, rfl, h3, by simpa [Cells] using hc.put j u, hn, hm, by simpa using hs, ?_⟩⟩⟩
    simp only [List.take_set]
    rw [ht]
theorem Own.put {w : World} {e : TypeId} {g n c : Nat} {xs : List Value} (h : Own w e (.slice (some ⟨g, 0, none⟩) n c) n xs) {j : Nat} (hj : j < n) (u : Value) : Own (w.setCell ⟨g, j, none⟩ u) e (.slice (some ⟨g, 0, none⟩) n c) n (xs.set j u) := by
  obtain ⟨g', e', _, _, _, hp⟩ := h.at (by omega)
  injection e' with e'
  injection e' with e'
  subst e'
  exact hp j u hj
theorem Own.ne_cells {w : World} {e t : TypeId} {v : Value} {n g : Nat} {xs cs : List Value} (h : Own w e v n xs) (hc : Cells w g t cs) (hne : e ≠ t) : v.ownBlock ≠ some g := by
  rcases h.2 with ⟨rfl, _⟩ | ⟨g', cap, cur, rfl, _, hg, _⟩
  · simp [Value.ownBlock]
  · intro he
    have : g' = g := by simpa [Value.ownBlock] using he
    subst this
    unfold Cells at hc
    rw [hg] at hc
    injection hc with hc
    injection hc with _ ht
    exact hne ht

theorem run_append_bare {P : Program} (w : World) (t ty e : TypeId) (i : TypeInfo) (ht : P.underlying t = some (.slice e)) (hi : P.info? e = some i)
    (v : Value) (n : Nat) (xs : List Value) (hown : Own w e v n xs) (c : Nat) : (Builtin.append_ #[t, t] ty #[v, .slice none 0 c]).run P w = .ok v w := by
  rcases hown.2 with ⟨rfl, rfl⟩ | ⟨g, cap, cur, rfl, _, _, hn, _⟩
  · simp [Builtin.append_, run_underlying ht, sizeOf, typeInfo, hi, Builtin.lenOf, Builtin.firstCells]
  · simp [Builtin.append_, run_underlying ht, sizeOf, typeInfo, hi, Builtin.lenOf, Builtin.firstCells, hn, storeCells]

/-- 'append' onto such a slice, of cells that read as a list (nil let in). -/
theorem wpList_append1 {P : Program} {w : World} {ops : Array Oper} {rest : List Oper} {o : Oper} {a : Act} {Q : Exit → Act → World → Prop} (hgd : o.guard = none) (s x : Operand) (t : TypeId)
    (ho : o.op = .call { callee := .builtin .append, args := #[s, x], argTypes := #[t, t] })
    (e : TypeId) (z : Value) (bytes : Nat) (ht : P.underlying t = some (.slice e)) (h2 : (P.info? e).map (fun i => (i.zero, i.size, i.bytes)) = some (some z, 1, bytes)) (hz : z.cells.size = 1)
    (v : Value) (n : Nat) (xs : List Value) (hs : a.eval s = v) (hown : Own w e v n xs)
    (A : Option Addr) (m c : Nat) (news : List Value) (hx : a.eval x = .slice A m c) (hr : Span w A news) (hm : news.length = m) (h1 : ∀ u ∈ news, u.oneCell' = true)
    (h63 : n + m ≤ 9223372036854775807) (hbytes : (n + m) * bytes ≤ 140737488355328)
    (h : ∀ v' w', Own w' e v' (n + m) (xs ++ news) → Kp v.ownBlock.toList w w' → (v'.ownBlock = v.ownBlock ∨ v'.ownBlock = some w.heap.size) → wpList P ops Q rest (a.put o.dst v') w') :
    wpList P ops Q (o :: rest) a w := by
  obtain ⟨i, hi, hz0, hz1, hz2⟩ := info_parts h2
  cases A with
  | none =>
    have hn : news = [] := by
      cases news with
      | nil => rfl
      | cons u l => obtain ⟨ad, e, _⟩ := hr 0 u rfl; cases e
    subst hn
    simp only [List.length_nil] at hm
    subst hm
    refine wpList_plain hgd fun K hK => ?_
    have hrun := run_append_bare (P := P) w t o.type e i ht hi v n xs hown c
    unfold Oper.wp
    simp [execOp, ho, resolve, invoke, builtin, hs, hx, hrun, Result.andThen]
    exact hK _ _ (h v w (by simpa using hown) (Kp.refl _ _) (.inl rfl))
  | some ad =>
    refine wpList_plain hgd fun K hK => ?_
    obtain ⟨v', w', hrun, r1, r2, _, r4⟩ := run_append_own_at (P := P) w 0 t o.type e i z 1 bytes ht hi hz0 hz1 hz2 hz (by omega) v n xs hown ad m c news (by omega)
      (fun j u hj => by obtain ⟨ad', e, hc⟩ := hr j u hj; injection e with e; subst e; exact hc) h1 (by simpa [maxLen] using h63) hbytes (Nat.zero_le _)
    unfold Oper.wp
    simp [execOp, ho, resolve, invoke, builtin, hs, hx, hrun, Result.andThen]
    exact hK _ _ (h v' w' r1 (Kp.of_grown r2 (by intro k hk _; simp [hk])) r4)

/-- The same as one operation (of any region). -/
theorem oper_append1 {P : Program} {w : World} {o : Oper} {a : Act} {K : Act → World → Prop} {Q : Exit → Act → World → Prop} (s x : Operand) (t : TypeId)
    (ho : o.op = .call { callee := .builtin .append, args := #[s, x], argTypes := #[t, t] })
    (e : TypeId) (z : Value) (bytes : Nat) (ht : P.underlying t = some (.slice e)) (h2 : (P.info? e).map (fun i => (i.zero, i.size, i.bytes)) = some (some z, 1, bytes)) (hz : z.cells.size = 1)
    (v : Value) (n : Nat) (xs : List Value) (hs : a.eval s = v) (hown : Own w e v n xs)
    (A : Option Addr) (m c : Nat) (news : List Value) (hx : a.eval x = .slice A m c) (hr : Span w A news) (hm : news.length = m) (h1 : ∀ u ∈ news, u.oneCell' = true)
    (h63 : n + m ≤ 9223372036854775807) (hbytes : (n + m) * bytes ≤ 140737488355328)
    (h : ∀ v' w', Own w' e v' (n + m) (xs ++ news) → Kp v.ownBlock.toList w w' → (v'.ownBlock = v.ownBlock ∨ v'.ownBlock = some w.heap.size) → K (a.put o.dst v') w') :
    o.wp P a w K Q := by
  obtain ⟨i, hi, hz0, hz1, hz2⟩ := info_parts h2
  cases A with
  | none =>
    have hn : news = [] := by
      cases news with
      | nil => rfl
      | cons u l => obtain ⟨ad, e, _⟩ := hr 0 u rfl; cases e
    subst hn
    simp only [List.length_nil] at hm
    subst hm
    have hrun := run_append_bare (P := P) w t o.type e i ht hi v n xs hown c
    unfold Oper.wp
    simp [execOp, ho, resolve, invoke, builtin, hs, hx, hrun, Result.andThen]
    exact h v w (by simpa using hown) (Kp.refl _ _) (.inl rfl)
  | some ad =>
    obtain ⟨v', w', hrun, r1, r2, _, r4⟩ := run_append_own_at (P := P) w 0 t o.type e i z 1 bytes ht hi hz0 hz1 hz2 hz (by omega) v n xs hown ad m c news (by omega)
      (fun j u hj => by obtain ⟨ad', e, hc⟩ := hr j u hj; injection e with e; subst e; exact hc) h1 (by simpa [maxLen] using h63) hbytes (Nat.zero_le _)
    unfold Oper.wp
    simp [execOp, ho, resolve, invoke, builtin, hs, hx, hrun, Result.andThen]
    exact h v' w' r1 (Kp.of_grown r2 (by intro k hk _; simp [hk])) r4

theorem step_append1 {P : Program} {w : World} {ops : Array Oper} {o : Oper} {a : Act} {K : Act → World → Prop} {Q : Exit → Act → World → Prop} {E : Prop} (hgd : o.guard = none) (s x : Operand) (t : TypeId)
    (ho : o.op = .call { callee := .builtin .append, args := #[s, x], argTypes := #[t, t] })
    (e : TypeId) (z : Value) (bytes : Nat) (ht : P.underlying t = some (.slice e)) (h2 : (P.info? e).map (fun i => (i.zero, i.size, i.bytes)) = some (some z, 1, bytes)) (hz : z.cells.size = 1)
    (v : Value) (n : Nat) (xs : List Value) (hs : a.eval s = v) (hown : Own w e v n xs)
    (A : Option Addr) (m c : Nat) (news : List Value) (hx : a.eval x = .slice A m c) (hr : Span w A news) (hm : news.length = m) (h1 : ∀ u ∈ news, u.oneCell' = true)
    (h63 : n + m ≤ 9223372036854775807) (hbytes : (n + m) * bytes ≤ 140737488355328)
    (h : ∀ v' w', Own w' e v' (n + m) (xs ++ news) → Kp v.ownBlock.toList w w' → (v'.ownBlock = v.ownBlock ∨ v'.ownBlock = some w.heap.size) → K (a.put o.dst v') w') :
    if Region.wanted o (yielded ops a.tmps) = true then Oper.wp P o a w K Q else E := by
  rw [if_pos (by simp [Region.wanted, hgd])]
  exact oper_append1 s x t ho e z bytes ht h2 hz v n xs hs hown A m c news hx hr hm h1 h63 hbytes h

/-- 'string(b)' of bytes that read as a list. -/
theorem run_text {P : Program} {src e dst : TypeId} (hs : P.underlying src = some (.slice e)) (he : P.underlying e = some (.int .u8)) (hd : P.underlying dst = some .string)
    {w : World} {A : Option Addr} {l : List UInt8} (h : Span w A (u8s l)) (n c : Nat) (hn : l.length = n) :
    (convert src dst (.slice A n c)).run P w = .ok (.string ⟨l.toArray⟩) w := by
  subst hn
  cases A with
  | none =>
    obtain rfl : l = [] := by
      cases l with
      | nil => rfl
      | cons u l => obtain ⟨ad, e, _⟩ := h 0 _ rfl; cases e
    exact run_convert_bytes_nil w src e hs he _ c dst hd
  | some ad =>
    have hl : (loadCells ad l.length).run P w = .ok (l.map u8).toArray w := by
      have := run_loadCells_list (P := P) w ad (l.map u8) (fun j v hj => by
        obtain ⟨ad', e, hc⟩ := h j v hj
        injection e with e
        subst e
        exact hc)
      simpa using this
    have hmap : l.map u8 = (l.map fun c => (c.toNat : Int)).map (Value.int .u8) := by simp [u8]
    rw [hmap] at hl
    rw [run_convert_bytes_string w src dst e _ l.length c hs he hd, run_bytesToString w _ l.length c _ hl, foldl_push_bytes]
    have hback : l.map ((fun n : Int => UInt8.ofNat n.toNat) ∘ fun c : UInt8 => (c.toNat : Int)) = l := by
      rw [List.map_congr_left (g := id) (fun c _ => by simp)]
      simp
    simp [ByteArray.empty, ByteArray.emptyWithCapacity]
    rw [hback]
    rfl

/-- '+' of two texts, as lists of bytes. -/
theorem run_add_text {P : Program} (l m r : List UInt8) (hr : r = l ++ m) (h : l.length + m.length ≤ 9223372036854775807) (w : World) :
    (Op.stringOp .add ⟨l.toArray⟩ ⟨m.toArray⟩).run P w = .ok (.string ⟨r.toArray⟩) w := by
  subst hr
  rw [run_string_add_sum _ _ _ (by simpa [ByteArray.size] using h)]
  congr 2
end Go.Proofs.Ytaaikjedagnjbaa
