/- Laws for the walk: slices of elements of several cells, appended to. Over any program. -/
import Derived.Test.YtaaikjedagnjbaaLaws
namespace Go.Proofs.Ytaaikjedagnjbaa
open Go Go.RowKit

/-- A slice value v of n elements of s cells each, nil or at the head of a block of the kind e, that begins with the cells xs. -/
def OwnN (w : World) (e : TypeId) (s : Nat) (v : Value) (n : Nat) (xs : List Value) : Prop := w.ownsRow 0 e s v n xs
section
variable {w w' : World} {e : TypeId} {s : Nat} {v : Value} {n : Nat} {xs : List Value} {S : List Nat}
theorem OwnN.nil (w : World) (e : TypeId) (s : Nat) : OwnN w e s (.slice none 0 0) 0 [] := World.ownsRow_nil _ _ _ _
theorem OwnN.of_cells {g : Nat} (h : Cells w g e xs) (hn : xs.length = n * s) (hm : n ≤ 9223372036854775807) : OwnN w e s (.slice (some ⟨g, 0, none⟩) n n) n xs :=
  ⟨hn, .inr ⟨g, n, xs.toArray, rfl, Nat.zero_le _, h, Nat.le_refl _, by simpa [maxLen] using hm, by simpa using hn, by rw [List.toList_toArray]; exact List.take_of_length_le (by omega)⟩⟩
theorem OwnN.length (h : OwnN w e s v n xs) : xs.length = n * s := h.1
theorem OwnN.lt (h : OwnN w e s v n xs) : ∀ k, v.ownBlock = some k → k < w.heap.size := fun k hk => (World.ownsRow.lt h k hk).2
theorem OwnN.keep (h : OwnN w e s v n xs) (k : Kp S w w') (hv : ∀ g, v.ownBlock = some g → g ∉ S) : OwnN w' e s v n xs := by
  obtain ⟨h1, h2⟩ := h
  refine ⟨h1, ?_⟩
  rcases h2 with h2 | ⟨g, cap, cur, rfl, h3, hg, r⟩
  · exact .inl h2
  · exact .inr ⟨g, cap, cur, rfl, h3, (k.block g (Array.getElem?_eq_some_iff.1 hg).1 (hv g rfl)).trans hg, r⟩
theorem OwnN.kept (h : OwnN w e s v n xs) (k : Kp [] w w') : OwnN w' e s v n xs := h.keep k (by simp)
theorem OwnN.shape (h : OwnN w e s v n xs) : ∃ A c, v = .slice A n c ∧ Span w A xs ∧ n ≤ c ∧ c ≤ 9223372036854775807 ∧ ∀ ad, A = some ad → ad = ⟨ad.block, 0, none⟩ ∧ v.ownBlock = some ad.block := by
  obtain ⟨h1, h2⟩ := h
  rcases h2 with ⟨rfl, rfl⟩ | ⟨g, cap, cur, rfl, _, hg, hn, hm, hs, ht⟩
  · obtain rfl : xs = [] := List.eq_nil_of_length_eq_zero (by simpa using h1)
    exact ⟨none, 0, rfl, Span.nil _ _, Nat.le_refl _, by omega, by simp⟩
  · refine ⟨some ⟨g, 0, none⟩, cap, rfl, ?_, hn, by simpa [maxLen] using hm, fun ad he => by injection he with he; subst he; exact ⟨rfl, rfl⟩⟩
    have hc : Cells w g e cur.toList := by simpa [Cells] using hg
    have := (Span.of_cells hc).take (n * s)
    rwa [ht] at this
end

/-- 'append' of m elements onto such a slice (nil let in). -/
theorem wpList_appendN {P : Program} {w : World} {ops : Array Oper} {rest : List Oper} {o : Oper} {a : Act} {Q : Exit → Act → World → Prop} (hgd : o.guard = none) (s x : Operand) (t : TypeId)
    (ho : o.op = .call { callee := .builtin .append, args := #[s, x], argTypes := #[t, t] })
    (e : TypeId) (z : Value) (size bytes : Nat) (ht : P.underlying t = some (.slice e)) (h2 : (P.info? e).map (fun i => (i.zero, i.size, i.bytes)) = some (some z, size, bytes)) (hz : z.cells.size = size) (hsz : 0 < size)
    (v : Value) (n : Nat) (xs : List Value) (hs : a.eval s = v) (hown : OwnN w e size v n xs)
    (ad : Addr) (m c : Nat) (news : List Value) (hx : a.eval x = .slice (some ad) m c) (hr : Span w (some ad) news) (hm : news.length = m * size) (h1 : ∀ u ∈ news, u.oneCell' = true)
    (h63 : n + m ≤ 9223372036854775807) (hbytes : (n + m) * bytes ≤ 140737488355328)
    (h : ∀ v' w', OwnN w' e size v' (n + m) (xs ++ news) → Kp v.ownBlock.toList w w' → (v'.ownBlock = v.ownBlock ∨ v'.ownBlock = some w.heap.size) → wpList P ops Q rest (a.put o.dst v') w') :
    wpList P ops Q (o :: rest) a w := by
  obtain ⟨i, hi, hz0, hz1, hz2⟩ := info_parts h2
  refine wpList_plain hgd fun K hK => ?_
  obtain ⟨v', w', hrun, r1, r2, _, r4⟩ := run_append_own_at (P := P) w 0 t o.type e i z size bytes ht hi hz0 hz1 hz2 hz hsz v n xs hown ad m c news hm
    (fun j u hj => by obtain ⟨ad', e, hc⟩ := hr j u hj; injection e with e; subst e; exact hc) h1 (by simpa [maxLen] using h63) hbytes (Nat.zero_le _)
  unfold Oper.wp
  simp [execOp, ho, resolve, invoke, builtin, hs, hx, hrun, Result.andThen]
  exact hK _ _ (h v' w' r1 (Kp.of_grown r2 (by intro k hk _; simp [hk])) r4)

/-- Taking one from the front of a list. -/
theorem take_snoc_get {α : Type} (l : List α) (k : Nat) (h : k < l.length) : l.take (k + 1) = l.take k ++ [l[k]] := by
  rw [List.take_add_one, List.getElem?_eq_getElem h]
  rfl
end Go.Proofs.Ytaaikjedagnjbaa
