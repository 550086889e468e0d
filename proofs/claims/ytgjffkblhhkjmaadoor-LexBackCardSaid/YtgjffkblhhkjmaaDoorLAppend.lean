/- append of a row that may be none. -/
import Derived.Test.YtgjffkblhhkjmaaDoorLSame
import Derived.Test.YtgjffkblhhkjmaaDoorWide
namespace Go.Proofs.YtgjffkblhhkjmaaDoor
open Go Go.RowKit Go.Lib

section
variable {P : Program} {w : World}
theorem run_append_none (t ty e : TypeId) (i : TypeInfo) (ht : P.underlying t = some (.slice e)) (hi : P.info? e = some i) (b off sLen sCap c : Nat) (hroom : sLen ≤ sCap) :
    (Builtin.append_ #[t, t] ty #[.slice (some ⟨b, off, none⟩) sLen sCap, .slice none 0 c]).run P w = .ok (.slice (some ⟨b, off, none⟩) sLen sCap) w := by
  simp [Builtin.append_, run_underlying ht, sizeOf, typeInfo, hi, Builtin.lenOf, hroom, Builtin.firstCells, loadCells, Addr.add_lit, storeCells]
theorem wpList_appendR {ops : Array Oper} {rest : List Oper} {o : Oper} {a : Act} {Q : Exit → Act → World → Prop} (hgd : o.guard = none) (s x : Operand) (t : TypeId)
    (ho : o.op = .call { callee := .builtin .append, args := #[s, x], argTypes := #[t, t] })
    (e : TypeId) (z : Value) (size bytes : Nat) (ht : P.underlying t = some (.slice e)) (h2 : (P.info? e).map (fun i => (i.zero, i.size, i.bytes)) = some (some z, size, bytes)) (hz : z.cells.size = size) (hsz : 0 < size)
    (g n c0 : Nat) (xs : List Value) (hs : a.eval s = .slice (some ⟨g, 0, none⟩) n c0) (hown : OwnN w e size (.slice (some ⟨g, 0, none⟩) n c0) n xs)
    (A : Option Addr) (m c : Nat) (news : List Value) (hx : a.eval x = .slice A m c) (hr : Span w A news) (hm : news.length = m * size) (h1 : ∀ u ∈ news, u.oneCell' = true)
    (h63 : n + m ≤ 9223372036854775807) (hbytes : (n + m) * bytes ≤ 140737488355328)
    (h : ∀ g' c' w', OwnN w' e size (.slice (some ⟨g', 0, none⟩) (n + m) c') (n + m) (xs ++ news) → Kp [g] w w' → (g' = g ∨ g' = w.heap.size) → wpList P ops Q rest (a.put o.dst (.slice (some ⟨g', 0, none⟩) (n + m) c')) w') :
    wpList P ops Q (o :: rest) a w := by
  cases A with
  | some ad =>
    refine wpList_appendN hgd s x t ho e z size bytes ht h2 hz hsz _ n xs hs hown ad m c news hx hr hm h1 h63 hbytes (fun v' w' hv hk hb => ?_)
    obtain ⟨A', c', rfl, -, -, -, hA⟩ := hv.shape
    have hk : Kp [g] w w' := hk
    have key : ∃ g', A' = some ⟨g', 0, none⟩ ∧ (g' = g ∨ g' = w.heap.size) := by
      cases A' with
      | none => rcases hb with hb | hb <;> cases hb
      | some ad' =>
        obtain ⟨e1, e2⟩ := hA ad' rfl
        refine ⟨ad'.block, by rw [← e1], ?_⟩
        rw [e2] at hb
        rcases hb with hb | hb
        · injection hb with hb; exact .inl hb
        · injection hb with hb; exact .inr hb
    obtain ⟨g', rfl, hg⟩ := key
    exact h g' c' w' hv hk hg
  | none =>
    obtain ⟨i, hi, hz0, hz1, hz2⟩ := info_parts h2
    have hn : news = [] := by
      cases news with
      | nil => rfl
      | cons u r => obtain ⟨ad, hh, _⟩ := hr 0 u rfl; cases hh
    subst hn
    have hm0 : m = 0 := by
      rcases Nat.eq_zero_or_pos m with h0 | h0
      · exact h0
      · exact absurd hm (Nat.ne_of_lt (Nat.mul_pos h0 hsz))
    subst hm0
    obtain ⟨A', c', e3, -, hc, -, -⟩ := hown.shape
    injection e3 with _ _ e3
    subst e3
    have hrun := run_append_none (P := P) (w := w) t o.type e i ht hi g 0 n c0 c hc
    refine wpList_plain hgd fun K hK => ?_
    unfold Oper.wp
    simp [execOp, ho, resolve, invoke, builtin, hs, hx, hrun, Result.andThen]
    refine hK _ _ (h g c0 w (by rw [List.append_nil]; exact hown) ((Kp.refl [] w).mono (by simp)) (.inl rfl))
end
end Go.Proofs.YtgjffkblhhkjmaaDoor
