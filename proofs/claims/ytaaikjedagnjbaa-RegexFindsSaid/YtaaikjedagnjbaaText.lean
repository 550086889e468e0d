/- append of a text's bytes, onto a slice that is new; and slices that are new. -/
import Derived.Test.YtaaikjedagnjbaaLaws
import Derived.Lib.AppendStr
namespace Go.Proofs.Ytaaikjedagnjbaa
open Go Go.RowKit

/-- Since w0 nothing that was there was written, and v's block is newer than w0. -/
structure New (w0 w : World) (v : Value) : Prop where
  kp : Kp [] w0 w
  blk : ∀ g, v.ownBlock = some g → w0.heap.size ≤ g
theorem New.nil {w0 w : World} (k : Kp [] w0 w) : New w0 w (.slice none 0 0) := ⟨k, by simp [Value.ownBlock]⟩
theorem New.step {w0 w w' : World} {v v' : Value} (h : New w0 w v) (k : Kp v.ownBlock.toList w w') (hb : ∀ g, v'.ownBlock = some g → w0.heap.size ≤ g) : New w0 w' v' :=
  ⟨h.kp.trans k (by intro x hx hl; simp only [Option.mem_toList] at hx; have := h.blk x hx; omega), hb⟩
theorem New.append {w0 w w' : World} {v v' : Value} {N : Nat} (h : New w0 w v) (k : Kp v.ownBlock.toList w w') (hb : v'.ownBlock = v.ownBlock ∨ v'.ownBlock = some N) (hN : w.heap.size ≤ N) : New w0 w' v' :=
  h.step k (fun g hg => by
    rcases hb with hb | hb
    · exact h.blk g (hb ▸ hg)
    · rw [hb] at hg; injection hg with hg; have := h.kp.size; omega)
theorem New.kept {w0 w w' : World} {v : Value} (h : New w0 w v) (k : Kp [] w w') : New w0 w' v := ⟨h.kp.nil k, h.blk⟩
theorem New.since {w0 w1 w : World} {v : Value} (k : Kp [] w0 w1) (h : New w1 w v) : New w0 w v := ⟨k.nil h.kp, fun g hg => Nat.le_trans k.size (h.blk g hg)⟩

theorem strCells_u8s (s : ByteArray) : Lib.strCells s = u8s s.data.toList := rfl
theorem Own.based {w : World} {e : TypeId} {v : Value} {n B : Nat} {xs : List Value} (h : Own w e v n xs) (hb : ∀ g, v.ownBlock = some g → B ≤ g) : w.ownsRow B e 1 v n xs := by
  obtain ⟨h1, h2⟩ := h
  rcases h2 with h2 | ⟨g, cap, cur, rfl, h3, r⟩
  · exact ⟨h1, .inl h2⟩
  · exact ⟨h1, .inr ⟨g, cap, cur, rfl, hb g rfl, r⟩⟩
theorem Own.unbased {w : World} {e : TypeId} {v : Value} {n B : Nat} {xs : List Value} (h : w.ownsRow B e 1 v n xs) : Own w e v n xs ∧ ∀ g, v.ownBlock = some g → B ≤ g := by
  obtain ⟨h1, h2⟩ := h
  rcases h2 with ⟨rfl, h2⟩ | ⟨g, cap, cur, rfl, h3, r⟩
  · exact ⟨⟨h1, .inl ⟨rfl, h2⟩⟩, by simp [Value.ownBlock]⟩
  · refine ⟨⟨h1, .inr ⟨g, cap, cur, rfl, Nat.zero_le _, r⟩⟩, fun g' hg => ?_⟩
    have : g = g' := by simpa [Value.ownBlock] using hg
    omega

/-- 'append(b, s...)', s a text. -/
theorem wpList_append_text {P : Program} {w w0 : World} {ops : Array Oper} {rest : List Oper} {o : Oper} {a : Act} {Q : Exit → Act → World → Prop} (hgd : o.guard = none) (sl x : Operand) (t u : TypeId)
    (ho : o.op = .call { callee := .builtin .append, args := #[sl, x], argTypes := #[t, u] })
    (e : TypeId) (ht : P.underlying t = some (.slice e)) (hu : P.underlying u = some .string) (h2 : (P.info? e).map (fun i => (i.zero, i.size, i.bytes)) = some (some (.int .u8 0), 1, 1))
    (v : Value) (n : Nat) (xs : List Value) (hs : a.eval sl = v) (hown : Own w e v n xs) (hnew : New w0 w v) (s : ByteArray) (hx : a.eval x = .string s)
    (hbytes : n + s.size ≤ 140737488355328)
    (h : ∀ v' w', Own w' e v' (n + s.size) (xs ++ u8s s.data.toList) → New w0 w' v' → wpList P ops Q rest (a.put o.dst v') w') : wpList P ops Q (o :: rest) a w := by
  obtain ⟨i, hi, hz0, hz1, hz2⟩ := info_parts h2
  refine Lib.wpList_append_own_string w hgd sl x t u ho w0.heap.size e i ht hu hi hz0 hz1 hz2 v n xs hs (hown.based hnew.blk) s hx (by simp only [maxLen]; omega) hbytes hnew.kp.size ?_
  intro v' w' h3 h4 _
  obtain ⟨h5, h6⟩ := Own.unbased h3
  exact h v' w' h5 (hnew.step (Kp.of_grown h4 (by intro k hk _; simp [hk])) h6)

/-- Bytes that a slice value holds, from its block's head on. -/
def OwnB (e : TypeId) (w : World) (v : Value) (l : List UInt8) : Prop := Own w e v l.length (u8s l)
theorem OwnB.nil (e : TypeId) (w : World) : OwnB e w (.slice none 0 0) [] := Own.nil _ _
theorem OwnB.kept {e : TypeId} {w w' : World} {v : Value} {l : List UInt8} (h : OwnB e w v l) (k : Kp [] w w') : OwnB e w' v l := Own.kept h k
theorem OwnB.shape {e : TypeId} {w : World} {v : Value} {l : List UInt8} (h : OwnB e w v l) : ∃ A c, v = .slice A l.length c ∧ Span w A (u8s l) ∧ l.length ≤ c ∧ ∀ ad, A = some ad → ad = ⟨ad.block, 0, none⟩ ∧ v.ownBlock = some ad.block := by
  obtain ⟨A, c, h1, h2, h3, _, h4⟩ := Own.shape h
  exact ⟨A, c, h1, h2, h3, h4⟩
theorem OwnB.of_own {e : TypeId} {w : World} {v : Value} {n : Nat} {xs : List Value} {l : List UInt8} (h : Own w e v n xs) (hx : xs = u8s l) (hn : n = l.length) : OwnB e w v l := by
  subst hx hn
  exact h

theorem wpList_append_textB {P : Program} {w w0 : World} {ops : Array Oper} {rest : List Oper} {o : Oper} {a : Act} {Q : Exit → Act → World → Prop} (hgd : o.guard = none) (sl x : Operand) (t u : TypeId)
    (ho : o.op = .call { callee := .builtin .append, args := #[sl, x], argTypes := #[t, u] })
    (e : TypeId) (ht : P.underlying t = some (.slice e)) (hu : P.underlying u = some .string) (h2 : (P.info? e).map (fun i => (i.zero, i.size, i.bytes)) = some (some (.int .u8 0), 1, 1))
    (v : Value) (l : List UInt8) (hs : a.eval sl = v) (hown : OwnB e w v l) (hnew : New w0 w v) (s : ByteArray) (hx : a.eval x = .string s)
    (hbytes : l.length + s.size ≤ 140737488355328)
    (h : ∀ v' w', OwnB e w' v' (l ++ s.data.toList) → New w0 w' v' → wpList P ops Q rest (a.put o.dst v') w') : wpList P ops Q (o :: rest) a w :=
  wpList_append_text hgd sl x t u ho e ht hu h2 v _ _ hs hown hnew s hx hbytes fun v' w' h3 h4 =>
    h v' w' (OwnB.of_own h3 (by rw [u8s_append]) (by rw [List.length_append, Array.length_toList]; rfl)) h4
theorem wpList_append_bytesB {P : Program} {w w0 : World} {ops : Array Oper} {rest : List Oper} {o : Oper} {a : Act} {Q : Exit → Act → World → Prop} (hgd : o.guard = none) (s x : Operand) (t : TypeId)
    (ho : o.op = .call { callee := .builtin .append, args := #[s, x], argTypes := #[t, t] })
    (e : TypeId) (ht : P.underlying t = some (.slice e)) (h2 : (P.info? e).map (fun i => (i.zero, i.size, i.bytes)) = some (some (.int .u8 0), 1, 1))
    (v : Value) (l : List UInt8) (hs : a.eval s = v) (hown : OwnB e w v l) (hnew : New w0 w v)
    (A : Option Addr) (m c : Nat) (news : List UInt8) (hx : a.eval x = .slice A m c) (hr : Span w A (u8s news)) (hm : news.length = m)
    (hbytes : l.length + m ≤ 140737488355328)
    (h : ∀ v' w', OwnB e w' v' (l ++ news) → New w0 w' v' → wpList P ops Q rest (a.put o.dst v') w') :
    wpList P ops Q (o :: rest) a w :=
  wpList_append1 hgd s x t ho e (.int .u8 0) 1 ht h2 rfl v _ _ hs hown A m c (u8s news) hx hr (by rw [length_u8s]; exact hm) (u8s_one _) (by omega) (by omega) fun v' w' h3 h4 h5 =>
    h v' w' (OwnB.of_own h3 (by rw [u8s_append]) (by rw [List.length_append]; omega)) (hnew.append h4 h5 (Nat.le_refl _))
/-- Two rows of bytes in blocks apart: the one is appended to, the other stays. -/
theorem OwnB.apart {e : TypeId} {w w' : World} {v v' u : Value} {m : List UInt8} (h : OwnB e w u m) (hv : ∀ g, v.ownBlock = some g → u.ownBlock ≠ some g) (k : Kp v.ownBlock.toList w w') (hb : v'.ownBlock = v.ownBlock ∨ v'.ownBlock = some w.heap.size) :
    OwnB e w' u m ∧ ∀ g, v'.ownBlock = some g → u.ownBlock ≠ some g := by
  refine ⟨h.keep k (fun g hg hm => ?_), fun g hg => ?_⟩
  · simp only [Option.mem_toList] at hm
    exact hv g hm hg
  · rcases hb with hb | hb
    · exact hv g (hb ▸ hg)
    · rw [hb] at hg
      injection hg with hg
      intro hu
      have := h.lt _ hu
      omega
theorem step_append_bytesB {P : Program} {w w0 : World} {ops : Array Oper} {o : Oper} {a : Act} {K : Act → World → Prop} {Q : Exit → Act → World → Prop} {E : Prop} (hgd : o.guard = none) (s x : Operand) (t : TypeId)
    (ho : o.op = .call { callee := .builtin .append, args := #[s, x], argTypes := #[t, t] })
    (e : TypeId) (ht : P.underlying t = some (.slice e)) (h2 : (P.info? e).map (fun i => (i.zero, i.size, i.bytes)) = some (some (.int .u8 0), 1, 1))
    (v : Value) (l : List UInt8) (hs : a.eval s = v) (hown : OwnB e w v l) (hnew : New w0 w v)
    (A : Option Addr) (m c : Nat) (news : List UInt8) (hx : a.eval x = .slice A m c) (hr : Span w A (u8s news)) (hm : news.length = m)
    (hbytes : l.length + m ≤ 140737488355328)
    (h : ∀ v' w', OwnB e w' v' (l ++ news) → New w0 w' v' → Kp v.ownBlock.toList w w' → (v'.ownBlock = v.ownBlock ∨ v'.ownBlock = some w.heap.size) → K (a.put o.dst v') w') :
    if Region.wanted o (yielded ops a.tmps) = true then Oper.wp P o a w K Q else E :=
  step_append1 hgd s x t ho e (.int .u8 0) 1 ht h2 rfl v _ _ hs hown A m c (u8s news) hx hr (by rw [length_u8s]; exact hm) (u8s_one _) (by omega) (by omega) fun v' w' h3 h4 h5 =>
    h v' w' (OwnB.of_own h3 (by rw [u8s_append]) (by rw [List.length_append]; omega)) (hnew.append h4 h5 (Nat.le_refl _)) h4 h5
end Go.Proofs.Ytaaikjedagnjbaa
