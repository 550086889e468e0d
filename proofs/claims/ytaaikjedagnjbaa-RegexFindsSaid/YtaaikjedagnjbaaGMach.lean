/- A machine in memory: its states, where they go on; what it owns. -/
import Derived.Test.YtaaikjedagnjbaaRA
import Derived.Test.YtaaikjedagnjbaaShelf
import Derived.Test.YtaaikjedagnjbaaLaws
import Derived.Test.YtaaikjedagnjbaaWide
import Derived.IntWalk
namespace Go.Proofs.Ytaaikjedagnjbaa
open Go Go.RowKit Go.Lib

/-- Only blocks of a kind were written, of those that were there. -/
def Kq (E : Nat → Prop) (w w' : World) : Prop := ∃ S : List Nat, (∀ x ∈ S, E x) ∧ Kp S w w'
theorem Kq.refl (E : Nat → Prop) (w : World) : Kq E w w := ⟨[], by simp, Kp.refl _ _⟩
theorem Kq.of {E : Nat → Prop} {w w' : World} (k : Kp [] w w') : Kq E w w' := ⟨[], by simp, k⟩
theorem Kq.size {E : Nat → Prop} {w w' : World} (h : Kq E w w') : w.heap.size ≤ w'.heap.size := by
  obtain ⟨S, _, k⟩ := h
  exact k.size
theorem Kq.trans {E E1 : Nat → Prop} {w w1 w2 : World} (h : Kq E w w1) (h1 : Kq E1 w1 w2) (he : ∀ x, E1 x → x < w.heap.size → E x) : Kq E w w2 := by
  obtain ⟨S, hS, k⟩ := h
  obtain ⟨T, hT, k1⟩ := h1
  refine ⟨S ++ T.filter (fun x => decide (x < w.heap.size)), fun x hx => ?_, (k.mono (by intro x hx; simp [hx])).trans k1 (fun x hx hlt => ?_)⟩
  · rcases List.mem_append.1 hx with h | h
    · exact hS x h
    · rw [List.mem_filter] at h
      exact he x (hT x h.1) (of_decide_eq_true h.2)
  · exact List.mem_append.2 (.inr (List.mem_filter.2 ⟨hx, decide_eq_true hlt⟩))
theorem Kq.mono {E E1 : Nat → Prop} {w w1 : World} (h : Kq E w w1) (he : ∀ x, E x → E1 x) : Kq E1 w w1 := by
  obtain ⟨S, hS, k⟩ := h
  exact ⟨S, fun x hx => he x (hS x hx), k⟩
theorem Kq.block {E : Nat → Prop} {w w1 : World} (h : Kq E w w1) {g : Nat} (hg : ¬ E g) : ∃ S, g ∉ S ∧ Kp S w w1 := by
  obtain ⟨S, hS, k⟩ := h
  exact ⟨S, fun hm => hg (hS g hm), k⟩
theorem Kq.cells {E : Nat → Prop} {w w1 : World} (h : Kq E w w1) {g : Nat} {t : TypeId} {cs : List Value} (hc : Cells w g t cs) (hg : ¬ E g) : Cells w1 g t cs := by
  obtain ⟨S, hS, k⟩ := h.block hg
  exact hc.keep k hS
/-- A function with a body: a call of it is one. -/
def Enters (F : FuncId) : Prop := ∀ (args : Array Value) (w : World), (callFunc F args).run Try.prog w = .ok (.enter F args) w
theorem enters_of {F : FuncId} {fn : Func} (hf : Try.prog.funcs[F]? = some fn) (hname : (fn.name == "runtime.NumGoroutine") = false) (hb : fn.body.isNone = false) : Enters F := fun args w => by
  have h1 : fn.name ≠ "runtime.NumGoroutine" := by simpa using hname
  cases hc : fn.body with
  | none => rw [hc] at hb; cases hb
  | some c => simp [callFunc, hf, h1, hc]
/-- A function that takes a rune; it answers so as long as nothing but blocks of a kind, and new ones, is written. -/
def FnT (w : World) (O : Nat → Prop) (v : Value) (f : Nat → Bool) : Prop :=
  ∃ F cap, v = .func (.func F) #[] cap ∧ Enters F ∧ ∀ W, Kq (fun x => O x ∨ w.heap.size ≤ x) w W → ∀ c : Nat, c < 1114112 → Calls Try.prog F (#[.int .i32 (c : Int)] ++ cap) W fun e w' => e = .returned (.bool (f c)) ∧ Kp [] W w'
def FnW (w : World) (O : Nat → Prop) (v : Value) (f : Nat → Nat → Bool) : Prop :=
  ∃ F cap, v = .func (.func F) #[] cap ∧ Enters F ∧ ∀ W, Kq (fun x => O x ∨ w.heap.size ≤ x) w W → ∀ i n : Nat, i ≤ 1000000 → n ≤ 1000000 → Calls Try.prog F (#[.int .i64 (i : Int), .int .i64 (n : Int)] ++ cap) W fun e w' => e = .returned (.bool (f i n)) ∧ Kp [] W w'
theorem FnT.later {w w' : World} {O O' : Nat → Prop} {v : Value} {f : Nat → Bool} (h : FnT w O v f) (k : Kq (fun x => O x ∨ w.heap.size ≤ x) w w') (ho : ∀ x, O' x → O x ∨ w.heap.size ≤ x) : FnT w' O' v f := by
  obtain ⟨F, cap, rfl, hent, h⟩ := h
  refine ⟨F, cap, rfl, hent, fun W hW c hc => h W (k.trans hW (fun x hx hlt => ?_)) c hc⟩
  rcases hx with hx | hx
  · exact ho x hx
  · have := k.size; omega
theorem FnW.later {w w' : World} {O O' : Nat → Prop} {v : Value} {f : Nat → Nat → Bool} (h : FnW w O v f) (k : Kq (fun x => O x ∨ w.heap.size ≤ x) w w') (ho : ∀ x, O' x → O x ∨ w.heap.size ≤ x) : FnW w' O' v f := by
  obtain ⟨F, cap, rfl, hent, h⟩ := h
  refine ⟨F, cap, rfl, hent, fun W hW i n hi hn => h W (k.trans hW (fun x hx hlt => ?_)) i n hi hn⟩
  rcases hx with hx | hx
  · exact ho x hx
  · have := k.size; omega
def TkAt (w : World) (O : Nat → Prop) (v : Value) : Option (Nat → Bool) → Prop
  | none => v = .nilFunc
  | some f => FnT w O v f
def WhAt (w : World) (O : Nat → Prop) (v : Value) : Option (Nat → Nat → Bool) → Prop
  | none => v = .nilFunc
  | some f => FnW w O v f
theorem TkAt.later {w w' : World} {O O' : Nat → Prop} {v : Value} {f : Option (Nat → Bool)} (h : TkAt w O v f) (k : Kq (fun x => O x ∨ w.heap.size ≤ x) w w') (ho : ∀ x, O' x → O x ∨ w.heap.size ≤ x) : TkAt w' O' v f := by
  cases f with
  | none => exact h
  | some f => exact FnT.later h k ho
theorem WhAt.later {w w' : World} {O O' : Nat → Prop} {v : Value} {f : Option (Nat → Nat → Bool)} (h : WhAt w O v f) (k : Kq (fun x => O x ∨ w.heap.size ≤ x) w w') (ho : ∀ x, O' x → O x ∨ w.heap.size ≤ x) : WhAt w' O' v f := by
  cases f with
  | none => exact h
  | some f => exact FnW.later h k ho
def ints (l : List Nat) : List Value := l.map fun x : Nat => Value.int .i64 (x : Int)
/-- A state's cells. -/
structure Stc where
  t : Value
  h : Value
  n : Value
def Stc.cs (c : Stc) : List Value := [c.t, c.h, c.n]
def stcs (l : List Stc) : List Value := l.flatMap Stc.cs
theorem stcs_len : ∀ l : List Stc, (stcs l).length = l.length * 3
  | [] => rfl
  | c :: r => by
    show (c.cs ++ stcs r).length = _
    rw [List.length_append, stcs_len r, List.length_cons]
    show 3 + _ = _
    omega
theorem stcs_snoc (l : List Stc) (c : Stc) : stcs (l ++ [c]) = stcs l ++ c.cs := by simp [stcs]
theorem stcs_at : ∀ (l : List Stc) (i : Nat) (c : Stc), l[i]? = some c → ∀ j, j < 3 → (stcs l)[3 * i + j]? = c.cs[j]?
  | [], _, _, h, _, _ => by cases h
  | d :: r, 0, c, h, j, hj => by
    injection h with h
    subst h
    show (d.cs ++ stcs r)[3 * 0 + j]? = _
    rw [Nat.mul_zero, Nat.zero_add, List.getElem?_append_left (by show j < 3; exact hj)]
  | d :: r, i + 1, c, h, j, hj => by
    show (d.cs ++ stcs r)[3 * (i + 1) + j]? = _
    have e : d.cs.length = 3 := rfl
    rw [List.getElem?_append_right (by omega), show 3 * (i + 1) + j - d.cs.length = 3 * i + j by omega]
    exact stcs_at r i c h j hj
theorem stcs_set : ∀ (l : List Stc) (i : Nat) (c c' : Stc) (j : Nat) (u : Value), l[i]? = some c → j < 3 → c'.cs = c.cs.set j u → (stcs l).set (3 * i + j) u = stcs (l.set i c')
  | [], _, _, _, _, _, h, _, _ => by cases h
  | d :: r, 0, c, c', j, u, h, hj, e => by
    injection h with h
    subst h
    show (d.cs ++ stcs r).set (3 * 0 + j) u = c'.cs ++ stcs r
    rw [Nat.mul_zero, Nat.zero_add, List.set_append_left _ _ (by show j < 3; exact hj), e]
  | d :: r, i + 1, c, c', j, u, h, hj, e => by
    show (d.cs ++ stcs r).set (3 * (i + 1) + j) u = d.cs ++ stcs (r.set i c')
    have e3 : d.cs.length = 3 := rfl
    rw [List.set_append_right _ _ (by omega), show 3 * (i + 1) + j - d.cs.length = 3 * i + j by omega, stcs_set r i c c' j u h hj e]
/-- A machine: its states, each with what it takes, where, and a row of its own of where it goes on. E: the blocks it owns; R: other blocks that may be written. -/
structure MachAt (w : World) (mb : Nat) (E R : Nat → Prop) (M : List St) : Prop where
  ex : ∃ (v : Value) (cs : List Stc), Cells w mb 67 [v] ∧ OwnN w 75 3 v M.length (stcs cs) ∧ cs.length = M.length ∧ v.ownBlock ≠ some mb ∧ (∀ g, v.ownBlock = some g → E g) ∧
    (∀ (i : Nat) st c, M[i]? = some st → cs[i]? = some c → TkAt w (fun x => E x ∨ R x) c.t st.tk ∧ WhAt w (fun x => E x ∨ R x) c.h st.wh ∧ Own w 3 c.n st.nx.length (ints st.nx) ∧ c.t.oneCell' = true ∧ c.h.oneCell' = true ∧ c.n.oneCell' = true ∧ ∀ g, c.n.ownBlock = some g → E g ∧ g ≠ mb ∧ v.ownBlock ≠ some g) ∧
    (∀ (i j : Nat) c c' g, cs[i]? = some c → cs[j]? = some c' → c.n.ownBlock = some g → c'.n.ownBlock = some g → i = j)
  own : E mb
  lt : ∀ x, E x → x < w.heap.size
  apart : ∀ x, E x → ¬ R x
theorem stateInfo : (Try.prog.info? 75).map (fun i => (i.zero, i.size, i.bytes)) = some (some (.agg #[.nilFunc, .nilFunc, .slice none 0 0]), 3, 40) := by kernel_rfl
theorem intInfo : (Try.prog.info? 3).map (fun i => (i.zero, i.size, i.bytes)) = some (some (.int .i64 0), 1, 8) := by kernel_rfl
/-- Something else was written, or made. -/
theorem MachAt.keep {w w' : World} {mb : Nat} {E R E' : Nat → Prop} {M : List St} (h : MachAt w mb E R M) (k : Kq R w w') (he : ∀ x, E x → E' x) (he' : ∀ x, E' x → E x ∨ (w.heap.size ≤ x ∧ x < w'.heap.size)) (hr : ∀ x, R x → x < w.heap.size) : MachAt w' mb E' R M := by
  obtain ⟨v, cs, h1, h2, h3, h4, h5, h6, h7⟩ := h.ex
  have hno : ∀ x, E x → ¬ R x := h.apart
  obtain ⟨S, hS, kp⟩ := k
  have hnS : ∀ x, E x → x ∉ S := fun x hx hm => hno x hx (hS x hm)
  have hkq : Kq (fun x => (E x ∨ R x) ∨ w.heap.size ≤ x) w w' := ⟨S, fun x hx => .inl (.inr (hS x hx)), kp⟩
  refine ⟨⟨v, cs, h1.keep kp (hnS mb h.own), h2.keep kp (fun g hg => hnS g (h5 g hg)), h3, h4, fun g hg => he g (h5 g hg), fun i st c hst hc => ?_, h7⟩, he mb h.own, fun x hx => ?_, fun x hx hrx => ?_⟩
  · obtain ⟨a1, a2, a3, b1, b2, b3, a4⟩ := h6 i st c hst hc
    have hO : ∀ x, (E' x ∨ R x) → (E x ∨ R x) ∨ w.heap.size ≤ x := fun x hx => by
      rcases hx with hx | hx
      · rcases he' x hx with h | h
        · exact .inl (.inl h)
        · exact .inr h.1
      · exact .inl (.inr hx)
    exact ⟨a1.later hkq hO, a2.later hkq hO, a3.keep kp (fun g hg => hnS g (a4 g hg).1), b1, b2, b3, fun g hg => ⟨he g (a4 g hg).1, (a4 g hg).2⟩⟩
  · rcases he' x hx with h1 | h1
    · exact Nat.lt_of_lt_of_le (h.lt x h1) kp.size
    · exact h1.2
  · rcases he' x hx with h1 | h1
    · exact hno x h1 hrx
    · have := hr x hrx; omega
end Go.Proofs.Ytaaikjedagnjbaa
