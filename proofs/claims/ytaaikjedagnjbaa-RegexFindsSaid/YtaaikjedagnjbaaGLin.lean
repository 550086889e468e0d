/- The linear law of drawn regions, once more: the last one need only come when all others have. -/
import Derived.Test.YtaaikjedagnjbaaLib
import Derived.Deep.RegionHeld3
namespace Go.Proofs.Ytaaikjedagnjbaa
open Go Go.RowKit

section
variable {P : Program} {ops : Array Oper} {Q : Exit → Act → World → Prop} {md : Region.Mode} {S : World → Prop}

/-- In every world that meets S operation o leaves v in its temporary, and what was there before is kept. -/
def YieldsK (P : Program) (ops : Array Oper) (S : World → Prop) (o : Oper) (v : Value) (a : Act) : Prop :=
  (Region.wanted o (yielded ops a.tmps) = true ∧ ∀ w, S w → (∃ w', (execOp a.eval o).run P w = .ok (.value v) w' ∧ Kp [] w w') ∨
    ∃ f args w', (execOp a.eval o).run P w = .ok (.enter f args) w' ∧ Calls P f args w' fun e w'' => e = .returned v ∧ Kp [] w w'') ∨
  (Region.wanted o (yielded ops a.tmps) = false ∧ v = undef)

theorem YieldsK.wpOp {i : Nat} {o : Oper} {v : Value} {a : Act} (hi : ops[i]? = some o) (hy : YieldsK P ops S o v a)
    {K : Act → World → Prop} {w : World} (hS : S w) (h : ∀ w', Kp [] w w' → K (a.put o.dst v) w') : wpOp P ops Q i K a w := by
  unfold Go.wpOp
  simp only [hi]
  rcases hy with ⟨hw, hv⟩ | ⟨hw, rfl⟩
  · simp only [hw, if_true, Oper.wp]
    refine .inl ?_
    rcases hv w hS with ⟨w', hr, hk⟩ | ⟨f, args, w', hr, hc⟩
    · rw [hr]
      exact h w' hk
    · rw [hr]
      simp only [Oper.upon]
      refine hc.mono fun e w'' he => ?_
      obtain ⟨rfl, hk⟩ := he
      exact h w'' hk
  · simp only [hw, Bool.false_eq_true, if_false]; exact h w (Kp.refl _ _)

theorem YieldsK.of_same {o : Oper} {v : Value} {a a' : Act} (hy : YieldsK P ops S o v a) (he : execOp a'.eval o = execOp a.eval o)
    (hw : Region.wanted o (yielded ops a'.tmps) = Region.wanted o (yielded ops a.tmps)) : YieldsK P ops S o v a' := by
  unfold YieldsK at *
  rw [he, hw]
  exact hy

theorem wpOp_putK {j : Nat} {oi oj : Oper} {v : Value} (hj : ops[j]? = some oj) (hap : oi.apart ops oj = true)
    (hsi : ∀ cs b, oi.op ≠ .select cs b) (hsj : ∀ cs b, oj.op ≠ .select cs b)
    (hQ : ∀ c a w, Q (.panic c) (a.put oi.dst v) w → Q (.panic c) a w) {K : Act → World → Prop} {a : Act} {w : World}
    (hy : YieldsK P ops S oi v a) (h : wpOp P ops Q j K (a.put oi.dst v) w) :
    wpOp P ops Q j (fun a' w' => YieldsK P ops S oi v a' ∧ K (a'.put oi.dst v) w') a w := by
  obtain ⟨h1, h2, h3⟩ := Oper.apart_spec hap
  have keep : ∀ (a : Act), YieldsK P ops S oi v a → ∀ u, YieldsK P ops S oi v (a.put oj.dst u) := fun a hy u =>
    hy.of_same (execOp_put oi hsi a oj.dst u h3) (wanted_put oi a oj.dst u h3)
  have keepD : ∀ d, YieldsK P ops S oi v { a with defers := d :: a.defers } := fun d => hy.of_same rfl rfl
  unfold wpOp at *
  simp only [hj] at *
  rw [wanted_put oj a oi.dst v h1] at h
  split
  · rename_i hw
    simp only [hw, if_true] at h
    rcases h with h | ⟨hasks, hlets⟩
    case inr => exact .inr ⟨by unfold Oper.asks at *; rw [execOp_put oj hsj a oi.dst v h1] at hasks; exact hasks, hlets⟩
    refine .inl ?_
    unfold Oper.wp at *
    rw [execOp_put oj hsj a oi.dst v h1] at h
    generalize (execOp a.eval oj).run P w = r at *
    cases r with
    | ok n w' =>
      cases n <;> simp only [Oper.upon] at h ⊢
      case value u => exact ⟨keep a hy u, by rw [← Act.put_comm a v u h2]; exact h⟩
      case skip => exact ⟨keep a hy _, by rw [← Act.put_comm a v undef h2]; exact h⟩
      case defer d =>
        refine ⟨keep _ (keepD d) _, ?_⟩
        rw [← Act.put_comm _ v undef h2, ← Act.put_defers]
        exact h
      case enter f args =>
        refine Calls.mono h fun e w'' he => ?_
        cases e with
        | returned u => exact ⟨keep a hy u, by rw [← Act.put_comm a v u h2]; exact he⟩
        | panicked c => exact hQ _ _ _ he
        | outgrown => exact he
      case row row args => exact Rows.mono h fun u w'' he => ⟨keep a hy u, by rw [← Act.put_comm a v u h2]; exact he⟩
    | halt x w' =>
      cases x <;> simp only [Oper.upon] at h ⊢
      case panic u => exact hQ _ _ _ h
  · rename_i hw
    simp only [hw] at h
    exact ⟨keep a hy _, by rw [← Act.put_comm a v undef h2]; exact h⟩

/-- All others are listed. -/
def lastOp (ops : Array Oper) (listed : Array Bool) (i : Nat) : Bool := (List.range ops.size).all fun k => k == i || listed.getD k false
/-- One that is not listed waits for i. -/
def consumed (md : Region.Mode) (ops : Array Oper) (listed : Array Bool) (i : Nat) : Bool :=
  (List.range ops.size).any fun k => k != i && (!listed.getD k true && (match ops[k]? with
    | none => false
    | some o => o.after.any fun e => Region.binds md e && e.on == i))
def Eaten (md : Region.Mode) (ops : Array Oper) (listed : Array Bool) (i : Nat) : Prop := ∃ k o, k ≠ i ∧ listed.getD k true = false ∧ ops[k]? = some o ∧ ∃ e ∈ o.after, Region.binds md e = true ∧ e.on = i
theorem consumed_eaten {listed : Array Bool} {i : Nat} (h : consumed md ops listed i = true) : Eaten md ops listed i := by
  unfold consumed at h
  obtain ⟨k, _, h1⟩ := List.any_eq_true.1 h
  simp only [Bool.and_eq_true, bne_iff_ne, ne_eq, Bool.not_eq_true'] at h1
  obtain ⟨h1, h2, h3⟩ := h1
  cases hk : ops[k]? with
  | none => rw [hk] at h3; cases h3
  | some o =>
    rw [hk] at h3
    simp only [Array.any_eq_true, Bool.and_eq_true, beq_iff_eq] at h3
    obtain ⟨m, hm, hb, he⟩ := h3
    exact ⟨k, o, h1, h2, hk, _, Array.getElem_mem hm, hb, he⟩
theorem last_listed {i : Nat} {listed : Array Bool} (hf : lastOp ops listed i = true) {k : Nat} (hk : k < ops.size) (hki : k ≠ i) : listed.getD k false = true := by
  have h1 := List.all_eq_true.1 hf k (List.mem_range.2 hk)
  simpa only [Bool.or_eq_true, beq_iff_eq, hki, false_or] using h1
theorem unlisted {k : Nat} {listed : Array Bool} (h0 : listed.getD k true = false) (h1 : listed.getD k false = true) : False := by
  rcases Nat.lt_or_ge k listed.size with h | h
  · simp [h] at h0 h1
    rw [h0] at h1
    cases h1
  · simp [Array.getElem?_eq_none h] at h0
theorem last_end {i : Nat} {listed : Array Bool} (hf : lastOp ops listed i = true) : Region.ready md ops (listed.setIfInBounds i true) = [] := by
  refine List.eq_nil_iff_forall_not_mem.2 fun j hj => ?_
  obtain ⟨h0, o, ho, _⟩ := mem_ready.1 hj
  have hjs : j < ops.size := (Array.getElem?_eq_some_iff.1 ho).1
  by_cases hji : j = i
  · subst hji
    rcases Nat.lt_or_ge j listed.size with h | h
    · simp [h] at h0
    · simp at h0
  · rw [getD_set_ne true (Ne.symm hji)] at h0
    exact unlisted h0 (last_listed hf hjs hji)

/-- Whatever order is picked from here on, from every later world. -/
def wpAnyK (P : Program) (md : Region.Mode) (ops : Array Oper) (Q : Exit → Act → World → Prop) (S : World → Prop) : Nat → Array Bool → Act → World → Prop
  | 0, listed, a, w => Region.ready md ops listed = [] ∧ ∀ w', Kp [] w w' → Q .normal a w'
  | fuel + 1, listed, a, w =>
    (Region.ready md ops listed = [] → ∀ w', Kp [] w w' → Q .normal a w') ∧
    ∀ i ∈ Region.ready md ops listed, ∀ w1, Kp [] w w1 → wpOp P ops Q i (fun a' w' => (S w' ∧ wpAnyK P md ops Q S fuel (listed.setIfInBounds i true) a' w') ∨ (lastOp ops listed i = true ∧ Q .normal a' w')) a w1

theorem wpAny_of_K : ∀ (fuel : Nat) (listed : Array Bool) (a : Act) (w : World), wpAnyK P md ops Q S fuel listed a w → wpAny P md ops Q fuel listed a w
  | 0, _, _, _, h => ⟨h.1, h.2 _ (Kp.refl _ _)⟩
  | fuel + 1, listed, _, _, h => ⟨fun hr => h.1 hr _ (Kp.refl _ _), fun i hi => wpOp_mono (fun a' w' h' => by
      rcases h' with h' | ⟨hf, hq⟩
      · exact wpAny_of_K fuel _ a' w' h'.2
      · have he := last_end (md := md) hf
        cases fuel with
        | zero => exact ⟨he, hq⟩
        | succ n => exact ⟨fun _ => hq, fun j hj => by rw [he] at hj; cases hj⟩) (h.2 i hi _ (Kp.refl _ _))⟩

theorem wpAnyK.later : ∀ (fuel : Nat) {listed : Array Bool} {a : Act} {w w1 : World}, wpAnyK P md ops Q S fuel listed a w → Kp [] w w1 → wpAnyK P md ops Q S fuel listed a w1
  | 0, _, _, _, _, h, k => ⟨h.1, fun w' k' => h.2 w' (k.nil k')⟩
  | _ + 1, _, _, _, _, h, k => ⟨fun hr w' k' => h.1 hr w' (k.nil k'), fun i hi w' k' => h.2 i hi w' (k.nil k')⟩

theorem wpAnyK_first {i : Nat} {oi : Oper} {v : Value} (hi : ops[i]? = some oi) (hsel : ∀ (j : Nat) (o : Oper) cs b, ops[j]? = some o → o.op ≠ .select cs b)
    (hQ : ∀ c a w, Q (.panic c) (a.put oi.dst v) w → Q (.panic c) a w) (hSS : ∀ w w', S w → Kp [] w w' → S w') :
    ∀ (fuel : Nat) (listed : Array Bool) (a : Act) (w : World),
      (∀ j oj, ops[j]? = some oj → j ≠ i → listed.getD j true = false → (∀ e ∈ oj.after, Region.binds md e = true → e.on ≠ i) → oi.apart ops oj = true) → Eaten md ops listed i →
      i ∈ Region.ready md ops listed → YieldsK P ops S oi v a → S w →
      wpAnyK P md ops Q S fuel (listed.setIfInBounds i true) (a.put oi.dst v) w → wpAnyK P md ops Q S (fuel + 1) listed a w := by
  intro fuel
  induction fuel with
  | zero =>
    intro listed a w _ _ hr hy hS H
    refine ⟨fun h => (by rw [h] at hr; cases hr), fun j hj w1 k1 => ?_⟩
    by_cases hji : j = i
    · subst hji; exact hy.wpOp hi (hSS _ _ hS k1) (fun w' k => .inl ⟨hSS _ _ (hSS _ _ hS k1) k, wpAnyK.later _ H (k1.nil k)⟩)
    · have := ready_mono hj hji
      rw [H.1] at this
      cases this
  | succ fuel ih =>
    intro listed a w hfree hea hr hy hS H
    refine ⟨fun h => (by rw [h] at hr; cases hr), fun j hj w1 k1 => ?_⟩
    by_cases hji : j = i
    · subst hji; exact hy.wpOp hi (hSS _ _ hS k1) (fun w' k => .inl ⟨hSS _ _ (hSS _ _ hS k1) k, wpAnyK.later _ H (k1.nil k)⟩)
    · have h1 := H.2 j (ready_mono hj hji) w1 k1
      obtain ⟨hjun, oj, hoj, hall⟩ := mem_ready.1 hj
      have hnot : ∀ e ∈ oj.after, Region.binds md e = true → e.on ≠ i := fun e he hb heq => by
        have h1 := hall e he hb
        have h0 := (mem_ready.1 hr).1
        rw [heq] at h1
        rcases Nat.lt_or_ge i listed.size with h' | h'
        · simp [h'] at h0 h1; rw [h0] at h1; cases h1
        · simp [Array.getElem?_eq_none h'] at h1
      have hki : ∃ k o, k ≠ i ∧ k ≠ j ∧ listed.getD k true = false ∧ ops[k]? = some o ∧ ∃ e ∈ o.after, Region.binds md e = true ∧ e.on = i := by
        obtain ⟨k, o, h1, h2, h3, e, he, hb, hei⟩ := hea
        refine ⟨k, o, h1, fun hkj => ?_, h2, h3, e, he, hb, hei⟩
        subst hkj
        rw [hoj] at h3
        injection h3 with h3
        subst h3
        exact hnot e he hb hei
      have hea' : Eaten md ops (listed.setIfInBounds j true) i := by
        obtain ⟨k, o, h1, h2, h3, h4⟩ := hki
        exact ⟨k, o, h1, by rw [getD_set_ne true (Ne.symm h2)]; exact h3, h4⟩
      have hnf : lastOp ops (listed.setIfInBounds i true) j ≠ true := fun hf => by
        obtain ⟨k, o, h1, h2, h3, h4, _⟩ := hki
        have h5 := last_listed hf (Array.getElem?_eq_some_iff.1 h4).1 h2
        rw [getD_set_ne false (Ne.symm h1)] at h5
        exact unlisted h3 h5
      have h2 := wpOp_putK hoj (hfree j oj hoj hji hjun hnot) (fun cs b => hsel i oi cs b hi) (fun cs b => hsel j oj cs b hoj) hQ hy h1
      have hfree' : ∀ k ok, ops[k]? = some ok → k ≠ i → (listed.setIfInBounds j true).getD k true = false →
          (∀ e ∈ ok.after, Region.binds md e = true → e.on ≠ i) → oi.apart ops ok = true := fun k ok hk hki hun hno => by
        refine hfree k ok hk hki ?_ hno
        by_cases hjk : j = k
        · subst hjk; exact hjun
        · rw [getD_set_ne true hjk] at hun; exact hun
      refine wpOp_mono (fun a' w' h3 => ?_) h2
      obtain ⟨h3, h4 | ⟨hf, _⟩⟩ := h3
      · refine .inl ⟨h4.1, ih (listed.setIfInBounds j true) a' w' hfree' hea' (ready_mono hr (Ne.symm hji)) h3 h4.1 ?_⟩
        rw [Array.setIfInBounds_comm _ _ hji]
        exact h4.2
      · exact absurd hf hnf

/-- A condition on the world that every later one meets too. -/
def Stays (S : World → Prop) : Prop := ∀ w w', S w → Kp [] w w' → S w'
theorem Stays.true : Stays (fun _ => True) := fun _ _ _ _ => trivial
theorem Stays.cell (p : Addr) (v : Value) : Stays (fun w => w.cell? p = some v) := fun _ _ h k => k.cell h (by simp)
theorem Stays.and {S T : World → Prop} (h : Stays S) (k : Stays T) : Stays (fun w => S w ∧ T w) := fun _ _ hs hk => ⟨h _ _ hs.1 hk, k _ _ hs.2 hk⟩
theorem Stays.cells (g : Nat) (t : TypeId) (cs : List Value) : Stays (fun w => Cells w g t cs) := fun _ _ h k => h.keep k (by simp)
theorem Stays.span (A : Option Addr) (xs : List Value) : Stays (fun w => Span w A xs) := fun _ _ h k => h.kept k

theorem at_list {i : Nat} {o : Oper} (h : ops.toList[i]? = some o) : ops[i]? = some o := by rw [← h]; simp
/-- The beginning. -/
theorem lin_start {id : Nat} {a : Act} {w : World} (S : World → Prop) (hSS : Stays S) (hm : P.follows .mixedOrders = true) (hS : S w.drew)
    (h : Stays S → S w.drew → wpAnyK P .any ops Q S ops.size (Array.replicate ops.size false) a w.drew) : (Code.region id ops true).wp P Q a w :=
  wp_region_any hm (wpAny_of_K _ _ _ _ (h hSS hS))
/-- A load, a sum: taken first. -/
theorem lin_val {i : Nat} {oi : Oper} {v : Value} {fuel : Nat} {listed : Array Bool} {a : Act} {w : World} (hi : ops.toList[i]? = some oi)
    (hs : Region.noSelect ops = true) (hea : consumed md ops listed i = true) (hf : Region.free md ops listed i = true) (hr : (Region.ready md ops listed).contains i = true)
    (hQ : ∀ c a w, Q (.panic c) (a.put oi.dst v) w → Q (.panic c) a w) (hSS : Stays S) (hS : S w) (hw : Region.wanted oi (yielded ops a.tmps) = true)
    (hy : ∀ w, S w → (execOp a.eval oi).run P w = .ok (.value v) w)
    (h : wpAnyK P md ops Q S fuel (listed.setIfInBounds i true) (a.put oi.dst v) w) : wpAnyK P md ops Q S (fuel + 1) listed a w :=
  wpAnyK_first (at_list hi) (Region.noSelect_spec hs) hQ hSS fuel listed a w (Region.free_spec (at_list hi) hf) (consumed_eaten hea) (by simpa using hr) (.inl ⟨hw, fun w hS => .inl ⟨w, hy w hS, Kp.refl _ _⟩⟩) hS h
/-- One that is not wanted. -/
theorem lin_not {i : Nat} {oi : Oper} {fuel : Nat} {listed : Array Bool} {a : Act} {w : World} (hi : ops.toList[i]? = some oi)
    (hs : Region.noSelect ops = true) (hea : consumed md ops listed i = true) (hf : Region.free md ops listed i = true) (hr : (Region.ready md ops listed).contains i = true)
    (hQ : ∀ c a w, Q (.panic c) (a.put oi.dst undef) w → Q (.panic c) a w) (hSS : Stays S) (hS : S w) (hw : Region.wanted oi (yielded ops a.tmps) = false)
    (h : wpAnyK P md ops Q S fuel (listed.setIfInBounds i true) (a.put oi.dst undef) w) : wpAnyK P md ops Q S (fuel + 1) listed a w :=
  wpAnyK_first (at_list hi) (Region.noSelect_spec hs) hQ hSS fuel listed a w (Region.free_spec (at_list hi) hf) (consumed_eaten hea) (by simpa using hr) (.inr ⟨hw, rfl⟩) hS h
/-- A call whose result does not hang on the world: taken first. -/
theorem lin_call {i : Nat} {oi : Oper} {v : Value} {f : FuncId} {args : Array Value} {fuel : Nat} {listed : Array Bool} {a : Act} {w : World} (hi : ops.toList[i]? = some oi)
    (hs : Region.noSelect ops = true) (hea : consumed md ops listed i = true) (hf : Region.free md ops listed i = true) (hr : (Region.ready md ops listed).contains i = true)
    (hQ : ∀ c a w, Q (.panic c) (a.put oi.dst v) w → Q (.panic c) a w) (hSS : Stays S) (hS : S w) (hw : Region.wanted oi (yielded ops a.tmps) = true)
    (hc : ∀ w, S w → Calls P f args w fun e w' => e = .returned v ∧ Kp [] w w')
    (hy : ∀ w, S w → (execOp a.eval oi).run P w = .ok (.enter f args) w)
    (h : wpAnyK P md ops Q S fuel (listed.setIfInBounds i true) (a.put oi.dst v) w) : wpAnyK P md ops Q S (fuel + 1) listed a w :=
  wpAnyK_first (at_list hi) (Region.noSelect_spec hs) hQ hSS fuel listed a w (Region.free_spec (at_list hi) hf) (consumed_eaten hea) (by simpa using hr) (.inl ⟨hw, fun w hS => .inr ⟨f, args, w, hy w hS, hc w hS⟩⟩) hS h
/-- All have come up. -/
theorem lin_done {listed : Array Bool} {a : Act} {w : World} (hr : Region.ready md ops listed = []) (h : ∀ w', Kp [] w w' → Q .normal a w') :
    ∀ fuel, wpAnyK P md ops Q S fuel listed a w
  | 0 => ⟨hr, h⟩
  | _ + 1 => ⟨fun _ => h, by rw [hr]; simp⟩

/-- One alone may come up: it is carried out. -/
theorem lin_step {i : Nat} {o : Oper} {fuel : Nat} {listed : Array Bool} {a : Act} {w : World} (hr : Region.ready md ops listed = [i]) (ho : ops.toList[i]? = some o)
    (h : ∀ w1, Kp [] w w1 → ∀ K' : Act → World → Prop, Shut (∀ a w, S w → (S w → wpAnyK P md ops Q S fuel (listed.setIfInBounds i true) a w) → K' a w) → if Region.wanted o (yielded ops a.tmps) = true then Oper.wp P o a w1 K' Q else K' (a.put o.dst undef) w1) :
    wpAnyK P md ops Q S (fuel + 1) listed a w :=
  ⟨fun h0 => (by rw [hr] at h0; cases h0), fun j hj w1 k1 => by
    rw [hr] at hj
    obtain rfl : j = i := by simpa using hj
    exact wpOp_step (at_list ho) (fun K' hK => h w1 k1 K' (fun a w hS hW => hK a w (.inl ⟨hS, hW hS⟩)))⟩
/-- The last one, for which all others are waited: nothing is asked of the world behind it. -/
theorem lin_last {i : Nat} {o : Oper} {fuel : Nat} {listed : Array Bool} {a : Act} {w : World} (hr : Region.ready md ops listed = [i]) (ho : ops.toList[i]? = some o) (hf : lastOp ops listed i = true)
    (h : ∀ w1, Kp [] w w1 → ∀ K' : Act → World → Prop, Shut (∀ a w, Q .normal a w → K' a w) → if Region.wanted o (yielded ops a.tmps) = true then Oper.wp P o a w1 K' Q else K' (a.put o.dst undef) w1) :
    wpAnyK P md ops Q S (fuel + 1) listed a w :=
  ⟨fun h0 => (by rw [hr] at h0; cases h0), fun j hj w1 k1 => by
    rw [hr] at hj
    obtain rfl : j = i := by simpa using hj
    exact wpOp_step (at_list ho) (fun K' hK => h w1 k1 K' (fun a w hq => hK a w (.inr ⟨hf, hq⟩)))⟩
/-- One of two comes up. -/
theorem lin_two {i j : Nat} {oi oj : Oper} {fuel : Nat} {listed : Array Bool} {a : Act} {w : World} (hr : Region.ready md ops listed = [i, j]) (hi : ops.toList[i]? = some oi) (hj : ops.toList[j]? = some oj)
    (h1 : ∀ w1, Kp [] w w1 → ∀ K' : Act → World → Prop, Shut (∀ a w, S w → (S w → wpAnyK P md ops Q S fuel (listed.setIfInBounds i true) a w) → K' a w) → if Region.wanted oi (yielded ops a.tmps) = true then Oper.wp P oi a w1 K' Q else K' (a.put oi.dst undef) w1)
    (h2 : ∀ w1, Kp [] w w1 → ∀ K' : Act → World → Prop, Shut (∀ a w, S w → (S w → wpAnyK P md ops Q S fuel (listed.setIfInBounds j true) a w) → K' a w) → if Region.wanted oj (yielded ops a.tmps) = true then Oper.wp P oj a w1 K' Q else K' (a.put oj.dst undef) w1) :
    wpAnyK P md ops Q S (fuel + 1) listed a w :=
  ⟨fun h0 => (by rw [hr] at h0; cases h0), fun l hl w1 k1 => by
    rw [hr] at hl
    rcases (show l = i ∨ l = j by simpa using hl) with rfl | rfl
    · exact wpOp_step (at_list hi) (fun K' hK => h1 w1 k1 K' (fun a w hS hW => hK a w (.inl ⟨hS, hW hS⟩)))
    · exact wpOp_step (at_list hj) (fun K' hK => h2 w1 k1 K' (fun a w hS hW => hK a w (.inl ⟨hS, hW hS⟩)))⟩
end
section
variable {P : Program} {ops : Array Oper} {Q : Exit → Act → World → Prop} {md : Region.Mode} {S : World → Prop}
/-- At the normal end K, else Q. -/
def QK (Q : Exit → Act → World → Prop) (K : Act → World → Prop) : Exit → Act → World → Prop
  | .normal, a, w => K a w
  | e, a, w => Q e a w
theorem upon_K {o : Oper} {a : Act} {w : World} {K : Act → World → Prop} (h : Oper.wp P o a w (wpList P ops (QK Q K) []) (QK Q K)) : Oper.wp P o a w K Q := by
  unfold Oper.wp at *
  generalize (execOp a.eval o).run P w = r at *
  cases r with
  | ok n w' =>
    cases n <;> simp only [Oper.upon] at h ⊢ <;>
      first
        | exact h
        | exact Calls.mono h (fun e w'' he => by cases e <;> exact he)
        | exact Rows.mono h (fun _ _ he => he)
  | halt x w' => cases x <;> simp only [Oper.upon] at h ⊢ <;> exact h
theorem wpOp_of_list {i : Nat} {o : Oper} {K : Act → World → Prop} {a : Act} {w : World} (ho : ops[i]? = some o) (h : wpList P ops (QK Q K) [o] a w) : wpOp P ops Q i K a w := by
  unfold wpOp
  simp only [ho]
  unfold wpList at h
  split
  · rename_i hw
    rw [if_pos hw] at h
    rcases h with h | ⟨h1, h2⟩
    · exact .inl (upon_K h)
    · exact .inr ⟨h1, by obtain ⟨a, w, h2⟩ := h2; exact ⟨a, w, h2⟩⟩
  · rename_i hw
    rw [if_neg hw] at h
    exact h
/-- One alone may come up: it is walked. -/
theorem lin_list {i : Nat} {o : Oper} {fuel : Nat} {listed : Array Bool} {a : Act} {w : World} (hr : Region.ready md ops listed = [i]) (ho : ops.toList[i]? = some o)
    (h : ∀ w1, Kp [] w w1 → ∀ Q' : Exit → Act → World → Prop, Shut (∀ a w, S w → (S w → wpAnyK P md ops Q S fuel (listed.setIfInBounds i true) a w) → Q' .normal a w) → wpList P ops Q' [o] a w1) :
    wpAnyK P md ops Q S (fuel + 1) listed a w :=
  ⟨fun h0 => (by rw [hr] at h0; cases h0), fun j hj w1 k1 => by
    rw [hr] at hj
    obtain rfl : j = i := by simpa using hj
    exact wpOp_of_list (at_list ho) (h w1 k1 _ (fun a w hS hW => .inl ⟨hS, hW hS⟩))⟩
/-- The last one, for which all others are waited. -/
theorem lin_listLast {i : Nat} {o : Oper} {fuel : Nat} {listed : Array Bool} {a : Act} {w : World} (hr : Region.ready md ops listed = [i]) (ho : ops.toList[i]? = some o) (hf : lastOp ops listed i = true)
    (h : ∀ w1, Kp [] w w1 → ∀ Q' : Exit → Act → World → Prop, Shut (∀ a w, Q .normal a w → Q' .normal a w) → wpList P ops Q' [o] a w1) :
    wpAnyK P md ops Q S (fuel + 1) listed a w :=
  ⟨fun h0 => (by rw [hr] at h0; cases h0), fun j hj w1 k1 => by
    rw [hr] at hj
    obtain rfl : j = i := by simpa using hj
    exact wpOp_of_list (at_list ho) (h w1 k1 _ (fun a w hq => .inr ⟨hf, hq⟩))⟩
/-- All that was there but the blocks of T is as it was. -/
theorem Stays.kp (T : List Nat) (w0 : World) : Stays (fun W => Kp T w0 W) := fun _ _ h k => h.nil k
end
end Go.Proofs.Ytaaikjedagnjbaa
