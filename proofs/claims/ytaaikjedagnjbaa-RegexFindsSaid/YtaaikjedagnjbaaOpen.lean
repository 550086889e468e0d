/- What a law's parameters give: bytes, numbers, rows of bytes, texts. Over any program. -/
import Derived.Test.YtaaikjedagnjbaaLib
import Derived.ProofKit
import Derived.OpenShut
import Derived.ShutString
import Derived.ChangeOld
import Derived.Below
namespace Go.Proofs.Ytaaikjedagnjbaa
open Go Go.ChangeShapes Go.WideShapes Go.ChangeAt Go.RowKit

theorem wf_i64 {n : Int} (h : (Lit.int .i64 n).wf = true) : -9223372036854775808 ≤ n ∧ n ≤ 9223372036854775807 := by
  have h' := h
  simp only [Lit.wf, Bool.and_eq_true, decide_eq_true_eq] at h'
  exact h'
theorem wf_u8 {n : Int} (h : (Lit.int .u8 n).wf = true) : 0 ≤ n ∧ n ≤ 255 := by
  have h' := h
  simp only [Lit.wf, Bool.and_eq_true, decide_eq_true_eq] at h'
  exact h'
theorem wf_i32 {n : Int} (h : (Lit.int .i32 n).wf = true) : -2147483648 ≤ n ∧ n ≤ 2147483647 := by
  have h' := h
  simp only [Lit.wf, Bool.and_eq_true, decide_eq_true_eq] at h'
  exact h'
theorem wf_u32 {n : Int} (h : (Lit.int .u32 n).wf = true) : 0 ≤ n ∧ n ≤ 4294967295 := by
  have h' := h
  simp only [Lit.wf, Bool.and_eq_true, decide_eq_true_eq] at h'
  exact h'
theorem wf_u64 {n : Int} (h : (Lit.int .u64 n).wf = true) : 0 ≤ n ∧ n ≤ 18446744073709551615 := by
  have h' := h
  simp only [Lit.wf, Bool.and_eq_true, decide_eq_true_eq] at h'
  exact h'

section
variable {P : Program} {W : World} {H : Type} {enc : TypeId × Value → H}

/-- A slice of elements of one cell, as a list of cells, each of which reads as its type says. -/
theorem open_cells {T E : TypeId} (hT : P.underlying T = some (.slice E)) (hc : P.cellsOf E = 1) (Q : Value → Prop)
    (hQ : ∀ n v y, DataW.trod enc P W 0 (fun _ => true) true n E [v] = some y → Q v)
    {a : Option Addr} {len cap fuel : Nat} {x : DataW H × List MemPlace} (h : DataW.trod enc P W 0 (fun _ => true) true fuel T [.slice a len cap] = some x) :
    ∃ vs : List Value, Span W a vs ∧ vs.length = len ∧ len ≤ cap ∧ cap ≤ 9223372036854775807 ∧ (∀ v ∈ vs, Q v) ∧ (a = none → cap = 0) := by
  rcases DataW.trod_slice hT h with ⟨hcs, _⟩ | ⟨ad, len', cap', elems, rest, n, _, hcs, _, _, hl, hm, hlen, hel, _, _⟩
  · injection hcs with hcs
    injection hcs with h1 h2 h3
    subst h1 h2 h3
    exact ⟨[], Span.nil _ _, rfl, Nat.le_refl _, by omega, by simp, fun _ => rfl⟩
  · injection hcs with hcs
    injection hcs with h1 h2 h3
    subst h1 h2 h3
    have each : ∀ i, i < len → ∃ v, W.cell? (ad.add i) = some v ∧ Q v := by
      intro i hi
      have h1 := hel i hi
      rw [hc, Nat.mul_one] at h1
      have hsome : elems[i]? = some elems[i] := List.getElem?_eq_getElem (by omega)
      rw [hsome, Option.bind_eq_some_iff] at h1
      obtain ⟨cs', hcs, hy⟩ := h1
      have hlen1 : ∃ v, cs' = [v] := by
        have := hcs
        unfold World.cells? at this
        rw [if_pos (Nat.zero_le _)] at this
        simp only [List.range_succ, List.range_zero, List.nil_append, List.mapM_cons, List.mapM_nil] at this
        cases hw : W.cell? ((ad.add i).add 0) with
        | none => simp [hw] at this
        | some v => simp [hw] at this; exact ⟨v, this.symm⟩
      obtain ⟨v, rfl⟩ := hlen1
      exact ⟨v, cell_of_cells?_one hcs, hQ _ _ _ hy⟩
    refine ⟨(List.range len).map fun i => (W.cell? (ad.add i)).getD undef, ?_, by simp, hl, by simpa [maxLen] using hm, ?_, by simp⟩
    · intro j u hj
      rw [List.getElem?_map] at hj
      rcases Nat.lt_or_ge j len with hlt | hge
      · rw [List.getElem?_range hlt] at hj
        obtain ⟨v, hv, _⟩ := each j hlt
        simp only [Option.map_some, hv, Option.getD_some] at hj
        injection hj with hj
        subst hj
        exact ⟨ad, rfl, hv⟩
      · rw [List.getElem?_eq_none (by simpa using hge)] at hj
        simp at hj
    · intro v hv
      obtain ⟨i, hi, rfl⟩ := List.mem_map.1 hv
      obtain ⟨v, hv, hq⟩ := each i (List.mem_range.1 hi)
      rw [hv]
      exact hq

/-- Numbers as cells. -/
def nums (k : IntKind) (l : List Int) : List Value := l.map (Value.int k)
theorem pick_list {α : Type} {Q : α → Value → Prop} : ∀ vs : List Value, (∀ v ∈ vs, ∃ x, Q x v) → ∃ l : List α, l.length = vs.length ∧ ∀ (i : Nat) (x : α), l[i]? = some x → ∃ v, vs[i]? = some v ∧ Q x v
  | [], _ => ⟨[], rfl, by simp⟩
  | v :: vs, h => by
    obtain ⟨x, hx⟩ := h v (by simp)
    obtain ⟨l, hl, hq⟩ := pick_list vs (fun v hv => h v (by simp [hv]))
    refine ⟨x :: l, by simp [hl], ?_⟩
    intro i y hi
    cases i with
    | zero => simp at hi; subst hi; exact ⟨v, rfl, hx⟩
    | succ i => simpa using hq i y (by simpa using hi)
theorem nums_of {k : IntKind} {vs : List Value} {l : List Int} (hl : l.length = vs.length) (h : ∀ (i : Nat) (x : Int), l[i]? = some x → ∃ v : Value, vs[i]? = some v ∧ v = .int k x ∧ (Lit.int k x).wf = true) :
    vs = nums k l ∧ ∀ n ∈ l, (Lit.int k n).wf = true := by
  constructor
  · apply List.ext_getElem?
    intro i
    rcases Nat.lt_or_ge i l.length with hi | hi
    · obtain ⟨v, h1, rfl, _⟩ := h i l[i] (List.getElem?_eq_getElem hi)
      simp [nums, h1, hi]
    · rw [List.getElem?_eq_none (by omega), List.getElem?_eq_none (by simpa [nums] using hi)]
  · intro n hn
    obtain ⟨i, hi⟩ := List.getElem?_of_mem hn
    obtain ⟨_, _, _, h3⟩ := h i n hi
    exact h3

theorem nums_fuel {T E : TypeId} {k : IntKind} (hT : P.underlying T = some (.slice E)) (hE : P.underlying E = some (.int k)) (hc : P.cellsOf E = 1)
    {a : Option Addr} {len cap fuel : Nat} {x : DataW H × List MemPlace} (h : DataW.trod enc P W 0 (fun _ => true) true fuel T [.slice a len cap] = some x) :
    ∃ l : List Int, Span W a (nums k l) ∧ l.length = len ∧ len ≤ cap ∧ cap ≤ 9223372036854775807 ∧ (∀ n ∈ l, (Lit.int k n).wf = true) ∧ (a = none → cap = 0) := by
  obtain ⟨vs, h1, h2, h3, h4, h5, h6⟩ := open_cells (enc := enc) hT hc (fun v => ∃ n, v = .int k n ∧ (Lit.int k n).wf = true) (fun n v y hy => by
    obtain ⟨m, hm, _, hw⟩ := DataW.trod_int hE hy
    injection hm with hm
    exact ⟨m, hm, hw⟩) h
  obtain ⟨l, hl, hq⟩ := pick_list (Q := fun (n : Int) v => v = .int k n ∧ (Lit.int k n).wf = true) vs h5
  obtain ⟨rfl, hw⟩ := nums_of hl hq
  exact ⟨l, h1, by omega, h3, h4, hw, h6⟩

theorem u8s_of_nums (l : List Int) (h : ∀ n ∈ l, (Lit.int .u8 n).wf = true) : nums .u8 l = u8s (l.map fun n => UInt8.ofNat n.toNat) := by
  simp only [nums, u8s, List.map_map]
  apply List.map_congr_left
  intro n hn
  have := wf_u8 (h n hn)
  simp only [Function.comp, u8]
  congr 1
  simp
  omega

theorem bytes_fuel {T E : TypeId} (hT : P.underlying T = some (.slice E)) (hE : P.underlying E = some (.int .u8)) (hc : P.cellsOf E = 1)
    {a : Option Addr} {len cap fuel : Nat} {x : DataW H × List MemPlace} (h : DataW.trod enc P W 0 (fun _ => true) true fuel T [.slice a len cap] = some x) :
    ∃ l : List UInt8, Span W a (u8s l) ∧ l.length = len ∧ len ≤ cap ∧ cap ≤ 9223372036854775807 ∧ (a = none → cap = 0) := by
  obtain ⟨l, h1, h2, h3, h4, h5, h6⟩ := nums_fuel hT hE hc h
  exact ⟨_, (u8s_of_nums l h5) ▸ h1, by simpa using h2, h3, h4, h6⟩

theorem open_bytes {T E : TypeId} (hT : P.underlying T = some (.slice E)) (hE : P.underlying E = some (.int .u8)) (hc : P.cellsOf E = 1)
    {a : Option Addr} {len cap : Nat} {d : DataW H} {p : List MemPlace} (h : DataW.Trod enc P W 0 (fun _ => true) true T (.slice a len cap) d p) :
    ∃ l : List UInt8, Span W a (u8s l) ∧ l.length = len ∧ len ≤ cap ∧ cap ≤ 9223372036854775807 := by
  obtain ⟨fuel, hf⟩ := h
  obtain ⟨l, h1, h2, h3, h4, _⟩ := bytes_fuel hT hE hc hf
  exact ⟨l, h1, h2, h3, h4⟩
theorem open_nums {T E : TypeId} {k : IntKind} (hT : P.underlying T = some (.slice E)) (hE : P.underlying E = some (.int k)) (hc : P.cellsOf E = 1)
    {a : Option Addr} {len cap : Nat} {d : DataW H} {p : List MemPlace} (h : DataW.Trod enc P W 0 (fun _ => true) true T (.slice a len cap) d p) :
    ∃ l : List Int, Span W a (nums k l) ∧ l.length = len ∧ len ≤ cap ∧ cap ≤ 9223372036854775807 ∧ ∀ n ∈ l, (Lit.int k n).wf = true := by
  obtain ⟨fuel, hf⟩ := h
  obtain ⟨l, h1, h2, h3, h4, h5, _⟩ := nums_fuel hT hE hc hf
  exact ⟨l, h1, h2, h3, h4, h5⟩

/-- A slice value that reads as these bytes. -/
def IsBytes (W : World) (l : List UInt8) (v : Value) : Prop := ∃ A c, v = .slice A l.length c ∧ Span W A (u8s l) ∧ l.length ≤ c ∧ c ≤ 9223372036854775807 ∧ (A = none → c = 0)
theorem open_rows {T E B : TypeId} (hT : P.underlying T = some (.slice E)) (hE : P.underlying E = some (.slice B)) (hB : P.underlying B = some (.int .u8)) (hc : P.cellsOf E = 1) (hb : P.cellsOf B = 1)
    {a : Option Addr} {len cap : Nat} {d : DataW H} {p : List MemPlace} (h : DataW.Trod enc P W 0 (fun _ => true) true T (.slice a len cap) d p) :
    ∃ ls : List (List UInt8), (∀ (i : Nat) (l : List UInt8), ls[i]? = some l → ∃ ad v, a = some ad ∧ W.cell? (ad.add i) = some v ∧ IsBytes W l v) ∧ ls.length = len ∧ len ≤ cap ∧ cap ≤ 9223372036854775807 := by
  obtain ⟨fuel, hf⟩ := h
  obtain ⟨vs, h1, h2, h3, h4, h5, h6⟩ := open_cells (enc := enc) hT hc (fun v => ∃ l, IsBytes W l v) (fun n v y hy => by
    rcases DataW.trod_slice hE hy with ⟨hcs, _⟩ | ⟨ad, len', cap', _, _, _, _, hcs, _⟩
    · injection hcs with hcs
      subst hcs
      exact ⟨[], none, 0, rfl, Span.nil _ _, by simp, by omega, fun _ => rfl⟩
    · injection hcs with hcs
      subst hcs
      obtain ⟨l, g1, g2, g3, g4, g5⟩ := bytes_fuel hE hB hb hy
      exact ⟨l, some ad, cap', by rw [g2], g1, by omega, g4, g5⟩) hf
  obtain ⟨ls, hl, hq⟩ := pick_list (Q := fun l v => IsBytes W l v) vs h5
  refine ⟨ls, fun i l hi => ?_, by omega, h3, h4⟩
  obtain ⟨v, hv, hi⟩ := hq i l hi
  obtain ⟨ad, ha, hcell⟩ := h1 i v hv
  exact ⟨ad, v, ha, hcell, hi⟩
end
end Go.Proofs.Ytaaikjedagnjbaa
