/- A meter in memory: its block, the row of its dials, the dials; made when one is first asked for. -/
import Derived.Test.YtgoojndpondkmaaMSync
import Derived.Test.YtgoojndpondkmaaMLaw
namespace Go.Proofs.Ytgoojndpondkmaa
open Go Go.RowKit

theorem infoDial : (Try.prog.info? 63).map (fun i => (i.zero, i.size, i.bytes)) = some (some (.pointer none), 1, 8) := by kernel_rfl
abbrev ptr (g : Nat) : Value := .pointer (some ⟨g, 0, none⟩)
theorem one_ptr (g : Nat) : ∀ u ∈ [ptr g], u.oneCell' = true := by
  intro u hu
  rw [List.mem_singleton.1 hu]
  rfl
/-- The cells of a meter's block. -/
def mcells (n : Nat) (done st : Int) (v : Value) : List Value := [.int .i64 n, .int .u32 done, .int .i32 st, .int .u32 0, v]
/-- The dials. -/
def Dials (w : World) (gs : List Nat) (ds : List Dl) : Prop := gs.Nodup ∧ gs.length = ds.length ∧ ∀ (i : Nat) (g : Nat) (d : Dl), gs[i]? = some g → ds[i]? = some d → Cells w g 62 d.cells
/-- Made. -/
def MMade (w : World) (a : Nat) (gs : List Nat) (ds : List Dl) : Prop :=
  ∃ v, Cells w a 56 (mcells ds.length 1 0 v) ∧ Own w 63 v ds.length (gs.map ptr) ∧ Dials w gs ds
def MAt (w : World) (a : Nat) (gs : List Nat) (ds : List Dl) : Prop :=
  MMade w a gs ds ∨ (gs = [] ∧ ds = List.replicate ds.length Dl.zero ∧ Cells w a 56 (mcells ds.length 0 0 (.slice none 0 0)))
/-- A call on a meter: what it leaves. -/
def MPost (w : World) (a : Nat) (gs : List Nat) (ds : List Dl) (w' : World) : Prop := ∃ gs', MAt w' a gs' ds ∧ (∀ g ∈ gs', g ∈ gs ∨ w.heap.size ≤ g)

section
variable {w w' : World} {a g : Nat} {gs S : List Nat} {ds : List Dl}
theorem Dials.cell (h : Dials w gs ds) {i : Nat} (hi : i < ds.length) : ∃ g, gs[i]? = some g ∧ g ∈ gs ∧ Cells w g 62 ds[i].cells := by
  obtain ⟨_, h2, h3⟩ := h
  have hg : gs[i]? = some (gs[i]'(by omega)) := List.getElem?_eq_getElem (by omega)
  exact ⟨_, hg, List.getElem_mem _, h3 i _ _ hg (List.getElem?_eq_getElem hi)⟩
theorem Dials.mem (h : Dials w gs ds) (hg : g ∈ gs) : ∃ d : Dl, Cells w g 62 d.cells := by
  obtain ⟨i, hi⟩ := List.getElem?_of_mem hg
  have hl : i < ds.length := by rw [← h.2.1]; exact (List.getElem?_eq_some_iff.1 hi).1
  exact ⟨_, h.2.2 i g _ hi (List.getElem?_eq_getElem hl)⟩
theorem Dials.keep (h : Dials w gs ds) (k : Kp S w w') (hS : ∀ g ∈ gs, g ∉ S) : Dials w' gs ds :=
  ⟨h.1, h.2.1, fun i g d hg hd => (h.2.2 i g d hg hd).keep k (hS g (List.mem_of_getElem? hg))⟩
theorem MAt.lt (h : MAt w a gs ds) : a < w.heap.size := by
  rcases h with ⟨v, h1, _⟩ | ⟨_, _, h1⟩ <;> exact h1.lt
theorem MAt.gs_lt (h : MAt w a gs ds) : ∀ g ∈ gs, g < w.heap.size := by
  intro g hg
  rcases h with ⟨v, _, _, h3⟩ | ⟨rfl, _, _⟩
  · obtain ⟨d, hd⟩ := h3.mem hg
    exact hd.lt
  · cases hg
theorem MAt.keep (h : MAt w a gs ds) (k : Kp S w w') (ha : a ∉ S) (hS : ∀ g ∈ gs, g ∉ S) (hr : ∀ s ∈ S, ∃ t cs, Cells w s t cs ∧ t ≠ 63) : MAt w' a gs ds := by
  rcases h with ⟨v, h1, h2, h3⟩ | ⟨h0, h1, h2⟩
  · exact .inl ⟨v, h1.keep k ha, h2.keep k (fun g hg hm => by
      obtain ⟨t, cs, hc, hne⟩ := hr g hm
      exact h2.ne_cells hc (Ne.symm hne) hg), h3.keep k hS⟩
  · exact .inr ⟨h0, h1, h2.keep k ha⟩
theorem MAt.kept (h : MAt w a gs ds) (k : Kp [] w w') : MAt w' a gs ds := h.keep k (by simp) (by simp) (by simp)
end
end Go.Proofs.Ytgoojndpondkmaa
