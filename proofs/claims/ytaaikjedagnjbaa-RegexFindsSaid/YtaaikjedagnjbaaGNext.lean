/- A machine whose state goes on to one more. -/
import Derived.Test.YtaaikjedagnjbaaGAdd
namespace Go.Proofs.Ytaaikjedagnjbaa
open Go Go.RowKit Go.Lib

theorem OwnN.put {w : World} {e : TypeId} {s g n c : Nat} {xs : List Value} (h : OwnN w e s (.slice (some ⟨g, 0, none⟩) n c) n xs) {j : Nat} (hj : j < n * s) (u : Value) : OwnN (w.setCell ⟨g, j, none⟩ u) e s (.slice (some ⟨g, 0, none⟩) n c) n (xs.set j u) := by
  obtain ⟨h1, h2⟩ := h
  refine ⟨by rw [List.length_set]; exact h1, ?_⟩
  rcases h2 with ⟨h2, _⟩ | ⟨g', cap, cur, e1, h3, hg, hn, hm, hs, ht⟩
  · cases h2
  · injection e1 with e1 _ e2
    injection e1 with e1
    injection e1 with e1
    subst e1 e2
    have hc : Cells w g e cur.toList := by simpa [Cells] using hg
    have hp := hc.put j u
    refine .inr ⟨g, c, (cur.toList.set j u).toArray, rfl, h3, hp, hn, hm, by simpa using hs, ?_⟩
    rw [List.toList_toArray, ← ht]
    apply List.ext_getElem?
    intro i
    rw [List.getElem?_take, List.getElem?_set, List.getElem?_set, List.getElem?_take, List.length_take]
    have hl : cur.toList.length = cur.size := Array.length_toList
    have hcn : n * s ≤ cur.size := by rw [hs]; exact Nat.mul_le_mul_right _ hn
    by_cases hi : i < n * s
    · rw [if_pos hi, if_pos hi]
      by_cases hij : j = i
      · subst hij
        rw [if_pos rfl, if_pos rfl, if_pos (by omega), if_pos (by omega)]
      · rw [if_neg hij, if_neg hij]
    · rw [if_neg hi, if_neg hi, if_neg (by omega)]
/-- A state goes on to one more. -/
theorem mach_next {w w1 : World} {mb sb : Nat} {E R : Nat → Prop} {M : List St} {cap : Nat} {cs : List Stc} {st : St} {c : Stc} {i k : Nat} {v' : Value}
    (hown : E mb) (hlt : ∀ x, E x → x < w.heap.size) (hap : ∀ x, E x → ¬ R x) (hR : ∀ x, R x → x < w.heap.size) (h1 : Cells w mb 67 [.slice (some ⟨sb, 0, none⟩) M.length cap])
    (h2 : OwnN w 75 3 (.slice (some ⟨sb, 0, none⟩) M.length cap) M.length (stcs cs)) (h3 : cs.length = M.length) (h4 : sb ≠ mb) (h5 : E sb)
    (h6 : ∀ (i : Nat) st c, M[i]? = some st → cs[i]? = some c → TkAt w (fun x => E x ∨ R x) c.t st.tk ∧ WhAt w (fun x => E x ∨ R x) c.h st.wh ∧ Own w 3 c.n st.nx.length (ints st.nx) ∧ c.t.oneCell' = true ∧ c.h.oneCell' = true ∧ c.n.oneCell' = true ∧ ∀ g, c.n.ownBlock = some g → E g ∧ g ≠ mb ∧ sb ≠ g)
    (h7 : ∀ (i j : Nat) c c' g, cs[i]? = some c → cs[j]? = some c' → c.n.ownBlock = some g → c'.n.ownBlock = some g → i = j)
    (hst : M[i]? = some st) (hc : cs[i]? = some c) (k01 : Kp c.n.ownBlock.toList w w1) (hv' : Own w1 3 v' (st.nx.length + 1) (ints (st.nx ++ [k]))) (hb : v'.ownBlock = c.n.ownBlock ∨ ∃ g, v'.ownBlock = some g ∧ w.heap.size ≤ g) (hone : v'.oneCell' = true) :
    ∃ E', MachAt (w1.setCell ⟨sb, 3 * i + 2, none⟩ v') mb E' R (M.set i { st with nx := st.nx ++ [k] }) ∧ Grew w E (w1.setCell ⟨sb, 3 * i + 2, none⟩ v') E' := by
  obtain ⟨w3, hw3⟩ : ∃ w3, w3 = w1.setCell ⟨sb, 3 * i + 2, none⟩ v' := ⟨_, rfl⟩
  have k13 : Kp [sb] w1 w3 := by rw [hw3]; exact (Kp.refl _ _).setCell (fun _ => by simp) _
  have s01 := k01.size
  have s13 := k13.size
  have hci := h6 i st c hst hc
  have hcE : ∀ g, c.n.ownBlock = some g → E g ∧ g ≠ mb ∧ sb ≠ g := hci.2.2.2.2.2.2
  have him : i < M.length := (List.getElem?_eq_some_iff.1 hst).1
  have k03 : Kp (sb :: c.n.ownBlock.toList) w w3 := (k01.mono (fun x hx => List.mem_cons_of_mem _ hx)).trans k13 (fun x hx _ => by rw [List.mem_singleton.1 hx]; exact List.mem_cons_self)
  have hin : ∀ x, x ∈ sb :: c.n.ownBlock.toList → E x := by
    intro x hx
    rcases List.mem_cons.1 hx with h | h
    · rw [h]; exact h5
    · exact (hcE x (Option.mem_toList.1 h)).1
  have hkq : Kq E w w3 := ⟨_, hin, k03⟩
  have hmbS : mb ∉ sb :: c.n.ownBlock.toList := by
    intro h
    rcases List.mem_cons.1 h with h | h
    · exact h4 h.symm
    · exact (hcE mb (Option.mem_toList.1 h)).2.1 rfl
  have hsbS : sb ∉ c.n.ownBlock.toList := fun h => (hcE sb (Option.mem_toList.1 h)).2.2 rfl
  have hv'lt : ∀ g, v'.ownBlock = some g → g < w1.heap.size := hv'.lt
  have hv'sb : ∀ g, v'.ownBlock = some g → (E g ∨ w.heap.size ≤ g) ∧ g ≠ mb ∧ sb ≠ g := by
    intro g hg
    rcases hb with h | ⟨g', h, hge⟩
    · rw [h] at hg; exact ⟨.inl (hcE g hg).1, (hcE g hg).2⟩
    · rw [h] at hg
      injection hg with hg
      subst hg
      have := hlt mb hown
      have := hlt sb h5
      exact ⟨.inr hge, by omega, by omega⟩
  have hset : (stcs cs).set (3 * i + 2) v' = stcs (cs.set i ⟨c.t, c.h, v'⟩) := stcs_set cs i c ⟨c.t, c.h, v'⟩ 2 v' hc (by decide) rfl
  have hO : ∀ x, ((E x ∨ v'.ownBlock = some x) ∨ R x) → (E x ∨ R x) ∨ w.heap.size ≤ x := fun x hx => by
    rcases hx with (hx | hx) | hx
    · exact .inl (.inl hx)
    · rcases (hv'sb x hx).1 with h | h
      · exact .inl (.inl h)
      · exact .inr h
    · exact .inl (.inr hx)
  have hkO : Kq (fun x => (E x ∨ R x) ∨ w.heap.size ≤ x) w w3 := hkq.mono fun x hx => .inl (.inl hx)
  rw [← hw3]
  refine ⟨fun x => E x ∨ v'.ownBlock = some x, ⟨⟨.slice (some ⟨sb, 0, none⟩) M.length cap, cs.set i ⟨c.t, c.h, v'⟩, h1.keep k03 hmbS, ?_, by rw [List.length_set, List.length_set, h3], fun e => h4 (by injection e), fun g hg => .inl (by injection hg with hg; subst hg; exact h5), ?_, ?_⟩, .inl hown, ?_, ?_⟩, ⟨?_, hkq⟩⟩
  · rw [List.length_set, ← hset, hw3]
    exact (h2.keep k01 (fun g hg => by injection hg with hg; subst hg; exact hsbS)).put (by omega) v'
  · intro j st' c' hst' hc'
    rw [List.getElem?_set] at hst' hc'
    by_cases hij : i = j
    · subst hij
      rw [if_pos rfl, if_pos him] at hst'
      rw [if_pos rfl, if_pos (by omega)] at hc'
      injection hst' with hst'
      injection hc' with hc'
      subst hst' hc'
      refine ⟨hci.1.later hkO hO, hci.2.1.later hkO hO, ?_, hci.2.2.2.1, hci.2.2.2.2.1, hone, fun g hg => ⟨.inr hg, (hv'sb g hg).2.1, fun e => (hv'sb g hg).2.2 (by injection e)⟩⟩
      show Own w3 3 v' (st.nx ++ [k]).length (ints (st.nx ++ [k]))
      rw [List.length_append, List.length_singleton]
      exact hv'.keep k13 (fun g hg hm => by rw [List.mem_singleton.1 hm] at hg; exact (hv'sb sb hg).2.2 rfl)
    · rw [if_neg hij] at hst' hc'
      obtain ⟨a1, a2, a3, b1, b2, b3, a4⟩ := h6 j st' c' hst' hc'
      refine ⟨a1.later hkO hO, a2.later hkO hO, a3.keep k03 (fun g hg hm => ?_), b1, b2, b3, fun g hg => ⟨.inl (a4 g hg).1, (a4 g hg).2.1, fun e => (a4 g hg).2.2 (by injection e)⟩⟩
      rcases List.mem_cons.1 hm with h | h
      · exact (a4 g hg).2.2 h.symm
      · exact hij (h7 i j c c' g hc hc' (Option.mem_toList.1 h) hg)
  · intro j j' c' c'' g hj hj' hg hg'
    have key : ∀ (j : Nat) c', (cs.set i ⟨c.t, c.h, v'⟩)[j]? = some c' → c'.n.ownBlock = some g → (j = i ∧ c'.n = v') ∨ (j ≠ i ∧ cs[j]? = some c') := by
      intro j c' hj hg
      rw [List.getElem?_set] at hj
      by_cases hij : i = j
      · subst hij
        rw [if_pos rfl, if_pos (by omega)] at hj
        injection hj with hj
        exact .inl ⟨rfl, by rw [← hj]⟩
      · rw [if_neg hij] at hj
        exact .inr ⟨fun e => hij e.symm, hj⟩
    have cross : ∀ (j : Nat) c', j ≠ i → cs[j]? = some c' → c'.n.ownBlock = some g → v'.ownBlock = some g → False := by
      intro j c' hji hj hg hv
      have hjl : j < M.length := by have := (List.getElem?_eq_some_iff.1 hj).1; omega
      have hE := ((h6 j _ c' (List.getElem?_eq_getElem hjl) hj).2.2.2.2.2.2 g hg).1
      rcases hb with h | ⟨g', h, hge⟩
      · rw [h] at hv
        exact hji (h7 j i c' c g hj hc hg hv)
      · rw [h] at hv
        injection hv with hv
        have := hlt g hE
        omega
    rcases key j c' hj hg with ⟨rfl, e⟩ | ⟨hne, e⟩
    · rcases key j' c'' hj' hg' with ⟨rfl, e'⟩ | ⟨hne', e'⟩
      · rfl
      · exact absurd (cross j' c'' hne' e' hg' (by rw [← e]; exact hg)) id
    · rcases key j' c'' hj' hg' with ⟨rfl, e'⟩ | ⟨hne', e'⟩
      · exact absurd (cross j c' hne e hg (by rw [← e']; exact hg')) id
      · exact h7 j j' c' c'' g e e' hg hg'
  · intro x hx
    rcases hx with hx | hx
    · have := hlt x hx; omega
    · have := hv'lt x hx; omega
  · intro x hx hr
    rcases hx with hx | hx
    · exact hap x hx hr
    · rcases (hv'sb x hx).1 with h | h
      · exact hap x h hr
      · have := hR x hr; omega
  · intro x hx
    rcases hx with hx | hx
    · exact .inl hx
    · exact (hv'sb x hx).1
end Go.Proofs.Ytaaikjedagnjbaa
