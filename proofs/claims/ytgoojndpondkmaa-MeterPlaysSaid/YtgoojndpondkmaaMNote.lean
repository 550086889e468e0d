/- Note. -/
import Derived.Test.YtgoojndpondkmaaMDial
namespace Go.Proofs.Ytgoojndpondkmaa
open Go Go.RowKit

theorem made_set {w w' : World} {a g i : Nat} {v : Value} {gs : List Nat} {ds : List Dl} {d : Dl} (h : MMadeV w a v gs ds) (hg : gs[i]? = some g) (k : Kp [g] w w') (hc : Cells w' g 62 d.cells) : MMadeV w' a v gs (ds.set i d) := by
  obtain ⟨h1, h2, h3⟩ := h
  have hgm := List.mem_of_getElem? hg
  obtain ⟨x, hx⟩ := h3.mem hgm
  refine ⟨?_, ?_, ?_⟩
  · rw [List.length_set]
    exact h1.keep k (fun hm => by rw [List.mem_singleton] at hm; exact h1.ne hx (by decide) hm)
  · rw [List.length_set]
    exact h2.keep k (fun b hb hm => by
      rw [List.mem_singleton] at hm
      subst hm
      exact h2.ne_cells hx (by decide) hb)
  · obtain ⟨n1, n2, n3⟩ := h3
    refine ⟨n1, by simpa using n2, fun j b y hb hy => ?_⟩
    by_cases hij : i = j
    · subst hij
      rw [hg] at hb
      injection hb with hb
      subst hb
      rw [List.getElem?_set_self (by have := (List.getElem?_eq_some_iff.1 hy).1; simpa using this)] at hy
      injection hy with hy
      subst hy
      exact hc
    · rw [List.getElem?_set_ne hij] at hy
      refine (n3 j b y hb hy).keep k (fun hm => ?_)
      rw [List.mem_singleton] at hm
      subst hm
      have hi := (List.getElem?_eq_some_iff.1 hg)
      have hj := (List.getElem?_eq_some_iff.1 hb)
      obtain ⟨i1, i2⟩ := hi
      obtain ⟨j1, j2⟩ := hj
      rcases Nat.lt_or_gt_of_ne hij with hlt | hlt
      · exact List.pairwise_iff_getElem.1 n1 i j i1 j1 hlt (i2.trans j2.symm)
      · exact List.pairwise_iff_getElem.1 n1 j i j1 i1 hlt (j2.trans i2.symm)
/-- What can be read at a place of the row of dials. -/
theorem made_at {w : World} {a i n c : Nat} {A : Option Addr} {gs : List Nat} {ds : List Dl} (h : MMadeV w a (.slice A n c) gs ds) (hn : n = ds.length) (hi : i < n) :
    ∃ q g, A = some ⟨q, 0, none⟩ ∧ gs[i]? = some g ∧ g ∈ gs ∧ w.cell? ⟨q, i, none⟩ = some (ptr g) ∧ Cells w g 62 (ds.getD i Dl.zero).cells := by
  subst hn
  obtain ⟨h1, h2, h3⟩ := h
  obtain ⟨q, rfl, _, hq, _, _⟩ := h2.at (by omega)
  obtain ⟨g, hg, hgm, hc⟩ := h3.cell hi
  refine ⟨q, g, rfl, hg, hgm, ?_, ?_⟩
  · rw [hq i hi, List.getElem?_map, hg]
    rfl
  · rw [List.getD_eq_getElem?_getD, List.getElem?_eq_getElem hi]
    exact hc
def NotePost (w : World) (a : Nat) (gs : List Nat) (ds : List Dl) (k n : Int) (e : Ending) (w' : World) : Prop :=
  e = .returned (.int .i64 (noteE ds k n)) ∧ ∃ gs', MAt w' a gs' (noteD ds k n) ∧ Kp (a :: gs) w w' ∧ ∀ g ∈ gs', g ∈ gs ∨ w.heap.size ≤ g
theorem kp_dial {w w1 w2 : World} {a g : Nat} {gs gs' : List Nat} (k1 : Kp [a] w w1) (k2 : Kp [g] w1 w2) (hg : g ∈ gs') (hn : ∀ g ∈ gs', g ∈ gs ∨ w.heap.size ≤ g) : Kp (a :: gs) w w2 :=
  (k1.mono (T := a :: gs) (by simp)).trans k2 (by
    intro y hy hl
    rw [List.mem_singleton.1 hy] at hl ⊢
    rcases hn g hg with h | h
    · simp [h]
    · omega)

set_option maxHeartbeats 800000 in
theorem note_any (w : World) (a : Nat) (gs : List Nat) (ds : List Dl) (k n B : Int) (h : MAt w a gs ds) (hn : ds.length ≤ 32) (hok : ∀ d ∈ ds, d.ok B) (hB : B ≤ 1000000) (hn2 : n ≤ 9223372036854775807) :
    Calls Try.prog 8 #[.pointer (some ⟨a, 0, none⟩), .int .i64 k, .int .i64 n] w (NotePost w a gs ds k n) := by
  by_cases hin : k < 0 ∨ (ds.length : Int) ≤ k ∨ n < 0
  · have he : noteE ds k n = 1 := by rw [noteE, if_pos hin]
    have hd : noteD ds k n = ds := by rw [noteD, he]; rfl
    have HE := hid (And.intro he hd)
    clear he hd
    obtain ⟨m, hm⟩ : ∃ m, m = ds.length := ⟨_, rfl⟩
    have hin' : k < 0 ∨ (0 ≤ k ∧ (m : Int) ≤ k) ∨ (0 ≤ k ∧ k < (m : Int) ∧ n < 0) := by omega
    have Hm := hid hm
    clear hin hm
    go_enter Try.func8, Try.ntmps8
    go_wp2_with fail
    refine (all_any w a gs ds h hn).mono ?_
    rintro e w1 ⟨A, c, gs', rfl, hM, hk1, hg1⟩
    rw [← Hm.out]
    have HM := hid hM
    clear hM
    rcases hin' with h1 | ⟨h1, h2⟩ | ⟨h1, h2, h3⟩
    all_goals
      go_wp2_with fail
      go_ret
      exact ⟨by rw [HE.out.1]; rfl, gs', by rw [HE.out.2]; exact HM.out.at_, hk1.mono (by simp), hg1⟩
  · obtain ⟨K, rfl⟩ := Int.eq_ofNat_of_zero_le (show 0 ≤ k by omega)
    have hK : K < ds.length := by omega
    have hn0 : 0 ≤ n := by omega
    have hokd := hok (ds.getD K Dl.zero) (by rw [List.getD_eq_getElem?_getD, List.getElem?_eq_getElem hK]; exact List.getElem_mem hK)
    have he : noteE ds (K : Int) n = if 1099511627776 - (ds.getD K Dl.zero).t < n then 3 else 0 := by rw [noteE, if_neg hin, Int.toNat_natCast]
    have hd : noteD ds (K : Int) n = if noteE ds (K : Int) n = 0 then ds.set K ((ds.getD K Dl.zero).add 1 n n) else ds := by rw [noteD, Int.toNat_natCast]
    obtain ⟨x, hx⟩ : ∃ x, x = ds.getD K Dl.zero := ⟨_, rfl⟩
    rw [← hx] at hokd he hd
    have HE := hid (And.intro he hd)
    have Hx := hid hx
    clear he hd hx hin
    unfold Dl.ok at hokd
    obtain ⟨m, hm⟩ : ∃ m, m = ds.length := ⟨_, rfl⟩
    have hKm : K < m := by omega
    have hmn : m ≤ 32 := by omega
    have Hm := hid hm
    clear hm hK
    go_enter Try.func8, Try.ntmps8
    go_wp2_with fail
    refine (all_any w a gs ds h hn).mono ?_
    rintro e w1 ⟨A, c, gs', rfl, hM, hk1, hg1⟩
    rw [← Hm.out] at hM ⊢
    obtain ⟨q, g, rfl, hgi, hgm, hq, hc⟩ := made_at hM Hm.out hKm
    rw [← Hx.out] at hc
    have t1 := hc.cell 1
    simp only [Dl.cells, List.getElem?_cons_zero, List.getElem?_cons_succ] at t1
    have HM := hid (And.intro hM hgi)
    clear hM hgi hn
    by_cases hb : 1099511627776 - x.t < n
    · go_wp2_with fail
      refine (load64 w1 g 1 _ t1).mono ?_
      rintro e w2 ⟨rfl, rfl⟩
      go_wp2_with fail
      go_ret
      have h3 : noteE ds (K : Int) n = 3 := by rw [HE.out.1, if_pos hb]
      refine ⟨by rw [h3]; rfl, gs', ?_, hk1.mono (by simp), hg1⟩
      rw [HE.out.2, h3]
      exact HM.out.1.at_
    · go_wp2_with fail
      refine (load64 w1 g 1 _ t1).mono ?_
      rintro e w2 ⟨rfl, rfl⟩
      go_wp2_with fail
      refine (adds_any w1 g x 1 n n hc (by omega) (by omega)).mono ?_
      rintro e w2 ⟨rfl, hc2, hk2⟩
      go_wp2_with fail
      go_ret
      have h3 : noteE ds (K : Int) n = 0 := by rw [HE.out.1, if_neg (by omega)]
      refine ⟨by rw [h3]; rfl, gs', ?_, kp_dial hk1 hk2 hgm hg1, hg1⟩
      rw [HE.out.2, h3]
      exact (made_set HM.out.1 HM.out.2 hk2 hc2).at_
end Go.Proofs.Ytgoojndpondkmaa
