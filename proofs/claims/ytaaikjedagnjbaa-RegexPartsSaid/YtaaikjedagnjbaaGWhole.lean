/- Whole and May. -/
import Derived.Test.YtaaikjedagnjbaaGCompiled
import Derived.Test.YtaaikjedagnjbaaGEnds
namespace Go.Proofs.Ytaaikjedagnjbaa
open Go Go.RowKit Go.Lib

/-- A text's runes. -/
def cps (s : ByteArray) : List Nat := cpsL s.data.toList
theorem code_none {s : ByteArray} (h : reR s = none) : codeR s = 3 ∨ codeR s = 32 := by
  unfold codeR
  split
  · exact .inl rfl
  · rw [h]; exact .inr rfl
theorem code_some {s : ByteArray} {r : Re} (h : reR s = some r) : codeR s = 0 := by
  unfold codeR
  rw [h]
  unfold reR at h
  split at h
  · cases h
  · rename_i h1
    rw [if_neg h1]; rfl
/-- What Whole tells. -/
def WholeP (re s : ByteArray) (b : Bool) : Prop := match reR re with
  | none => b = false
  | some r => b = true ↔ Mt (cps s) r 0 (cps s).length
set_option maxRecDepth 100000 in
theorem may_any (w : World) (re : ByteArray) (hre : re.size ≤ 1000000) :
    Calls Try.prog 18 #[.string re] w fun e w' => e = .returned (.int .i64 (codeR re : Int)) ∧ Kp [] w w' := by
  have q := compiled_any w (fun _ => False) (fun _ hx => by cases hx) re hre
  cases hr : reR re with
  | none =>
    obtain ⟨cd, hcd⟩ : ∃ c, c = codeR re := ⟨_, rfl⟩
    rw [← hcd]
    have HR := hid (And.intro hr hcd)
    clear hr hcd
    go_enter Try.func18, Try.ntmps18
    go_wp2_with fail
    (with_reducible refine q.mono ?_)
    clear q
    intro e w1 hc
    have he := hc.no HR.out.1
    rw [← HR.out.2] at he
    subst he
    have HK := hid hc.kp
    clear hc
    go_wp2_with fail
    go_ret
    exact ⟨rfl, HK.out.alloc _⟩
  | some r =>
    rw [code_some hr]
    have HR := hid hr
    clear hr
    go_enter Try.func18, Try.ntmps18
    go_wp2_with fail
    (with_reducible refine q.mono ?_)
    clear q
    intro e w1 hc
    obtain ⟨mb, f, l, E, M, he, -⟩ := hc.yes r HR.out
    subst he
    have HK := hid hc.kp
    clear hc
    go_wp2_with fail
    go_ret
    exact ⟨rfl, HK.out.alloc _⟩
theorem whole_fold (n : Nat) : ∀ (l : List Nat) (b : Bool), l.foldl (fun x a => x || decide (a = n)) b = (b || decide (n ∈ l))
  | [], b => by simp
  | a :: l, b => by
    rw [List.foldl_cons, whole_fold n l, Bool.or_assoc]
    congr 1
    by_cases h : a = n
    · subst h; simp
    · simp [h, Ne.symm h]
set_option maxRecDepth 100000 in
set_option maxHeartbeats 1600000 in
/-- Whole's function. -/
theorem whole1_tell (w : World) (tb rc : Nat) (A : Option Addr) (n c : Nat) (hr : w.cell? ⟨rc, 0, none⟩ = some (.slice A n c)) (hne : rc ≠ tb) (hlt : rc < w.heap.size) :
    Teller w tb 4 (.func (.func 27) #[] #[.pointer (some ⟨tb, 0, none⟩), .pointer (some ⟨rc, 0, none⟩)]) (fun b : Bool => Value.bool b) (fun x a => x || decide (a = n)) := by
  refine ⟨27, #[.pointer (some ⟨tb, 0, none⟩), .pointer (some ⟨rc, 0, none⟩)], rfl, enters_of Try.func27 (by kernel_rfl) (by kernel_rfl), fun W hK x hc a ha => ?_⟩
  have y1 := hK.cell hr (fun h => by rcases h with h | h; exact hne h; omega)
  have y0 := hc.cell 0
  have f0 := hc.free 0
  simp only [List.getElem?_cons_zero] at y0
  show Calls Try.prog 27 #[.int .i64 (a : Int), .pointer (some ⟨tb, 0, none⟩), .pointer (some ⟨rc, 0, none⟩)] W fun e w' => e = .returned (.tuple #[]) ∧ Cells w' tb 4 [.bool (x || decide (a = n))] ∧ Kp [tb] W w'
  obtain ⟨z, hz⟩ : ∃ z, z = decide (a = n) := ⟨_, rfl⟩
  have ez : ((a : Int) == (n : Int)) = z := by rw [hz, Bool.eq_iff_iff, beq_iff_eq, decide_eq_true_eq]; omega
  rw [← hz]
  have HC := hid hc
  clear hK hr hne hlt hz hc
  cases x with
  | true =>
    go_enter Try.func27, Try.ntmps27
    go_wp2_with fail
    first | go_end0 | (simp only [Exit.inBlock, Exit.then]; refine bodyPost_ret (results_none rfl _ _ _) rfl ?_) | refine bodyPost_ret (results_none rfl _ _ _) rfl ?_
    exact ⟨rfl, HC.out.put 0 _, (Kp.refl _ _).setCell (fun _ => by simp) _⟩
  | false =>
    go_enter Try.func27, Try.ntmps27
    go_wp2_with fail
    first | go_end0 | (simp only [Exit.inBlock, Exit.then]; refine bodyPost_ret (results_none rfl _ _ _) rfl ?_) | refine bodyPost_ret (results_none rfl _ _ _) rfl ?_
    exact ⟨rfl, HC.out.put 0 _, (Kp.refl _ _).setCell (fun _ => by simp) _⟩
theorem frag_wf {M : List St} {f l : Nat} {r : Re} (hf : Frag M 0 M.length f l r) (q : Nat) (st : St) (hst : M[q]? = some st) : (∀ k ∈ st.nx, k < M.length) ∧ (st.tk ≠ none → st.nx ≠ []) := by
  obtain ⟨h1, h2⟩ := hf.wf q st (Nat.zero_le _) (List.getElem?_eq_some_iff.1 hst).1 hst
  exact ⟨fun k hk => (h1 k hk).2, h2⟩
/-- ends, of a pattern's machine. -/
theorem ends_mt (w w1 : World) (R0 : Nat → Prop) (hR0 : ∀ x, R0 x → x < w.heap.size) (kp : Kq R0 w w1) (M : List St) (mb tb : Nat) (E : Nat → Prop) (f l : Nat) (r : Re) (hm : MachAt w mb E R0 M) (hf : Frag M 0 M.length f l r) (hwt : wt M ≤ 2000) (htb : R0 tb ∨ w.heap.size ≤ tb)
    (S : List Nat) (A : Option Addr) (c : Nat) (hs : Span w1 A (runesV S)) (hA : ∀ ad, A = some ad → ad.block ≠ tb ∧ ad.block < w1.heap.size) (hsl : S.length ≤ 100000) (hsc : S.length ≤ c) (hcs : ∀ x ∈ S, x < 1114112) (from_ : Nat) (hfr : from_ ≤ S.length)
    (T : TypeId) (v : Value) {σ : Type} (val : σ → Value) (step : σ → Nat → σ) (ht : Teller w1 tb T v val step) (x0 : σ) (hc0 : Cells w1 tb T [val x0]) :
    Calls Try.prog 26 #[.pointer (some ⟨mb, 0, none⟩), .agg #[.int .i64 (f : Int), .int .i64 (l : Int)], .slice A S.length c, .int .i64 (from_ : Int), v] w1 fun e w' => e = .returned (.tuple #[]) ∧
      ∃ h : Nat → Bool, (∀ a, h a = true ↔ Mt S r from_ a) ∧ Cells w' tb T [val ((told h from_ (S.length + 1 - from_)).foldl step x0)] ∧ Kp [tb] w1 w' := by
  have hl := wt_len M
  have hm1 : MachAt w1 mb E (fun x => x = tb) M := hm.move kp hR0 (fun x hx => by rw [hx]; exact htb)
  refine (ends_any w1 M mb tb E f l hm1 hf.hf.2 hf.hl.2 (by omega) (frag_wf hf) (fun q st h => by have := wt_nx M q st h; omega) S A c hs hA hsl hsc hcs from_ hfr T v val step ht x0 hc0).mono ?_
  rintro e w' ⟨he, h, hh, hc, hk⟩
  exact ⟨he, h, fun a => (hh a).trans (hf.takes from_ a), hc, hk⟩
theorem runesV_eq (l : List Nat) : l.map runeV = runesV l := rfl
set_option maxRecDepth 100000 in
set_option maxHeartbeats 6400000 in
theorem whole_any (w : World) (re s : ByteArray) (hre : re.size ≤ 1000000) (hs : s.size ≤ 100000) :
    Calls Try.prog 13 #[.string re, .string s] w fun e w' => (∃ b, e = .returned (.tuple #[.bool b, .int .i64 (codeR re : Int)]) ∧ WholeP re s b) ∧ Kp [] w w' := by
  have hmf : ∀ (fn : Fn) (first cap : Array Value) (w : World), (Instr.makeFunc fn first cap).run Try.prog w = .ok (.func fn first cap) w := fun _ _ _ _ => rfl
  have q := compiled_any w (fun _ => False) (fun _ hx => by cases hx) re hre
  cases hr : reR re with
  | none =>
    obtain ⟨cd, hcd⟩ : ∃ c, c = codeR re := ⟨_, rfl⟩
    have hc0 : cd = 3 ∨ cd = 32 := by rw [hcd]; exact code_none hr
    have b0 : ((cd : Int) != 0) = true := by rw [bne_iff_ne]; omega
    rw [← hcd]
    have HR := hid (And.intro hr hcd)
    clear hr hcd hc0
    go_enter Try.func13, Try.ntmps13
    go_wp2_with fail
    (with_reducible refine q.mono ?_)
    clear q
    intro e w1 hc
    have he := hc.no HR.out.1
    rw [← HR.out.2] at he
    subst he
    have HK := hid hc.kp
    clear hc
    go_wp2_with fail
    go_ret2
    exact ⟨⟨false, rfl, by unfold WholeP; rw [HR.out.1]⟩, HK.out.alloc _⟩
  | some r =>
    rw [code_some hr]
    have HR := hid hr
    clear hr
    go_enter Try.func13, Try.ntmps13
    go_wp2_with fail
    (with_reducible refine q.mono ?_)
    clear q
    intro e w1 hc
    obtain ⟨mb, f, l, E, M, he, hm, hf, hwt⟩ := hc.yes r HR.out
    subst he
    obtain ⟨w2, hw2⟩ : ∃ w2, w2 = w1.alloc (.cells #[.int .i64 (f : Int), .int .i64 (l : Int)] 50) := ⟨_, rfl⟩
    obtain ⟨pb, hpb⟩ : ∃ g, g = w1.heap.size := ⟨_, rfl⟩
    have k2 : Kp [] w1 w2 := by rw [hw2]; exact (Kp.refl _ _).alloc _
    have p2 : Cells w2 pb 50 [.int .i64 (f : Int), .int .i64 (l : Int)] := by rw [hw2, hpb]; exact Cells.fresh w1 50 _
    obtain ⟨S, hS⟩ : ∃ S, S = cps s := ⟨_, rfl⟩
    obtain ⟨c, w4, hrun, k4, sp4, hc1, hc2, s4⟩ := run_cps (P := Try.prog) w2 9 38 21 s Try.underlying9 Try.underlying38 Try.underlying21 (by omega)
    have hS' : cpsL s.data.toList = S := hS.symm
    rw [hS'] at hrun sp4 hc1
    rw [runesV_eq] at sp4
    obtain ⟨n, hn⟩ : ∃ n, n = S.length := ⟨_, rfl⟩
    rw [← hn] at hrun hc1
    obtain ⟨rg, hrg⟩ : ∃ g, g = w2.heap.size := ⟨_, rfl⟩
    rw [← hrg] at hrun sp4 s4
    obtain ⟨rc, hrc⟩ : ∃ g, g = w4.heap.size := ⟨_, rfl⟩
    obtain ⟨tb, htb⟩ : ∃ g, g = w4.heap.size + 1 := ⟨_, rfl⟩
    obtain ⟨w6, hw6⟩ : ∃ w6, w6 = (w4.alloc (.cells #[.slice (some ⟨rg, 0, none⟩) n c] 38)).alloc (.cells #[.bool false] 4) := ⟨_, rfl⟩
    have k6 : Kp [] w4 w6 := by rw [hw6]; exact ((Kp.refl _ _).alloc _).alloc _
    have cr6 : Cells w6 rc 38 [.slice (some ⟨rg, 0, none⟩) n c] := by rw [hw6, hrc]; exact (Cells.fresh w4 38 _).alloc _
    have ct6 : Cells w6 tb 4 [.bool false] := by rw [hw6, htb]; exact Cells.fresh1 w4 _ 4 _
    have hsl : n ≤ 100000 := by rw [hn, hS]; have := cps_len s.data.toList; have h2 : s.data.toList.length = s.size := rfl; unfold cps; omega
    have hcs : ∀ x ∈ S, x < 1114112 := by rw [hS]; exact cps_lt _
    have k16 : Kp [] w1 w6 := (k2.nil k4).nil k6
    have hw16 : w1.heap.size ≤ tb := by have := k2.size; have := k4.size; omega
    have qe := ends_mt w1 w6 (fun _ => False) (fun _ hx => by cases hx) (Kq.of k16) M mb tb E f l r hm hf hwt (.inr hw16) S (some ⟨rg, 0, none⟩) c (sp4.kept k6) (fun ad e => by injection e with e; subst e; exact ⟨by show rg ≠ tb; omega, Nat.lt_of_lt_of_le s4 k6.size⟩) (by omega) (by omega) hcs 0 (Nat.zero_le _) 4 _ _ _ (whole1_tell w6 tb rc (some ⟨rg, 0, none⟩) n c (cr6.cell 0) (by omega) cr6.lt) false ct6
    rw [← hn] at qe
    simp only [show ((0 : Nat) : Int) = 0 from rfl] at qe
    have p6 := (p2.keep k4 (by simp)).keep k6 (by simp)
    have y0 := p6.cell 0
    have y1 := p6.cell 1
    have yr := cr6.cell 0
    simp only [List.getElem?_cons_zero, List.getElem?_cons_succ] at y0 y1 yr
    have HK := hid (And.intro (hc.kp.nil k16) (And.intro (Nat.le_trans hc.kp.size hw16) (And.intro hS hn)))
    have HW2 := hid hw2
    have HW6 := hid hw6
    have HPB := hid hpb
    have HRC := hid hrc
    have HTB := hid htb
    clear hc hm hf hwt hw2 hpb k2 p2 hS k4 sp4 hc1 hc2 s4 hS' hn hrg hrc htb hw6 k6 cr6 ct6 hsl hcs k16 hw16 p6
    go_upto_region 4 with fail
    rw [← HW2.out]
    try rw [← HPB.out]
    go_upto_region 5 with fail
    try rw [← HTB.out]
    try rw [← HRC.out]
    rw [← HW6.out]
    clear HW2 HPB HRC HW6 hrun
    go_wp2_with fail
    (with_reducible refine qe.mono ?_)
    clear qe y0 y1 yr
    rintro e w7 ⟨rfl, h, hh, ct7, k7⟩
    obtain ⟨b, hb⟩ : ∃ b, b = (told h 0 (n + 1 - 0)).foldl (fun x a => x || decide (a = n)) false := ⟨_, rfl⟩
    rw [← hb] at ct7
    have z0 := ct7.cell 0
    simp only [List.getElem?_cons_zero] at z0
    have HE := hid (And.intro hh (And.intro hb (HK.out.1.fresh k7 HK.out.2.1)))
    clear hh hb k7 ct7
    go_wp2_with fail
    go_ret2
    refine ⟨⟨b, rfl, ?_⟩, HE.out.2.2⟩
    unfold WholeP
    rw [HR.out]
    show b = true ↔ _
    rw [← HK.out.2.2.1, ← HK.out.2.2.2, HE.out.2.1, whole_fold, Bool.false_or, decide_eq_true_eq, ← HE.out.1 n]
    unfold told
    rw [List.mem_filter]
    constructor
    · exact fun h => h.2
    · exact fun h => ⟨List.mem_range'_1.2 ⟨Nat.zero_le _, by omega⟩, h⟩
end Go.Proofs.Ytaaikjedagnjbaa
