/- Whole and May. -/
import Derived.Test.YtaaikjedagnjbaaGCompiled
import Derived.Test.YtaaikjedagnjbaaGEnds
namespace Go.Proofs.Ytaaikjedagnjbaa
open Go Go.RowKit Go.Lib

/-- A text's runes. -/
def cps (s : ByteArray) : List Nat := cpsL s.data.toList
theorem code_none {s : ByteArray} (h : reR s = none) : codeR s = 3 ∨ codeR s = 32 := by
  unfold codeR
  split
  · exact .inl rfl
  · rw [h]; exact .inr rfl
theorem code_some {s : ByteArray} {r : Re} (h : reR s = some r) : codeR s = 0 := by
  unfold codeR
  rw [h]
  unfold reR at h
  split at h
  · cases h
  · rename_i h1
    rw [if_neg h1]; rfl
/-- What Whole tells. -/
def WholeP (re s : ByteArray) (b : Bool) : Prop := match reR re with
  | none => b = false
  | some r => b = true ↔ Mt (cps s) r 0 (cps s).length
set_option maxRecDepth 100000 in
theorem may_any (w : World) (re : ByteArray) (hre : re.size ≤ 1000000) :
    Calls Try.prog 18 #[.string re] w fun e w' => e = .returned (.int .i64 (codeR re : Int)) ∧ Kp [] w w' := by
  have q := compiled_any w (fun _ => False) (fun _ hx => by cases hx) re hre
  cases hr : reR re with
  | none =>
    obtain ⟨cd, hcd⟩ : ∃ c, c = codeR re := ⟨_, rfl⟩
    rw [← hcd]
    have HR := hid (And.intro hr hcd)
    clear hr hcd
    go_enter Try.func18, Try.ntmps18
    go_wp2_with fail
    (with_reducible refine q.mono ?_)
    clear q
    intro e w1 hc
    have he := hc.no HR.out.1
    rw [← HR.out.2] at he
    subst he
    have HK := hid hc.kp
    clear hc
    go_wp2_with fail
    go_ret
    exact ⟨rfl, HK.out.alloc _⟩
  | some r =>
    rw [code_some hr]
    have HR := hid hr
    clear hr
    go_enter Try.func18, Try.ntmps18
    go_wp2_with fail
    (with_reducible refine q.mono ?_)
    clear q
    intro e w1 hc
    obtain ⟨mb, f, l, E, M, he, -⟩ := hc.yes r HR.out
    subst he
    have HK := hid hc.kp
    clear hc
    go_wp2_with fail
    go_ret
    exact ⟨rfl, HK.out.alloc _⟩
theorem whole_fold (n : Nat) : ∀ (l : List Nat) (b : Bool), l.foldl (fun x a => x || decide (a = n)) b = (b || decide (n ∈ l))
  | [], b => by simp
  | a :: l, b => by
    rw [List.foldl_cons, whole_fold n l, Bool.or_assoc]
    congr 1
    by_cases h : a = n
    · subst h; simp
    · simp [h, Ne.symm h]
set_option maxRecDepth 100000 in
set_option maxHeartbeats 1600000 in
/-- Whole's function. -/
theorem whole1_tell (w : World) (tb rc : Nat) (A : Option Addr) (n c : Nat) (hr : w.cell? ⟨rc, 0, none⟩ = some (.slice A n c)) (hne : rc ≠ tb) (hlt : rc < w.heap.size) :
    Teller w tb 4 (.func (.func 27) #[] #[.pointer (some ⟨tb, 0, none⟩), .pointer (some ⟨rc, 0, none⟩)]) (fun b : Bool => Value.bool b) (fun x a => x || decide (a = n)) := by
  refine ⟨27, #[.pointer (some ⟨tb, 0, none⟩), .pointer (some ⟨rc, 0, none⟩)], rfl, enters_of Try.func27 (by kernel_rfl) (by kernel_rfl), fun W hK x hc a ha => ?_⟩
  have y1 := hK.cell hr (fun h => by rcases h with h | h; exact hne h; omega)
  have y0 := hc.cell 0
  have f0 := hc.free 0
  simp only [List.getElem?_cons_zero] at y0
  show Calls Try.prog 27 #[.int .i64 (a : Int), .pointer (some ⟨tb, 0, none⟩), .pointer (some ⟨rc, 0, none⟩)] W fun e w' => e = .returned (.tuple #[]) ∧ Cells w' tb 4 [.bool (x || decide (a = n))] ∧ Kp [tb] W w'
  obtain ⟨z, hz⟩ : ∃ z, z = decide (a = n) := ⟨_, rfl⟩
  have ez : ((a : Int) == (n : Int)) = z := by rw [hz, Bool.eq_iff_iff, beq_iff_eq, decide_eq_true_eq]; omega
  rw [← hz]
  have HC := hid hc
  clear hK hr hne hlt hz hc
  cases x with
  | true =>
    go_enter Try.func27, Try.ntmps27
    go_wp2_with fail
    first | go_end0 | (simp only [Exit.inBlock, Exit.then]; refine bodyPost_ret (results_none rfl _ _ _) rfl ?_) | refine bodyPost_ret (results_none rfl _ _ _) rfl ?_
    exact ⟨rfl, HC.out.put 0 _, (Kp.refl _ _).setCell (fun _ => by simp) _⟩
  | false =>
    go_enter Try.func27, Try.ntmps27
    go_wp2_with fail
    first | go_end0 | (simp only [Exit.inBlock, Exit.then]; refine bodyPost_ret (results_none rfl _ _ _) rfl ?_) | refine bodyPost_ret (results_none rfl _ _ _) rfl ?_
    exact ⟨rfl, HC.out.put 0 _, (Kp.refl _ _).setCell (fun _ => by simp) _⟩
theorem frag_wf {M : List St} {f l : Nat} {r : Re} (hf : Frag M 0 M.length f l r) (q : Nat) (st : St) (hst : M[q]? = some st) : (∀ k ∈ st.nx, k < M.length) ∧ (st.tk ≠ none → st.nx ≠ []) := by
  obtain ⟨h1, h2⟩ := hf.wf q st (Nat.zero_le _) (List.getElem?_eq_some_iff.1 hst).1 hst
  exact ⟨fun k hk => (h1 k hk).2, h2⟩
/-- ends, of a pattern's machine. -/
theorem ends_mt (w w1 : World) (R0 : Nat → Prop) (hR0 : ∀ x, R0 x → x < w.heap.size) (kp : Kq R0 w w1) (M : List St) (mb tb : Nat) (E : Nat → Prop) (f l : Nat) (r : Re) (hm : MachAt w mb E R0 M) (hf : Frag M 0 M.length f l r) (hwt : wt M ≤ 2000) (htb : R0 tb ∨ w.heap.size ≤ tb)
    (S : List Nat) (A : Option Addr) (c : Nat) (hs : Span w1 A (runesV S)) (hA : ∀ ad, A = some ad → ad.block ≠ tb ∧ ad.block < w1.heap.size) (hsl : S.length ≤ 100000) (hsc : S.length ≤ c) (hcs : ∀ x ∈ S, x < 1114112) (from_ : Nat) (hfr : from_ ≤ S.length)
    (T : TypeId) (v : Value) {σ : Type} (val : σ → Value) (step : σ → Nat → σ) (ht : Teller w1 tb T v val step) (x0 : σ) (hc0 : Cells w1 tb T [val x0]) :
    Calls Try.prog 26 #[.pointer (some ⟨mb, 0, none⟩), .agg #[.int .i64 (f : Int), .int .i64 (l : Int)], .slice A S.length c, .int .i64 (from_ : Int), v] w1 fun e w' => e = .returned (.tuple #[]) ∧
      ∃ h : Nat → Bool, (∀ a, h a = true ↔ Mt S r from_ a) ∧ Cells w' tb T [val ((told h from_ (S.length + 1 - from_)).foldl step x0)] ∧ Kp [tb] w1 w' := by
  have hl := wt_len M
  have hm1 : MachAt w1 mb E (fun x => x = tb) M := hm.move kp hR0 (fun x hx => by rw [hx]; exact htb)
  refine (ends_any w1 M mb tb E f l hm1 hf.hf.2 hf.hl.2 (by omega) (frag_wf hf) (fun q st h => by have := wt_nx M q st h; omega) S A c hs hA hsl hsc hcs from_ hfr T v val step ht x0 hc0).mono ?_
  rintro e w' ⟨he, h, hh, hc, hk⟩
  exact ⟨he, h, fun a => (hh a).trans (hf.takes from_ a), hc, hk⟩
theorem runesV_eq (l : List Nat) : l.map runeV = runesV l := rfl
set_option maxRecDepth 100000 in
set_option maxHeartbeats 6400000 in
theorem whole_any (w : World) (re s : ByteArray) (hre : re.size ≤ 1000000) (hs : s.size ≤ 100000) :
    Calls Try.prog 13 #[.string re, .string s] w fun e w' => (∃ b, e = .returned (.tuple #[.bool b, .int .i64 (codeR re : Int)]) ∧ WholeP re s b) ∧ Kp [] w w' := by
  have hmf : ∀ (fn : Fn) (first cap : Array Value) (w : World), (Instr.makeFunc fn first cap).run Try.prog w = .ok (.func fn first cap) w := fun _ _ _ _ => rfl
  have q := compiled_any w (fun _ => False) (fun _ hx => by cases hx) re hre
  cases hr : reR re with
  | none =>
    obtain ⟨cd, hcd⟩ : ∃ c, c = codeR re := ⟨_, rfl⟩
    have hc0 : cd = 3 ∨ cd = 32 := by rw [hcd]; exact code_none hr
    have b0 : ((cd : Int) != 0) = true := by rw [bne_iff_ne]; omega
    rw [← hcd]
    have HR := hid (And.intro hr hcd)
    clear hr hcd hc0
    go_enter Try.func13, Try.ntmps13
    go_wp2_with fail
    (with_reducible refine q.mono ?_)
    clear q
    intro e w1 hc
    have he := hc.no HR.out.1
    rw [← HR.out.2] at he
    subst he
    have HK := hid hc.kp
    clear hc
    go_wp2_with fail
    go_ret2
    exact ⟨⟨false, rfl, by unfold WholeP; rw [HR.out.1]⟩, HK.out.alloc _⟩
  | some r =>
    rw [code_some hr]
    have HR := hid hr
    clear hr
    go_enter Try.func13, Try.ntmps13
    go_wp2_with fail
    (with_reducible refine q.mono ?_)
    clear q
    intro e w1 hc
    obtain ⟨mb, f, l, E, M, he, hm, hf, hwt⟩ := hc.yes r HR.out
    subst he
    obtain ⟨w2, hw2⟩ : ∃ w2, w2 = w1.alloc (.cells #[.int .i64 (f : Int), .int .i64 (l : Int)] 50) := ⟨_, rfl⟩
    obtain ⟨pb, hpb⟩ : ∃ g, g = w1.heap.size := ⟨_, rfl⟩
    have k2 : Kp [] w1 w2 := by rw [hw2]; exact (Kp.refl _ _).alloc _
    have p2 : Cells w2 pb 50 [.int .i64 (f : Int), .int .i64 (l : Int)] := by rw [hw2, hpb]; exact Cells.fresh w1 50 _
    obtain ⟨S, hS⟩ : ∃ S, S = cps s := ⟨_, rfl⟩
    obtain ⟨c, w4, hrun, k4, sp4, hc1, hc2, s4⟩ := run_cps (P := Try.prog) w2 9 38 21 s Try.underlying9 Try.underlying38 Try.underlying21 (by omega)
    have hS' : cpsL s.data.toList = S := hS.symm
    rw [hS'] at hrun sp4 hc1
    rw [runesV_eq] at sp4
    obtain ⟨n, hn⟩ : ∃ n, n = S.length := ⟨_, rfl⟩
    rw [← hn] at hrun hc1
    obtain ⟨rg, hrg⟩ : ∃ g, g = w2.heap.size := ⟨_, rfl⟩
    rw [← hrg] at hrun sp4 s4
    obtain ⟨rc, hrc⟩ : ∃ g, g = w4.heap.size := ⟨_, rfl⟩
    obtain ⟨tb, htb⟩ : ∃ g, g = w4.heap.size + 1 := ⟨_, rfl⟩
    obtain ⟨w6, hw6⟩ : ∃ w6, w6 = (w4.alloc (.cells #[.slice (some ⟨rg, 0, none⟩) n c] 38)).alloc (.cells #[.bool false] 4) := ⟨_, rfl⟩
    have k6 : Kp [] w4 w6 := by rw [hw6]; exact ((Kp.refl _ _).alloc _).alloc _
    have cr6 : Cells w6 rc 38 [.slice (some ⟨rg, 0, none⟩) n c] := by rw [hw6, hrc]; exact (Cells.fresh w4 38 _).alloc _
    have ct6 : Cells w6 tb 4 [.bool false] := by rw [hw6, htb]; exact Cells.fresh1 w4 _ 4 _
    have hsl : n ≤ 100000 := by rw [hn, hS]; have := cps_len s.data.toList; have h2 : s.data.toList.length = s.size := rfl; unfold cps; omega
    have hcs : ∀ x ∈ S, x < 1114112 := by rw [hS]; exact cps_lt _
    have k16 : Kp [] w1 w6 := (k2.nil k4).nil k6
    have hw16 : w1.heap.size ≤ tb := by have := k2.size; have := k4.size; omega
    have qe := ends_mt w1 w6 (fun _ => False) (fun _ hx => by cases hx) (Kq.of k16) M mb tb E f l r hm hf hwt (.inr hw16) S (some ⟨rg, 0, none⟩) c (sp4.kept k6) (fun ad e => by injection e with e; subst e; exact ⟨by show rg ≠ tb; omega, Nat.lt_of_lt_of_le s4 k6.size⟩) (by omega) (by omega) hcs 0 (Nat.zero_le _) 4 _ _ _ (whole1_tell w6 tb rc (some ⟨rg, 0, none⟩) n c (cr6.cell 0) (by omega) cr6.lt) false ct6
    rw [← hn] at qe
    simp only [show ((0 : Nat) : Int) = 0 from rfl] at qe
    have p6 := (p2.keep k4 (by simp)).keep k6 (by simp)
    have y0 := p6.cell 0
    have y1 := p6.cell 1
    have yr := cr6.cell 0
    simp only [List.getElem?_cons_zero, List.getElem?_cons_succ] at y0 y1 yr
    have HK := hid (And.intro (hc.kp.nil k16) (And.intro (Nat.le_trans hc.kp.size hw16) (And.intro hS hn)))
    have HW2 := hid hw2
    have HW6 := hid hw6
    have HPB := hid hpb
    have HRC := hid hrc
    have HTB := hid htb
    clear hc hm hf hwt hw2 hpb k2 p2 hS k4 sp4 hc1 hc2 s4 hS' hn hrg hrc htb hw6 k6 cr6 ct6 hsl hcs k16 hw16 p6
    go_upto_region 4 with fail
    rw [← HW2.out]
    try rw [← HPB.out]
    go_upto_region 5 with fail
    try rw [← HTB.out]
    try rw [← HRC.out]
    rw [← HW6.out]
    clear HW2 HPB HRC HW6 hrun
    go_wp2_with fail
    (with_reducible refine qe.mono ?_)
    clear qe y0 y1 yr
    rintro e w7 ⟨rfl, h, hh, ct7, k7⟩
    obtain ⟨b, hb⟩ : ∃ b, b = (told h 0 (n + 1 - 0)).foldl (fun x a => x || decide (a = n)) false := ⟨_, rfl⟩
    rw [← hb] at ct7
    have z0 := ct7.cell 0
    simp only [List.getElem?_cons_zero] at z0
    have HE := hid (And.intro hh (And.intro hb (HK.out.1.fresh k7 HK.out.2.1)))
    clear hh hb k7 ct7
    go_wp2_with fail
    go_ret2
    refine ⟨⟨b, rfl, ?_⟩, HE.out.2.2⟩
    unfold WholeP
    rw [HR.out]
    show b = true ↔ _
    rw [← HK.out.2.2.1, ← HK.out.2.2.2, HE.out.2.1, whole_fold, Bool.false_or, decide_eq_true_eq, ← HE.out.1 n]
    unfold told
    rw [List.mem_filter]
    constructor
    · exact fun h => h.2
    · exact fun h => ⟨List.mem_range'_1.2 ⟨Nat.zero_le _, by omega⟩, h⟩
end Go.Proofs.Ytaaikjedagnjbaa

/- Find and Test. -/
namespace Go.Proofs.Ytaaikjedagnjbaa
open Go Go.RowKit Go.Lib

/-- The first place from which something is taken, and how far at most. -/
def FoundR (S : List Nat) (r : Re) (p q : Int) : Prop :=
  (p = -1 ∧ q = -1 ∧ ∀ i j, i ≤ S.length → ¬ Mt S r i j) ∨ ∃ a b : Nat, p = (a : Int) ∧ q = (b : Int) ∧ a ≤ S.length ∧ Mt S r a b ∧ (∀ i j, i < a → ¬ Mt S r i j) ∧ ∀ j, Mt S r a j → j ≤ b
/-- What Find tells. -/
def FindP (re s : ByteArray) (p q : Int) : Prop := match reR re with
  | none => p = 0 ∧ q = 0
  | some r => FoundR (cps s) r p q
theorem mt_le {S : List Nat} {r : Re} {i j : Nat} (h : Mt S r i j) : i ≤ j := by
  induction h with
  | eps => exact Nat.le_refl _
  | seq _ _ a b => exact Nat.le_trans a b
  | altl _ a => exact a
  | altr _ a => exact a
  | star0 => exact Nat.le_refl _
  | star1 _ _ a b => exact Nat.le_trans a b
  | plus _ _ a b => exact Nat.le_trans a b
  | opt0 => exact Nat.le_refl _
  | opt1 _ a => exact a
  | cls => exact Nat.le_succ _
  | bol => exact Nat.le_refl _
  | eol => exact Nat.le_refl _
theorem mt_top {S : List Nat} {r : Re} {i j : Nat} (h : Mt S r i j) : i ≤ S.length → j ≤ S.length := by
  induction h with
  | eps => exact fun h => h
  | seq _ _ a b => exact fun h => b (a h)
  | altl _ a => exact a
  | altr _ a => exact a
  | star0 => exact fun h => h
  | star1 _ _ a b => exact fun h => b (a h)
  | plus _ _ a b => exact fun h => b (a h)
  | opt0 => exact fun h => h
  | opt1 _ a => exact a
  | cls h _ => exact fun _ => (List.getElem?_eq_some_iff.1 h).1
  | bol => exact fun h => h
  | eol => exact fun h => h
/-- The last place that is told. -/
theorem last_told (h : Nat → Bool) (a : Nat) : ∀ n : Nat, ((∀ k, a ≤ k → k < a + n → h k = false) ∧ (told h a n).foldl (fun _ k => ((k : Nat) : Int)) (-1) = -1) ∨
    ∃ b : Nat, a ≤ b ∧ b < a + n ∧ h b = true ∧ (∀ k, b < k → k < a + n → h k = false) ∧ (told h a n).foldl (fun _ k => ((k : Nat) : Int)) (-1) = (b : Int)
  | 0 => .inl ⟨fun k h1 h2 => by omega, rfl⟩
  | n + 1 => by
    rw [told_succ, List.foldl_append]
    cases hk : h (a + n) with
    | true =>
      refine .inr ⟨a + n, by omega, by omega, hk, fun k h1 h2 => by omega, ?_⟩
      simp
    | false =>
      simp only [Bool.false_eq_true, if_false, List.foldl_nil]
      rcases last_told h a n with ⟨h1, h2⟩ | ⟨b, h1, h2, h3, h4, h5⟩
      · refine .inl ⟨fun k x y => ?_, h2⟩
        rcases Nat.lt_or_ge k (a + n) with z | z
        · exact h1 k x z
        · rw [show k = a + n by omega]; exact hk
      · refine .inr ⟨b, h1, by omega, h3, fun k x y => ?_, h5⟩
        rcases Nat.lt_or_ge k (a + n) with z | z
        · exact h4 k x z
        · rw [show k = a + n by omega]; exact hk
set_option maxRecDepth 100000 in
theorem find1_tell (w : World) (tb : Nat) : Teller w tb 3 (.func (.func 29) #[] #[.pointer (some ⟨tb, 0, none⟩)]) (fun z : Int => Value.int .i64 z) (fun _ a => ((a : Nat) : Int)) := by
  refine ⟨29, #[.pointer (some ⟨tb, 0, none⟩)], rfl, enters_of Try.func29 (by kernel_rfl) (by kernel_rfl), fun W hK x hc a ha => ?_⟩
  have y0 := hc.cell 0
  have f0 := hc.free 0
  simp only [List.getElem?_cons_zero] at y0
  show Calls Try.prog 29 #[.int .i64 (a : Int), .pointer (some ⟨tb, 0, none⟩)] W fun e w' => e = .returned (.tuple #[]) ∧ Cells w' tb 3 [.int .i64 (a : Int)] ∧ Kp [tb] W w'
  have HC := hid hc
  clear hK hc
  go_enter Try.func29, Try.ntmps29
  go_wp2_with fail
  first | go_end0 | (simp only [Exit.inBlock, Exit.then]; refine bodyPost_ret (results_none rfl _ _ _) rfl ?_) | refine bodyPost_ret (results_none rfl _ _ _) rfl ?_
  exact ⟨rfl, HC.out.put 0 _, (Kp.refl _ _).setCell (fun _ => by simp) _⟩
set_option maxRecDepth 100000 in
set_option maxHeartbeats 6400000 in
theorem find_any (w : World) (re s : ByteArray) (hre : re.size ≤ 1000000) (hs : s.size ≤ 100000) :
    Calls Try.prog 15 #[.string re, .string s] w fun e w' => (∃ p q : Int, e = .returned (.tuple #[.int .i64 p, .int .i64 q, .int .i64 (codeR re : Int)]) ∧ FindP re s p q) ∧ Kp [] w w' := by
  have hmf : ∀ (fn : Fn) (first cap : Array Value) (w : World), (Instr.makeFunc fn first cap).run Try.prog w = .ok (.func fn first cap) w := fun _ _ _ _ => rfl
  obtain ⟨tb, htb⟩ : ∃ g, g = w.heap.size := ⟨_, rfl⟩
  obtain ⟨w0, hw0⟩ : ∃ w0, w0 = w.alloc (.cells #[.int .i64 0] 3) := ⟨_, rfl⟩
  have k0 : Kp [] w w0 := by rw [hw0]; exact (Kp.refl _ _).alloc _
  have c0 : Cells w0 tb 3 [.int .i64 0] := by rw [hw0, htb]; exact Cells.fresh w 3 _
  have q := compiled_any w0 (fun x => x = tb) (fun x hx => by rw [hx]; exact c0.lt) re hre
  have H0 := hid (And.intro k0 (And.intro c0 (Nat.le_of_eq htb.symm)))
  have HW0 := hid hw0
  have HTB := hid htb
  clear k0 c0 hw0 htb
  cases hr : reR re with
  | none =>
    obtain ⟨cd, hcd⟩ : ∃ c, c = codeR re := ⟨_, rfl⟩
    have hc0 : cd = 3 ∨ cd = 32 := by rw [hcd]; exact code_none hr
    have b0 : ((cd : Int) != 0) = true := by rw [bne_iff_ne]; omega
    rw [← hcd]
    have HR := hid (And.intro hr hcd)
    clear hr hcd hc0
    go_enter Try.func15, Try.ntmps15
    go_upto_region 1 with fail
    rw [← HW0.out]
    try rw [← HTB.out]
    clear HW0 HTB
    go_wp2_with fail
    (with_reducible refine q.mono ?_)
    clear q
    intro e w1 hc
    have he := hc.no HR.out.1
    rw [← HR.out.2] at he
    subst he
    have c1 := H0.out.2.1.keep hc.kp (by simp)
    have y0 := c1.cell 0
    have f0 := c1.free 0
    have y0' := fun o => ((Kp.refl [] w1).alloc o).cell y0 (by simp)
    have f0' := fun o => Cells.free (c1.alloc o) 0
    have hne : ¬ tb = w1.heap.size := by have := c1.lt; omega
    have hne2 : ¬ w1.heap.size = tb := fun e => hne e.symm
    simp only [List.getElem?_cons_zero] at y0 y0'
    have HK := hid (And.intro (H0.out.1.nil hc.kp) c1)
    clear hc c1
    go_wp2_with fail
    have c2 := (HK.out.2.alloc (.cells #[.int .i64 0, .int .i64 0] 50)).put 0 (.int .i64 0)
    have z0 := c2.cell 0
    simp only [List.getElem?_cons_zero, List.set_cons_zero] at z0
    exact bodyPost_ret (v := .tuple #[.int .i64 0, .int .i64 0, .int .i64 (cd : Int)]) (by simp [results, Try.results15, go_sem, z0]) rfl ⟨⟨0, 0, rfl, by unfold FindP; rw [HR.out.1]; exact ⟨rfl, rfl⟩⟩, (HK.out.1.alloc _).setCell (fun h => absurd H0.out.2.2 (by simp at h; omega)) _⟩
  | some r =>
    rw [code_some hr]
    have HR := hid hr
    clear hr
    go_enter Try.func15, Try.ntmps15
    go_upto_region 1 with fail
    rw [← HW0.out]
    try rw [← HTB.out]
    clear HW0 HTB
    go_wp2_with fail
    (with_reducible refine q.mono ?_)
    clear q
    intro e w1 hc
    obtain ⟨mb, f, l, E, M, he, hm, hf, hwt⟩ := hc.yes r HR.out
    subst he
    obtain ⟨w2, hw2⟩ : ∃ w2, w2 = w1.alloc (.cells #[.int .i64 (f : Int), .int .i64 (l : Int)] 50) := ⟨_, rfl⟩
    obtain ⟨pb, hpb⟩ : ∃ g, g = w1.heap.size := ⟨_, rfl⟩
    have k2 : Kp [] w1 w2 := by rw [hw2]; exact (Kp.refl _ _).alloc _
    have p2 : Cells w2 pb 50 [.int .i64 (f : Int), .int .i64 (l : Int)] := by rw [hw2, hpb]; exact Cells.fresh w1 50 _
    obtain ⟨S, hS⟩ : ∃ S, S = cps s := ⟨_, rfl⟩
    obtain ⟨c, w4, hrun, k4, sp4, hc1, hc2, s4⟩ := run_cps (P := Try.prog) w2 9 38 21 s Try.underlying9 Try.underlying38 Try.underlying21 (by omega)
    have hS' : cpsL s.data.toList = S := hS.symm
    rw [hS'] at hrun sp4 hc1
    rw [runesV_eq] at sp4
    obtain ⟨n, hn⟩ : ∃ n, n = S.length := ⟨_, rfl⟩
    rw [← hn] at hrun hc1
    obtain ⟨rg, hrg⟩ : ∃ g, g = w2.heap.size := ⟨_, rfl⟩
    rw [← hrg] at hrun sp4 s4
    have hsl : n ≤ 100000 := by rw [hn, hS]; have := cps_len s.data.toList; have h2 : s.data.toList.length = s.size := rfl; unfold cps; omega
    have hcs : ∀ x ∈ S, x < 1114112 := by rw [hS]; exact cps_lt _
    have k14 : Kp [] w1 w4 := k2.nil k4
    have c1 := H0.out.2.1.keep hc.kp (by simp)
    have hpt : pb ≠ tb := by have := c1.lt; omega
    have hrt : rg ≠ tb := by have := c1.lt; have := k2.size; omega
    have HK := hid (And.intro k14 (And.intro (H0.out.1.nil hc.kp) (And.intro (c1.keep k14 (by simp)) (And.intro (p2.keep k4 (by simp)) (And.intro sp4 (And.intro hpt (And.intro hrt (And.intro hcs (And.intro hc1 (And.intro s4 (And.intro c1.lt (And.intro hS hn))))))))))))
    have HMF := hid (And.intro hm (And.intro hf hwt))
    have HW2 := hid hw2
    have HPB := hid hpb
    clear hc hm hf hwt hw2 hpb k2 p2 hS k4 sp4 hc1 hc2 s4 hS' hn hrg hcs k14 c1 hpt hrt
    go_upto_region 4 with fail
    rw [← HW2.out]
    try rw [← HPB.out]
    clear HW2 HPB
    have iwn : IntKind.i64.wrap ((n : Int) + 1) = (n : Int) + 1 := IntWalk.i64_in _ (by omega)
    go_wp2_with fail
    go_loopg [24] (n + 1) (fun gg v24 wx => ∃ (i : Nat) (z : Int), v24 = .int .i64 (i : Int) ∧ i + gg = n + 1 ∧ Kp [tb] w4 wx ∧ Cells wx tb 3 [.int .i64 z] ∧ ∀ i' j, i' < i → ¬ Mt S r i' j)
    case atStart => exact ⟨0, 0, rfl, by omega, Kp.refl _ _, HK.out.2.2.1, fun i' j h => absurd h (Nat.not_lt_zero _)⟩
    case round =>
      obtain ⟨i, z, rfl, hig, kx, cx, hno⟩ := hrel
      have y0 := cx.cell 0
      have f0 := cx.free 0
      simp only [List.getElem?_cons_zero] at y0
      have HX := hid (And.intro kx (And.intro cx hno))
      clear kx cx hno
      cases gk with
      | zero =>
        obtain rfl : i = n + 1 := by omega
        have b0 : decide (((n + 1 : Nat) : Int) < (n : Int) + 1) = false := decide_eq_false (by omega)
        have b1 : decide (n + 1 < n + 1) = false := decide_eq_false (by omega)
        have b2 : ((n + 1 : Nat) : Int) = (n : Int) + 1 := rfl
        rw [b2]
        clear hrun
        go_wp2_with fail
        have c9 := HX.out.2.1.put 0 (.int .i64 (-1))
        have z0 := c9.cell 0
        simp only [List.getElem?_cons_zero, List.set_cons_zero] at z0
        refine bodyPost_ret (v := .tuple #[.int .i64 (-1), .int .i64 (-1), .int .i64 0]) (by simp [results, Try.results15, go_sem, z0]) rfl ⟨⟨-1, -1, rfl, ?_⟩, ?_⟩
        · unfold FindP
          rw [HR.out]
          show FoundR (cps s) r (-1) (-1)
          rw [← HK.out.2.2.2.2.2.2.2.2.2.2.2.1]
          exact .inl ⟨rfl, rfl, fun i j hi => HX.out.2.2 i j (by rw [← HK.out.2.2.2.2.2.2.2.2.2.2.2.2] at hi; omega)⟩
        · exact (((HK.out.2.1.nil HK.out.1).mono (by simp) : Kp [tb] w w4).trans HX.out.1 (fun x hx _ => hx)).trans ((Kp.refl [tb] _).setCell (fun _ => by simp) _) (fun x hx _ => hx) |>.less (fun x hx hl => absurd hl (by have := List.mem_singleton.1 hx; have := H0.out.2.2; omega))
      | succ gg =>
        obtain ⟨kx, cx, hno⟩ := HX.out
        obtain ⟨w5, hw5⟩ : ∃ w5, w5 = wr.setCell ⟨tb, 0, none⟩ (.int .i64 (-1)) := ⟨_, rfl⟩
        have k5 : Kp [tb] wr w5 := by rw [hw5]; exact (Kp.refl _ _).setCell (fun _ => by simp) _
        have c5 : Cells w5 tb 3 [.int .i64 (-1)] := by rw [hw5]; exact cx.put 0 _
        have k45 := kx.trans k5 (fun x hx _ => hx)
        have k15 : Kp [tb] w1 w5 := (HK.out.1.mono (by simp) : Kp [tb] w1 w4).trans k45 (fun x hx _ => hx)
        have p5 := HK.out.2.2.2.1.keep k45 (by simpa using HK.out.2.2.2.2.2.1)
        have hin : i ≤ n := by omega
        have hnS := HK.out.2.2.2.2.2.2.2.2.2.2.2.2
        have qe := ends_mt w1 w5 (fun x => x = tb) (fun x hx => by rw [hx]; exact HK.out.2.2.2.2.2.2.2.2.2.2.1) ⟨[tb], fun x hx => List.mem_singleton.1 hx, k15⟩ M mb tb E f l r HMF.out.1 HMF.out.2.1 HMF.out.2.2 (.inl rfl) S (some ⟨rg, 0, none⟩) c
          (HK.out.2.2.2.2.1.keep k45 (fun ad e => by injection e with e; subst e; simpa using HK.out.2.2.2.2.2.2.1)) (fun ad e => by injection e with e; subst e; exact ⟨HK.out.2.2.2.2.2.2.1, Nat.lt_of_lt_of_le HK.out.2.2.2.2.2.2.2.2.2.1 k45.size⟩) (by omega) (by have := HK.out.2.2.2.2.2.2.2.2.1; omega) HK.out.2.2.2.2.2.2.2.1 i (by omega) 3 _ _ _ (find1_tell w5 tb) (-1) c5
        rw [← hnS] at qe
        have b0 : decide ((i : Int) < (n : Int) + 1) = true := decide_eq_true (by omega)
        have b1 : (i : Int) < (n : Int) + 1 := by omega
        have q0 := p5.cell 0
        have q1 := p5.cell 1
        simp only [List.getElem?_cons_zero, List.getElem?_cons_succ] at q0 q1
        have iwi : IntKind.i64.wrap ((i : Int) + 1) = (i : Int) + 1 := IntWalk.i64_in _ (by omega)
        have H5 := hid (And.intro k45 hnS)
        have HW5 := hid hw5
        clear kx cx hno hw5 k5 c5 k45 k15 p5 hnS hrun
        go_upto_region 9 with fail
        rw [← HW5.out]
        clear HW5 y0 f0
        go_wp2_with fail
        (with_reducible refine qe.mono ?_)
        clear qe q0 q1
        rintro e w7 ⟨rfl, h, hh, ct7, k7⟩
        obtain ⟨z7, hz7⟩ : ∃ z, z = (told h i (n + 1 - i)).foldl (fun _ k => ((k : Nat) : Int)) (-1) := ⟨_, rfl⟩
        rw [← hz7] at ct7
        have k47 := H5.out.1.trans k7 (fun x hx _ => hx)
        have y7 := ct7.cell 0
        have f7 := ct7.free 0
        simp only [List.getElem?_cons_zero] at y7
        rcases last_told h i (n + 1 - i) with ⟨l1, l2⟩ | ⟨b, l1, l2, l3, l4, l5⟩
        · rw [← hz7] at l2
          subst l2
          have H7 := hid (And.intro k47 (And.intro ct7 (And.intro hh l1)))
          clear k47 ct7 hh l1 k7 hz7
          go_wp2_with fail
          go_roundg gg
          case measure => omega
          case rel =>
            obtain ⟨k47, ct7, hh, l1⟩ := H7.out
            refine ⟨i + 1, -1, rfl, by omega, k47, ct7, fun i' j hi hmt => ?_⟩
            rcases Nat.lt_or_ge i' i with hx | hx
            · exact HX.out.2.2 i' j hx hmt
            · obtain rfl : i' = i := by omega
              have h1 := mt_le hmt
              have h2 := mt_top hmt (by have := H5.out.2; omega)
              have h3 := l1 j h1 (by have := H5.out.2; omega)
              rw [(hh j).2 hmt] at h3
              cases h3
        · rw [← hz7] at l5
          subst l5
          have b5 : decide ((0 : Int) ≤ (b : Int)) = true := decide_eq_true (by omega)
          have b6 : (0 : Int) ≤ (b : Int) := by omega
          have H7 := hid (And.intro k47 (And.intro ct7 (And.intro hh (And.intro l1 (And.intro l2 (And.intro l3 l4))))))
          clear k47 ct7 hh l1 l2 l3 l4 k7 hz7
          go_upto_region 11 with fail
          go_region
          all_goals
            go_wp2_with fail
            obtain ⟨k47, ct7, hh, l1, l2, l3, l4⟩ := H7.out
            have c9 := (ct7.put 0 (.int .i64 (b : Int))).drew
            have z0 := c9.cell 0
            simp only [List.getElem?_cons_zero, List.set_cons_zero] at z0
            refine bodyPost_ret (v := .tuple #[.int .i64 (i : Int), .int .i64 (b : Int), .int .i64 0]) (by simp [results, Try.results15, go_sem, z0]) rfl ⟨⟨(i : Int), (b : Int), rfl, ?_⟩, ?_⟩
            · unfold FindP
              rw [HR.out]
              show FoundR (cps s) r (i : Int) (b : Int)
              rw [← HK.out.2.2.2.2.2.2.2.2.2.2.2.1]
              have hn5 := H5.out.2
              refine .inr ⟨i, b, rfl, rfl, by omega, (hh b).1 l3, HX.out.2.2, fun j hmt => ?_⟩
              have h2 := mt_top hmt (by omega)
              rcases Nat.lt_or_ge b j with hx | hx
              · have h3 := l4 j hx (by omega)
                rw [(hh j).2 hmt] at h3
                cases h3
              · exact hx
            · have kk : Kp [tb] w w7 := ((HK.out.2.1.nil HK.out.1).mono (by simp) : Kp [tb] w w4).trans k47 (fun x hx _ => hx)
              have kk2 : Kp [tb] w (w7.setCell ⟨tb, 0, none⟩ (.int .i64 (b : Int))).drew := (kk.setCell (fun _ => by simp) _).drew
              exact kk2.less (fun x hx hl => absurd hl (by have := List.mem_singleton.1 hx; have := H0.out.2.2; omega))
/-- What Test tells. -/
def TestP (re s : ByteArray) (t : Bool) : Prop := ∃ p q : Int, FindP re s p q ∧ t = ((codeR re == 0) && decide (0 ≤ p))
set_option maxRecDepth 100000 in
set_option maxHeartbeats 6400000 in
theorem test_any (w : World) (re s : ByteArray) (hre : re.size ≤ 1000000) (hs : s.size ≤ 100000) :
    Calls Try.prog 17 #[.string re, .string s] w fun e w' => (∃ t, e = .returned (.tuple #[.bool t, .int .i64 (codeR re : Int)]) ∧ TestP re s t) ∧ Kp [] w w' := by
  have q := find_any w re s hre hs
  obtain ⟨cd, hcd⟩ : ∃ c, c = codeR re := ⟨_, rfl⟩
  rw [← hcd] at q ⊢
  have HC := hid hcd
  clear hcd
  by_cases h0 : cd = 0
  · subst h0
    simp only [show ((0 : Nat) : Int) = 0 from rfl] at q ⊢
    go_enter Try.func17, Try.ntmps17
    go_wp2_with fail
    (with_reducible refine q.mono ?_)
    clear q
    rintro e w1 ⟨⟨p, q, rfl, hp⟩, hk⟩
    obtain ⟨z, hz⟩ : ∃ z, z = decide (0 ≤ p) := ⟨_, rfl⟩
    have hz1 : decide (0 ≤ p) = z := hz.symm
    have HP := hid (And.intro hp (And.intro hk hz))
    clear hp hk hz
    go_wp2_with fail
    go_ret2
    exact ⟨⟨z, rfl, p, q, HP.out.1, by rw [← HC.out, ← HP.out.2.2]; rfl⟩, HP.out.2.1⟩
  · have b0 : ((cd : Int) == 0) = false := beq_eq_false_iff_ne.2 (by omega)
    have HZ := hid h0
    clear h0
    go_enter Try.func17, Try.ntmps17
    go_wp2_with fail
    (with_reducible refine q.mono ?_)
    clear q
    rintro e w1 ⟨⟨p, q, rfl, hp⟩, hk⟩
    have HP := hid (And.intro hp hk)
    clear hp hk
    go_wp2_with fail
    go_ret2
    exact ⟨⟨false, rfl, p, q, HP.out.1, by rw [← HC.out, beq_eq_false_iff_ne.2 HZ.out]; rfl⟩, HP.out.2⟩
end Go.Proofs.Ytaaikjedagnjbaa

