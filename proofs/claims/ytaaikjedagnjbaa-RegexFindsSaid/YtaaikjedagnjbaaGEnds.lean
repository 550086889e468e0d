/- A machine's ends: which places are told. -/
import Derived.Test.YtaaikjedagnjbaaGSpread
import Derived.Test.YtaaikjedagnjbaaRA
import Derived.Test.YtaaikjedagnjbaaGPeek
import Derived.Test.YtaaikjedagnjbaaGLin
namespace Go.Proofs.Ytaaikjedagnjbaa
open Go Go.RowKit Go.Lib

theorem boolInfo : (Try.prog.info? 4).map (fun i => (i.zero, i.size, i.bytes)) = some (some (.bool false), 1, 1) := by kernel_rfl
/-- A function that is told places: what it keeps in a cell. -/
def Teller (w : World) (tb : Nat) (T : TypeId) (v : Value) {σ : Type} (val : σ → Value) (step : σ → Nat → σ) : Prop :=
  ∃ F cap, v = .func (.func F) #[] cap ∧ Enters F ∧ ∀ W, Kq (fun x => x = tb ∨ w.heap.size ≤ x) w W → ∀ x, Cells W tb T [val x] → ∀ a : Nat, a ≤ 1000000 → Calls Try.prog F (#[.int .i64 (a : Int)] ++ cap) W fun e w' => e = .returned (.tuple #[]) ∧ Cells w' tb T [val (step x a)] ∧ Kp [tb] W w'
/-- Whether a state takes a rune. -/
def takeB (st : St) (c : Nat) : Bool := match st.tk with
  | none => false
  | some f => f c
theorem set_new {w : World} {g n : Nat} (h : Cells w g 4 (List.replicate n (.bool false))) (hn : n ≤ 1000000) : SetAt w g n (List.replicate n false) := by
  unfold SetAt
  have e : bools (List.replicate n false) = List.replicate n (.bool false) := by simp [bools]
  rw [e, List.length_replicate]
  have := Own.of_cells h (by rw [List.length_replicate]; omega)
  rw [List.length_replicate] at this
  exact this
theorem SetAt.lt {w : World} {g c : Nat} {B : List Bool} (h : SetAt w g c B) : g < w.heap.size := Own.lt h g rfl
theorem SetAt.keep {w w' : World} {g c : Nat} {B : List Bool} {S : List Nat} (h : SetAt w g c B) (k : Kp S w w') (hg : g ∉ S) : SetAt w' g c B := Own.keep h k (fun x e => by injection e with e; subst e; exact hg)
theorem SetAt.at {w : World} {g c i : Nat} {B : List Bool} {b : Bool} (h : SetAt w g c B) (hb : B[i]? = some b) : w.cell? ⟨g, i, none⟩ = some (.bool b) := by
  have hi := (List.getElem?_eq_some_iff.1 hb).1
  obtain ⟨g', e', hgl, hcell, hfr, -⟩ := Own.at h (by omega)
  injection e' with e'
  injection e' with e'
  subst e'
  exact (hcell i hi).trans (bools_at hb)
set_option maxRecDepth 100000 in
set_option maxHeartbeats 12800000 in
theorem ends_any (w : World) (M : List St) (mb tb : Nat) (E : Nat → Prop) (f l : Nat) (hm : MachAt w mb E (fun x => x = tb) M) (hf : f < M.length) (hl : l < M.length) (hM : M.length ≤ 1000000) (hwf : ∀ (q : Nat) st, M[q]? = some st → (∀ k ∈ st.nx, k < M.length) ∧ (st.tk ≠ none → st.nx ≠ []))
    (hnx : ∀ (q : Nat) st, M[q]? = some st → st.nx.length ≤ 1000000) (s : List Nat) (A : Option Addr) (c : Nat) (hs : Span w A (runesV s)) (hA : ∀ ad, A = some ad → ad.block ≠ tb ∧ ad.block < w.heap.size) (hsl : s.length ≤ 100000) (hsc : s.length ≤ c) (hcs : ∀ x ∈ s, x < 1114112) (from_ : Nat) (hfr : from_ ≤ s.length)
    (T : TypeId) (v : Value) {σ : Type} (val : σ → Value) (step : σ → Nat → σ) (ht : Teller w tb T v val step) (x0 : σ) (hc0 : Cells w tb T [val x0]) :
    Calls Try.prog 26 #[.pointer (some ⟨mb, 0, none⟩), .agg #[.int .i64 (f : Int), .int .i64 (l : Int)], .slice A s.length c, .int .i64 (from_ : Int), v] w fun e w' => e = .returned (.tuple #[]) ∧
      ∃ h : Nat → Bool, (∀ a, h a = true ↔ ∃ k, Run M s k (f, from_) (l, a)) ∧ Cells w' tb T [val ((told h from_ (s.length + 1 - from_)).foldl step x0)] ∧ Kp [tb] w w' := by
  obtain ⟨h, hh⟩ : ∃ h : Nat → Bool, ∀ a, h a = true ↔ ∃ k, Run M s k (f, from_) (l, a) := ⟨fun a => @decide _ (Classical.propDecidable _), fun a => @decide_eq_true_iff _ (Classical.propDecidable _)⟩
  have nf1 : ∀ F cap w, (binOp .neq 72 (.func (.func F) #[] cap) .nilFunc).run Try.prog w = .ok (.bool true) w := fun F cap w => run_neq_func w Try.underlying72 F cap
  have nf2 : ∀ w, (binOp .neq 72 .nilFunc .nilFunc).run Try.prog w = .ok (.bool false) w := fun w => run_neq_nilFunc w Try.underlying72
  obtain ⟨pb, hpb⟩ : ∃ g, g = w.heap.size := ⟨_, rfl⟩
  obtain ⟨w0, hw0⟩ : ∃ w0, w0 = w.alloc (.cells #[.int .i64 (f : Int), .int .i64 (l : Int)] 50) := ⟨_, rfl⟩
  have k0 : Kp [] w w0 := by rw [hw0]; exact (Kp.refl _ _).alloc _
  have p0 : Cells w0 pb 50 [.int .i64 (f : Int), .int .i64 (l : Int)] := by rw [hw0, hpb]; exact Cells.fresh w 50 _
  have htb := hc0.lt
  have hptb : pb ≠ tb := by omega
  obtain ⟨N, hN⟩ : ∃ N, N = M.length := ⟨_, rfl⟩
  obtain ⟨n, hn⟩ : ∃ n, n = s.length := ⟨_, rfl⟩
  have hmR : ∀ x, x = tb → x < w.heap.size := fun x hx => by rw [hx]; exact htb
  obtain ⟨v1, cs1, hc1, ho1, -⟩ := hm.ex
  obtain ⟨A1, c1, rfl, -, hA11, hA12, -⟩ := ho1.shape
  have x0m := (hc1.keep k0 (by simp)).cell 0
  simp only [List.getElem?_cons_zero] at x0m
  have y0 := p0.cell 0
  have y1 := p0.cell 1
  simp only [List.getElem?_cons_zero, List.getElem?_cons_succ] at y0 y1
  rw [← hN] at x0m hA11
  have hNb : N ≤ 1000000 := by rw [hN]; exact hM
  obtain ⟨F0, cp0, rfl, hent0, hT0⟩ := ht
  have HM := hid (And.intro hm (And.intro hmR (And.intro hf (And.intro hl (And.intro hwf (And.intro hnx (And.intro hN (And.intro hM hh))))))))
  have HS := hid (And.intro hs (And.intro hA (And.intro hsc (And.intro hcs (And.intro hn (And.intro hsl hfr))))))
  have HT := hid hT0
  have HENT := hid hent0
  have H0 := hid (And.intro k0 (And.intro p0 (And.intro hptb (And.intro hc0 (And.intro hpb htb)))))
  have HW0 := hid hw0
  have HPB := hid hpb
  have hmbE : mb ≠ tb := fun e => hm.apart mb hm.own e
  have HMB := hid (And.intro hc1 hmbE)
  rw [← hn]
  clear hm hmR hf hl hwf hnx hM hh hs hA hsc hcs hsl hfr hT0 hent0 k0 p0 hptb hc0 htb hw0 hpb hc1 ho1 hmbE hN hn
  go_enter Try.func26, Try.ntmps26
  go_upto_region 1 with fail
  rw [← HW0.out]
  try rw [← HPB.out]
  clear HW0 HPB
  go_wp2_with (at_make; go_must (refine wpList_make1 rfl _ _ 55 rfl 4 (.bool false) 1 Try.underlying55 boolInfo rfl .i64 .i64 (N : Int) (N : Int) N rfl rfl rfl rfl (by omega) (by omega) ?_))
  intro w1 Z hZ c1' k1
  obtain ⟨g1, hg1⟩ : ∃ g, g = w0.heap.size := ⟨_, rfl⟩
  rw [← hg1] at c1' ⊢
  have hg1n : w.heap.size ≤ g1 := by rw [hg1]; exact H0.out.1.size
  have hg1t : g1 ≠ tb := by have := H0.out.2.2.2.2.2; omega
  have set1 : SetAt w1 g1 N (List.replicate N false) := set_new (by rw [← hZ.out]; exact c1') (by omega)
  have kw1 := H0.out.1.nil k1
  have m1 : MachAt w1 mb E (fun x => x = tb ∨ x = g1) M := HM.out.1.move (Kq.of kw1) HM.out.2.1 (fun x hx => by
    rcases hx with hx | hx
    · exact .inl hx
    · exact .inr (by omega))
  have q2 := spread_any M mb E (fun x => x = tb ∨ x = g1) g1 N from_ n (.inr rfl) (by have := HS.out.2.2.2.2.2.1; have := HS.out.2.2.2.2.2.2; omega) (by have := HS.out.2.2.2.2.1; have := HS.out.2.2.2.2.2.1; omega) HM.out.2.2.2.2.2.2.2.1 (fun q st a => (HM.out.2.2.2.2.1 q st a).1) HM.out.2.2.2.2.2.1 _ w1 (List.replicate N false) f (Nat.lt_succ_self _) m1 (fun x hx => by
    rcases hx with hx | hx
    · rw [hx]; exact Nat.lt_of_lt_of_le H0.out.2.2.2.2.2 kw1.size
    · rw [hx]; exact set1.lt) set1 (by rw [List.length_replicate]; exact HM.out.2.2.2.2.2.2.1) HM.out.2.2.1
  rw [← HM.out.2.2.2.2.2.2.1] at q2
  have p1 := H0.out.2.1.keep k1 (by simp)
  have y0 := p1.cell 0
  simp only [List.getElem?_cons_zero] at y0
  have H1 := hid (And.intro kw1 (And.intro k1 (And.intro hg1n (And.intro hg1t (show g1 ≠ pb by have := H0.out.2.1.lt; omega)))))
  clear hZ c1' k1 hg1 hg1n hg1t set1 kw1 m1 p1 x0m y1
  go_wp2_with fail
  (with_reducible refine q2.mono ?_)
  clear q2 y0
  rintro e w2 ⟨rfl, B2, sp2, set2, k2⟩
  have kw2 : Kp [] w w2 := H1.out.1.fresh k2 H1.out.2.2.1
  have hB2 : NowAt M s f from_ from_ B2 := now_start (by
    rw [← HM.out.2.2.2.2.2.2.1, ← HS.out.2.2.2.2.1]; exact sp2)
  have HI := hid (And.intro kw2 (And.intro set2 (And.intro hB2 (And.intro H1.out.2.2.1 (And.intro ((H0.out.2.1.keep H1.out.2.1 (by simp)).keep k2 (by simpa using Ne.symm H1.out.2.2.2.2)) (H0.out.2.2.2.1.keep kw2 (by simp)))))))
  clear kw2 set2 hB2 k2 sp2
  go_wp2_with fail
  go_loopg [10, 11] (n + 1) (fun gg v10 v11 wr => ∃ (a g cg : Nat) (B : List Bool), v11 = .int .i64 (a : Int) ∧ v10 = .slice (some ⟨g, 0, none⟩) N cg ∧ n + 1 - a ≤ gg ∧ a ≤ n ∧ from_ ≤ a ∧ Kp [tb] w wr ∧ SetAt wr g cg B ∧ NowAt M s f from_ a B ∧ w.heap.size ≤ g ∧ Cells wr pb 50 [.int .i64 (f : Int), .int .i64 (l : Int)] ∧ Cells wr tb T [val ((told h from_ (a - from_)).foldl step x0)])
  case atStart =>
    obtain ⟨i1, i2, i3, i4, i5, i6⟩ := HI.out
    refine ⟨from_, g1, N, B2, rfl, rfl, by omega, by have := HS.out.2.2.2.2.1; have := HS.out.2.2.2.2.2.2; omega, Nat.le_refl _, i1.mono (by simp), i2, i3, i4, i5, ?_⟩
    rw [Nat.sub_self]
    exact i6
  case round =>
    obtain ⟨a, g, cg, B, rfl, rfl, hga, han, hfa, kr, setr, hB, hgn, pr, cr⟩ := hrel
    obtain ⟨b, hb⟩ : ∃ b, B[l]? = some b := ⟨_, List.getElem?_eq_getElem (by have := hB.1; have := HM.out.2.2.2.1; omega)⟩
    have hlN : l < N := by have := HM.out.2.2.2.1; have := HM.out.2.2.2.2.2.2.1; omega
    have hn5 : n ≤ 100000 := by have := HS.out.2.2.2.2.1; have := HS.out.2.2.2.2.2.1; omega
    have hha : h a = b := by
      have h1 := hB.2 l
      have h2 := HM.out.2.2.2.2.2.2.2.2 a
      cases b
      · cases hx : h a
        · rfl
        · have := h1.2 (h2.1 hx)
          rw [hb] at this
          cases this
      · exact h2.2 (h1.1 hb)
    have yl := setr.at hb
    have y1 := pr.cell 1
    simp only [List.getElem?_cons_zero, List.getElem?_cons_succ] at y1
    have htd : told h from_ (a + 1 - from_) = told h from_ (a - from_) ++ (if b then [a] else []) := by
      rw [show a + 1 - from_ = (a - from_) + 1 by omega, told_succ, show from_ + (a - from_) = a by omega, hha]
    obtain ⟨G, hG⟩ : ∃ G, G = gk := ⟨_, rfl⟩
    rw [← hG] at hga
    have qT := HT.out wr ⟨[tb], fun x hx => .inl (List.mem_singleton.1 hx), kr⟩ _ cr a (by omega)
    have hent := fun W => HENT.out (#[.int .i64 (a : Int)] ++ cp0) W
    have HR := hid (And.intro hga (And.intro han (And.intro hfa (And.intro kr (And.intro setr (And.intro hB (And.intro hgn (And.intro pr cr))))))))
    have HTD := hid htd
    have HG := hid hG
    have l0 : (l : Int) < (N : Int) := by omega
    have l1 : decide ((l : Int) < (N : Int)) = true := decide_eq_true l0
    clear hga kr setr hB hgn pr cr hb hha htd HI hG hfa
    go_upto_if 37 with fail
    go_cut [] (fun wx => Kp [tb] wr wx ∧ Cells wx tb T [val ((told h from_ (a + 1 - from_)).foldl step x0)])
    case first =>
      cases b with
      | false =>
        go_wp2_with fail
        go_meet
        refine ⟨Kp.refl _ _, ?_⟩
        rw [HTD.out]
        simp only [Bool.false_eq_true, if_false, List.append_nil]
        exact HR.out.2.2.2.2.2.2.2.2
      | true =>
        go_wp2_with fail
        (with_reducible refine qT.mono ?_)
        clear qT
        rintro e w4 ⟨rfl, c4, k4⟩
        have H4 := hid (And.intro k4 c4)
        clear c4 k4
        go_wp2_with fail
        go_meet
        refine ⟨H4.out.1, ?_⟩
        rw [HTD.out]
        simp only [if_true, List.foldl_append, List.foldl_cons, List.foldl_nil]
        exact H4.out.2
    case rest =>
      obtain ⟨kc, cc⟩ := hcut
      clear qT hent yl y1
      obtain ⟨hga, -, hfa, kr, setr, hB, hgn, pr, -⟩ := HR.out
      have kwc := kr.trans kc (fun x hx _ => hx)
      have H4 := hid (And.intro kwc (And.intro cc (And.intro (setr.keep kc (by have := H0.out.2.2.2.2.2; simp; omega)) (And.intro hB (And.intro hgn (And.intro (pr.keep kc (by simpa using H0.out.2.2.1)) (And.intro hga hfa)))))))
      have xm := (HMB.out.1.keep kwc (by simpa using HMB.out.2)).cell 0
      simp only [List.getElem?_cons_zero] at xm
      rw [← HM.out.2.2.2.2.2.2.1] at xm
      clear kc cc hga hfa kr setr hB hgn pr HR kwc HTD
      by_cases hae : a = n
      · have e0 : ((a : Int) == (n : Int)) = true := by rw [beq_iff_eq]; omega
        have HAE := hid hae
        clear hae
        go_wp2_with fail
        first | go_end0 | (simp only [Exit.inBlock, Exit.then]; refine bodyPost_ret (results_none rfl _ _ _) rfl ?_) | refine bodyPost_ret (results_none rfl _ _ _) rfl ?_
        refine ⟨rfl, h, HM.out.2.2.2.2.2.2.2.2, ?_, H4.out.1⟩
        rw [← HAE.out]
        exact H4.out.2.1
      · have e0 : ((a : Int) == (n : Int)) = false := by rw [beq_eq_false_iff_ne]; omega
        obtain ⟨ch, hch⟩ : ∃ ch, s[a]? = some ch := ⟨_, List.getElem?_eq_getElem (by have := HS.out.2.2.2.2.1; omega)⟩
        have hch2 := HS.out.2.2.2.1 ch (List.mem_of_getElem? hch)
        have hlt : a < n := by omega
        have HCH := hid (And.intro hch hlt)
        clear hae hch
        go_upto_region 8 with fail
        go_wp2_with (at_make; go_must (refine wpList_make1 rfl _ _ 55 rfl 4 (.bool false) 1 Try.underlying55 boolInfo rfl .i64 .i64 (N : Int) (N : Int) N rfl rfl rfl rfl (by omega) (by omega) ?_))
        intro w5 Z hZ c5 k5
        obtain ⟨g2, hg2⟩ : ∃ g, g = wc.heap.size := ⟨_, rfl⟩
        rw [← hg2] at c5 ⊢
        have hg2n : w.heap.size ≤ g2 := by rw [hg2]; exact H4.out.1.size
        have set5 : SetAt w5 g2 N (List.replicate N false) := set_new (by rw [← hZ.out]; exact c5) (by omega)
        have hgg : g ≠ g2 := by have := H4.out.2.2.1.lt; omega
        have H5 := hid (And.intro (H4.out.1.nil k5) (And.intro (H4.out.2.1.keep k5 (by simp)) (And.intro (H4.out.2.2.1.keep k5 (by simp)) (And.intro (H4.out.2.2.2.2.2.1.keep k5 (by simp)) (And.intro hg2n (And.intro (show g2 ≠ pb by have := H4.out.2.2.2.2.2.1.lt; omega) (And.intro (show g2 ≠ tb by have := H0.out.2.2.2.2.2; omega) hgg)))))))
        have HI5 := hid set5
        clear hZ c5 k5 hg2 hg2n set5 hgg xm e0
        go_wp2_with fail
        go_loopg [53] N (fun gg v53 wx => ∃ (i : Nat) (Bn : List Bool), v53 = .int .i64 (i : Int) ∧ i + gg = N ∧ Kp [g2] w5 wx ∧ SetAt wx g2 N Bn ∧ NextAt M a n ch B i Bn)
        case atStart => exact ⟨0, _, rfl, by omega, Kp.refl _ _, HI5.out, by have := next_start M a n ch B; rw [← HM.out.2.2.2.2.2.2.1] at this; exact this⟩
        case round =>
          obtain ⟨i, Bn, rfl, hig, kx, setx, hNx⟩ := hrel
          have HX := hid (And.intro kx (And.intro setx hNx))
          clear kx setx hNx HI5
          have iwa : IntKind.i64.wrap ((a : Int) + 1) = (a : Int) + 1 := IntWalk.i64_in _ (by omega)
          cases gk with
          | zero =>
            obtain rfl : i = N := by omega
            go_wp2_with fail
            go_roundg (G - 1)
            case measure => have := H4.out.2.2.2.2.2.2.1; have := HG.out; have := HCH.out.2; omega
            case rel =>
              obtain ⟨kx, setx, hNx⟩ := HX.out
              have hf4 := H4.out.2.2.2.2.2.2
              refine ⟨a + 1, g2, i, Bn, rfl, rfl, by have := hf4.1; omega, by have := HCH.out.2; omega, by have := hf4.2; omega, H5.out.1.fresh kx H5.out.2.2.2.2.1, setx, ?_, H5.out.2.2.2.2.1, H5.out.2.2.2.1.keep kx (by simpa using Ne.symm H5.out.2.2.2.2.2.1), H5.out.2.1.keep kx (by simpa using Ne.symm H5.out.2.2.2.2.2.2.1)⟩
              rw [HM.out.2.2.2.2.2.2.1, HS.out.2.2.2.2.1] at hNx
              exact now_next H4.out.2.2.2.1 HCH.out.1 hf4.2 hNx
          | succ gg =>
            obtain ⟨kx, setx, hNx⟩ := HX.out
            have hiN : i < N := by omega
            obtain ⟨st, hst⟩ : ∃ st, M[i]? = some st := ⟨_, List.getElem?_eq_getElem (by have := HM.out.2.2.2.2.2.2.1; omega)⟩
            obtain ⟨on, hon⟩ : ∃ b, B[i]? = some b := ⟨_, List.getElem?_eq_getElem (by have := H4.out.2.2.2.1.1; have := HM.out.2.2.2.2.2.2.1; omega)⟩
            have yo := (H5.out.2.2.1.keep kx (by simpa using H5.out.2.2.2.2.2.2.2)).at hon
            have kwx := H5.out.1.fresh kx H5.out.2.2.2.2.1
            have mx : MachAt wr mb E (fun x => x = tb ∨ x = g2) M := HM.out.1.move ⟨[tb], fun x hx => List.mem_singleton.1 hx, kwx⟩ HM.out.2.1 (fun x hx => by
              rcases hx with hx | hx
              · exact .inl hx
              · exact .inr (by have := H5.out.2.2.2.2.1; omega))
            have hRx : ∀ x, (x = tb ∨ x = g2) → x < wr.heap.size := fun x hx => by
              rcases hx with hx | hx
              · rw [hx]; exact Nat.lt_of_lt_of_le H0.out.2.2.2.2.2 kwx.size
              · rw [hx]; exact setx.lt
            obtain ⟨sb, cap, sc, xs, s0, s1, s2, hEs, hcap, hta, hha, hn0, hEn⟩ := mx.state hst
            rw [← HM.out.2.2.2.2.2.2.1] at xs
            obtain ⟨w6, hw6⟩ : ∃ w6, w6 = wr.alloc (.cells #[sc.t, sc.h, sc.n] 75) := ⟨_, rfl⟩
            have k6 : Kp [] wr w6 := by rw [hw6]; exact (Kp.refl _ _).alloc _
            have c6 : Cells w6 wr.heap.size 75 [sc.t, sc.h, sc.n] := by rw [hw6]; exact Cells.fresh wr 75 _
            obtain ⟨gs, hgs⟩ : ∃ g, g = wr.heap.size := ⟨_, rfl⟩
            rw [← hgs] at c6
            obtain ⟨Ax, cx, hnv, hspx, hcx, hlx, -⟩ := hn0.shape
            obtain ⟨tv, htv⟩ : ∃ v, v = sc.t := ⟨_, rfl⟩
            obtain ⟨hv, hhv⟩ : ∃ v, v = sc.h := ⟨_, rfl⟩
            obtain ⟨nn, hnn⟩ : ∃ n, n = st.nx.length := ⟨_, rfl⟩
            rw [← htv] at hta s0 hw6 c6
            rw [← hhv] at hha s1 hw6 c6
            rw [hnv, ← hnn] at s2 hw6 c6
            rw [← hnn] at hcx
            have e3 : i * 3 = 3 * i := Nat.mul_comm _ _
            have t0 := c6.cell 0
            have t2 := c6.cell 2
            simp only [List.getElem?_cons_zero, List.getElem?_cons_succ] at t0 t2
            have hspr : ∃ ad, A = some ad ∧ wr.cell? (ad.add a) = some (.int .i32 (ch : Int)) := by
              obtain ⟨ad, e, hc⟩ := HS.out.1 a (.int .i32 (ch : Int)) (by simp [runesV, HCH.out.1])
              exact ⟨ad, e, kwx.cell hc (by rw [add_block]; simpa using (HS.out.2.1 ad e).1)⟩
            obtain ⟨as_, rfl, ys⟩ := hspr
            have ys := k6.cell ys (by simp)
            have i0 : (i : Int) < (N : Int) := by omega
            have i1 : decide ((i : Int) < (N : Int)) = true := decide_eq_true i0
            have i2 : decide (i < N) = true := decide_eq_true hiN
            have a0 : (a : Int) < (n : Int) := by omega
            have a1 : decide ((a : Int) < (n : Int)) = true := decide_eq_true a0
            have iwi : IntKind.i64.wrap ((i : Int) + 1) = (i : Int) + 1 := IntWalk.i64_in _ (by omega)
            have HST := hid (And.intro hst (And.intro hon (And.intro (mx.keep (Kq.of k6) (fun _ x => x) (fun _ x => .inl x) hRx) (And.intro (fun x hx => Nat.lt_of_lt_of_le (hRx x hx) k6.size) (And.intro (setx.keep k6 (by simp)) (And.intro hNx (And.intro (kx.nil k6) (And.intro (hspx.kept k6) (And.intro hnn hig)))))))))
            have HTV := hid (And.intro (TkAt.later hta (Kq.of k6) (fun x hx => .inl hx)) hha)
            have HW6 := hid hw6
            have HGS := hid hgs
            clear hst hon kwx mx hRx hEs hta hha hn0 hEn hw6 k6 c6 hgs hnv hspx hcx hlx htv hhv hnn kx setx hNx HX hig
            go_upto_region 12 with fail
            go_cut [15] (fun v wx => v = .pointer (some ⟨gs, 0, none⟩) ∧ wx = w6)
            case first =>
              have htv : tv = .nilFunc ∨ ∃ F cap, tv = .func (.func F) #[] cap := by
                have := HTV.out.1
                cases hk : st.tk with
                | none => rw [hk] at this; exact .inl this
                | some f => rw [hk] at this; obtain ⟨F, cap, e, -⟩ := this; exact .inr ⟨F, cap, e⟩
              have hhv : hv = .nilFunc ∨ ∃ F cap, hv = .func (.func F) #[] cap := by
                have := HTV.out.2
                cases hk : st.wh with
                | none => rw [hk] at this; exact .inl this
                | some f => rw [hk] at this; obtain ⟨F, cap, e, -⟩ := this; exact .inr ⟨F, cap, e⟩
              clear HTV HST
              rcases htv with rfl | ⟨F, cp, rfl⟩ <;> rcases hhv with rfl | ⟨F', cp', rfl⟩
              all_goals go_wp2_with fail
              all_goals
                go_meet
                exact ⟨by rw [HGS.out], HW6.out.symm⟩
            case rest =>
              obtain ⟨rfl, hwc⟩ := hcut
              subst wc
              clear HW6 HGS xs s0 s1 s2 yo
              go_upto_region 13 with fail
              go_cut [79] (fun v wy => v = .bool (on && takeB st ch) ∧ Kp [] w6 wy)
              case first =>
                cases on with
                | false =>
                  refine lin_start (fun W' => Kp [] w6 W') (Stays.kp _ _) (by kernel_rfl) (Kp.refl _ _).drew (fun hSS hS => ?_)
                  refine lin_val (i := 0) (v := ?_) rfl (by kernel_rfl) (by kernel_rfl) (by kernel_rfl) (by kernel_rfl) (fun _ _ _ h => h) hSS hS rfl (fun W' hSw => ?_) ?_
                  rotate_left
                  · go_simp; first | done | with_reducible rfl
                  try simp only [Act.put, List.setIfInBounds_toArray, List.set_cons_zero, List.set_cons_succ]
                  refine lin_val (i := 1) (v := ?_) rfl (by kernel_rfl) (by kernel_rfl) (by kernel_rfl) (by kernel_rfl) (fun _ _ _ h => h) hSS hS rfl (fun W' hSw => ?_) ?_
                  rotate_left
                  · go_simp; first | done | with_reducible rfl
                  try simp only [Act.put, List.setIfInBounds_toArray, List.set_cons_zero, List.set_cons_succ]
                  refine lin_not (i := 2) rfl (by kernel_rfl) (by kernel_rfl) (by kernel_rfl) (by kernel_rfl) (fun _ _ _ h => h) hSS hS rfl ?_
                  try simp only [Act.put, List.setIfInBounds_toArray, List.set_cons_zero, List.set_cons_succ]
                  refine lin_not (i := 3) rfl (by kernel_rfl) (by kernel_rfl) (by kernel_rfl) (by kernel_rfl) (fun _ _ _ h => h) hSS hS rfl ?_
                  try simp only [Act.put, List.setIfInBounds_toArray, List.set_cons_zero, List.set_cons_succ]
                  refine lin_not (i := 4) rfl (by kernel_rfl) (by kernel_rfl) (by kernel_rfl) (by kernel_rfl) (fun _ _ _ h => h) hSS hS rfl ?_
                  try simp only [Act.put, List.setIfInBounds_toArray, List.set_cons_zero, List.set_cons_succ]
                  refine lin_val (i := 5) (v := ?_) rfl (by kernel_rfl) (by kernel_rfl) (by kernel_rfl) (by kernel_rfl) (fun _ _ _ h => h) hSS hS rfl (fun W' hSw => ?_) ?_
                  rotate_left
                  · go_simp; first | done | with_reducible rfl
                  try simp only [Act.put, List.setIfInBounds_toArray, List.set_cons_zero, List.set_cons_succ]
                  refine lin_val (i := 6) (v := ?_) rfl (by kernel_rfl) (by kernel_rfl) (by kernel_rfl) (by kernel_rfl) (fun _ _ _ h => h) hSS hS rfl (fun W' hSw => ?_) ?_
                  rotate_left
                  · go_simp; first | done | with_reducible rfl
                  try simp only [Act.put, List.setIfInBounds_toArray, List.set_cons_zero, List.set_cons_succ]
                  refine lin_not (i := 7) rfl (by kernel_rfl) (by kernel_rfl) (by kernel_rfl) (by kernel_rfl) (fun _ _ _ h => h) hSS hS rfl ?_
                  try simp only [Act.put, List.setIfInBounds_toArray, List.set_cons_zero, List.set_cons_succ]
                  refine lin_not (i := 8) rfl (by kernel_rfl) (by kernel_rfl) (by kernel_rfl) (by kernel_rfl) (fun _ _ _ h => h) hSS hS rfl ?_
                  try simp only [Act.put, List.setIfInBounds_toArray, List.set_cons_zero, List.set_cons_succ]
                  refine lin_not (i := 9) rfl (by kernel_rfl) (by kernel_rfl) (by kernel_rfl) (by kernel_rfl) (fun _ _ _ h => h) hSS hS rfl ?_
                  try simp only [Act.put, List.setIfInBounds_toArray, List.set_cons_zero, List.set_cons_succ]
                  refine lin_not (i := 10) rfl (by kernel_rfl) (by kernel_rfl) (by kernel_rfl) (by kernel_rfl) (fun _ _ _ h => h) hSS hS rfl ?_
                  try simp only [Act.put, List.setIfInBounds_toArray, List.set_cons_zero, List.set_cons_succ]
                  refine lin_not (i := 11) rfl (by kernel_rfl) (by kernel_rfl) (by kernel_rfl) (by kernel_rfl) (fun _ _ _ h => h) hSS hS rfl ?_
                  try simp only [Act.put, List.setIfInBounds_toArray, List.set_cons_zero, List.set_cons_succ]
                  refine lin_not (i := 12) rfl (by kernel_rfl) (by kernel_rfl) (by kernel_rfl) (by kernel_rfl) (fun _ _ _ h => h) hSS hS rfl ?_
                  try simp only [Act.put, List.setIfInBounds_toArray, List.set_cons_zero, List.set_cons_succ]
                  refine lin_not (i := 13) rfl (by kernel_rfl) (by kernel_rfl) (by kernel_rfl) (by kernel_rfl) (fun _ _ _ h => h) hSS hS rfl ?_
                  try simp only [Act.put, List.setIfInBounds_toArray, List.set_cons_zero, List.set_cons_succ]
                  refine lin_last (i := 14) (by kernel_rfl) rfl (by kernel_rfl) (fun wz kz K hK => ?_)
                  have kz' : Kp [] w6 wz := (Kp.refl _ _).drew.nil kz
                  have HKZ := hid kz'
                  clear kz kz' hS hSS
                  go_simp
                  refine hK.out _ _ ?_
                  clear hK K
                  go_wp2_with fail
                  go_meet
                  exact ⟨rfl, HKZ.out⟩
                | true =>
                  have htv := HTV.out.1
                  cases htk : st.tk with
                  | none =>
                    rw [htk] at htv
                    have htv : tv = .nilFunc := htv
                    subst htv
                    have HTB : Hid (takeB st ch = false) := hid (by unfold takeB; rw [htk])
                    clear htk
                    refine lin_start (fun W' => Kp [] w6 W') (Stays.kp _ _) (by kernel_rfl) (Kp.refl _ _).drew (fun hSS hS => ?_)
                    refine lin_val (i := 0) (v := ?_) rfl (by kernel_rfl) (by kernel_rfl) (by kernel_rfl) (by kernel_rfl) (fun _ _ _ h => h) hSS hS rfl (fun W' hSw => ?_) ?_
                    rotate_left
                    · go_simp; first | done | with_reducible rfl
                    try simp only [Act.put, List.setIfInBounds_toArray, List.set_cons_zero, List.set_cons_succ]
                    refine lin_val (i := 1) (v := ?_) rfl (by kernel_rfl) (by kernel_rfl) (by kernel_rfl) (by kernel_rfl) (fun _ _ _ h => h) hSS hS rfl (fun W' hSw => ?_) ?_
                    rotate_left
                    · go_simp; first | done | with_reducible rfl
                    try simp only [Act.put, List.setIfInBounds_toArray, List.set_cons_zero, List.set_cons_succ]
                    refine lin_val (i := 2) (v := ?_) rfl (by kernel_rfl) (by kernel_rfl) (by kernel_rfl) (by kernel_rfl) (fun _ _ _ h => h) hSS hS rfl (fun W' hSw => ?_) ?_
                    rotate_left
                    · go_simp; first | done | with_reducible rfl
                    try simp only [Act.put, List.setIfInBounds_toArray, List.set_cons_zero, List.set_cons_succ]
                    refine lin_val (i := 3) (v := ?_) rfl (by kernel_rfl) (by kernel_rfl) (by kernel_rfl) (by kernel_rfl) (fun _ _ _ h => h) hSS hS rfl (fun W' hSw => ?_) ?_
                    rotate_left
                    · have t0 := hSw.cell t0 (by simp); go_simp; first | done | with_reducible rfl
                    try simp only [Act.put, List.setIfInBounds_toArray, List.set_cons_zero, List.set_cons_succ]
                    refine lin_val (i := 4) (v := ?_) rfl (by kernel_rfl) (by kernel_rfl) (by kernel_rfl) (by kernel_rfl) (fun _ _ _ h => h) hSS hS rfl (fun W' hSw => ?_) ?_
                    rotate_left
                    · go_simp; first | done | with_reducible rfl
                    try simp only [Act.put, List.setIfInBounds_toArray, List.set_cons_zero, List.set_cons_succ]
                    refine lin_val (i := 5) (v := ?_) rfl (by kernel_rfl) (by kernel_rfl) (by kernel_rfl) (by kernel_rfl) (fun _ _ _ h => h) hSS hS rfl (fun W' hSw => ?_) ?_
                    rotate_left
                    · go_simp; first | done | with_reducible rfl
                    try simp only [Act.put, List.setIfInBounds_toArray, List.set_cons_zero, List.set_cons_succ]
                    refine lin_val (i := 6) (v := ?_) rfl (by kernel_rfl) (by kernel_rfl) (by kernel_rfl) (by kernel_rfl) (fun _ _ _ h => h) hSS hS rfl (fun W' hSw => ?_) ?_
                    rotate_left
                    · go_simp; first | done | with_reducible rfl
                    try simp only [Act.put, List.setIfInBounds_toArray, List.set_cons_zero, List.set_cons_succ]
                    refine lin_not (i := 7) rfl (by kernel_rfl) (by kernel_rfl) (by kernel_rfl) (by kernel_rfl) (fun _ _ _ h => h) hSS hS rfl ?_
                    try simp only [Act.put, List.setIfInBounds_toArray, List.set_cons_zero, List.set_cons_succ]
                    refine lin_not (i := 8) rfl (by kernel_rfl) (by kernel_rfl) (by kernel_rfl) (by kernel_rfl) (fun _ _ _ h => h) hSS hS rfl ?_
                    try simp only [Act.put, List.setIfInBounds_toArray, List.set_cons_zero, List.set_cons_succ]
                    refine lin_not (i := 9) rfl (by kernel_rfl) (by kernel_rfl) (by kernel_rfl) (by kernel_rfl) (fun _ _ _ h => h) hSS hS rfl ?_
                    try simp only [Act.put, List.setIfInBounds_toArray, List.set_cons_zero, List.set_cons_succ]
                    refine lin_not (i := 10) rfl (by kernel_rfl) (by kernel_rfl) (by kernel_rfl) (by kernel_rfl) (fun _ _ _ h => h) hSS hS rfl ?_
                    try simp only [Act.put, List.setIfInBounds_toArray, List.set_cons_zero, List.set_cons_succ]
                    refine lin_not (i := 11) rfl (by kernel_rfl) (by kernel_rfl) (by kernel_rfl) (by kernel_rfl) (fun _ _ _ h => h) hSS hS rfl ?_
                    try simp only [Act.put, List.setIfInBounds_toArray, List.set_cons_zero, List.set_cons_succ]
                    refine lin_not (i := 12) rfl (by kernel_rfl) (by kernel_rfl) (by kernel_rfl) (by kernel_rfl) (fun _ _ _ h => h) hSS hS rfl ?_
                    try simp only [Act.put, List.setIfInBounds_toArray, List.set_cons_zero, List.set_cons_succ]
                    refine lin_not (i := 13) rfl (by kernel_rfl) (by kernel_rfl) (by kernel_rfl) (by kernel_rfl) (fun _ _ _ h => h) hSS hS rfl ?_
                    try simp only [Act.put, List.setIfInBounds_toArray, List.set_cons_zero, List.set_cons_succ]
                    refine lin_last (i := 14) (by kernel_rfl) rfl (by kernel_rfl) (fun wz kz K hK => ?_)
                    have kz' : Kp [] w6 wz := (Kp.refl _ _).drew.nil kz
                    have HKZ := hid kz'
                    clear kz kz' hS hSS
                    go_simp
                    refine hK.out _ _ ?_
                    clear hK K
                    go_wp2_with fail
                    go_meet
                    exact ⟨by rw [HTB.out]; rfl, HKZ.out⟩
                  | some ff =>
                    rw [htk] at htv
                    obtain ⟨F, cap, rfl, hent, hF⟩ := htv
                    have qF : ∀ W', Kp [] w6 W' → Calls Try.prog F (#[.int .i32 (ch : Int)] ++ cap) W' fun e w' => e = .returned (.bool (ff ch)) ∧ Kp [] W' w' := fun W' hk => hF W' (Kq.of hk) ch hch2
                    obtain ⟨r, hr⟩ : ∃ r, r = ff ch := ⟨_, rfl⟩
                    rw [← hr] at qF
                    have HTB : Hid (takeB st ch = r) := hid (by unfold takeB; rw [htk, hr])
                    have hent2 := fun w => hent (#[.int .i32 (ch : Int)] ++ cap) w
                    clear htk hF hr hent
                    refine lin_start (fun W' => Kp [] w6 W') (Stays.kp _ _) (by kernel_rfl) (Kp.refl _ _).drew (fun hSS hS => ?_)
                    refine lin_val (i := 0) (v := ?_) rfl (by kernel_rfl) (by kernel_rfl) (by kernel_rfl) (by kernel_rfl) (fun _ _ _ h => h) hSS hS rfl (fun W' hSw => ?_) ?_
                    rotate_left
                    · go_simp; first | done | with_reducible rfl
                    try simp only [Act.put, List.setIfInBounds_toArray, List.set_cons_zero, List.set_cons_succ]
                    refine lin_val (i := 1) (v := ?_) rfl (by kernel_rfl) (by kernel_rfl) (by kernel_rfl) (by kernel_rfl) (fun _ _ _ h => h) hSS hS rfl (fun W' hSw => ?_) ?_
                    rotate_left
                    · go_simp; first | done | with_reducible rfl
                    try simp only [Act.put, List.setIfInBounds_toArray, List.set_cons_zero, List.set_cons_succ]
                    refine lin_val (i := 2) (v := ?_) rfl (by kernel_rfl) (by kernel_rfl) (by kernel_rfl) (by kernel_rfl) (fun _ _ _ h => h) hSS hS rfl (fun W' hSw => ?_) ?_
                    rotate_left
                    · go_simp; first | done | with_reducible rfl
                    try simp only [Act.put, List.setIfInBounds_toArray, List.set_cons_zero, List.set_cons_succ]
                    refine lin_val (i := 3) (v := ?_) rfl (by kernel_rfl) (by kernel_rfl) (by kernel_rfl) (by kernel_rfl) (fun _ _ _ h => h) hSS hS rfl (fun W' hSw => ?_) ?_
                    rotate_left
                    · have t0 := hSw.cell t0 (by simp); go_simp; first | done | with_reducible rfl
                    try simp only [Act.put, List.setIfInBounds_toArray, List.set_cons_zero, List.set_cons_succ]
                    refine lin_val (i := 4) (v := ?_) rfl (by kernel_rfl) (by kernel_rfl) (by kernel_rfl) (by kernel_rfl) (fun _ _ _ h => h) hSS hS rfl (fun W' hSw => ?_) ?_
                    rotate_left
                    · go_simp; first | done | with_reducible rfl
                    try simp only [Act.put, List.setIfInBounds_toArray, List.set_cons_zero, List.set_cons_succ]
                    refine lin_val (i := 5) (v := ?_) rfl (by kernel_rfl) (by kernel_rfl) (by kernel_rfl) (by kernel_rfl) (fun _ _ _ h => h) hSS hS rfl (fun W' hSw => ?_) ?_
                    rotate_left
                    · go_simp; first | done | with_reducible rfl
                    try simp only [Act.put, List.setIfInBounds_toArray, List.set_cons_zero, List.set_cons_succ]
                    refine lin_val (i := 6) (v := ?_) rfl (by kernel_rfl) (by kernel_rfl) (by kernel_rfl) (by kernel_rfl) (fun _ _ _ h => h) hSS hS rfl (fun W' hSw => ?_) ?_
                    rotate_left
                    · go_simp; first | done | with_reducible rfl
                    try simp only [Act.put, List.setIfInBounds_toArray, List.set_cons_zero, List.set_cons_succ]
                    refine lin_val (i := 7) (v := ?_) rfl (by kernel_rfl) (by kernel_rfl) (by kernel_rfl) (by kernel_rfl) (fun _ _ _ h => h) hSS hS rfl (fun W' hSw => ?_) ?_
                    rotate_left
                    · go_simp; first | done | with_reducible rfl
                    try simp only [Act.put, List.setIfInBounds_toArray, List.set_cons_zero, List.set_cons_succ]
                    refine lin_val (i := 8) (v := ?_) rfl (by kernel_rfl) (by kernel_rfl) (by kernel_rfl) (by kernel_rfl) (fun _ _ _ h => h) hSS hS rfl (fun W' hSw => ?_) ?_
                    rotate_left
                    · have t0 := hSw.cell t0 (by simp); go_simp; first | done | with_reducible rfl
                    try simp only [Act.put, List.setIfInBounds_toArray, List.set_cons_zero, List.set_cons_succ]
                    refine lin_val (i := 9) (v := ?_) rfl (by kernel_rfl) (by kernel_rfl) (by kernel_rfl) (by kernel_rfl) (fun _ _ _ h => h) hSS hS rfl (fun W' hSw => ?_) ?_
                    rotate_left
                    · go_simp; first | done | with_reducible rfl
                    try simp only [Act.put, List.setIfInBounds_toArray, List.set_cons_zero, List.set_cons_succ]
                    refine lin_val (i := 10) (v := ?_) rfl (by kernel_rfl) (by kernel_rfl) (by kernel_rfl) (by kernel_rfl) (fun _ _ _ h => h) hSS hS rfl (fun W' hSw => ?_) ?_
                    rotate_left
                    · go_simp; first | done | with_reducible rfl
                    try simp only [Act.put, List.setIfInBounds_toArray, List.set_cons_zero, List.set_cons_succ]
                    refine lin_val (i := 11) (v := ?_) rfl (by kernel_rfl) (by kernel_rfl) (by kernel_rfl) (by kernel_rfl) (fun _ _ _ h => h) hSS hS rfl (fun W' hSw => ?_) ?_
                    rotate_left
                    · go_simp; first | done | with_reducible rfl
                    try simp only [Act.put, List.setIfInBounds_toArray, List.set_cons_zero, List.set_cons_succ]
                    refine lin_val (i := 12) (v := ?_) rfl (by kernel_rfl) (by kernel_rfl) (by kernel_rfl) (by kernel_rfl) (fun _ _ _ h => h) hSS hS rfl (fun W' hSw => ?_) ?_
                    rotate_left
                    · have ys := hSw.cell ys (by simp); go_simp; first | done | with_reducible rfl
                    try simp only [Act.put, List.setIfInBounds_toArray, List.set_cons_zero, List.set_cons_succ]
                    refine lin_call (i := 13) (v := .bool r) (f := F) (args := _) rfl (by kernel_rfl) (by kernel_rfl) (by kernel_rfl) (by kernel_rfl) (fun _ _ _ h => h) hSS hS rfl (fun W' hSw => qF W' hSw) (fun W' hSw => ?_) ?_
                    · go_simp
                    try simp only [Act.put, List.setIfInBounds_toArray, List.set_cons_zero, List.set_cons_succ]
                    refine lin_last (i := 14) (by kernel_rfl) rfl (by kernel_rfl) (fun wz kz K hK => ?_)
                    have kz' : Kp [] w6 wz := (Kp.refl _ _).drew.nil kz
                    have HKZ := hid kz'
                    clear kz kz' hS hSS
                    go_simp
                    refine hK.out _ _ ?_
                    clear hK K
                    go_wp2_with fail
                    go_meet
                    exact ⟨by rw [HTB.out]; rfl, HKZ.out⟩
              case rest =>
                obtain ⟨rfl, hkc⟩ := hcut
                have HC := hid hkc
                have t2 := hkc.cell t2 (by simp)
                clear hkc t0 ys
                obtain ⟨tk, htk⟩ : ∃ b, b = (on && takeB st ch) := ⟨_, rfl⟩
                rw [← htk]
                have HTK := hid htk
                clear htk
                cases tk with
                | false =>
                  go_wp2_with fail
                  go_roundg gg
                  case measure => omega
                  case rel =>
                    obtain ⟨hst, hon, m6, hR6, set6, hNx, kx6, hspan, hnn, hig⟩ := HST.out
                    refine ⟨i + 1, Bn, rfl, by omega, kx6.nil HC.out, set6.keep HC.out (by simp), next_skip hNx (fun q1 hb ht => ?_)⟩
                    obtain ⟨st', ff, x1, x2, x3, x4⟩ := ht
                    rw [hst] at x1
                    injection x1 with x1
                    subst x1
                    have hk := HTK.out
                    rw [hon] at hb
                    injection hb with hb
                    rw [hb] at hk
                    unfold takeB at hk
                    rw [x2] at hk
                    simp only [x3] at hk
                    cases hk
                | true =>
                  obtain ⟨hst, hon, m6, hR6, set6, hNx, kx6, hspan, hnn, hig⟩ := HST.out
                  have hk := HTK.out
                  have hon2 : on = true := by cases on; cases hk; rfl
                  obtain ⟨ff, hff, hfc⟩ : ∃ ff, st.tk = some ff ∧ ff ch = true := by
                    unfold takeB at hk
                    cases hh : st.tk with
                    | none => rw [hh] at hk; cases on <;> cases hk
                    | some ff => rw [hh, hon2] at hk; exact ⟨ff, rfl, hk.symm⟩
                  have hwf := HM.out.2.2.2.2.1 i st hst
                  have hne : st.nx ≠ [] := hwf.2 (by rw [hff]; simp)
                  obtain ⟨q1, hq1⟩ : ∃ q, st.nx[0]? = some q := ⟨_, List.getElem?_eq_getElem (List.length_pos_iff.2 hne)⟩
                  have hn0 : 0 < nn := by rw [hnn]; exact List.length_pos_iff.2 hne
                  obtain ⟨ax, rfl, yx⟩ := hspan 0 (.int .i64 (q1 : Int)) (by simp [ints, hq1])
                  have ea : ax.add 0 = ax := by simp [Addr.add]
                  rw [ea] at yx
                  have yx := HC.out.cell yx (by simp)
                  have hq1M := hwf.1 q1 (List.mem_of_getElem? hq1)
                  have hnn5 := hn5
                  have q5 := spread_any M mb E (fun x => x = tb ∨ x = g2) g2 N (a + 1) n (.inr rfl) (by omega) (by omega) HM.out.2.2.2.2.2.2.2.1 (fun q st a => (HM.out.2.2.2.2.1 q st a).1) HM.out.2.2.2.2.2.1 _ wc Bn q1 (Nat.lt_succ_self _) (m6.keep (Kq.of HC.out) (fun _ x => x) (fun _ x => .inl x) hR6) (fun x hx => Nat.lt_of_lt_of_le (hR6 x hx) HC.out.size) (set6.keep HC.out (by simp)) hNx.1 hq1M
                  rw [← HM.out.2.2.2.2.2.2.1, show ((a + 1 : Nat) : Int) = (a : Int) + 1 from rfl] at q5
                  have c0 : (0 : Int) < (nn : Int) := by omega
                  have c1' : decide ((0 : Int) < (nn : Int)) = true := decide_eq_true c0
                  have HQ1 := hid (And.intro hq1 (And.intro hff (And.intro hfc hon2)))
                  clear hst hon m6 hR6 set6 hNx kx6 hspan hnn hig hk hon2 hff hfc hwf hne hq1 ea hq1M hnn5
                  go_wp2_with fail
                  (with_reducible refine q5.mono ?_)
                  clear q5 yx t2
                  rintro e w8 ⟨rfl, B8, sp8, set8, k8⟩
                  have H8 := hid (And.intro sp8 (And.intro set8 k8))
                  clear sp8 set8 k8
                  go_wp2_with fail
                  go_roundg gg
                  case measure => omega
                  case rel =>
                    obtain ⟨hst, hon, m6, hR6, set6, hNx, kx6, hspan, hnn, hig⟩ := HST.out
                    obtain ⟨hq1, hff, hfc, hon2⟩ := HQ1.out
                    rw [hon2] at hon
                    exact ⟨i + 1, B8, rfl, by omega, (kx6.nil HC.out).trans H8.out.2.2 (fun x hx _ => hx), H8.out.2.1, next_take hNx hon ⟨st, ff, hst, hff, hfc, hq1⟩ H8.out.1⟩
end Go.Proofs.Ytaaikjedagnjbaa
