/- Spans: class, in. -/
import Derived.Test.YtaaikjedagnjbaaGPeek
namespace Go.Proofs.Ytaaikjedagnjbaa
open Go Go.RowKit Go.Lib

def spanV (s : Nat × Nat) : List Value := [.int .i32 (s.1 : Int), .int .i32 (s.2 : Int)]
def spansV (l : List (Nat × Nat)) : List Value := l.flatMap spanV
/-- Spans in memory. -/
def SpansAt (w : World) (v : Value) (l : List (Nat × Nat)) : Prop := OwnN w 102 2 v l.length (spansV l)
set_option maxRecDepth 100000 in
set_option maxHeartbeats 6400000 in
theorem class_any (w : World) (r : Int) (h0 : -1 ≤ r) :
    Calls Try.prog 69 #[.int .i32 r] w fun e w' => ∃ v, e = .returned v ∧ SpansAt w' v (classR r.toNat) ∧ Kp [] w w' ∧ (∀ g, v.ownBlock = some g → w.heap.size ≤ g) ∧ (classR r.toNat = [] → v = .slice none 0 0) ∧ (classR r.toNat ≠ [] → ∃ g n c, v = .slice (some ⟨g, 0, none⟩) n c) := by
  by_cases c1 : r = 100
  · subst c1
    have HC := hid (Cells.fresh w 102 (spansV [(48, 57)]))
    go_enter Try.func69, Try.ntmps69
    go_wp2_with fail
    go_ret
    exact ⟨_, rfl, OwnN.of_cells HC.out rfl (by decide), (Kp.refl _ _).alloc _, (by intro g hg; have hg : some w.heap.size = some g := hg; injection hg with hg; omega), (by intro h; cases h), fun _ => ⟨_, _, _, rfl⟩⟩
  · by_cases c2 : r = 119
    · subst c2
      have HC := hid (Cells.fresh w 102 (spansV [(48, 57), (97, 122), (65, 90), (95, 95)]))
      go_enter Try.func69, Try.ntmps69
      go_wp2_with fail
      go_ret
      exact ⟨_, rfl, OwnN.of_cells HC.out rfl (by decide), (Kp.refl _ _).alloc _, (by intro g hg; have hg : some w.heap.size = some g := hg; injection hg with hg; omega), (by intro h; cases h), fun _ => ⟨_, _, _, rfl⟩⟩
    · by_cases c3 : r = 115
      · subst c3
        have HC := hid (Cells.fresh w 102 (spansV [(32, 32), (9, 9), (10, 10), (13, 13)]))
        go_enter Try.func69, Try.ntmps69
        go_wp2_with fail
        go_ret
        exact ⟨_, rfl, OwnN.of_cells HC.out rfl (by decide), (Kp.refl _ _).alloc _, (by intro g hg; have hg : some w.heap.size = some g := hg; injection hg with hg; omega), (by intro h; cases h), fun _ => ⟨_, _, _, rfl⟩⟩
      · have hz : classR r.toNat = [] := by unfold classR; rw [if_neg (by omega), if_neg (by omega), if_neg (by omega)]
        rw [hz]
        have d1 : (r == 100) = false := beq_eq_false_iff_ne.2 c1
        have d2 : (r == 119) = false := beq_eq_false_iff_ne.2 c2
        have d3 : (r == 115) = false := beq_eq_false_iff_ne.2 c3
        clear hz
        go_enter Try.func69, Try.ntmps69
        go_wp2_with fail
        go_ret
        exact ⟨_, rfl, OwnN.nil _ _ _, Kp.refl _ _, by (intro g hg; cases hg), fun _ => rfl, fun h => absurd rfl h⟩
/-- Whether a rune, or -1, is in one of some spans. -/
def inI (l : List (Nat × Nat)) (r : Int) : Bool := l.any fun s => decide ((s.1 : Int) ≤ r) && decide (r ≤ (s.2 : Int))
theorem inI_nat (l : List (Nat × Nat)) (c : Nat) : inI l (c : Int) = inR l c := by
  unfold inI inR
  congr 1
  funext s
  congr 1 <;> exact decide_eq_decide.2 (by omega)
set_option maxRecDepth 100000 in
set_option maxHeartbeats 6400000 in
theorem in1_any (w : World) (s : Nat × Nat) (r : Int) (b : Nat) (hb : w.cell? ⟨b, 0, none⟩ = some (.int .i32 r)) :
    Calls Try.prog 78 #[.agg #[.int .i32 (s.1 : Int), .int .i32 (s.2 : Int)], .pointer (some ⟨b, 0, none⟩)] w fun e w' => e = .returned (.bool (decide ((s.1 : Int) ≤ r) && decide (r ≤ (s.2 : Int)))) ∧ Kp [] w w' := by
  obtain ⟨lo, hi⟩ := s
  have HB := fun o => ((Kp.refl [] w).alloc o).cell hb (by simp)
  obtain ⟨w1, hw1⟩ : ∃ w1, w1 = w.alloc (.cells #[.int .i32 (lo : Int), .int .i32 (hi : Int)] 102) := ⟨_, rfl⟩
  have k1 : Kp [] w w1 := by rw [hw1]; exact (Kp.refl _ _).alloc _
  have hc : Cells w1 w.heap.size 102 [.int .i32 (lo : Int), .int .i32 (hi : Int)] := by rw [hw1]; exact Cells.fresh w 102 _
  have b1 := k1.cell hb (by simp)
  have x0 := hc.cell 0
  have x1 := hc.cell 1
  simp only [List.getElem?_cons_zero, List.getElem?_cons_succ] at x0 x1
  have HW := hid hw1
  have HK := hid k1
  clear hb HB hw1 k1 hc
  by_cases h1 : (lo : Int) ≤ r
  · have e1 : decide ((lo : Int) ≤ r) = true := decide_eq_true h1
    simp only [e1, Bool.true_and]
    go_enter Try.func78, Try.ntmps78
    go_upto_region 1 with fail
    rw [← HW.out]
    go_wp2_with fail
    go_ret
    exact ⟨rfl, HK.out⟩
  · have e1 : decide ((lo : Int) ≤ r) = false := decide_eq_false h1
    simp only [e1, Bool.false_and]
    go_enter Try.func78, Try.ntmps78
    go_upto_region 1 with fail
    rw [← HW.out]
    go_wp2_with fail
    go_ret
    exact ⟨rfl, HK.out⟩
theorem spansV_at : ∀ (l : List (Nat × Nat)) (i : Nat) (s : Nat × Nat), l[i]? = some s → (spansV l)[2 * i]? = some (.int .i32 (s.1 : Int)) ∧ (spansV l)[2 * i + 1]? = some (.int .i32 (s.2 : Int))
  | [], _, _, h => by cases h
  | d :: r, 0, s, h => by
    injection h with h
    subst h
    exact ⟨rfl, rfl⟩
  | d :: r, i + 1, s, h => by
    have := spansV_at r i s h
    exact this
set_option maxRecDepth 100000 in
set_option maxHeartbeats 6400000 in
/-- The first span that holds a rune. -/
theorem indexf_any (w : World) (v : Value) (l : List (Nat × Nat)) (h : SpansAt w v l) (hl : l.length ≤ 1000000) (r : Int) (b : Nat) (hb : w.cell? ⟨b, 0, none⟩ = some (.int .i32 r)) :
    Calls Try.prog 80 #[v, .func (.func 78) #[] #[.pointer (some ⟨b, 0, none⟩)]] w fun e w' => (∃ k : Int, e = .returned (.int .i64 k) ∧ decide (0 ≤ k) = inI l r) ∧ Kp [] w w' := by
  obtain ⟨A, c, rfl, hs, hc1, hc2, hA⟩ := h.shape
  obtain ⟨n, hn⟩ : ∃ n, n = l.length := ⟨_, rfl⟩
  rw [← hn] at hl hc1 ⊢
  have HA := hid hA
  have HS := hid (And.intro hs (And.intro hb hn))
  clear h hs hb hn hA
  go_enter Try.func80, Try.ntmps80
  go_wp2_with fail
  go_loopg [5, 8] n (fun g _ u8 wx => Kp [] w wx ∧ ∃ i : Nat, i + g = n ∧ u8 = .int .i64 (i : Int) ∧ inI (l.take i) r = false)
  case atStart => exact ⟨Kp.refl _ _, 0, by omega, rfl, rfl⟩
  case round =>
    obtain ⟨hk, i, hig, rfl, hno⟩ := hrel
    have HR := hid (And.intro hk hno)
    clear hno
    cases gk with
    | zero =>
      obtain rfl : i = n := by omega
      clear hk
      go_wp2_with fail
      go_ret
      refine ⟨⟨-1, rfl, ?_⟩, HR.out.1⟩
      have := HR.out.2
      rw [HS.out.2.2, List.take_length] at this
      rw [this]
      rfl
    | succ g =>
      obtain ⟨s, hs⟩ : ∃ s, l[i]? = some s := ⟨_, List.getElem?_eq_getElem (by have := HS.out.2.2; omega)⟩
      obtain ⟨p0, p1⟩ := spansV_at l i s hs
      obtain ⟨ad, rfl, y0⟩ := (HS.out.1.kept hk) _ _ p0
      obtain ⟨ad', e', y1⟩ := (HS.out.1.kept hk) _ _ p1
      injection e' with e'
      subst e'
      obtain ⟨e4, -⟩ := HA.out _ rfl
      obtain ⟨sb, of, pr⟩ := ad
      injection e4 with e7 e5 e6
      subst e5 e6
      clear e7
      have ha : ∀ j, (⟨sb, 0, none⟩ : Addr).add (2 * i + j + 1) = ⟨sb, 2 * i + j + 1, none⟩ := fun j => by simp [Addr.add]
      have ha0 : (⟨sb, 0, none⟩ : Addr).add (2 * i) = ⟨sb, 2 * i, none⟩ := by
        cases i with
        | zero => rfl
        | succ i => simp [Addr.add]
      rw [show 2 * i + 1 = 2 * i + 0 + 1 from rfl, ha 0] at y1
      rw [ha0] at y0
      obtain ⟨lo, hi⟩ := s
      have q1 := in1_any _ (lo, hi) r b (hk.cell HS.out.2.1 (by simp))
      obtain ⟨hit, hhit⟩ : ∃ x, x = (decide ((lo : Int) ≤ r) && decide (r ≤ (hi : Int))) := ⟨_, rfl⟩
      simp only [← hhit] at q1
      have HL := hid (And.intro hs hhit)
      have b0 : (i : Int) < (n : Int) := by omega
      have b1 : decide ((i : Int) < (n : Int)) = true := decide_eq_true b0
      have b2 : i < n := by omega
      have b3 : decide (i < n) = true := decide_eq_true b2
      have e2 : i * 2 = 2 * i := Nat.mul_comm _ _
      have iw : IntKind.i64.wrap ((i : Int) + 1) = (i : Int) + 1 := IntWalk.i64_in _ (by omega)
      clear p0 p1 ha ha0 hs hhit hk
      simp only [Nat.add_zero] at y0 y1
      go_wp2_with fail
      (with_reducible refine q1.mono ?_)
      clear q1
      rintro e w2 ⟨rfl, hk2⟩
      have HK := hid hk2
      clear hk2 y0 y1
      cases hit with
      | true =>
        go_wp2_with fail
        go_ret
        refine ⟨⟨i, rfl, ?_⟩, HR.out.1.nil HK.out⟩
        have h1 : inI l r = true := List.any_eq_true.2 ⟨_, List.mem_of_getElem? HL.out.1, HL.out.2.symm⟩
        rw [h1]
        exact decide_eq_true (by omega)
      | false =>
        go_wp2_with fail
        go_roundg g
        case measure => omega
        case rel =>
          refine ⟨HR.out.1.nil HK.out, i + 1, by omega, rfl, ?_⟩
          unfold inI at *
          rw [List.take_add_one, HL.out.1, List.any_append, HR.out.2]
          simpa using HL.out.2.symm
set_option maxRecDepth 100000 in
set_option maxHeartbeats 6400000 in
theorem contf_any (w : World) (v : Value) (l : List (Nat × Nat)) (h : SpansAt w v l) (hl : l.length ≤ 1000000) (r : Int) (b : Nat) (hb : w.cell? ⟨b, 0, none⟩ = some (.int .i32 r)) :
    Calls Try.prog 77 #[v, .func (.func 78) #[] #[.pointer (some ⟨b, 0, none⟩)]] w fun e w' => e = .returned (.bool (inI l r)) ∧ Kp [] w w' := by
  have q := indexf_any w v l h hl r b hb
  clear h hb
  go_enter Try.func77, Try.ntmps77
  go_wp2_with fail
  (with_reducible refine q.mono ?_)
  clear q
  rintro e w2 ⟨⟨k, rfl, hk⟩, hkp⟩
  have HK := hid (And.intro hk hkp)
  clear hk hkp
  go_wp2_with fail
  go_ret
  exact ⟨by rw [HK.out.1]; rfl, HK.out.2⟩
set_option maxRecDepth 100000 in
set_option maxHeartbeats 6400000 in
/-- Whether a rune is in one of some spans. -/
theorem in_any (w : World) (v : Value) (l : List (Nat × Nat)) (h : SpansAt w v l) (hl : l.length ≤ 1000000) (r : Int) :
    Calls Try.prog 72 #[v, .int .i32 r] w fun e w' => e = .returned (.bool (inI l r)) ∧ Kp [] w w' := by
  have hmf : ∀ (fn : Fn) (first cap : Array Value) (w : World), (Instr.makeFunc fn first cap).run Try.prog w = .ok (.func fn first cap) w := fun _ _ _ _ => rfl
  obtain ⟨w1, hw1⟩ : ∃ w1, w1 = w.alloc (.cells #[.int .i32 r] 21) := ⟨_, rfl⟩
  have k1 : Kp [] w w1 := by rw [hw1]; exact (Kp.refl _ _).alloc _
  have hc : Cells w1 w.heap.size 21 [.int .i32 r] := by rw [hw1]; exact Cells.fresh w 21 _
  have q := contf_any w1 v l (OwnN.kept h k1) hl r w.heap.size (hc.cell 0)
  have HW := hid hw1
  have HK := hid k1
  clear h hw1 k1 hc
  go_enter Try.func72, Try.ntmps72
  go_upto_region 1 with fail
  rw [← HW.out]
  go_wp2_with fail
  (with_reducible refine q.mono ?_)
  clear q
  rintro e w2 ⟨rfl, hkp⟩
  have H2 := hid (HK.out.nil hkp)
  clear hkp
  go_wp2_with fail
  go_ret
  exact ⟨rfl, H2.out⟩
end Go.Proofs.Ytaaikjedagnjbaa
