/- sync.Once's Do over the function that makes the dials: the first time, and done already. -/
import Derived.Test.YtgoojndpondkmaaMAll1
import Derived.Laws.NewBlocks
namespace Go.Proofs.Ytgoojndpondkmaa
open Go Go.RowKit

theorem store_deferred (a : Addr) (x : Value) (u : FrameMode) (w : World) (hc : w.cell? a = some x) (hz : w.frozen? a = false) :
    CallsD Try.prog 33 #[.pointer (some a), .bool true] u w fun e u' w' => u' = u ∧ (e = .returned (.tuple #[]) ∧ w' = w.drew.setCell a (.int .u32 1)) := by
  have hc' : w.drew.cell? a = some x := by go_simp
  have hz' : w.drew.frozen? a = false := by go_simp
  have hst := run_call_store (P := Try.prog) Try.func36 (by kernel_rfl) (by kernel_rfl) (by kernel_rfl) (by kernel_rfl) (k := .u32) (y := 1) hc' hz'
  go_enter_d Try.func33, Try.ntmps33
  go_wp2
  go_region_calls
  all_goals (go_end0; exact ⟨rfl, rfl⟩)

theorem unlock_deferred (a : Addr) (u : FrameMode) (w : World) (hc : w.cell? a = some (.int .i32 1)) (hz : w.frozen? a = false) :
    CallsD Try.prog 32 #[.pointer (some a)] u w fun e u' w' => u' = u ∧ (e = .returned (.tuple #[]) ∧ w' = w.setCell a (.int .i32 0)) := by
  have hd := disable
  have he := enable
  have hr := releaseMerge
  have hadd := run_call_add (P := Try.prog) Try.func44 (by kernel_rfl) (by kernel_rfl) (by kernel_rfl) .i32 (by kernel_rfl) (y := -1) (s := 0) hc hz (by simp [go_sem]; rfl)
  have hcv := run_convert_to_unsafe (P := Try.prog) (src := 86) (dst := 90) Try.underlying86 Try.underlying90 (by kernel_rfl) hc
  go_enter_d Try.func32, Try.ntmps32
  go_wp2
  go_end0
  exact ⟨rfl, rfl⟩
theorem lock_free (a : Addr) (w : World) (hc : w.cell? a = some (.int .i32 0)) (hz : w.frozen? a = false) :
    Calls Try.prog 31 #[.pointer (some a)] w fun e w' => e = .returned (.tuple #[]) ∧ w' = w.setCell a (.int .i32 1) := by
  have hd := disable
  have he := enable
  have ha := acquire
  have hcas := run_call_cas_hit (P := Try.prog) Try.func39 (by kernel_rfl) (by kernel_rfl) (by kernel_rfl) .i32 (by kernel_rfl) (y := 1) hc hz
  have hc' : (w.setCell a (.int .i32 1)).cell? a = some (.int .i32 1) := World.cell?_setCell_same w a _ hc
  have hcv := run_convert_to_unsafe (P := Try.prog) (src := 86) (dst := 90) Try.underlying86 Try.underlying90 (by kernel_rfl) hc'
  go_enter Try.func31, Try.ntmps31
  go_wp2
  first | go_end0 | (simp only [Exit.inBlock, Exit.then]; refine bodyPost_ret (results_none rfl _ _ _) rfl ?_) | refine bodyPost_ret (results_none rfl _ _ _) rfl ?_
  exact ⟨rfl, rfl⟩

def SlowPost (w : World) (a n : Nat) (e : Ending) (w' : World) : Prop :=
  e = .returned (.tuple #[]) ∧ ∃ gs, MMade w' a gs (List.replicate n Dl.zero) ∧ Kp [a] w w' ∧ ∀ g ∈ gs, w.heap.size ≤ g
theorem Kp.size_set {w w' : World} {S : List Nat} {p : Addr} {u : Value} (h : Kp S (w.setCell p u) w') : w.heap.size ≤ w'.heap.size := by
  have := h.size
  simpa [World.setCell] using this
theorem heap_size_set (w : World) (p : Addr) (u : Value) : (w.setCell p u).heap.size = w.heap.size := by simp [World.setCell]

theorem made_end {w w1 w2 : World} {a n : Nat} {v : Value} {gs : List Nat} (hc : Cells w2 a 56 (mcells n 1 0 v)) (ho : Own w1 63 v n (gs.map ptr)) (hd : Dials w1 gs (List.replicate n Dl.zero)) (hca : ∃ cs, Cells w1 a 56 cs)
    (k1 : Kp [a] w w1) (k2 : Kp [a] w1 w2) (hgs : ∀ g ∈ gs, w.heap.size ≤ g) : SlowPost w a n (.returned (.tuple #[])) w2 := by
  obtain ⟨cs, hca⟩ := hca
  refine ⟨rfl, gs, ⟨v, by rw [List.length_replicate]; exact hc, ?_, ?_⟩, k1.trans k2 (fun y hy _ => hy), hgs⟩
  · rw [List.length_replicate]
    exact ho.keep k2 (fun g hg hm => by
      rw [List.mem_singleton] at hm
      subst hm
      exact ho.ne_cells hca (by decide) hg)
  · exact hd.keep k2 (fun g hg hm => by
      rw [List.mem_singleton] at hm
      subst hm
      obtain ⟨x, hx⟩ := hd.mem hg
      exact hx.ne hca (by decide) rfl)

set_option maxRecDepth 100000 in
set_option maxHeartbeats 1600000 in
theorem slow_any (w : World) (a n pb : Nat) (hn : n ≤ 32) (hp : w.cell? ⟨pb, 0, none⟩ = some (.pointer (some ⟨a, 0, none⟩))) (hpa : pb ≠ a) (hc : Cells w a 56 (mcells n 0 0 (.slice none 0 0))) :
    Calls Try.prog 27 #[.pointer (some ⟨a, 1, none⟩), .func (.func 22) #[] #[.pointer (some ⟨pb, 0, none⟩)]] w (SlowPost w a n) := by
  have hc1 : Cells (w.setCell ⟨a, 2, none⟩ (.int .i32 1)) a 56 (mcells n 0 1 (.slice none 0 0)) := hc.put 2 _
  have k1 : Kp [a] w (w.setCell ⟨a, 2, none⟩ (.int .i32 1)) := (Kp.refl _ _).setCell (fun _ => by simp) _
  have e2 := hc.cell 2
  have f2 := hc.free 2
  simp only [mcells, List.getElem?_cons_zero, List.getElem?_cons_succ] at e2
  have hp1 : (w.setCell ⟨a, 2, none⟩ (.int .i32 1)).cell? ⟨pb, 0, none⟩ = some (.pointer (some ⟨a, 0, none⟩)) := k1.cell hp (by simpa using hpa)
  have hs1 := heap_size_set w ⟨a, 2, none⟩ (.int .i32 1)
  have e1 := hc1.cell 1
  simp only [mcells, List.getElem?_cons_zero, List.getElem?_cons_succ] at e1
  have Hs1 := hid hs1
  clear hs1
  have hnot : ∀ (x : Bool) (w : World), (Op.unary .not (.bool x)).run Try.prog w = .ok (.bool (!x)) w := fun _ _ => rfl
  go_enter_defers Try.func27, Try.ntmps27
  go_wp2_with (go_at_call 31; refine (lock_free ⟨a, 2, none⟩ _ e2 f2).mono ?_; rintro e w' ⟨rfl, rfl⟩)
  generalize w.setCell ⟨a, 2, none⟩ (.int .i32 1) = w1 at *
  refine (boolLoad w1 a 1 0 false rfl e1).mono ?_
  rintro e w' ⟨rfl, rfl⟩
  go_wp2_with fail
  refine (all1_any w1 a n pb 0 1 hn hp1 hpa hc1).mono ?_
  rintro e w2 ⟨rfl, v, gs, hc2, ho2, hd2, k2, hg2⟩
  go_wp2_with fail
  have HV := hid (And.intro hc2 (And.intro ho2 (And.intro hd2 (And.intro k2 hg2))))
  have d1 := hc2.cell 1
  have g1 := hc2.free 1
  have g2 := hc2.free 2
  simp only [mcells, List.getElem?_cons_zero, List.getElem?_cons_succ] at d1
  have hc3 : Cells (w2.drew.setCell ⟨a, 1, none⟩ (.int .u32 1)) a 56 (mcells n 1 1 v) := hc2.drew.put 1 _
  have d2 := hc3.cell 2
  simp only [mcells, List.getElem?_cons_zero, List.getElem?_cons_succ] at d2
  have g3 := hc3.free 2
  have hc4 : Cells ((w2.drew.setCell ⟨a, 1, none⟩ (.int .u32 1)).setCell ⟨a, 2, none⟩ (.int .i32 0)) a 56 (mcells n 1 0 v) := hc3.put 2 _
  have k4 : Kp [a] w2 ((w2.drew.setCell ⟨a, 1, none⟩ (.int .u32 1)).setCell ⟨a, 2, none⟩ (.int .i32 0)) := ((Kp.refl _ _).drew.setCell (fun _ => by simp) _).setCell (fun _ => by simp) _
  have hfin : SlowPost w a n (.returned (.tuple #[])) ((w2.drew.setCell ⟨a, 1, none⟩ (.int .u32 1)).setCell ⟨a, 2, none⟩ (.int .i32 0)) :=
    made_end hc4 ho2 hd2 ⟨_, hc2⟩ (k1.trans k2 (fun y hy _ => hy)) k4 (fun g hg => by have := hg2 g hg; have := Hs1.out; omega)
  have Fin := hid hfin
  clear hfin
  refine leaves_cons (f := 33) (args := #[.pointer (some ⟨a, 1, none⟩), .bool true]) (by simp) (by simp [go_sem]) ?_
  refine (store_deferred ⟨a, 1, none⟩ _ .returning _ d1 g1).mono ?_
  rintro e u' w'' ⟨rfl, rfl, rfl⟩
  refine leaves_cons (f := 32) (args := #[.pointer (some ⟨a, 2, none⟩)]) (by simp [settle]) (by simp [go_sem]) ?_
  refine (unlock_deferred ⟨a, 2, none⟩ _ _ d2 g3).mono ?_
  rintro e u' w'' ⟨rfl, rfl, rfl⟩
  have hF := Fin.out
  simp [Leaves, settle, results, Try.results27]
  exact hF

theorem do_first (w : World) (a n pb : Nat) (hn : n ≤ 32) (hp : w.cell? ⟨pb, 0, none⟩ = some (.pointer (some ⟨a, 0, none⟩))) (hpa : pb ≠ a) (hc : Cells w a 56 (mcells n 0 0 (.slice none 0 0))) :
    Calls Try.prog 21 #[.pointer (some ⟨a, 1, none⟩), .func (.func 22) #[] #[.pointer (some ⟨pb, 0, none⟩)]] w (SlowPost w a n) := by
  have e1 := hc.cell 1
  simp only [mcells, List.getElem?_cons_zero, List.getElem?_cons_succ] at e1
  have hnot : ∀ (x : Bool) (w : World), (Op.unary .not (.bool x)).run Try.prog w = .ok (.bool (!x)) w := fun _ _ => rfl
  go_enter Try.func21, Try.ntmps21
  go_wp2_with fail
  refine (boolLoad w a 1 0 false rfl e1).mono ?_
  rintro e w' ⟨rfl, rfl⟩
  go_wp2_with fail
  refine (slow_any w a n pb hn hp hpa hc).mono ?_
  rintro e w' ⟨rfl, h⟩
  go_wp2_with fail
  go_end0
  exact ⟨rfl, h⟩
theorem do_done (w : World) (a : Nat) (fv : Value) (h0 : w.cell? ⟨a, 1, none⟩ = some (.int .u32 1)) :
    Calls Try.prog 21 #[.pointer (some ⟨a, 1, none⟩), fv] w fun e w' => e = .returned (.tuple #[]) ∧ w = w' := by
  have hnot : ∀ (x : Bool) (w : World), (Op.unary .not (.bool x)).run Try.prog w = .ok (.bool (!x)) w := fun _ _ => rfl
  go_enter Try.func21, Try.ntmps21
  go_wp2_with fail
  refine (boolLoad w a 1 1 true rfl h0).mono ?_
  rintro e w' ⟨rfl, rfl⟩
  go_wp2_with fail
  go_end0
  exact ⟨rfl, rfl⟩
/-- Made, the row of dials named. -/
def MMadeV (w : World) (a : Nat) (v : Value) (gs : List Nat) (ds : List Dl) : Prop := Cells w a 56 (mcells ds.length 1 0 v) ∧ Own w 63 v ds.length (gs.map ptr) ∧ Dials w gs ds
theorem MMadeV.at_ {w : World} {a : Nat} {v : Value} {gs : List Nat} {ds : List Dl} (h : MMadeV w a v gs ds) : MAt w a gs ds := .inl ⟨v, h⟩
def AllPost (w : World) (a : Nat) (gs : List Nat) (ds : List Dl) (e : Ending) (w' : World) : Prop :=
  ∃ A c gs', e = .returned (.slice A ds.length c) ∧ MMadeV w' a (.slice A ds.length c) gs' ds ∧ Kp [a] w w' ∧ ∀ g ∈ gs', g ∈ gs ∨ w.heap.size ≤ g
theorem all_any (w : World) (a : Nat) (gs : List Nat) (ds : List Dl) (h : MAt w a gs ds) (hn : ds.length ≤ 32) :
    Calls Try.prog 18 #[.pointer (some ⟨a, 0, none⟩)] w (AllPost w a gs ds) := by
  have hla := h.lt
  have hmf : ∀ (fn : Fn) (first cap : Array Value) (w : World), (Instr.makeFunc fn first cap).run Try.prog w = .ok (.func fn first cap) w := fun _ _ _ _ => rfl
  have k0 : Kp [] w (w.alloc (.cells #[.pointer (some ⟨a, 0, none⟩)] 24)) := (Kp.refl _ _).alloc _
  have p0 : (w.alloc (.cells #[.pointer (some ⟨a, 0, none⟩)] 24)).cell? ⟨w.heap.size, 0, none⟩ = some (.pointer (some ⟨a, 0, none⟩)) := by simp
  obtain ⟨n, hn0⟩ : ∃ n, n = ds.length := ⟨_, rfl⟩
  have Hn := hid hn0
  rw [← hn0] at hn
  rcases h with ⟨v, h1, h2, h3⟩ | ⟨h0, h1, h2⟩
  · rw [← hn0] at h1 h2
    clear hn0
    have c1 := (h1.keep k0 (by simp)).cell 1
    have c4 := (h1.keep k0 (by simp)).cell 4
    simp only [mcells, List.getElem?_cons_zero, List.getElem?_cons_succ] at c1 c4
    have ho := h2.kept k0
    obtain ⟨A, c, rfl, -, -, -, -⟩ := h2.shape
    have HF := hid (And.intro (h1.keep k0 (by simp)) (And.intro (h2.kept k0) (h3.keep k0 (by simp))))
    go_enter Try.func18, Try.ntmps18
    go_wp2_with fail
    refine (do_done _ a _ c1).mono ?_
    rintro e w' ⟨rfl, rfl⟩
    go_wp2_with fail
    go_ret
    exact ⟨A, c, gs, by rw [Hn.out]; rfl, by rw [MMadeV, ← Hn.out]; exact HF.out, k0.mono (by simp), fun g hg => .inl hg⟩
  · rw [← hn0] at h1 h2
    clear hn0
    have Hd := hid h1
    clear h1
    have k9 := h2.keep k0 (by simp)
    have hne : w.heap.size ≠ a := Nat.ne_of_gt hla
    go_enter Try.func18, Try.ntmps18
    go_wp2_with fail
    refine (do_first _ a n w.heap.size hn p0 hne k9).mono ?_
    rintro e w' ⟨rfl, gs', ⟨v, g1, g2, g3⟩, k1, g4⟩
    rw [List.length_replicate] at g1 g2
    have p1 := k1.cell p0 (by simpa using hne)
    have c4 := g1.cell 4
    simp only [mcells, List.getElem?_cons_zero, List.getElem?_cons_succ] at c4
    obtain ⟨A, c, rfl, -, -, -, -⟩ := g2.shape
    have HF := hid (And.intro g1 (And.intro g2 g3))
    go_wp2_with fail
    go_ret
    refine ⟨A, c, gs', by rw [Hn.out]; rfl, ?_, (k0.mono (by simp)).trans k1 (fun y hy _ => hy), fun g hg => .inr ?_⟩
    · rw [MMadeV, ← Hn.out, Hd.out]
      exact HF.out
    · have := g4 g hg
      simp only [World.size_alloc] at this
      omega
end Go.Proofs.Ytgoojndpondkmaa
