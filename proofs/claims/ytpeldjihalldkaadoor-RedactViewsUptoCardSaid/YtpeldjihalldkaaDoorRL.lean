/- The document's reader of texts at the example: its value; One. -/
import Derived.Test.YtpeldjihalldkaaDoorTRead8
import Derived.Test.YtpeldjihalldkaaDoorRF
namespace Go.Proofs.YtpeldjihalldkaaDoor
open Go Go.RowKit Go.Lib

theorem VRoom.nine {g : Nat} {w : World} (h : VRoom g w) (a0 a1 a2 a3 a4 a5 a6 a7 a8 : Value) : Cells (Go.Proofs.YtpeldjihalldkaaDoor.nine w g a0 a1 a2 a3 a4 a5 a6 a7 a8) g 31 [a0, a1, a2, a3, a4, a5, a6, a7, a8] := by
  obtain ⟨cs, h1, h2⟩ := h
  match cs, h2 with
  | [b0, b1, b2, b3, b4, b5, b6, b7, b8], _ => exact h1.nine _ _ _ _ _ _ _ _ _
/-- What is told of the example's value. -/
structure ExAt (w w' : World) (Ak : Option Addr) (nk ck : Nat) (Ab : Option Addr) (nb cb G cG : Nat) : Prop where
  ok : Own w' 9 (.slice Ak nk ck) 2 (tstrs [[97], [98]])
  ob : OwnN w' 31 9 (.slice Ab nb cb) 2 (oneC 49 ++ [.int .i64 6, .int .u64 0, .bool false, .string ⟨#[]⟩, .int .i64 0, .string ⟨#[]⟩, .slice none 0 0, .slice (some ⟨G, 0, none⟩) 1 cG, .int .i64 0])
  og : OwnN w' 31 9 (.slice (some ⟨G, 0, none⟩) 1 cG) 1 (oneC 50)
  newk : ∀ g, (Value.slice Ak nk ck).ownBlock = some g → w.heap.size ≤ g
  newb : ∀ g, (Value.slice Ab nb cb).ownBlock = some g → w.heap.size ≤ g
  newg : w.heap.size ≤ G
  dis : (Value.slice Ab nb cb).ownBlock ≠ some G
theorem ExAt.keep {w0 w w' w2 : World} {Ak Ab : Option Addr} {nk ck nb cb G cG : Nat} {S : List Nat} (h : ExAt w w' Ak nk ck Ab nb cb G cG) (k : Kp S w' w2) (hS : ∀ x ∈ S, x < w.heap.size) (h0 : w0.heap.size ≤ w.heap.size) : ExAt w0 w2 Ak nk ck Ab nb cb G cG :=
  ⟨Own.keep h.ok k (fun g hg hm => by have := h.newk g hg; have := hS g hm; omega), h.ob.keep k (fun g hg hm => by have := h.newb g hg; have := hS g hm; omega), h.og.keep k (fun g hg hm => by injection hg with hg; subst hg; have h9 : G < w.heap.size := hS _ hm; have := h.newg; omega),
   fun g hg => Nat.le_trans h0 (h.newk g hg), fun g hg => Nat.le_trans h0 (h.newb g hg), Nat.le_trans h0 h.newg, h.dis⟩
set_option maxRecDepth 100000 in
set_option maxHeartbeats 6400000 in
theorem value_obj (w : World) (R n : Nat) (hR : Rd w R exS 0 n) (hn : n ≤ 10) :
    Calls Tryd.prog 62 #[.pointer (some ⟨R, 0, none⟩), .int .i64 1] w fun e w' => ∃ Ak nk ck Ab nb cb G cG, e = .returned (.agg #[.int .i64 7, .int .u64 0, .bool false, .string ⟨#[]⟩, .int .i64 0, .string ⟨#[]⟩, .slice Ak nk ck, .slice Ab nb cb, .int .i64 0]) ∧
      Rd w' R exS 15 (n + 1 + 1 + 2) ∧ ExAt w w' Ak nk ck Ab nb cb G cG ∧ Kp [R] w w' := by
  have q1 := fun W (h : Rd W R exS 0 n) => blanks_at W R exS 0 n 123 h (exB 0 123 (by decide) rfl) (by decide)
  obtain ⟨N, hN⟩ : ∃ N, N = n + 1 := ⟨_, rfl⟩
  have q2 := fun W (h : Rd W R exS 0 N) => next_at W R exS 0 N 123 h (exB 0 123 (by decide) rfl)
  have q3 := fun W (h : Rd W R exS 0 N) => kids_obj W R N h (by omega)
  simp only [Int.cast_ofNat_Int] at q2
  have hsum : IntKind.i64.wrap ((n : Int) + 1) = (N : Int) := by rw [show (n : Int) + 1 = (N : Int) by omega]; exact IntWalk.i64_in _ (by omega)
  have z40 : decide ((400 : Int) < (N : Int)) = false := decide_eq_false (by omega)
  have z40n : decide (400 < N) = false := decide_eq_false (by omega)
  rw [← hN]
  obtain ⟨w1, hw1⟩ : ∃ w1, w1 = w.alloc (.cells #[.int .i64 0, .int .u64 0, .bool false, .string ⟨#[]⟩, .int .i64 0, .string ⟨#[]⟩, .slice none 0 0, .slice none 0 0, .int .i64 0] 31) := ⟨_, rfl⟩
  have hroom : VRoom w.heap.size w1 := by rw [hw1]; exact VRoom.fresh w _ _ _ _ _ _ _ _ _
  have hka : Kp [] w w1 := by rw [hw1]; exact (Kp.refl _ _).alloc _
  have hsz : w1.heap.size = w.heap.size + 1 := by rw [hw1]; simp
  have hR1 := hR.kept hka
  have hlt := hR.lt
  have HW := hid hw1
  have HK := hid (And.intro hroom (And.intro hka (And.intro hR1 hsz)))
  clear hR hroom hka hR1 hn hN hsz
  go_enter Tryd.func62, Tryd.ntmps62
  go_wp2_with fail
  rw [← HW.out]
  (with_reducible refine (q1 _ HK.out.2.2.1).mono ?_)
  rintro e w2 ⟨⟨v, rfl⟩, k2⟩
  have hR2 := HK.out.2.2.1.kept k2
  obtain ⟨c0, c1, c2, c3, c4, c5⟩ := hR2.cells
  obtain ⟨f1, f2, f4, f5⟩ := hR2.frees
  have HR2 := hid (And.intro hR2 k2)
  clear q1 hR2 k2
  go_wp2_with fail
  (with_reducible refine (q2 _ (HR2.out.1.three N)).mono ?_)
  rintro e w3 ⟨rfl, k3⟩
  have hR3 := (HR2.out.1.three N).kept k3
  have hk3 : Kp [R] w1 w3 := (kp_three (HR2.out.2.mono (T := [R]) (by simp)) R (by simp) _ _ _).nil k3
  have HR3 := hid (And.intro hR3 hk3)
  clear q2 c0 c1 c2 c3 c4 c5 f1 f2 f4 f5 hR3 hk3 k3
  go_wp2_with fail
  (with_reducible refine (q3 _ HR3.out.1).mono ?_)
  rintro e w4 ⟨vk, vb, G, cG, rfl, hR4, hok, hob, hog, hnk, hnb, hng, hdis, k4⟩
  obtain ⟨Ak, ck, rfl, -, -, -, -⟩ := OwnN.shape (s := 1) hok
  obtain ⟨Ab, cb, rfl, -, -, -, -⟩ := hob.shape
  have hx : ExAt w3 w4 Ak 2 ck Ab 2 cb G cG := ⟨hok, hob, hog, hnk, hnb, hng, hdis⟩
  have hk4 : Kp [R] w1 w4 := HR3.out.2.trans k4 (fun x hx _ => hx)
  have hroom := HK.out.1.keep hk4 (by simp; omega)
  have hw13 := HR3.out.2.size
  obtain ⟨a0, a1, a2, a3, a4, a5, a6, a7, a8, ⟨r0, r1, r2, r3, r4, r5, r6, r7, r8⟩, ⟨g0, g1, g2, g3, g4, g5, g6, g7, g8⟩⟩ := hroom.cells
  have HE := hid (And.intro hk4 (And.intro hR4 (And.intro hx hw13)))
  clear q3 hk4 hroom hR4 k4 hok hob hog hnk hnb hng hdis hx hw13
  go_wp2_with fail
  refine bodyPost_ret (v := .agg #[.int .i64 7, .int .u64 0, .bool false, .string ⟨#[]⟩, .int .i64 0, .string ⟨#[]⟩, .slice Ak 2 ck, .slice Ab 2 cb, .int .i64 0])
    (by simp [results, Tryd.results62, go_sem, r0, r1, r2, r3, r4, r5, r6, r7, r8]) rfl ⟨_, _, _, _, _, _, G, cG, rfl, ?_, ?_, ?_⟩
  · exact HE.out.2.1.keep (kp_nine (Kp.refl [w.heap.size] _) _ (.inr (by simp)) _ _ _ _ _ _ _ _ _) (by simp; omega)
  · exact HE.out.2.2.1.keep (kp_nine (Kp.refl [w.heap.size] _) _ (.inr (by simp)) _ _ _ _ _ _ _ _ _) (by have := HE.out.2.2.2; have := HK.out.2.2.2; simp; omega) (by have := HE.out.2.2.2; have := HK.out.2.2.2; omega)
  · have hk : Kp [R] w w4 := (HK.out.2.1.mono (T := [R]) (by simp)).trans HE.out.1 (fun x hx _ => hx)
    exact kp_nine hk _ (.inl (Nat.le_refl _)) _ _ _ _ _ _ _ _ _
set_option maxRecDepth 100000 in
set_option maxHeartbeats 6400000 in
theorem one_ex (w : World) : Calls Tryd.prog 34 #[.string exS] w fun e w' => ∃ Ak nk ck Ab nb cb G cG, e = .returned (.tuple #[.agg #[.int .i64 7, .int .u64 0, .bool false, .string ⟨#[]⟩, .int .i64 0, .string ⟨#[]⟩, .slice Ak nk ck, .slice Ab nb cb, .int .i64 0], .int .i64 15, .int .i64 0]) ∧
      ExAt w w' Ak nk ck Ab nb cb G cG ∧ Kp [] w w' := by
  have q := fun W (h : Rd W (w.heap.size + 1) exS 0 0) => value_obj W (w.heap.size + 1) 0 h (by decide)
  obtain ⟨s, hs⟩ : ∃ s, s = exS := ⟨_, rfl⟩
  have hw1 : Rd ((w.alloc (.cells #[.int .i64 0, .int .u64 0, .bool false, .string ⟨#[]⟩, .int .i64 0, .string ⟨#[]⟩, .slice none 0 0, .slice none 0 0, .int .i64 0] 31)).alloc (.cells #[.string exS, .int .i64 0, .int .i64 0, .bool false, .bool false, .bool false] 96)) (w.heap.size + 1) exS 0 0 := Cells.fresh1 w _ 96 _
  have hroom : VRoom w.heap.size ((w.alloc (.cells #[.int .i64 0, .int .u64 0, .bool false, .string ⟨#[]⟩, .int .i64 0, .string ⟨#[]⟩, .slice none 0 0, .slice none 0 0, .int .i64 0] 31)).alloc (.cells #[.string exS, .int .i64 0, .int .i64 0, .bool false, .bool false, .bool false] 96)) := (VRoom.fresh w _ _ _ _ _ _ _ _ _).kept ((Kp.refl _ _).alloc _)
  have hka : Kp [] w ((w.alloc (.cells #[.int .i64 0, .int .u64 0, .bool false, .string ⟨#[]⟩, .int .i64 0, .string ⟨#[]⟩, .slice none 0 0, .slice none 0 0, .int .i64 0] 31)).alloc (.cells #[.string exS, .int .i64 0, .int .i64 0, .bool false, .bool false, .bool false] 96)) := ((Kp.refl _ _).alloc _).alloc _
  rw [← hs] at hw1 hroom hka q ⊢
  have HK := hid (And.intro hw1 (And.intro hroom hka))
  clear hw1 hroom hka hs
  go_enter Tryd.func34, Tryd.ntmps34
  go_wp2_with fail
  (with_reducible refine (q _ HK.out.1).mono ?_)
  rintro e w6 ⟨Ak, nk, ck, Ab, nb, cb, G, cG, rfl, hR6, hx6, k6⟩
  have hroom6 := HK.out.2.1.keep k6 (by simp)
  have hk6 : Kp [] w w6 := HK.out.2.2.fresh k6 (Nat.le_succ _)
  obtain ⟨wX, hx, hsX⟩ : ∃ wX : World, ExAt wX w6 Ak nk ck Ab nb cb G cG ∧ wX.heap.size = w.heap.size + 2 := ⟨_, hx6, by simp⟩
  obtain ⟨w7, hw7⟩ : ∃ w7, w7 = w6.alloc (.cells #[.int .i64 7, .int .u64 0, .bool false, .string ⟨#[]⟩, .int .i64 0, .string ⟨#[]⟩, .slice Ak nk ck, .slice Ab nb cb, .int .i64 0] 31) := ⟨_, rfl⟩
  have hk67 : Kp [] w6 w7 := by rw [hw7]; exact (Kp.refl _ _).alloc _
  have hc7 : Cells w7 w6.heap.size 31 [.int .i64 7, .int .u64 0, .bool false, .string ⟨#[]⟩, .int .i64 0, .string ⟨#[]⟩, .slice Ak nk ck, .slice Ab nb cb, .int .i64 0] := by rw [hw7]; exact Cells.fresh w6 31 _
  have hR7 := hR6.kept hk67
  have x0 := hc7.cell 0
  have x1 := hc7.cell 1
  have x2 := hc7.cell 2
  have x3 := hc7.cell 3
  have x4 := hc7.cell 4
  have x5 := hc7.cell 5
  have x6 := hc7.cell 6
  have x7 := hc7.cell 7
  have x8 := hc7.cell 8
  obtain ⟨cc0, cc1, cc2, cc3, cc4, cc5⟩ := hR7.cells
  have y3 := hR6.cells.2.2.2.1
  have y4 := hR6.cells.2.2.2.2.1
  have y5 := hR6.cells.2.2.2.2.2
  have yy3 := fun o => ((Kp.refl [] w6).alloc o).cell y3 (by simp)
  have yy4 := fun o => ((Kp.refl [] w6).alloc o).cell y4 (by simp)
  have yy5 := fun o => ((Kp.refl [] w6).alloc o).cell y5 (by simp)
  have hlt6 : w.heap.size + 1 < w6.heap.size := hR6.lt
  have HK2 := hid (And.intro (hroom6.kept hk67) (And.intro (hk6.nil hk67) (And.intro (hx.keep (w0 := wX) hk67 (by simp) (Nat.le_refl _)) hsX)))
  have HW7 := hid hw7
  have hcc1 := cc1
  simp only [Int.cast_ofNat_Int] at cc1
  clear q hroom6 hk6 hx hx6 hk67 hc7 hR7 hR6 k6 hw7 cc0 cc2 cc3 cc4 cc5 y3 y4 y5 hcc1
  go_wp2_with fail
  rw [← HW7.out]
  clear yy3 yy4 yy5
  refine lin_start (fun W => Kp [w.heap.size] w7 W) (Stays.kp _ _) (by kernel_rfl) (Kp.refl _ _).drew (fun hSS hS => ?_)
  refine lin_val (i := 0) (v := ?_) rfl (by kernel_rfl) (by kernel_rfl) (by kernel_rfl) (fun _ _ _ h => h) hSS hS rfl (fun W hSw => ?_) ?_
  rotate_left
  · have t0 := hSw.cell x0 (by simp; omega); have t1 := hSw.cell x1 (by simp; omega); have t2 := hSw.cell x2 (by simp; omega); have t3 := hSw.cell x3 (by simp; omega); have t4 := hSw.cell x4 (by simp; omega); have t5 := hSw.cell x5 (by simp; omega); have t6 := hSw.cell x6 (by simp; omega); have t7 := hSw.cell x7 (by simp; omega); have t8 := hSw.cell x8 (by simp; omega); go_simp; first | done | with_reducible rfl
  try simp only [Act.put, List.setIfInBounds_toArray, List.set_cons_zero, List.set_cons_succ]
  refine lin_val (i := 1) (v := ?_) rfl (by kernel_rfl) (by kernel_rfl) (by kernel_rfl) (fun _ _ _ h => h) hSS hS rfl (fun W hSw => ?_) ?_
  rotate_left
  · go_simp; first | done | with_reducible rfl
  try simp only [Act.put, List.setIfInBounds_toArray, List.set_cons_zero, List.set_cons_succ]
  refine lin_val (i := 2) (v := ?_) rfl (by kernel_rfl) (by kernel_rfl) (by kernel_rfl) (fun _ _ _ h => h) hSS hS rfl (fun W hSw => ?_) ?_
  rotate_left
  · go_simp; first | done | with_reducible rfl
  try simp only [Act.put, List.setIfInBounds_toArray, List.set_cons_zero, List.set_cons_succ]
  refine lin_val (i := 3) (v := ?_) rfl (by kernel_rfl) (by kernel_rfl) (by kernel_rfl) (fun _ _ _ h => h) hSS hS rfl (fun W hSw => ?_) ?_
  rotate_left
  · go_simp; first | done | with_reducible rfl
  try simp only [Act.put, List.setIfInBounds_toArray, List.set_cons_zero, List.set_cons_succ]
  refine lin_val (i := 4) (v := ?_) rfl (by kernel_rfl) (by kernel_rfl) (by kernel_rfl) (fun _ _ _ h => h) hSS hS rfl (fun W hSw => ?_) ?_
  rotate_left
  · have tc := hSw.cell cc1 (by simp); go_simp; first | done | with_reducible rfl
  try simp only [Act.put, List.setIfInBounds_toArray, List.set_cons_zero, List.set_cons_succ]
  refine lin_list (i := 5) (by kernel_rfl) rfl (fun w8 k8 Q2 hQ => ?_)
  have hroom := (HK2.out.1.kept (Kp.refl _ _).drew).kept k8
  obtain ⟨a0, a1, a2, a3, a4, a5, a6, a7, a8, ⟨r0, r1, r2, r3, r4, r5, r6, r7, r8⟩, ⟨g0, g1, g2, g3, g4, g5, g6, g7, g8⟩⟩ := hroom.cells
  go_wp2_with fail
  have hk9 : Kp [w.heap.size] w7 (nine w8 w.heap.size (.int .i64 7) (.int .u64 0) (.bool false) (.string ⟨#[]⟩) (.int .i64 0) (.string ⟨#[]⟩) (.slice Ak nk ck) (.slice Ab nb cb) (.int .i64 0)) := kp_nine ((Kp.refl _ _).drew.nil k8) _ (.inr (by simp)) _ _ _ _ _ _ _ _ _
  have hc9 := hroom.nine (.int .i64 7) (.int .u64 0) (.bool false) (.string ⟨#[]⟩) (.int .i64 0) (.string ⟨#[]⟩) (.slice Ak nk ck) (.slice Ab nb cb) (.int .i64 0)
  refine hQ.out _ _ hk9 (fun hS9 => ?_)
  clear hQ hS r0 r1 r2 r3 r4 r5 r6 r7 r8 g0 g1 g2 g3 g4 g5 g6 g7 g8 hroom
  try simp only [Act.put, List.setIfInBounds_toArray, List.set_cons_zero, List.set_cons_succ]
  refine lin_val (i := 6) (v := ?_) rfl (by kernel_rfl) (by kernel_rfl) (by kernel_rfl) (fun _ _ _ h => h) hSS hS9 rfl (fun W hSw => ?_) ?_
  rotate_left
  · go_simp; first | done | with_reducible rfl
  try simp only [Act.put, List.setIfInBounds_toArray, List.set_cons_zero, List.set_cons_succ]
  refine lin_val (i := 7) (v := ?_) rfl (by kernel_rfl) (by kernel_rfl) (by kernel_rfl) (fun _ _ _ h => h) hSS hS9 rfl (fun W hSw => ?_) ?_
  rotate_left
  · go_simp; first | done | with_reducible rfl
  try simp only [Act.put, List.setIfInBounds_toArray, List.set_cons_zero, List.set_cons_succ]
  refine lin_done (by kernel_rfl) (fun wE kE => ?_) _
  have hE := hS9.nil kE
  have hcE := hc9.keep kE (by simp)
  clear hS9 hSS hk9 hc9
  have e0 := hcE.cell 0
  have e1 := hcE.cell 1
  have e2 := hcE.cell 2
  have e3 := hcE.cell 3
  have e4 := hcE.cell 4
  have e5 := hcE.cell 5
  have e6 := hcE.cell 6
  have e7 := hcE.cell 7
  have e8 := hcE.cell 8
  have HE := hid hE
  clear hE hcE x0 x1 x2 x3 x4 x5 x6 x7 x8 cc1
  go_wp2_with fail
  refine bodyPost_ret (v := .tuple #[.agg #[.int .i64 7, .int .u64 0, .bool false, .string ⟨#[]⟩, .int .i64 0, .string ⟨#[]⟩, .slice Ak nk ck, .slice Ab nb cb, .int .i64 0], .int .i64 15, .int .i64 0])
    (by simp [results, Tryd.results34, go_sem, e0, e1, e2, e3, e4, e5, e6, e7, e8]) rfl ⟨_, _, _, _, _, _, G, cG, rfl, ?_, ?_⟩
  · exact HK2.out.2.2.1.keep HE.out (by have := HK2.out.2.2.2; simp; omega) (by have := HK2.out.2.2.2; omega)
  · exact HK2.out.2.1.fresh HE.out (Nat.le_refl _)
end Go.Proofs.YtpeldjihalldkaaDoor

/- Layer 9: the document's example. -/
namespace Go.Proofs.YtpeldjihalldkaaDoor
open Go Go.RowKit Go.Lib

theorem OwnN.block {w : World} {e : TypeId} {s n : Nat} {v : Value} {xs : List Value} (h : OwnN w e s v n xs) (h0 : xs ≠ []) : ∃ g c cur, v = .slice (some ⟨g, 0, none⟩) n c ∧ n ≤ c ∧ c ≤ 9223372036854775807 ∧ Cells w g e cur ∧ cur.take (n * s) = xs := by
  obtain ⟨h1, h2⟩ := h
  rcases h2 with ⟨rfl, rfl⟩ | ⟨g, cap, cur, rfl, _, hg, hn, hm, hs, ht⟩
  · exact absurd (List.eq_nil_of_length_eq_zero (by simpa using h1)) h0
  · exact ⟨g, cap, cur.toList, rfl, hn, by simpa [maxLen] using hm, by unfold Cells; rw [hg], ht⟩
theorem at_take {cur xs : List Value} {m : Nat} (h : cur.take m = xs) {j : Nat} {u : Value} (hj : xs[j]? = some u) : cur[j]? = some u := by
  rw [← h, List.getElem?_take] at hj
  split at hj
  · exact hj
  · cases hj
def ex1 : Vl := .mk 4 0 (some ⟨false, 1, 0⟩) [] [] [] 0
def ex2 : Vl := .mk 4 0 (some ⟨false, 2, 0⟩) [] [] [] 0
def exV : Vl := .mk 7 0 none [] [[97], [98]] [ex1, .mk 6 1 none [] [] [ex2] 0] 0
theorem num_fine (n : Nat) (h : n = 1 ∨ n = 2) : FineV (.mk 4 0 (some ⟨false, n, 0⟩) [] [] [] 0) :=
  one_fine 4 0 (some ⟨false, n, 0⟩) [] 0 (by decide) (by decide) (by decide) (fun _ => ⟨_, rfl, by rcases h with rfl | rfl <;> exact ⟨by decide, by decide, (fun h => by cases h), .inl rfl⟩⟩) (fun h => absurd rfl h) ⟨by decide, rfl⟩ (fun _ => rfl) (by decide) (fun _ => rfl) (fun h => by cases h)
theorem ex_fine : FineV exV := by
  refine .mk 7 0 none [] [[97], [98]] _ 0 (by decide) (by decide) (fun h => by cases h) (fun _ => rfl) ⟨by decide, rfl⟩ (fun _ => rfl) (fun _ => rfl) (fun h => absurd rfl h) ?_ (by decide) (fun _ h => absurd rfl h) (by decide) (fun _ => rfl) (fun h => by cases h) (by decide) ?_
  · intro x hx
    simp only [List.mem_cons, List.not_mem_nil, or_false] at hx
    rcases hx with rfl | rfl
    · exact ⟨by decide, by decide +kernel⟩
    · exact ⟨by decide, by decide +kernel⟩
  · intro i v hv
    match i, hv with
    | 0, hv =>
      injection hv with hv
      subst hv
      exact num_fine 1 (.inl rfl)
    | 1, hv =>
      injection hv with hv
      subst hv
      refine .mk 6 1 none [] [] [ex2] 0 (by decide) (by decide) (fun h => by cases h) (fun _ => rfl) ⟨by decide, rfl⟩ (fun _ => rfl) (fun h => by cases h) (fun _ => rfl) (fun _ h => by cases h) List.nodup_nil (fun h => absurd rfl h) (by decide) (fun _ => rfl) (fun h => by cases h) (by decide) ?_
      intro i v hv
      match i, hv with
      | 0, hv =>
        injection hv with hv
        subst hv
        exact num_fine 2 (.inr rfl)
theorem ex_txt1 : dtxt 1 = [49] := by kernel_rfl
theorem ex_txt2 : dtxt 2 = [50] := by kernel_rfl
theorem one_rep_ex (w : World) (n : Nat) (c : UInt8) (h : dtxt n = [c]) : Rep w (.mk 4 0 (some ⟨false, n, 0⟩) [] [] [] 0) (oneC c) := by
  have r := (one_rep w (fun _ => True) 4 0 (some ⟨false, n, 0⟩) [] 0).rep
  have e : vC (4 : Nat) (0 : Nat) (vN (some ⟨false, n, 0⟩)) (vD (some ⟨false, n, 0⟩)) (vS (some ⟨false, n, 0⟩)) [] none 0 0 none 0 0 (0 : Nat) = oneC c := by
    unfold vC vD vN vS
    dsimp only
    rw [h]
    rfl
  rw [e] at r
  exact r
abbrev exX (G cG m : Nat) : List Value := oneC 49 ++ [.int .i64 6, .int .u64 (m : Int), .bool false, .string ⟨#[]⟩, .int .i64 0, .string ⟨#[]⟩, .slice none 0 0, .slice (some ⟨G, 0, none⟩) 1 cG, .int .i64 0]
theorem ex_rep {w : World} {Ak : Option Addr} {ck g cb G cG : Nat} {cur : List Value} (hA : KeysAt w Ak ck [[97], [98]]) (hcb : 2 ≤ cb) (hcb9 : cb ≤ 9223372036854775807) (hcur : Cells w g 31 cur) (htk : cur.take 18 = exX G cG 1)
    (hG : OwnN w 31 9 (.slice (some ⟨G, 0, none⟩) 1 cG) 1 (oneC 50)) : Rep w exV [.int .i64 7, .int .u64 0, .bool false, .string ⟨#[]⟩, .int .i64 0, .string ⟨#[]⟩, .slice Ak 2 ck, .slice (some ⟨g, 0, none⟩) 2 cb, .int .i64 0] := by
  obtain ⟨G', cG', cur2, eG, hcG, hcG9, hcur2, htk2⟩ := hG.block (by simp)
  injection eG with e1 e2 e3
  injection e1 with e1
  injection e1 with e1
  subst e1 e3
  have r2 : Rep w (.mk 6 1 none [] [] [ex2] 0) [.int .i64 6, .int .u64 1, .bool false, .string ⟨#[]⟩, .int .i64 0, .string ⟨#[]⟩, .slice none 0 0, .slice (some ⟨G, 0, none⟩) 1 cG, .int .i64 0] := by
    refine .mk 6 1 none [] [] [ex2] 0 none 0 (some ⟨G, 0, none⟩) cG (fun _ => oneC 50) ⟨Nat.le_refl _, by decide, fun i x h => by cases h⟩ ⟨hcG, hcG9, fun i hi => ⟨G, rfl, fun j u hj => ?_⟩⟩ (fun i v hv => ?_)
    · have hi : i = 0 := by have : i < 1 := hi; omega
      subst hi
      rw [Nat.mul_zero, Nat.zero_add]
      exact (hcur2.cell j).trans (at_take htk2 hj)
    · match i, hv with
      | 0, hv =>
        injection hv with hv
        subst hv
        exact one_rep_ex w 2 50 ex_txt2
  refine .mk 7 0 none [] [[97], [98]] _ 0 Ak ck (some ⟨g, 0, none⟩) cb (fun i => ((exX G cG 1).drop (9 * i)).take 9) hA ⟨hcb, hcb9, fun i hi => ⟨g, rfl, fun j u hj => ?_⟩⟩ (fun i v hv => ?_)
  · refine (hcur.cell _).trans (at_take htk ?_)
    rw [List.getElem?_take] at hj
    split at hj
    · rwa [List.getElem?_drop] at hj
    · cases hj
  · match i, hv with
    | 0, hv =>
      injection hv with hv
      subst hv
      exact one_rep_ex w 1 49 ex_txt1
    | 1, hv =>
      injection hv with hv
      subst hv
      exact r2
set_option maxRecDepth 100000 in
set_option maxHeartbeats 6400000 in
theorem shown9_any (w : World) : Calls Tryd.prog 11 #[] w fun e w' => e = .returned (.bool true) ∧ Kp [] w w' := by
  have q := one_ex w
  unfold exS at q
  go_enter Tryd.func11, Tryd.ntmps11
  go_wp2_with fail
  (with_reducible refine q.mono ?_)
  rintro e w1 ⟨Ak, nk, ck, Ab, nb, cb, G, cG, rfl, hx, k1⟩
  obtain ⟨g, cb', cur, eb, hcb, hcb9, hcur, htk⟩ := hx.ob.block (by simp)
  injection eb with e1 e2 e3
  subst e1 e2 e3
  have hxx := hid hx
  have c10 := (hcur.cell 10).trans (at_take htk (j := 10) rfl)
  have f10 := hcur.free 10
  have hg := hcur.lt
  have hkw := hid k1
  have cc10 := fun o => ((Kp.refl [] w1).alloc o).cell c10 (by simp)
  have ff10 := fun o => Cells.free (hcur.alloc o) 10
  have kp10 : Kp [g] w1 (w1.setCell ⟨g, 10, none⟩ (.int .u64 1)) := kp_put (Kp.refl _ _) _ _ (.inr (by simp)) _
  have hok := Own.keep hx.ok kp10 (fun g2 hg2 hm => by rw [List.mem_singleton.1 hm] at hg2; exact Own.ne_cells hx.ok hcur (by decide) hg2)
  obtain ⟨A', c', eA, hA⟩ := KeysAt.of (ks := [[97], [98]]) hok
  injection eA with e1 e2 e3
  subst e1 e2 e3
  have hog := hx.og.keep kp10 (fun g2 hg2 hm => by injection hg2 with hg2; subst hg2; have h9 : G = g := List.mem_singleton.1 hm; subst h9; exact hx.dis rfl)
  have hrep := ex_rep hA hcb hcb9 (hcur.put 10 (.int .u64 1)) (by rw [List.take_set, show (18 : Nat) = 2 * 9 by rfl, htk]; rfl) hog
  have v0 := fun W k => view_any hrep ex_fine (by decide) W k 0 (by decide)
  have v1 := fun W k => view_any hrep ex_fine (by decide) W k 1 (by decide)
  have e0 : showL 0 [35] exV = [123, 34, 97, 34, 58, 49, 44, 34, 98, 34, 58, 35, 125] := by kernel_rfl
  have e1 : showL 1 [35] exV = [123, 34, 97, 34, 58, 49, 44, 34, 98, 34, 58, 91, 50, 93, 125] := by kernel_rfl
  rw [e0] at v0
  rw [e1] at v1
  simp only [Int.cast_ofNat_Int] at v0 v1
  have hkk : Kp [] w (w1.setCell ⟨g, 10, none⟩ (.int .u64 1)) := k1.fresh kp10 (hx.newb g rfl)
  have HKK := hid hkk
  clear q hx k1 hkk hrep e0 e1 hog hA hok kp10 htk hcur hcb hcb9
  go_wp2_with fail
  (with_reducible refine (v0 _ ((Kp.refl _ _).alloc _)).mono ?_)
  rintro e w3 ⟨rfl, k3⟩
  have HK3 := hid ((Kp.refl [] (w1.setCell ⟨g, 10, none⟩ (.int .u64 1))).alloc (.cells #[.int .i64 7, .int .u64 0, .bool false, .string ⟨#[]⟩, .int .i64 0, .string ⟨#[]⟩, .slice Ak 2 ck, .slice (some ⟨g, 0, none⟩) 2 cb, .int .i64 0] 31) |>.nil k3)
  have hc3 := (Cells.fresh (w1.setCell ⟨g, 10, none⟩ (.int .u64 1)) 31 [.int .i64 7, .int .u64 0, .bool false, .string ⟨#[]⟩, .int .i64 0, .string ⟨#[]⟩, .slice Ak 2 ck, .slice (some ⟨g, 0, none⟩) 2 cb, .int .i64 0]).keep k3 (by simp)
  rw [show (w1.setCell ⟨g, 10, none⟩ (.int .u64 1)).heap.size = w1.heap.size by simp [World.setCell]] at hc3
  have x0 := hc3.cell 0
  have x1 := hc3.cell 1
  have x2 := hc3.cell 2
  have x3 := hc3.cell 3
  have x4 := hc3.cell 4
  have x5 := hc3.cell 5
  have x6 := hc3.cell 6
  have x7 := hc3.cell 7
  have x8 := hc3.cell 8
  clear k3 hc3 v0
  go_wp2_with fail
  (with_reducible refine (v1 _ HK3.out).mono ?_)
  rintro e w4 ⟨rfl, k4⟩
  have HK4 := hid ((HKK.out.nil HK3.out).nil k4)
  clear k4 v1
  go_wp2_with fail
  go_ret
  exact ⟨rfl, HK4.out⟩
end Go.Proofs.YtpeldjihalldkaaDoor

