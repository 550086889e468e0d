/- The document's reader of texts at the example: the list's value; a member more. -/
import Derived.Test.YtpeldjihalldkaaDoorRJ
namespace Go.Proofs.YtpeldjihalldkaaDoor
open Go Go.RowKit Go.Lib

set_option maxRecDepth 100000 in
set_option maxHeartbeats 6400000 in
theorem value_list (w : World) (R n : Nat) (hR : Rd w R exS 11 n) (hn : n ≤ 40) :
    Calls Tryd.prog 62 #[.pointer (some ⟨R, 0, none⟩), .int .i64 2] w fun e w' => ∃ g c, e = .returned (.agg #[.int .i64 6, .int .u64 0, .bool false, .string ⟨#[]⟩, .int .i64 0, .string ⟨#[]⟩, .slice none 0 0, .slice (some ⟨g, 0, none⟩) 1 c, .int .i64 0]) ∧
      Rd w' R exS 14 (n + 2) ∧ OwnN w' 31 9 (.slice (some ⟨g, 0, none⟩) 1 c) 1 (oneC 50) ∧ w.heap.size ≤ g ∧ Kp [R] w w' := by
  have q1 := fun W (h : Rd W R exS 11 n) => blanks_at W R exS 11 n 91 h (exB 11 91 (by decide) rfl) (by decide)
  obtain ⟨N, hN⟩ : ∃ N, N = n + 1 := ⟨_, rfl⟩
  have q2 := fun W (h : Rd W R exS 11 N) => next_at W R exS 11 N 91 h (exB 11 91 (by decide) rfl)
  have q3 := fun W (h : Rd W R exS 11 N) => kids_list W R N h (by omega)
  simp only [Int.cast_ofNat_Int] at q2
  have hsum : IntKind.i64.wrap ((n : Int) + 1) = (N : Int) := by rw [show (n : Int) + 1 = (N : Int) by omega]; exact IntWalk.i64_in _ (by omega)
  have z40 : decide ((400 : Int) < (N : Int)) = false := decide_eq_false (by omega)
  have z40n : decide (400 < N) = false := decide_eq_false (by omega)
  rw [show n + 2 = N + 1 by omega]
  obtain ⟨w1, hw1⟩ : ∃ w1, w1 = w.alloc (.cells #[.int .i64 0, .int .u64 0, .bool false, .string ⟨#[]⟩, .int .i64 0, .string ⟨#[]⟩, .slice none 0 0, .slice none 0 0, .int .i64 0] 31) := ⟨_, rfl⟩
  have hroom : VRoom w.heap.size w1 := by rw [hw1]; exact VRoom.fresh w _ _ _ _ _ _ _ _ _
  have hka : Kp [] w w1 := by rw [hw1]; exact (Kp.refl _ _).alloc _
  have hsz : w1.heap.size = w.heap.size + 1 := by rw [hw1]; simp
  have hR1 := hR.kept hka
  have hlt := hR.lt
  have HW := hid hw1
  have HK := hid (And.intro hroom (And.intro hka (And.intro hR1 hsz)))
  clear hR hroom hka hR1 hn hN hsz
  go_enter Tryd.func62, Tryd.ntmps62
  go_wp2_with fail
  rw [← HW.out]
  (with_reducible refine (q1 _ HK.out.2.2.1).mono ?_)
  rintro e w2 ⟨⟨v, rfl⟩, k2⟩
  have hR2 := HK.out.2.2.1.kept k2
  obtain ⟨c0, c1, c2, c3, c4, c5⟩ := hR2.cells
  obtain ⟨f1, f2, f4, f5⟩ := hR2.frees
  have HR2 := hid (And.intro hR2 k2)
  clear q1 hR2 k2
  go_wp2_with fail
  (with_reducible refine (q2 _ (HR2.out.1.three N)).mono ?_)
  rintro e w3 ⟨rfl, k3⟩
  have hR3 := (HR2.out.1.three N).kept k3
  have hk3 : Kp [R] w1 w3 := (kp_three (HR2.out.2.mono (T := [R]) (by simp)) R (by simp) _ _ _).nil k3
  have HR3 := hid (And.intro hR3 hk3)
  clear q2 c0 c1 c2 c3 c4 c5 f1 f2 f4 f5 hR3 hk3 k3
  go_wp2_with fail
  (with_reducible refine (q3 _ HR3.out.1).mono ?_)
  rintro e w4 ⟨G, c, rfl, hR4, ho4, hG, k4⟩
  have hk4 : Kp [R] w1 w4 := HR3.out.2.trans k4 (fun x hx _ => hx)
  have hroom := HK.out.1.keep hk4 (by simp; omega)
  have hG2 : w.heap.size + 1 ≤ G := by have := HR3.out.2.size; have := HK.out.2.2.2; omega
  obtain ⟨a0, a1, a2, a3, a4, a5, a6, a7, a8, ⟨r0, r1, r2, r3, r4, r5, r6, r7, r8⟩, ⟨g0, g1, g2, g3, g4, g5, g6, g7, g8⟩⟩ := hroom.cells
  have HE := hid (And.intro hk4 (And.intro hR4 (And.intro ho4 hG2)))
  clear q3 hk4 hroom hR4 k4 ho4 hG hG2
  go_wp2_with fail
  refine bodyPost_ret (v := .agg #[.int .i64 6, .int .u64 0, .bool false, .string ⟨#[]⟩, .int .i64 0, .string ⟨#[]⟩, .slice none 0 0, .slice (some ⟨G, 0, none⟩) 1 c, .int .i64 0])
    (by simp [results, Tryd.results62, go_sem, r0, r1, r2, r3, r4, r5, r6, r7, r8]) rfl ⟨_, _, rfl, ?_, ?_, ?_, ?_⟩
  · exact HE.out.2.1.keep (kp_nine (Kp.refl [w.heap.size] _) _ (.inr (by simp)) _ _ _ _ _ _ _ _ _) (by simp; omega)
  · exact HE.out.2.2.1.keep (kp_nine (Kp.refl [w.heap.size] _) _ (.inr (by simp)) _ _ _ _ _ _ _ _ _) (by intro g hg; injection hg with hg; subst hg; have := HE.out.2.2.2; simp; omega)
  · have := HE.out.2.2.2
    omega
  · have hk : Kp [R] w w4 := (HK.out.2.1.mono (T := [R]) (by simp)).trans HE.out.1 (fun x hx _ => hx)
    exact kp_nine hk _ (.inl (Nat.le_refl _)) _ _ _ _ _ _ _ _ _
end Go.Proofs.YtpeldjihalldkaaDoor

/- The document's reader of texts: an object with a member more. -/
namespace Go.Proofs.YtpeldjihalldkaaDoor
open Go Go.RowKit Go.Lib

theorem VRoom.lt7 {g : Nat} {w : World} (h : VRoom g w) : g < w.heap.size := by
  obtain ⟨cs, h1, _⟩ := h
  exact h1.lt
theorem Span.of_new1c (w : World) (t : TypeId) (fr : Nat × Nat) (u : Value) {g : Nat} (hg : g = w.heap.size) : Span (w.alloc (.cells #[u] t fr)) (some ⟨g, 0, none⟩) [u] := Span.of_newAt w t fr [u] hg
abbrev objC (vk vb : Value) : List Value := [.int .i64 7, .int .u64 0, .bool false, .string ⟨#[]⟩, .int .i64 0, .string ⟨#[]⟩, vk, vb, .int .i64 0]
set_option maxRecDepth 100000 in
set_option maxHeartbeats 12800000 in
theorem put_new (w : World) (keys : List Txt) (Ak : Option Addr) (ck : Nat) (Ab : Option Addr) (n cb : Nat) (xs : List Value) (key : Txt) (a0 a1 a2 a3 a4 a5 a6 a7 a8 : Value)
    (hok : Own w 9 (.slice Ak keys.length ck) keys.length (tstrs keys)) (hob : OwnN w 31 9 (.slice Ab n cb) n xs) (hne : ∀ g, (Value.slice Ab n cb).ownBlock = some g → (Value.slice Ak keys.length ck).ownBlock ≠ some g)
    (hkey : key ∉ keys) (hl : keys.length ≤ 5) (hn : n ≤ 5) (h1 : ∀ u ∈ [a0, a1, a2, a3, a4, a5, a6, a7, a8], u.oneCell' = true) :
    Calls Tryd.prog 95 #[.agg #[.int .i64 7, .int .u64 0, .bool false, .string ⟨#[]⟩, .int .i64 0, .string ⟨#[]⟩, .slice Ak keys.length ck, .slice Ab n cb, .int .i64 0], .string ⟨key.toArray⟩, .agg #[a0, a1, a2, a3, a4, a5, a6, a7, a8]] w fun e w' =>
      ∃ vk vb, e = .returned (.agg #[.int .i64 7, .int .u64 0, .bool false, .string ⟨#[]⟩, .int .i64 0, .string ⟨#[]⟩, vk, vb, .int .i64 0]) ∧ Own w' 9 vk (keys.length + 1) (tstrs (keys ++ [key])) ∧ OwnN w' 31 9 vb (n + 1) (xs ++ [a0, a1, a2, a3, a4, a5, a6, a7, a8]) ∧
        (vk.ownBlock = (Value.slice Ak keys.length ck).ownBlock ∨ ∃ g, vk.ownBlock = some g ∧ w.heap.size ≤ g) ∧ (vb.ownBlock = (Value.slice Ab n cb).ownBlock ∨ ∃ g, vb.ownBlock = some g ∧ w.heap.size ≤ g) ∧ (∀ g, vb.ownBlock = some g → vk.ownBlock ≠ some g) ∧
        Kp ((Value.slice Ak keys.length ck).ownBlock.toList ++ (Value.slice Ab n cb).ownBlock.toList) w w' := by
  obtain ⟨K, hK⟩ : ∃ K, K = keys.length := ⟨_, rfl⟩
  rw [← hK] at hok hne hl ⊢
  obtain ⟨_, _, ek, hsk, hck, hck9, hAk⟩ := OwnN.shape (s := 1) hok
  injection ek with ek1 ek2 ek3
  subst ek1 ek3
  have hka : Kp [] w (((w.alloc (.cells #[.int .i64 7, .int .u64 0, .bool false, .string ⟨#[]⟩, .int .i64 0, .string ⟨#[]⟩, .slice Ak K ck, .slice Ab n cb, .int .i64 0] 31)).alloc (.cells #[a0, a1, a2, a3, a4, a5, a6, a7, a8] 31)).alloc (.cells #[.int .i64 0, .int .u64 0, .bool false, .string ⟨#[]⟩, .int .i64 0, .string ⟨#[]⟩, .slice none 0 0, .slice none 0 0, .int .i64 0] 31)) := (((Kp.refl _ _).alloc _).alloc _).alloc _
  obtain ⟨w1, hw1⟩ : ∃ w1, w1 = ((w.alloc (.cells #[.int .i64 7, .int .u64 0, .bool false, .string ⟨#[]⟩, .int .i64 0, .string ⟨#[]⟩, .slice Ak K ck, .slice Ab n cb, .int .i64 0] 31)).alloc (.cells #[a0, a1, a2, a3, a4, a5, a6, a7, a8] 31)).alloc (.cells #[.int .i64 0, .int .u64 0, .bool false, .string ⟨#[]⟩, .int .i64 0, .string ⟨#[]⟩, .slice none 0 0, .slice none 0 0, .int .i64 0] 31) := ⟨_, rfl⟩
  have hsz : w1.heap.size = w.heap.size + 3 := by rw [hw1]; simp
  have hB : Cells w1 w.heap.size 31 (objC (.slice Ak K ck) (.slice Ab n cb)) := by rw [hw1]; exact ((Cells.fresh w 31 _).alloc _).alloc _
  have hC : Cells w1 (w.heap.size + 1) 31 [a0, a1, a2, a3, a4, a5, a6, a7, a8] := by rw [hw1]; exact (Cells.fresh1 w _ 31 _).alloc _
  have hD : VRoom (w.heap.size + 2) w1 := by
    have := VRoom.fresh ((w.alloc (.cells #[.int .i64 7, .int .u64 0, .bool false, .string ⟨#[]⟩, .int .i64 0, .string ⟨#[]⟩, .slice Ak K ck, .slice Ab n cb, .int .i64 0] 31)).alloc (.cells #[a0, a1, a2, a3, a4, a5, a6, a7, a8] 31)) (.int .i64 0) (.int .u64 0) (.bool false) (.string ⟨#[]⟩) (.int .i64 0) (.string ⟨#[]⟩) (.slice none 0 0) (.slice none 0 0) (.int .i64 0)
    rw [hw1]
    simpa using this
  rw [← hw1] at hka
  have HW := hid hw1
  have H1 := hid (And.intro hsz (And.intro hB (And.intro hC (And.intro hD hka))))
  have HO := hid (And.intro hok (And.intro hob hne))
  have HKL := hid (And.intro hK hkey)
  have HS := hid (And.intro hsk (And.intro hAk h1))
  have x6 := hB.cell 6
  have x7 := hB.cell 7
  have f6 := hB.free 6
  simp only [List.getElem?_cons_zero, List.getElem?_cons_succ] at x6 x7
  clear hok hob hne hkey hK hsk hAk hB hC hD hka hsz hw1 h1
  go_enter Tryd.func95, Tryd.ntmps95
  go_wp2_with fail
  go_loopw [7] (fun v7 wr => wr = w1 ∧ ∃ j : Nat, j ≤ K ∧ v7 = .int .i64 (j : Int)) (fun v7 _ => K - (RowKit.intOf v7).toNat)
  case atStart => exact ⟨by rw [HW.out], 0, Nat.zero_le _, rfl⟩
  case round =>
    obtain ⟨hw, j, hj, rfl⟩ := hrel
    subst hw
    by_cases hlt : j < K
    · have z1 : decide ((j : Int) < (K : Int)) = true := decide_eq_true (by omega)
      have z1n : decide (j < K) = true := decide_eq_true hlt
      have z1i : (j : Int) < (K : Int) := by omega
      obtain ⟨x, hx⟩ : ∃ x, keys[j]? = some x := ⟨_, List.getElem?_eq_getElem (by rw [← HKL.out.1]; exact hlt)⟩
      obtain ⟨ad, rfl, hc0⟩ := HS.out.1 j (.string ⟨x.toArray⟩) (by unfold tstrs; rw [List.getElem?_map, hx]; rfl)
      have hc := H1.out.2.2.2.2.cell hc0 (by simp)
      have hxk : (x == key) = false := by rw [beq_eq_false_iff_ne]; rintro rfl; exact HKL.out.2 (List.mem_of_getElem? hx)
      clear hc0 hx
      go_wp2_with fail
      go_roundw
      case rel => exact ⟨trivial, j + 1, by omega, by go_num⟩
      case measure => simp [RowKit.intOf]; omega
    · have z1 : decide ((j : Int) < (K : Int)) = false := decide_eq_false (by omega)
      have z1n : decide (j < K) = false := decide_eq_false hlt
      have hok1 := HO.out.1.kept H1.out.2.2.2.2
      go_wp2_with (at_builtin; go_must (refine wpList_append1 rfl _ _ 27 rfl 9 (.string ⟨#[]⟩) 16 Tryd.underlying27 tinfoStr rfl _ _ _ rfl (hok1.kept ((Kp.refl _ _).alloc _)) _ 1 1 [.string ⟨key.toArray⟩] rfl (Span.of_new _ _ _ _) rfl (tone_string _) ?_ ?_ ?_))
      · omega
      · omega
      intro v7 w7 ho7 hk7 hb7
      obtain ⟨A7, c7, rfl, -, -, -, -⟩ := OwnN.shape (s := 1) ho7
      have hltk : ∀ g, (Value.slice Ak K ck).ownBlock = some g → g < w.heap.size := fun g hg => Own.lt HO.out.1 g hg
      have hltv : ∀ g, (Value.slice Ab n cb).ownBlock = some g → g < w.heap.size := fun g hg => OwnN.lt HO.out.2.1 g hg
      have hnk : ∀ g, w.heap.size ≤ g → g ∉ (Value.slice Ak K ck).ownBlock.toList := fun g hg hm => by have := hltk g (by simpa using hm); omega
      have hnv : ∀ g, w.heap.size ≤ g → g ∉ (Value.slice Ab n cb).ownBlock.toList := fun g hg hm => by have := hltv g (by simpa using hm); omega
      have hsz := H1.out.1
      have hB7 := (H1.out.2.1.alloc (.cells #[.string ⟨key.toArray⟩] 9)).keep hk7 (hnk _ (Nat.le_refl _))
      have hC7 := (H1.out.2.2.1.alloc (.cells #[.string ⟨key.toArray⟩] 9)).keep hk7 (hnk _ (Nat.le_succ _))
      have hD7 := (H1.out.2.2.2.1.kept ((Kp.refl _ _).alloc (.cells #[.string ⟨key.toArray⟩] 9))).keep hk7 (hnk _ (by omega))
      have hob7 := ((HO.out.2.1.kept H1.out.2.2.2.2).kept ((Kp.refl _ _).alloc (.cells #[.string ⟨key.toArray⟩] 9))).keep hk7 (fun g hg hm => HO.out.2.2 g hg (by simpa using hm))
      have hkw7 : Kp (Value.slice Ak K ck).ownBlock.toList w w7 := ((H1.out.2.2.2.2.mono (T := (Value.slice Ak K ck).ownBlock.toList) (by simp)).alloc _).trans hk7 (fun x hx _ => hx)
      have hv7 : (Value.slice A7 (K + 1) c7).ownBlock = (Value.slice Ak K ck).ownBlock ∨ (∃ g, (Value.slice A7 (K + 1) c7).ownBlock = some g ∧ w.heap.size + 3 ≤ g) := by
        rcases hb7 with hb7 | hb7
        · exact .inl hb7
        · exact .inr ⟨_, hb7, by omega⟩
      have y7 := hB7.cell 7
      have e6 := hB7.free 6
      have y6 := hB7.cell 6
      have k0 := hC7.cell 0
      have k1 := hC7.cell 1
      have k2 := hC7.cell 2
      have k3 := hC7.cell 3
      have k4 := hC7.cell 4
      have k5 := hC7.cell 5
      have k6 := hC7.cell 6
      have k7 := hC7.cell 7
      have k8 := hC7.cell 8
      have kp7 : Kp [w.heap.size] w7 (w7.setCell ⟨w.heap.size, 6, none⟩ (.slice A7 (K + 1) c7)) := kp_put (Kp.refl _ _) _ _ (.inr (by simp)) _
      have hB8 := hB7.put 6 (.slice A7 (K + 1) c7)
      simp only [List.set_cons_zero, List.set_cons_succ] at hB8
      have hD8 := hD7.keep kp7 (by simp)
      have hob8 := hob7.keep kp7 (fun g hg hm => by have := hltv g hg; simp at hm; omega)
      have hok8 := Own.keep ho7 kp7 (fun g hg hm => by
        rcases hv7 with hv | ⟨g2, hv, hg2⟩
        · have := hltk g (hv ▸ hg); simp at hm; omega
        · rw [hv] at hg; injection hg with hg; simp at hm; omega)
      have HP := hid (And.intro hB8 (And.intro hD8 (And.intro hob8 (And.intro hok8 (And.intro hkw7 (And.intro hv7 (And.intro hltk (And.intro hltv (And.intro hnk hnv)))))))))
      have hob9 := hob8
      clear ho7 hk7 hb7 hltk hltv hnk hnv hB7 hC7 hD7 hob7 hkw7 hv7 kp7 hB8 hD8 hok8 hob8 hok1 x6 x7 f6
      go_wp2_with (at_builtin; go_must (refine wpList_appendN rfl _ _ 28 rfl 31 _ 9 120 Tryd.underlying28 infoVal rfl (by decide) (.slice Ab n cb) n xs rfl (hob9.kept ((Kp.refl _ _).alloc _)) _ 1 1 [a0, a1, a2, a3, a4, a5, a6, a7, a8] rfl (Span.of_newAt _ _ _ _ ?_) ?_ ?_ ?_ ?_ ?_))
      · simp [World.setCell]
      · rfl
      · exact HS.out.2.2
      · omega
      · omega
      intro v8 w8 ho8 hk8 hb8
      obtain ⟨A8, c8, rfl, -, -, -, -⟩ := OwnN.shape ho8
      obtain ⟨hB8, hD8, -, hok8, hkw7, hv7, hltk, hltv, hnk, hnv⟩ := HP.out
      have hsz := H1.out.1
      have hs7 : w.heap.size + 3 ≤ w7.heap.size := by have := hkw7.size; have := hD8.lt7; simp [World.setCell] at this; omega
      have hB9 := (hB8.alloc (.cells #[a0, a1, a2, a3, a4, a5, a6, a7, a8] 31)).keep hk8 (hnv _ (Nat.le_refl _))
      have hD9 := (hD8.kept ((Kp.refl _ _).alloc (.cells #[a0, a1, a2, a3, a4, a5, a6, a7, a8] 31))).keep hk8 (hnv _ (by omega))
      have hok9 := (Own.kept hok8 ((Kp.refl _ _).alloc (.cells #[a0, a1, a2, a3, a4, a5, a6, a7, a8] 31))).keep hk8 (fun g hg hm => by
        have hm : (Value.slice Ab n cb).ownBlock = some g := by simpa using hm
        rcases hv7 with hv | ⟨g2, hv, hg2⟩
        · exact HO.out.2.2 g hm (hv ▸ hg)
        · rw [hv] at hg; injection hg with hg; have := hltv g hm; omega)
      have hv8 : (Value.slice A8 (n + 1) c8).ownBlock = (Value.slice Ab n cb).ownBlock ∨ (∃ g, (Value.slice A8 (n + 1) c8).ownBlock = some g ∧ w7.heap.size + 1 = g) := by
        rcases hb8 with hb8 | hb8
        · exact .inl hb8
        · exact .inr ⟨_, hb8, rfl⟩
      have hkw8 : Kp ((Value.slice Ak K ck).ownBlock.toList ++ (Value.slice Ab n cb).ownBlock.toList) w w8 :=
        ((kp_put (hkw7.mono (T := (Value.slice Ak K ck).ownBlock.toList ++ (Value.slice Ab n cb).ownBlock.toList) (fun x hx => List.mem_append_left _ hx)) _ _ (.inl (Nat.le_refl _)) _).alloc _).trans hk8 (fun x hx _ => List.mem_append_right _ hx)
      have hlt7 : ∀ g, (Value.slice A7 (K + 1) c7).ownBlock = some g → g < w7.heap.size := fun g hg => by have := Own.lt hok8 g hg; simpa [World.setCell] using this
      have u7 := hB9.cell 7
      have e7 := hB9.free 7
      have hBX := hB9.put 7 (.slice A8 (n + 1) c8)
      simp only [List.set_cons_zero, List.set_cons_succ] at hBX
      have kp8 : Kp [w.heap.size] w8 (w8.setCell ⟨w.heap.size, 7, none⟩ (.slice A8 (n + 1) c8)) := kp_put (Kp.refl _ _) _ _ (.inr (by simp)) _
      have hDX := hD9.keep kp8 (by simp)
      have d0 := hB9.cell 0
      have d1 := hB9.cell 1
      have d2 := hB9.cell 2
      have d3 := hB9.cell 3
      have d4 := hB9.cell 4
      have d5 := hB9.cell 5
      have d6 := hB9.cell 6
      have d8 := hB9.cell 8
      obtain ⟨r0, r1, r2, r3, r4, r5, r6, r7, r8, ⟨s0, s1, s2, s3, s4, s5, s6, s7, s8⟩, ⟨g0, g1, g2, g3, g4, g5, g6, g7, g8⟩⟩ := hDX.cells
      have HE := hid (And.intro hok9 (And.intro ho8 (And.intro hv7 (And.intro hv8 (And.intro hkw8 (And.intro hltk (And.intro hltv (And.intro hs7 hlt7))))))))
      clear hok9 ho8 hv7 hv8 hkw8 hltk hltv hs7 hlt7 hk8 hb8 hB8 hD8 hok8 hkw7 hnk hnv hB9 hD9 hBX kp8 hDX y7 e6 y6 k0 k1 k2 k3 k4 k5 k6 k7 k8 hob9
      go_wp2_with fail
      refine bodyPost_ret (v := .agg #[.int .i64 7, .int .u64 0, .bool false, .string ⟨#[]⟩, .int .i64 0, .string ⟨#[]⟩, .slice A7 (K + 1) c7, .slice A8 (n + 1) c8, .int .i64 0])
        (by simp [results, Tryd.results95, go_sem, s0, s1, s2, s3, s4, s5, s6, s7, s8]) rfl ?_
      obtain ⟨hok9, ho8, hv7, hv8, hkw8, hltk, hltv, hs7, hlt7⟩ := HE.out
      have k9 := kp_nine (kp_put (Kp.refl [w.heap.size, w.heap.size + 1 + 1] w8) w.heap.size 7 (.inr (by simp)) (.slice A8 (n + 1) c8)) (w.heap.size + 1 + 1) (.inr (by simp)) (.int .i64 7) (.int .u64 0) (.bool false) (.string ⟨#[]⟩) (.int .i64 0) (.string ⟨#[]⟩) (.slice A7 (K + 1) c7) (.slice A8 (n + 1) c8) (.int .i64 0)
      refine ⟨_, _, rfl, ?_, ?_, ?_, ?_, ?_, ?_⟩
      · have := Own.keep hok9 k9 (fun g hg hm => by
          simp at hm
          rcases hv7 with hv | ⟨g2, hv, hg2⟩
          · have := hltk g (hv ▸ hg); omega
          · rw [hv] at hg; injection hg with hg; omega)
        rw [show tstrs (keys ++ [key]) = tstrs keys ++ [.string ⟨key.toArray⟩] by simp [tstrs]]
        exact this
      · exact ho8.keep k9 (fun g hg hm => by
          simp at hm
          rcases hv8 with hv | ⟨g2, hv, hg2⟩
          · have := hltv g (hv ▸ hg); omega
          · rw [hv] at hg; injection hg with hg; omega)
      · rcases hv7 with hv | ⟨g2, hv, hg2⟩
        · exact .inl hv
        · exact .inr ⟨g2, hv, by omega⟩
      · rcases hv8 with hv | ⟨g2, hv, hg2⟩
        · exact .inl hv
        · exact .inr ⟨g2, hv, by omega⟩
      · intro g hg h7
        rcases hv8 with hv | ⟨g2, hv, hg2⟩
        · rcases hv7 with hv' | ⟨g3, hv', hg3⟩
          · exact HO.out.2.2 g (hv ▸ hg) (hv' ▸ h7)
          · rw [hv'] at h7; injection h7 with h7; have := hltv g (hv ▸ hg); omega
        · rw [hv] at hg
          injection hg with hg
          have := hlt7 g h7
          omega
      · exact kp_nine (kp_put hkw8 _ _ (.inl (Nat.le_refl _)) _) _ (.inl (by omega)) _ _ _ _ _ _ _ _ _
end Go.Proofs.YtpeldjihalldkaaDoor

/- The document's reader of texts at the example: the object, in the midst. -/
namespace Go.Proofs.YtpeldjihalldkaaDoor
open Go Go.RowKit Go.Lib

theorem Cells.nine {w : World} {g : Nat} {t : TypeId} {b0 b1 b2 b3 b4 b5 b6 b7 b8 : Value} (h : Cells w g t [b0, b1, b2, b3, b4, b5, b6, b7, b8]) (a0 a1 a2 a3 a4 a5 a6 a7 a8 : Value) : Cells (Go.Proofs.YtpeldjihalldkaaDoor.nine w g a0 a1 a2 a3 a4 a5 a6 a7 a8) g t [a0, a1, a2, a3, a4, a5, a6, a7, a8] :=
  ((((((((h.put 0 a0).put 1 a1).put 2 a2).put 3 a3).put 4 a4).put 5 a5).put 6 a6).put 7 a7).put 8 a8
/-- An object in the midst: its box B, behind it room for the result; keys, kids. -/
structure Ob (R B : Nat) (W : World) (keys : List Txt) (vk vb : Value) (xs : List Value) : Prop where
  box : Cells W B 31 (objC vk vb)
  room : VRoom (B + 1) W
  ok : Own W 9 vk keys.length (tstrs keys)
  ob : OwnN W 31 9 vb keys.length xs
  nk : ∀ g, vk.ownBlock = some g → B + 2 ≤ g
  nb : ∀ g, vb.ownBlock = some g → B + 2 ≤ g
  dis : ∀ g, vb.ownBlock = some g → vk.ownBlock ≠ some g
  size : B + 2 ≤ W.heap.size
  rb : R < B
theorem Ob.keep {R B : Nat} {W W' : World} {keys : List Txt} {vk vb : Value} {xs : List Value} (h : Ob R B W keys vk vb xs) (k : Kp [R] W W') : Ob R B W' keys vk vb xs :=
  ⟨h.box.keep k (by have := h.rb; simp; omega), h.room.keep k (by have := h.rb; simp; omega), Own.keep h.ok k (fun g hg hm => by have := h.nk g hg; have := h.rb; simp at hm; omega), h.ob.keep k (fun g hg hm => by have := h.nb g hg; have := h.rb; simp at hm; omega),
   h.nk, h.nb, h.dis, Nat.le_trans h.size k.size, h.rb⟩
theorem Ob.kept {R B : Nat} {W W' : World} {keys : List Txt} {vk vb : Value} {xs : List Value} (h : Ob R B W keys vk vb xs) (k : Kp [] W W') : Ob R B W' keys vk vb xs := h.keep (k.mono (by simp))
theorem put_ob {R B : Nat} {W : World} {keys : List Txt} {vk vb : Value} {xs : List Value} (h : Ob R B W keys vk vb xs) (key : Txt) (hkey : key ∉ keys) (hl : keys.length ≤ 5) (a0 a1 a2 a3 a4 a5 a6 a7 a8 : Value) (h1 : ∀ u ∈ [a0, a1, a2, a3, a4, a5, a6, a7, a8], u.oneCell' = true) :
    Calls Tryd.prog 95 #[.agg #[.int .i64 7, .int .u64 0, .bool false, .string ⟨#[]⟩, .int .i64 0, .string ⟨#[]⟩, vk, vb, .int .i64 0], .string ⟨key.toArray⟩, .agg #[a0, a1, a2, a3, a4, a5, a6, a7, a8]] W fun e w' =>
      ∃ Ak nk ck Ab nb cb, e = .returned (.agg #[.int .i64 7, .int .u64 0, .bool false, .string ⟨#[]⟩, .int .i64 0, .string ⟨#[]⟩, .slice Ak nk ck, .slice Ab nb cb, .int .i64 0]) ∧ Cells w' B 31 (objC vk vb) ∧
        Ob R B (nine w' B (.int .i64 7) (.int .u64 0) (.bool false) (.string ⟨#[]⟩) (.int .i64 0) (.string ⟨#[]⟩) (.slice Ak nk ck) (.slice Ab nb cb) (.int .i64 0)) (keys ++ [key]) (.slice Ak nk ck) (.slice Ab nb cb) (xs ++ [a0, a1, a2, a3, a4, a5, a6, a7, a8]) ∧
        Kp (vk.ownBlock.toList ++ vb.ownBlock.toList) W w' ∧ (∀ G, vb.ownBlock ≠ some G → G < W.heap.size → (Value.slice Ab nb cb).ownBlock ≠ some G) := by
  obtain ⟨Ak, ck, rfl, -, -, -, -⟩ := OwnN.shape (s := 1) h.ok
  obtain ⟨Ab, cb, rfl, -, -, -, -⟩ := h.ob.shape
  have hlk : ∀ g, (Value.slice Ak keys.length ck).ownBlock = some g → g < W.heap.size := fun g hg => Own.lt h.ok g hg
  have hlb : ∀ g, (Value.slice Ab keys.length cb).ownBlock = some g → g < W.heap.size := fun g hg => OwnN.lt h.ob g hg
  refine (put_new W keys Ak ck Ab keys.length cb xs key a0 a1 a2 a3 a4 a5 a6 a7 a8 h.ok h.ob h.dis hkey hl hl h1).mono fun e w' ⟨vk', vb', he, hok, hob, hbk, hbb, hdis, k⟩ => ?_
  have hS : ∀ x ∈ (Value.slice Ak keys.length ck).ownBlock.toList ++ (Value.slice Ab keys.length cb).ownBlock.toList, B + 2 ≤ x := fun x hx => by
    rcases List.mem_append.1 hx with hx | hx
    · exact h.nk x (by simpa using hx)
    · exact h.nb x (by simpa using hx)
  have hbox := h.box.keep k (fun hm => by have := hS _ hm; omega)
  have hroom := h.room.keep k (fun hm => by have := hS _ hm; omega)
  have hnk : ∀ g, vk'.ownBlock = some g → B + 2 ≤ g := fun g hg => by
    rcases hbk with hv | ⟨g2, hv, h2⟩
    · exact h.nk g (hv ▸ hg)
    · rw [hv] at hg; injection hg with hg; have := h.size; omega
  have hnb : ∀ g, vb'.ownBlock = some g → B + 2 ≤ g := fun g hg => by
    rcases hbb with hv | ⟨g2, hv, h2⟩
    · exact h.nb g (hv ▸ hg)
    · rw [hv] at hg; injection hg with hg; have := h.size; omega
  obtain ⟨Ak', ck', rfl, -, -, -, -⟩ := OwnN.shape (s := 1) hok
  obtain ⟨Ab', cb', rfl, -, -, -, -⟩ := hob.shape
  have k9 := kp_nine (Kp.refl [B] w') B (.inr (by simp)) (.int .i64 7) (.int .u64 0) (.bool false) (.string ⟨#[]⟩) (.int .i64 0) (.string ⟨#[]⟩) (.slice Ak' (keys.length + 1) ck') (.slice Ab' (keys.length + 1) cb') (.int .i64 0)
  have hl1 : (keys ++ [key]).length = keys.length + 1 := by simp
  refine ⟨_, _, _, _, _, _, he, hbox, ⟨hbox.nine _ _ _ _ _ _ _ _ _, hroom.keep k9 (by simp), ?_, ?_, hnk, hnb, hdis, Nat.le_trans (Nat.le_trans h.size k.size) k9.size, h.rb⟩, k, fun G h1 h2 h3 => ?_⟩
  · rw [hl1]
    exact Own.keep hok k9 (fun g hg hm => by have := hnk g hg; simp at hm; omega)
  · rw [hl1]
    exact hob.keep k9 (fun g hg hm => by have := hnb g hg; simp at hm; omega)
  · rcases hbb with hv | ⟨g2, hv, h4⟩
    · exact h1 (hv ▸ h3)
    · rw [hv] at h3; injection h3 with h3; omega
end Go.Proofs.YtpeldjihalldkaaDoor

