/- Built: the tree of a row of items. -/
import Derived.Test.YtpeldjihalldkaaDoorRF
import Derived.Test.YtpeldjihalldkaaDoorDRParse
import Derived.Test.YtpeldjihalldkaaDoorRG
namespace Go.Proofs.YtpeldjihalldkaaDoor
open Go Go.RowKit Go.Lib

/-- Room for a value: nine cells. -/
def VRoom (g : Nat) (w : World) : Prop := ∃ cs, Cells w g 31 cs ∧ cs.length = 9
theorem VRoom.kept {g : Nat} {w w' : World} (h : VRoom g w) (k : Kp [] w w') : VRoom g w' := by
  obtain ⟨cs, h1, h2⟩ := h
  exact ⟨cs, h1.keep k (by simp), h2⟩
theorem VRoom.cells {g : Nat} {w : World} (h : VRoom g w) : ∃ a0 a1 a2 a3 a4 a5 a6 a7 a8, (w.cell? ⟨g, 0, none⟩ = some a0 ∧ w.cell? ⟨g, 1, none⟩ = some a1 ∧ w.cell? ⟨g, 2, none⟩ = some a2 ∧ w.cell? ⟨g, 3, none⟩ = some a3 ∧ w.cell? ⟨g, 4, none⟩ = some a4 ∧ w.cell? ⟨g, 5, none⟩ = some a5 ∧ w.cell? ⟨g, 6, none⟩ = some a6 ∧ w.cell? ⟨g, 7, none⟩ = some a7 ∧ w.cell? ⟨g, 8, none⟩ = some a8) ∧
    (w.frozen? ⟨g, 0, none⟩ = false ∧ w.frozen? ⟨g, 1, none⟩ = false ∧ w.frozen? ⟨g, 2, none⟩ = false ∧ w.frozen? ⟨g, 3, none⟩ = false ∧ w.frozen? ⟨g, 4, none⟩ = false ∧ w.frozen? ⟨g, 5, none⟩ = false ∧ w.frozen? ⟨g, 6, none⟩ = false ∧ w.frozen? ⟨g, 7, none⟩ = false ∧ w.frozen? ⟨g, 8, none⟩ = false) := by
  obtain ⟨cs, h1, h2⟩ := h
  match cs, h2 with
  | [a0, a1, a2, a3, a4, a5, a6, a7, a8], _ => exact ⟨a0, a1, a2, a3, a4, a5, a6, a7, a8, ⟨h1.cell 0, h1.cell 1, h1.cell 2, h1.cell 3, h1.cell 4, h1.cell 5, h1.cell 6, h1.cell 7, h1.cell 8⟩, ⟨h1.free 0, h1.free 1, h1.free 2, h1.free 3, h1.free 4, h1.free 5, h1.free 6, h1.free 7, h1.free 8⟩⟩
theorem VRoom.fresh (w : World) (a0 a1 a2 a3 a4 a5 a6 a7 a8 : Value) : VRoom w.heap.size (w.alloc (.cells #[a0, a1, a2, a3, a4, a5, a6, a7, a8] 31)) := ⟨[a0, a1, a2, a3, a4, a5, a6, a7, a8], Cells.fresh w 31 _, rfl⟩
theorem kp_put {S : List Nat} {w w' : World} (k : Kp S w w') (g i : Nat) (hg : w.heap.size ≤ g ∨ g ∈ S) (u : Value) : Kp S w (w'.setCell ⟨g, i, none⟩ u) :=
  k.setCell (p := ⟨g, i, none⟩) (fun h => hg.elim (fun h2 => absurd h (Nat.not_lt.2 h2)) (fun h2 => h2)) u
theorem parse_cases (y : Txt) (hy : y.length ≤ 100000) : ∃ (n : Bool) (d : Txt) (s e : Int), (∀ W, Calls Tryd.prog 35 #[.string ⟨y.toArray⟩] W fun e' w' => e' = .returned (.tuple #[.agg #[.bool n, .string ⟨d.toArray⟩, .int .i64 s], .int .i64 e]) ∧ Kp [] W w') ∧
    (e ≠ 0 ∨ (e = 0 ∧ ∃ dd : Dc, Ok dd ∧ n = dd.neg ∧ d = dtxt dd.n ∧ s = (dd.s : Int))) := by
  have q := fun W => rparse_any W y hy
  rcases h : parseL y with _ | _ | d
  · simp only [h] at q
    exact ⟨false, [], 0, 4, q, .inl (by decide)⟩
  · simp only [h] at q
    exact ⟨false, [], 0, 3, q, .inl (by decide)⟩
  · simp only [h] at q
    exact ⟨d.neg, dtxt d.n, d.s, 0, q, .inr ⟨rfl, d, parse_ok h, rfl, rfl, rfl⟩⟩
theorem ok_seven : Ok ⟨false, 7, 0⟩ := ⟨by decide, by decide, (fun h => by cases h), .inl rfl⟩
theorem Span.of_new1 (w : World) (o : Obj) (t : TypeId) (fr : Nat × Nat) (cs : List Value) : Span ((w.alloc o).alloc (.cells cs.toArray t fr)) (some ⟨w.heap.size + 1, 0, none⟩) cs := by
  have := Span.of_new (w.alloc o) t fr cs
  simpa using this
abbrev nine (w : World) (g : Nat) (a0 a1 a2 a3 a4 a5 a6 a7 a8 : Value) : World :=
  ((((((((w.setCell ⟨g, 0, none⟩ a0).setCell ⟨g, 1, none⟩ a1).setCell ⟨g, 2, none⟩ a2).setCell ⟨g, 3, none⟩ a3).setCell ⟨g, 4, none⟩ a4).setCell ⟨g, 5, none⟩ a5).setCell ⟨g, 6, none⟩ a6).setCell ⟨g, 7, none⟩ a7).setCell ⟨g, 8, none⟩ a8
theorem kp_nine {S : List Nat} {w w' : World} (k : Kp S w w') (g : Nat) (hg : w.heap.size ≤ g ∨ g ∈ S) (a0 a1 a2 a3 a4 a5 a6 a7 a8 : Value) : Kp S w (nine w' g a0 a1 a2 a3 a4 a5 a6 a7 a8) :=
  kp_put (kp_put (kp_put (kp_put (kp_put (kp_put (kp_put (kp_put (kp_put k g 0 hg a0) g 1 hg a1) g 2 hg a2) g 3 hg a3) g 4 hg a4) g 5 hg a5) g 6 hg a6) g 7 hg a7) g 8 hg a8
theorem built_end {w w1 wr : World} (hk : Kp [] w wr) (hs : w1.heap.size = w.heap.size + 1) {P : Nat → Prop} (hP : ∀ x, P x → w1.heap.size ≤ x ∧ x < wr.heap.size) {v : Vl} {cs : List Value} (hrep : RepS wr P v cs) (hf : FineV v) (hz : sizeV v ≤ 81) (a0 a1 a2 a3 a4 a5 a6 a7 a8 : Value) :
    ∃ v' cs', Ending.returned (Value.agg cs.toArray) = Ending.returned (Value.agg cs'.toArray) ∧ RepS (nine wr w.heap.size a0 a1 a2 a3 a4 a5 a6 a7 a8) (fun x => w.heap.size ≤ x ∧ x < (nine wr w.heap.size a0 a1 a2 a3 a4 a5 a6 a7 a8).heap.size) v' cs' ∧ FineV v' ∧ sizeV v' ≤ 81 ∧
      Kp [] w (nine wr w.heap.size a0 a1 a2 a3 a4 a5 a6 a7 a8) := by
  have k9 : Kp [w.heap.size] wr (nine wr w.heap.size a0 a1 a2 a3 a4 a5 a6 a7 a8) := kp_nine (Kp.refl _ _) _ (.inr (by simp)) _ _ _ _ _ _ _ _ _
  have h9 := k9.size
  refine ⟨v, cs, rfl, (hrep.keep k9 (fun x hx h => ?_)).mono (fun x hx => ?_), hf, hz, hk.fresh k9 (Nat.le_refl _)⟩
  · rw [List.mem_singleton.1 hx] at h
    have := (hP _ h).1
    omega
  · have := hP _ hx
    exact ⟨by omega, by omega⟩
/-- A tree of one node. -/
theorem one_rep (w : World) (P : Nat → Prop) (k m : Nat) (num : Option Dc) (t : Txt) (code : Nat) : RepS w P (.mk k m num t [] [] code) (vC k m (vN num) (vD num) (vS num) t none 0 0 none 0 0 code) :=
  .mk k m num t [] [] code none 0 none 0 (fun _ => []) ⟨Nat.le_refl _, by decide, fun i x h => by cases h⟩ ⟨Nat.le_refl _, by decide, fun i h => absurd h (Nat.not_lt_zero _)⟩ (fun _ h => by cases h) (fun _ h => by cases h) (fun i v h => by cases h)
theorem one_fine (k m : Nat) (num : Option Dc) (t : Txt) (code : Nat) (hk : 1 ≤ k ∧ k ≤ 8) (h7 : k ≠ 7) (hm : m < 18446744073709551616) (hn : k = 4 → ∃ d, num = some d ∧ Ok d) (hn0 : k ≠ 4 → num = none) (ht : t.length ≤ 100 ∧ validD t = true) (ht0 : k ≠ 5 → t = []) (hcode : code < 100) (hc0 : k ≠ 8 → code = 0) (hc8 : k = 8 → code ≠ 0) :
    FineV (.mk k m num t [] [] code) :=
  .mk k m num t [] [] code hk hm hn hn0 ht ht0 (fun h => absurd h h7) (fun _ => rfl) (fun _ h => by cases h) List.nodup_nil (fun _ _ => rfl) hcode hc0 hc8 (Nat.zero_le _) (fun i v h => by cases h)
theorem one_size (k m : Nat) (num : Option Dc) (t : Txt) (keys : List Txt) (code : Nat) : sizeV (.mk k m num t keys [] code) = 1 := by simp [sizeV, sizes]
set_option maxRecDepth 100000 in
set_option maxHeartbeats 12800000 in
theorem built_any (w : World) (A : Option Addr) (c : Nat) (l : List Itm) (hl : ItemsAt w A c l) :
    Calls Tryd.prog 12 #[.slice A l.length c] w fun e w' => ∃ v cs, e = .returned (.agg cs.toArray) ∧ RepS w' (fun x => w.heap.size ≤ x ∧ x < w'.heap.size) v cs ∧ FineV v ∧ sizeV v ≤ 81 ∧ Kp [] w w' := by
  have hcap := hl.le
  have hcap2 := hl.top
  have HL := hid hl
  obtain ⟨N, hN⟩ : ∃ N, N = l.length := ⟨_, rfl⟩
  rw [← hN] at hcap ⊢
  have HN := hid hN
  clear hN hl
  go_enter Tryd.func12, Tryd.ntmps12
  go_wp2_with fail
  obtain ⟨w1, hw1⟩ : ∃ w1, w1 = w.alloc (.cells (vC 0 0 false [] 0 [] none 0 0 none 0 0 0).toArray 31) := ⟨_, rfl⟩
  have hk1 : Kp [] w w1 := by rw [hw1]; exact (Kp.refl _ _).alloc _
  have hsz1 : w1.heap.size = w.heap.size + 1 := by rw [hw1]; simp
  have hroom : VRoom w.heap.size w1 := by rw [hw1]; exact VRoom.fresh w _ _ _ _ _ _ _ _ _
  have HROOM := hid hroom
  have HW1 := hid hw1
  have HK1 := hid (And.intro hk1 hsz1)
  clear hk1 hroom hsz1
  go_loopw [3, 4] (fun va vi wr => ∃ (vs : List Vl) (css : List (List Value)) (g c j : Nat), Alone w1 wr va vs css g c j ∧ vi = .int .i64 (j : Int) ∧ j ≤ N ∧ j ≤ 80) (fun _ vi _ => N - (RowKit.intOf vi).toNat)
  case atStart =>
    refine ⟨[], [], w.heap.size + 1, 0, 0, ⟨rfl, ?_, ?_, ?_, ⟨rfl, fun i v c h => by cases h⟩, by simp, by simp [sizes], Nat.le_refl _, ?_⟩, rfl, Nat.zero_le _, Nat.zero_le _⟩
    · exact OwnN.of_cells (n := 0) (Cells.fresh1 w _ _ []) rfl (by decide)
    · rw [HK1.out.2]; exact Nat.le_refl _
    · simp
    · rw [HW1.out]; exact (Kp.refl _ _).alloc _
  case round =>
    obtain ⟨vs, css, g, c2, j, ha, rfl, hjN, hj80⟩ := hrel
    obtain rfl := ha.v
    have HA := hid ha
    have hc2 : vs.length ≤ c2 := by obtain ⟨_, _, e, _, h, _⟩ := ha.own.shape; injection e with _ _ e; omega
    have hc9 : c2 ≤ 9223372036854775807 := by obtain ⟨_, _, e, _, _, h, _⟩ := ha.own.shape; injection e with _ _ e; omega
    have hm80 : vs.length ≤ 80 := Nat.le_trans ha.many hj80
    obtain ⟨K, hK⟩ : ∃ K, K = vs.length := ⟨_, rfl⟩
    rw [← hK] at hc2 hm80 ⊢
    have HKK := hid hK
    clear ha hK hw1
    by_cases hgo : j < N ∧ j < 80
    · obtain ⟨hjn, hj8⟩ := hgo
      obtain ⟨x, hx⟩ : ∃ x, l[j]? = some x := ⟨_, List.getElem?_eq_getElem (by rw [← HN.out]; exact hjn)⟩
      obtain ⟨ad, rfl, B, nb, b0, b1, b2, b3, b4, b5, b6⟩ := ((HL.out.kept HK1.out.1).kept HA.out.kp).at_ j x hx
      obtain ⟨k7, hk7, hk8⟩ := and7i x.kind
      have hxo := HL.out.ok x (List.mem_of_getElem? hx)
      have z1 : decide ((j : Int) < (N : Int)) = true := decide_eq_true (by omega)
      have z1n : decide (j < N) = true := decide_eq_true hjn
      have z2 : decide ((j : Int) < 80) = true := decide_eq_true (by omega)
      have z2n : decide (j < 80) = true := decide_eq_true hj8
      have z3 : (j : Int) < (N : Int) := by omega
      have hown : OwnN wr 31 9 (.slice (some ⟨g, 0, none⟩) K c2) K css.flatten := by rw [HKK.out]; exact HA.out.own
      have HX := hid hxo
      have HOWN := hid hown
      have bb1 := fun o => ((Kp.refl [] wr).alloc o).cell b1 (by simp)
      have bb3 := fun o => ((Kp.refl [] wr).alloc o).cell b3 (by simp)
      have bb4 := fun o => ((Kp.refl [] wr).alloc o).cell b4 (by simp)
      have bb5 := fun o => ((Kp.refl [] wr).alloc o).cell b5 (by simp)
      clear hx hxo hown
      rcases (show k7 = 0 ∨ k7 = 1 ∨ k7 = 2 ∨ k7 = 3 ∨ k7 = 4 ∨ k7 = 5 ∨ k7 = 6 ∨ k7 = 7 by omega) with rfl | rfl | rfl | rfl | rfl | rfl | rfl | rfl
      rotate_left 3
      · have q1 := fun W => short4_any W x.num HX.out.num
        have hfl := firstH_len x.num
        obtain ⟨y, hy⟩ : ∃ y, y = firstH x.num := ⟨_, rfl⟩
        simp only [← hy] at q1 hfl
        obtain ⟨n, d, s, e, q2, hcase⟩ := parse_cases y (by omega)
        clear hy hfl
        go_wp2_with fail
        (with_reducible refine (q1 _).mono ?_)
        rintro e1 w2 ⟨rfl, hw⟩
        have hw := hw.symm
        subst hw
        go_wp2_with fail
        (with_reducible refine (q2 _).mono ?_)
        rintro e1 w2 ⟨rfl, k2⟩
        have hkn : Kp [] wr w2 := ((Kp.refl _ _).alloc _).nil k2
        have D1 := (Cells.fresh wr 31 [.int .i64 4, .int .u64 (x.mask : Int), .bool false, .string ⟨#[]⟩, .int .i64 0, .string ⟨#[]⟩, .slice none 0 0, .slice none 0 0, .int .i64 0]).keep k2 (by simp)
        have d0 := D1.cell 0
        have d1 := D1.cell 1
        have d2 := D1.cell 2
        have d3 := D1.cell 3
        have d4 := D1.cell 4
        have d5 := D1.cell 5
        have d6 := D1.cell 6
        have d7 := D1.cell 7
        have d8 := D1.cell 8
        have f2 := D1.free 2
        have f3 := D1.free 3
        have f4 := D1.free 4
        have hne := D1.lt
        have HKN := hid hkn
        clear k2 D1 hkn q1 q2
        rcases hcase with he | ⟨rfl, dd, hok, rfl, rfl, rfl⟩
        · have z5 : (e != 0) = true := bne_iff_ne.2 he
          clear he
          go_wp2_with (at_builtin; go_must (refine wpList_appendR rfl _ _ 28 rfl 31 _ 9 120 Tryd.underlying28 infoVal rfl (by decide) g K c2 css.flatten rfl (HOWN.out.kept (((kp_put (kp_put (kp_put HKN.out _ _ (.inl (Nat.le_refl _)) _) _ _ (.inl (Nat.le_refl _)) _) _ _ (.inl (Nat.le_refl _)) _).alloc _).alloc _)) _ 1 1 _ rfl (Span.of_newAt _ _ _ _ (by simp)) ?_ ?_ ?_ ?_ ?_))
          · rfl
          · (intro u hu; simp only [List.mem_cons, List.not_mem_nil, or_false] at hu; rcases hu with rfl | rfl | rfl | rfl | rfl | rfl | rfl | rfl | rfl <;> rfl)
          · omega
          · omega
          intro g' c' w' ho hk hg
          have HO := hid (And.intro ho (And.intro hk hg))
          clear ho hk hg
          go_wp2_with fail
          go_roundw
          case measure => simp [RowKit.intOf]; omega
          case rel =>
            obtain ⟨ho, hk, hg⟩ := HO.out
            have hs := HA.out.size
            have hmm := HA.out.many
            have hn := HA.out.snoc (j := j) (one_rep wr _ 4 x.mask (some (⟨false, 7, 0⟩ : Dc)) [] 0) (one_fine 4 x.mask (some (⟨false, 7, 0⟩ : Dc)) [] 0 (by decide) (by decide) HX.out.mask (fun _ => ⟨_, rfl, ok_seven⟩) (fun h => absurd rfl h) ⟨by decide, rfl⟩ (fun _ => rfl) (by decide) (fun _ => rfl) (fun h => by cases h)) (by rw [one_size]; omega) hmm
              (((kp_put (kp_put (kp_put HKN.out _ _ (.inl (Nat.le_refl _)) _) _ _ (.inl (Nat.le_refl _)) _) _ _ (.inl (Nat.le_refl _)) _).alloc _).alloc _) (by rw [← HKK.out]; exact ho) hk (by simpa using hg)
            rw [← HKK.out] at hn
            exact ⟨_, _, g', c', j + 1, hn, by go_num, by omega, by omega⟩
        · have hok2 := hid hok
          clear hok
          go_wp2_with (at_builtin; go_must (refine wpList_appendR rfl _ _ 28 rfl 31 _ 9 120 Tryd.underlying28 infoVal rfl (by decide) g K c2 css.flatten rfl (HOWN.out.kept (((kp_put (kp_put (kp_put HKN.out _ _ (.inl (Nat.le_refl _)) _) _ _ (.inl (Nat.le_refl _)) _) _ _ (.inl (Nat.le_refl _)) _).alloc _).alloc _)) _ 1 1 _ rfl (Span.of_newAt _ _ _ _ (by simp)) ?_ ?_ ?_ ?_ ?_))
          · rfl
          · (intro u hu; simp only [List.mem_cons, List.not_mem_nil, or_false] at hu; rcases hu with rfl | rfl | rfl | rfl | rfl | rfl | rfl | rfl | rfl <;> rfl)
          · omega
          · omega
          intro g' c' w' ho hk hg
          have HO := hid (And.intro ho (And.intro hk hg))
          clear ho hk hg
          go_wp2_with fail
          go_roundw
          case measure => simp [RowKit.intOf]; omega
          case rel =>
            obtain ⟨ho, hk, hg⟩ := HO.out
            have hs := HA.out.size
            have hmm := HA.out.many
            have hn := HA.out.snoc (j := j) (one_rep wr _ 4 x.mask (some dd) [] 0) (one_fine 4 x.mask (some dd) [] 0 (by decide) (by decide) HX.out.mask (fun _ => ⟨_, rfl, hok2.out⟩) (fun h => absurd rfl h) ⟨by decide, rfl⟩ (fun _ => rfl) (by decide) (fun _ => rfl) (fun h => by cases h)) (by rw [one_size]; omega) hmm
              (((kp_put (kp_put (kp_put HKN.out _ _ (.inl (Nat.le_refl _)) _) _ _ (.inl (Nat.le_refl _)) _) _ _ (.inl (Nat.le_refl _)) _).alloc _).alloc _) (by rw [← HKK.out]; exact ho) hk (by simpa using hg)
            rw [← HKK.out] at hn
            exact ⟨_, _, g', c', j + 1, hn, by go_num, by omega, by omega⟩
      focus
        have q := fun W => word4_any W x.text HX.out.text
        have hok := wordL_ok x.text
        obtain ⟨y, hy⟩ : ∃ y, y = wordL x.text := ⟨_, rfl⟩
        simp only [← hy] at q hok
        have HV : Hid (∃ v, FineV v ∧ sizeV v = 1 ∧ ∀ W P, RepS W P v [.int .i64 5, .int .u64 (x.mask : Int), .bool false, .string ⟨#[]⟩, .int .i64 0, .string ⟨y.toArray⟩, .slice none 0 0, .slice none 0 0, .int .i64 0]) :=
          hid ⟨.mk 5 x.mask none y [] [] 0, one_fine 5 x.mask none y 0 (by decide) (by decide) HX.out.mask (fun h => by cases h) (fun _ => rfl) hok (fun h => absurd rfl h) (by decide) (fun _ => rfl) (fun h => by cases h), one_size _ _ _ _ _ _, fun W P => one_rep W P 5 x.mask none y 0⟩
        clear hy hok
        go_wp2_with fail
        (with_reducible refine (q _).mono ?_)
        rintro e w2 ⟨rfl, hw⟩
        have hw := hw.symm
        subst hw
        clear q
      rotate_left 1
      · obtain ⟨k8, hk8, hk88⟩ := and7i x.many
        obtain ⟨n, hn⟩ : ∃ n, n = min k8 K := ⟨_, rfl⟩
        obtain ⟨f, hf⟩ : ∃ f, f = K - n := ⟨_, rfl⟩
        have hmin : min (k8 : Int) (K : Int) = (n : Int) := by omega
        have hwr : IntKind.i64.wrap ((K : Int) - (n : Int)) = (f : Int) := by rw [show (K : Int) - (n : Int) = (f : Int) by omega]; exact IntWalk.i64_in _ (by omega)
        have hfK : f ≤ K := by omega
        have hfc : f ≤ c2 := by omega
        have hKf : K - f ≤ 7 := by omega
        have hflen : css.flatten.length = K * 9 := HOWN.out.length
        have hcl : css.length = K := by rw [HA.out.trees.len, HKK.out]
        have e1 : css.flatten.drop (f * 9) = (css.drop f).flatten := (flat_drop css HA.out.trees.nine f).symm
        have e2 : css.flatten.take (f * 9) = (css.take f).flatten := (flat_take css HA.out.trees.nine f).symm
        have hsp : Span wr (some ⟨g, 0, none⟩) css.flatten := by obtain ⟨_, _, e, hs, _⟩ := HOWN.out.shape; injection e with e _ _; rw [e]; exact hs
        have HSP := hid hsp
        have HF := hid (And.intro hn (And.intro hf (And.intro hflen (And.intro hcl (And.intro e1 e2)))))
        clear hn hf hflen hcl e1 e2 hsp
        have one1 : ∀ (n : Nat) (l : List (List Value)), True := fun _ _ => trivial
        go_wp2_with (at_builtin; go_must (refine wpList_appendR rfl _ _ 28 rfl 31 _ 9 120 Tryd.underlying28 infoVal rfl (by decide) (wr.heap.size + 1) 0 0 [] rfl ?_ (cutA (some ⟨g, 0, none⟩) f c2 9) (K - f) (c2 - f) (css.drop f).flatten rfl (by rw [← HF.out.2.2.2.2.1]; exact (HSP.out.kept (((Kp.refl _ _).alloc _).alloc _)).cutN f 9 (by rw [HF.out.2.2.1]; exact Nat.mul_le_mul_right 9 hc2)) ?_ ?_ ?_ ?_ ?_))
        · exact own_empty _ (by simp)
        · rw [← HF.out.2.2.2.2.1, List.length_drop, HF.out.2.2.1, Nat.sub_mul]
        · exact flat_one HA.out.trees f
        · omega
        · omega
        intro g1 c1 w2 ho1 hk1 hg1
        have hk2 : Kp [] wr w2 := (((Kp.refl _ _).alloc _).alloc _).fresh hk1 (Nat.le_succ _)
        have D1 := ((Cells.fresh wr 31 [.int .i64 6, .int .u64 (x.mask : Int), .bool false, .string ⟨#[]⟩, .int .i64 0, .string ⟨#[]⟩, .slice none 0 0, .slice none 0 0, .int .i64 0]).alloc (.cells #[] 31)).keep hk1 (by simp)
        have d7 := D1.cell 7
        have f7 := D1.free 7
        have hgs : wr.heap.size + 1 ≤ g1 := by rcases hg1 with e | e <;> omega
        have Ho1 := hid (And.intro ho1 (And.intro hk2 hgs))
        have HD1 := hid D1
        clear ho1 hk1 hg1 hk2 hgs D1
        go_wp2_with (at_builtin; go_must (refine wpList_appendR rfl _ _ 28 rfl 31 _ 9 120 Tryd.underlying28 infoVal rfl (by decide) _ 0 0 [] rfl ?_ (some ⟨g, 0, none⟩) f c2 (css.take f).flatten rfl (by rw [← HF.out.2.2.2.2.2]; exact (HSP.out.kept ((kp_put Ho1.out.2.1 _ _ (.inl (Nat.le_refl _)) _).alloc _)).take _) ?_ ?_ ?_ ?_ ?_))
        · exact own_empty _ (by simp)
        · rw [← HF.out.2.2.2.2.2, List.length_take, HF.out.2.2.1, Nat.min_eq_left (Nat.mul_le_mul_right 9 hfK)]
        · exact flat_one2 HA.out.trees f
        · omega
        · omega
        intro g4 c4 w4 ho4 hk4 hg4
        have hkk4 : Kp [wr.heap.size] w2 w4 := ((kp_put (Kp.refl _ _) _ _ (.inr (by simp)) _).alloc _).fresh hk4 (by simp)
        have hgs4 : w2.heap.size ≤ g4 := by rcases hg4 with e | e <;> omega
        have D4 := (((HD1.out.put 7 (Value.slice (some ⟨g1, 0, none⟩) (K - f) c1)).alloc (.cells #[] 31)).keep hk4 (by have := HD1.out.lt; simp; omega))
        simp only [List.set_cons_zero, List.set_cons_succ] at D4
        have hkr4 : Kp [] wr w4 := Ho1.out.2.1.fresh hkk4 (Nat.le_refl _)
        have HP := hid (And.intro hkk4 (And.intro hgs4 (And.intro ho4 hkr4)))
        clear ho4 hk4 hg4 hkk4 hgs4 d7 f7 hkr4
        have d0 := D4.cell 0
        have d1 := D4.cell 1
        have d2 := D4.cell 2
        have d3 := D4.cell 3
        have d4 := D4.cell 4
        have d5 := D4.cell 5
        have d6 := D4.cell 6
        have d7 := D4.cell 7
        have d8 := D4.cell 8
        clear D4
        go_wp2_with (at_builtin; go_must (refine wpList_appendR rfl _ _ 28 rfl 31 _ 9 120 Tryd.underlying28 infoVal rfl (by decide) g4 f c4 (css.take f).flatten rfl (HP.out.2.2.1.kept ((Kp.refl _ _).alloc _)) _ 1 1 _ rfl (Span.of_newAt _ _ _ _ (by simp)) ?_ ?_ ?_ ?_ ?_))
        · rfl
        · (intro u hu; simp only [List.mem_cons, List.not_mem_nil, or_false] at hu; rcases hu with rfl | rfl | rfl | rfl | rfl | rfl | rfl | rfl | rfl <;> rfl)
        · omega
        · omega
        intro g' c' w' ho hk hg
        have HO := hid (And.intro ho (And.intro hk hg))
        clear ho hk hg
        go_wp2_with fail
        go_roundw
        case measure => simp [RowKit.intOf]; omega
        case rel =>
          obtain ⟨ho, hk, hg⟩ := HO.out
          obtain ⟨hkk4, hgs4, ho4, -⟩ := HP.out
          have hvb := Ho1.out.2.2
          obtain ⟨hA4, ⟨ks, hkid, hrep⟩, hg1a, hg1b, hg1c⟩ := HA.out.part (f := f) (by rw [← HKK.out]; exact hfK) Ho1.out.2.1 (by rw [← HKK.out]; exact Ho1.out.1) (by omega) (vb := wr.heap.size) ⟨by omega, Nat.le_refl _⟩ hkk4 ho4 hgs4
          have hdl : (vs.drop f).length = vs.length - f := List.length_drop
          have hrv := many_rep (P := fun x => w1.heap.size ≤ x ∧ x < w4.heap.size ∧ x ≠ g4) 6 x.mask [] (vs.drop f) none 0 g1 c1 ks ⟨Nat.le_refl _, by decide, fun i x h => by cases h⟩ (fun _ h => by cases h) (by rw [hdl]; exact hkid) ⟨hg1a, hg1b, hg1c⟩ hrep
          have hfv : FineV (.mk 6 x.mask none [] [] (vs.drop f) 0) := .mk 6 x.mask none [] [] (vs.drop f) 0 (by decide) HX.out.mask (fun h => by cases h) (fun _ => rfl) ⟨by decide, rfl⟩ (fun _ => rfl) (fun h => by cases h) (fun _ => rfl) (fun _ h => by cases h) List.nodup_nil (fun h => absurd rfl h) (by decide) (fun _ => rfl) (fun h => by cases h) (by rw [hdl, ← HKK.out]; omega)
            (fun i v hv => HA.out.fine v (List.mem_of_mem_drop (List.mem_of_getElem? hv)))
          have hs := HA.out.size
          have hKv := HKK.out
          have hsp := sizes_part vs f
          have hmm := HA.out.many
          have htl : (vs.take f).length = f := by rw [List.length_take, ← HKK.out]; omega
          have hrv2 := hrv
          rw [hdl, ← HKK.out] at hrv2
          have hn := hA4.snoc (j := j) hrv2 hfv (by simp only [sizeV]; omega) (by rw [htl]; omega) ((Kp.refl _ _).alloc _) (by rw [htl]; exact ho) hk (by simpa using hg)
          rw [htl] at hn
          exact ⟨_, _, g', c', j + 1, hn, by go_num, by omega, by omega⟩
      · obtain ⟨k8, hk8, hk88⟩ := and7i x.many
        obtain ⟨n, hn⟩ : ∃ n, n = min k8 K := ⟨_, rfl⟩
        obtain ⟨f, hf⟩ : ∃ f, f = K - n := ⟨_, rfl⟩
        have hmin : min (k8 : Int) (K : Int) = (n : Int) := by omega
        have hwr : IntKind.i64.wrap ((K : Int) - (n : Int)) = (f : Int) := by rw [show (K : Int) - (n : Int) = (f : Int) by omega]; exact IntWalk.i64_in _ (by omega)
        have hfK : f ≤ K := by omega
        have hfc : f ≤ c2 := by omega
        have hKf : K - f ≤ 7 := by omega
        have hflen : css.flatten.length = K * 9 := HOWN.out.length
        have hcl : css.length = K := by rw [HA.out.trees.len, HKK.out]
        have e1 : css.flatten.drop (f * 9) = (css.drop f).flatten := (flat_drop css HA.out.trees.nine f).symm
        have e2 : css.flatten.take (f * 9) = (css.take f).flatten := (flat_take css HA.out.trees.nine f).symm
        have hsp : Span wr (some ⟨g, 0, none⟩) css.flatten := by obtain ⟨_, _, e, hs, _⟩ := HOWN.out.shape; injection e with e _ _; rw [e]; exact hs
        have HSP := hid hsp
        have HF := hid (And.intro hn (And.intro hf (And.intro hflen (And.intro hcl (And.intro e1 e2)))))
        clear hn hf hflen hcl e1 e2 hsp
        have one1 : ∀ (n : Nat) (l : List (List Value)), True := fun _ _ => trivial
        go_wp2_with (at_builtin; go_must (refine wpList_appendR rfl _ _ 28 rfl 31 _ 9 120 Tryd.underlying28 infoVal rfl (by decide) (wr.heap.size + 1) 0 0 [] rfl ?_ (cutA (some ⟨g, 0, none⟩) f c2 9) (K - f) (c2 - f) (css.drop f).flatten rfl (by rw [← HF.out.2.2.2.2.1]; exact (HSP.out.kept (((Kp.refl _ _).alloc _).alloc _)).cutN f 9 (by rw [HF.out.2.2.1]; exact Nat.mul_le_mul_right 9 hc2)) ?_ ?_ ?_ ?_ ?_))
        · exact own_empty _ (by simp)
        · rw [← HF.out.2.2.2.2.1, List.length_drop, HF.out.2.2.1, Nat.sub_mul]
        · exact flat_one HA.out.trees f
        · omega
        · omega
        intro g1 c1 w2 ho1 hk1 hg1
        have hk2 : Kp [] wr w2 := (((Kp.refl _ _).alloc _).alloc _).fresh hk1 (Nat.le_succ _)
        have D1 := ((Cells.fresh wr 31 [.int .i64 7, .int .u64 (x.mask : Int), .bool false, .string ⟨#[]⟩, .int .i64 0, .string ⟨#[]⟩, .slice none 0 0, .slice none 0 0, .int .i64 0]).alloc (.cells #[] 31)).keep hk1 (by simp)
        have d7 := D1.cell 7
        have f7 := D1.free 7
        have hgs : wr.heap.size + 1 ≤ g1 := by rcases hg1 with e | e <;> omega
        have Ho1 := hid (And.intro ho1 (And.intro hk2 hgs))
        have HD1 := hid D1
        clear ho1 hk1 hg1 hk2 hgs D1
        go_wp2_with (at_builtin; go_must (refine wpList_appendR rfl _ _ 28 rfl 31 _ 9 120 Tryd.underlying28 infoVal rfl (by decide) _ 0 0 [] rfl ?_ (some ⟨g, 0, none⟩) f c2 (css.take f).flatten rfl (by rw [← HF.out.2.2.2.2.2]; exact (HSP.out.kept ((kp_put Ho1.out.2.1 _ _ (.inl (Nat.le_refl _)) _).alloc _)).take _) ?_ ?_ ?_ ?_ ?_))
        · exact own_empty _ (by simp)
        · rw [← HF.out.2.2.2.2.2, List.length_take, HF.out.2.2.1, Nat.min_eq_left (Nat.mul_le_mul_right 9 hfK)]
        · exact flat_one2 HA.out.trees f
        · omega
        · omega
        intro g4 c4 w4 ho4 hk4 hg4
        have hkk4 : Kp [wr.heap.size] w2 w4 := ((kp_put (Kp.refl _ _) _ _ (.inr (by simp)) _).alloc _).fresh hk4 (by simp)
        have hgs4 : w2.heap.size ≤ g4 := by rcases hg4 with e | e <;> omega
        have D4 := (((HD1.out.put 7 (Value.slice (some ⟨g1, 0, none⟩) (K - f) c1)).alloc (.cells #[] 31)).keep hk4 (by have := HD1.out.lt; simp; omega))
        simp only [List.set_cons_zero, List.set_cons_succ] at D4
        have hkr4 : Kp [] wr w4 := Ho1.out.2.1.fresh hkk4 (Nat.le_refl _)
        have HP := hid (And.intro hkk4 (And.intro hgs4 (And.intro ho4 hkr4)))
        clear ho4 hk4 hg4 hkk4 hgs4 d7 f7 hkr4
        have d0 := D4.cell 0
        have d7 := D4.cell 7
        have y5 := HP.out.2.2.2.cell b5 (by simp)
        have b64 := b6.kept HP.out.2.2.2
        have HB6 := hid b64
        have qn := fun W (h : RawsAt W B nb x.keys) => named4_any W B nb x.keys h (K - f) (by omega)
        clear b64
        go_wp2_with fail
        refine lin_start (fun w' => w'.cell? ⟨(ad.add (j * 6)).block, (ad.add (j * 6)).off + 5, none⟩ = some (Value.slice B x.keys.length nb) ∧ w'.cell? ⟨wr.heap.size, 7, none⟩ = some (Value.slice (some ⟨g1, 0, none⟩) (K - f) c1) ∧ Kp [] w4 w') ((Stays.cell _ _).and ((Stays.cell _ _).and ((Stays.kp _ _)))) (by kernel_rfl) ⟨y5, d7, (Kp.refl _ _).drew⟩ (fun hSS hS => ?_)
        refine lin_val (i := 0) (v := ?_) rfl (by kernel_rfl) (by kernel_rfl) (by kernel_rfl) (fun _ _ _ h => h) hSS hS rfl (fun w hSw => ?_) ?_
        rotate_left
        · obtain ⟨q0, q1, q2⟩ := hSw; go_simp; first | done | with_reducible rfl
        simp only [Act.put, List.setIfInBounds_toArray, List.set_cons_zero, List.set_cons_succ]
        refine lin_val (i := 1) (v := ?_) rfl (by kernel_rfl) (by kernel_rfl) (by kernel_rfl) (fun _ _ _ h => h) hSS hS rfl (fun w hSw => ?_) ?_
        rotate_left
        · obtain ⟨q0, q1, q2⟩ := hSw; go_simp; first | done | with_reducible rfl
        simp only [Act.put, List.setIfInBounds_toArray, List.set_cons_zero, List.set_cons_succ]
        refine lin_val (i := 2) (v := ?_) rfl (by kernel_rfl) (by kernel_rfl) (by kernel_rfl) (fun _ _ _ h => h) hSS hS rfl (fun w hSw => ?_) ?_
        rotate_left
        · obtain ⟨q0, q1, q2⟩ := hSw; go_simp; first | done | with_reducible rfl
        simp only [Act.put, List.setIfInBounds_toArray, List.set_cons_zero, List.set_cons_succ]
        refine lin_val (i := 3) (v := ?_) rfl (by kernel_rfl) (by kernel_rfl) (by kernel_rfl) (fun _ _ _ h => h) hSS hS rfl (fun w hSw => ?_) ?_
        rotate_left
        · obtain ⟨q0, q1, q2⟩ := hSw; go_simp; first | done | with_reducible rfl
        simp only [Act.put, List.setIfInBounds_toArray, List.set_cons_zero, List.set_cons_succ]
        refine lin_val (i := 4) (v := ?_) rfl (by kernel_rfl) (by kernel_rfl) (by kernel_rfl) (fun _ _ _ h => h) hSS hS rfl (fun w hSw => ?_) ?_
        rotate_left
        · obtain ⟨q0, q1, q2⟩ := hSw; go_simp; first | done | with_reducible rfl
        simp only [Act.put, List.setIfInBounds_toArray, List.set_cons_zero, List.set_cons_succ]
        refine lin_val (i := 5) (v := ?_) rfl (by kernel_rfl) (by kernel_rfl) (by kernel_rfl) (fun _ _ _ h => h) hSS hS rfl (fun w hSw => ?_) ?_
        rotate_left
        · obtain ⟨q0, q1, q2⟩ := hSw; go_simp; first | done | with_reducible rfl
        simp only [Act.put, List.setIfInBounds_toArray, List.set_cons_zero, List.set_cons_succ]
        refine lin_val (i := 6) (v := ?_) rfl (by kernel_rfl) (by kernel_rfl) (by kernel_rfl) (fun _ _ _ h => h) hSS hS rfl (fun w hSw => ?_) ?_
        rotate_left
        · obtain ⟨q0, q1, q2⟩ := hSw; go_simp; first | done | with_reducible rfl
        simp only [Act.put, List.setIfInBounds_toArray, List.set_cons_zero, List.set_cons_succ]
        refine lin_val (i := 7) (v := ?_) rfl (by kernel_rfl) (by kernel_rfl) (by kernel_rfl) (fun _ _ _ h => h) hSS hS rfl (fun w hSw => ?_) ?_
        rotate_left
        · obtain ⟨q0, q1, q2⟩ := hSw; go_simp; first | done | with_reducible rfl
        simp only [Act.put, List.setIfInBounds_toArray, List.set_cons_zero, List.set_cons_succ]
        refine lin_list (i := 8) (by kernel_rfl) rfl (fun w5 k5 Q2 hQ => ?_)
        go_wp2_with fail
        (with_reducible refine (qn w5 (HB6.out.kept ((((Kp.refl _ _).drew).nil k5)))).mono ?_)
        rintro e w6 ⟨v6, ks6, rfl, hkl, hko, ho6, hn6⟩
        obtain ⟨A6, c6, hv6, hka⟩ := KeysAt.of (v := v6) (ks := ks6) (by rw [hkl]; exact ho6)
        rw [hkl] at hv6
        subst hv6
        have Hkl := hid hkl
        clear hkl
        go_wp2_with fail
        have hk6 : Kp [] w4 w6 := ((Kp.refl [] w4).drew.nil k5).nil hn6.kp
        refine hQ.out _ _ (hSS _ _ hS (k5.nil hn6.kp)) (fun hS6 => ?_)
        clear hQ hS
        try simp only [Act.put, List.setIfInBounds_toArray, List.set_cons_zero, List.set_cons_succ]
        refine lin_val (i := 9) (v := ?_) rfl (by kernel_rfl) (by kernel_rfl) (by kernel_rfl) (fun _ _ _ h => h) hSS hS6 rfl (fun w hSw => ?_) ?_
        rotate_left
        · obtain ⟨q0, q1, q2⟩ := hSw; go_simp; first | done | with_reducible rfl
        try simp only [Act.put, List.setIfInBounds_toArray, List.set_cons_zero, List.set_cons_succ]
        refine lin_listLast (i := 10) (by kernel_rfl) rfl (by kernel_rfl) (fun w7 k7 Q2 hQ => ?_)
        have D7 := D4.keep (hk6.nil k7) (by simp)
        have d6 := D7.cell 6
        have f6 := D7.free 6
        go_wp2_with fail
        refine hQ.out _ _ ?_
        clear hQ hS6 hSS
        have D8 := D7.put 6 (.slice A6 (K - f) c6)
        have hkl := Hkl.out
        simp only [List.set_cons_zero, List.set_cons_succ] at D8
        have hk47 : Kp [] w4 w7 := hk6.nil k7
        have hA6 : ∀ ad, A6 = some ad → w4.heap.size ≤ ad.block ∧ ad.block < w7.heap.size := fun ad e => by
          subst e
          obtain ⟨_, _, e6, _, _, _, hA⟩ := OwnN.shape (s := 1) ho6
          injection e6 with e6
          have h0 := (hA ad e6.symm).2
          have h1 := hn6.blk ad.block h0
          have h2 := Own.lt ho6 ad.block h0
          have h3 := k7.size
          have h4 := k5.size
          simp at h4
          omega
        have d0 := D8.cell 0
        have d1 := D8.cell 1
        have d2 := D8.cell 2
        have d3 := D8.cell 3
        have d4 := D8.cell 4
        have d5 := D8.cell 5
        have d6 := D8.cell 6
        have d7 := D8.cell 7
        have d8 := D8.cell 8
        have hk48 : Kp [wr.heap.size] w4 (w7.setCell ⟨wr.heap.size, 6, none⟩ (.slice A6 (K - f) c6)) := kp_put (hk47.mono (by simp)) _ _ (.inr (by simp)) _
        have HQ := hid (And.intro hka (And.intro hkl (And.intro hko (And.intro hA6 (And.intro hk48 k7)))))
        clear D4 D7 D8 hk6 hk47 ho6 hn6 hka hko k5 k7 y5 qn hkl hA6 hk48
        go_wp2_with (at_builtin; go_must (refine wpList_appendR rfl _ _ 28 rfl 31 _ 9 120 Tryd.underlying28 infoVal rfl (by decide) g4 f c4 (css.take f).flatten rfl ((HP.out.2.2.1.keep HQ.out.2.2.2.2.1 (by have := HP.out.2.1; have := HD1.out.lt; intro g hg; injection hg with hg; subst hg; simp; omega)).kept ((Kp.refl _ _).alloc _)) _ 1 1 _ rfl (Span.of_newAt _ _ _ _ (by simp)) ?_ ?_ ?_ ?_ ?_))
        · rfl
        · (intro u hu; simp only [List.mem_cons, List.not_mem_nil, or_false] at hu; rcases hu with rfl | rfl | rfl | rfl | rfl | rfl | rfl | rfl | rfl <;> rfl)
        · omega
        · omega
        intro g' c' w' ho hk hg
        have HO := hid (And.intro ho (And.intro hk hg))
        clear ho hk hg
        go_wp2_with fail
        go_roundw
        case measure => simp [RowKit.intOf]; omega
        case rel =>
          obtain ⟨ho, hk, hg⟩ := HO.out
          obtain ⟨hkk4, hgs4, ho4, -⟩ := HP.out
          obtain ⟨hka, hkl, hko, hA6, hk48, k7⟩ := HQ.out
          have hvb := Ho1.out.2.2
          have hdlt := HD1.out.lt
          have hw14 := HA.out.kp.size
          have hk28 := hkk4.trans hk48 (fun x hx _ => hx)
          have ho8 := ho4.keep hk48 (by intro g hg; injection hg with hg; subst hg; simp; omega)
          obtain ⟨hA4, ⟨ks, hkid, hrep⟩, hg1a, hg1b, hg1c⟩ := HA.out.part (f := f) (by rw [← HKK.out]; exact hfK) Ho1.out.2.1 (by rw [← HKK.out]; exact Ho1.out.1) (by omega) (vb := wr.heap.size) ⟨by omega, Nat.le_refl _⟩ hk28 ho8 hgs4
          have hdl : (vs.drop f).length = vs.length - f := List.length_drop
          have s48 := hkk4.size
          have s7 : (w7.setCell ⟨wr.heap.size, 6, none⟩ (.slice A6 (K - f) c6)).heap.size = w7.heap.size := by simp [World.setCell]
          have hg4lt := ho4.lt g4 rfl
          have hka8 : KeysAt (w7.setCell ⟨wr.heap.size, 6, none⟩ (.slice A6 (K - f) c6)) A6 c6 ks6 := by
            refine ⟨hka.le, hka.top, fun i x hi => ?_⟩
            obtain ⟨gg, e, hc⟩ := hka.at_ i x hi
            refine ⟨gg, e, (kp_put (S := [wr.heap.size]) (Kp.refl _ w7) wr.heap.size 6 (.inr (by simp)) _).cell (k7.cell hc (by simp)) ?_⟩
            have := (hA6 _ e).1
            simp
            dsimp only at this
            omega
          have hrv := many_rep (P := fun x => w1.heap.size ≤ x ∧ x < (w7.setCell ⟨wr.heap.size, 6, none⟩ (.slice A6 (K - f) c6)).heap.size ∧ x ≠ g4) 7 x.mask ks6 (vs.drop f) A6 c6 g1 c1 ks hka8 (fun ad e => by have := hA6 ad e; rw [s7]; exact ⟨by omega, this.2, by omega⟩) (by rw [hdl]; exact hkid) ⟨hg1a, hg1b, hg1c⟩ hrep
          have hKv := HKK.out
          have hfv : FineV (.mk 7 x.mask none [] ks6 (vs.drop f) 0) := .mk 7 x.mask none [] ks6 (vs.drop f) 0 (by decide) HX.out.mask (fun h => by cases h) (fun _ => rfl) ⟨by decide, rfl⟩ (fun _ => rfl) (fun _ => by rw [hdl, hkl]; omega) (fun h => absurd rfl h) hko.1 hko.2 (fun _ h => absurd rfl h) (by decide) (fun _ => rfl) (fun h => by cases h) (by rw [hdl, ← HKK.out]; omega)
            (fun i v hv => HA.out.fine v (List.mem_of_mem_drop (List.mem_of_getElem? hv)))
          have hs := HA.out.size
          have hsp := sizes_part vs f
          have hmm := HA.out.many
          have htl : (vs.take f).length = f := by rw [List.length_take, ← HKK.out]; omega
          have hrv2 := hrv
          rw [hdl, ← HKK.out, hkl] at hrv2
          have hn := hA4.snoc (j := j) hrv2 hfv (by simp only [sizeV]; omega) (by rw [htl]; omega) ((Kp.refl _ _).alloc _) (by rw [htl]; exact ho) hk (by simpa using hg)
          rw [htl] at hn
          exact ⟨_, _, g', c', j + 1, hn, by go_num, by omega, by omega⟩
      focus
        have HV : Hid (∃ v, FineV v ∧ sizeV v = 1 ∧ ∀ W P, RepS W P v [.int .i64 8, .int .u64 (x.mask : Int), .bool false, .string ⟨#[]⟩, .int .i64 0, .string ⟨#[]⟩, .slice none 0 0, .slice none 0 0, .int .i64 40]) :=
          hid ⟨.mk 8 x.mask none [] [] [] 40, one_fine 8 x.mask none [] 40 (by decide) (by decide) HX.out.mask (fun h => by cases h) (fun _ => rfl) ⟨by decide, rfl⟩ (fun _ => rfl) (by decide) (fun h => absurd rfl h) (fun _ h => by cases h), one_size _ _ _ _ _ _, fun W P => one_rep W P 8 x.mask none [] 40⟩

      rotate_left 1
      focus
        have HV : Hid (∃ v, FineV v ∧ sizeV v = 1 ∧ ∀ W P, RepS W P v [.int .i64 1, .int .u64 (x.mask : Int), .bool false, .string ⟨#[]⟩, .int .i64 0, .string ⟨#[]⟩, .slice none 0 0, .slice none 0 0, .int .i64 0]) :=
          hid ⟨.mk 1 x.mask none [] [] [] 0, one_fine 1 x.mask none [] 0 (by decide) (by decide) HX.out.mask (fun h => by cases h) (fun _ => rfl) ⟨by decide, rfl⟩ (fun _ => rfl) (by decide) (fun _ => rfl) (fun h => by cases h), one_size _ _ _ _ _ _, fun W P => one_rep W P 1 x.mask none [] 0⟩

      rotate_left 1
      focus
        have HV : Hid (∃ v, FineV v ∧ sizeV v = 1 ∧ ∀ W P, RepS W P v [.int .i64 2, .int .u64 (x.mask : Int), .bool false, .string ⟨#[]⟩, .int .i64 0, .string ⟨#[]⟩, .slice none 0 0, .slice none 0 0, .int .i64 0]) :=
          hid ⟨.mk 2 x.mask none [] [] [] 0, one_fine 2 x.mask none [] 0 (by decide) (by decide) HX.out.mask (fun h => by cases h) (fun _ => rfl) ⟨by decide, rfl⟩ (fun _ => rfl) (by decide) (fun _ => rfl) (fun h => by cases h), one_size _ _ _ _ _ _, fun W P => one_rep W P 2 x.mask none [] 0⟩

      rotate_left 1
      focus
        have HV : Hid (∃ v, FineV v ∧ sizeV v = 1 ∧ ∀ W P, RepS W P v [.int .i64 3, .int .u64 (x.mask : Int), .bool false, .string ⟨#[]⟩, .int .i64 0, .string ⟨#[]⟩, .slice none 0 0, .slice none 0 0, .int .i64 0]) :=
          hid ⟨.mk 3 x.mask none [] [] [] 0, one_fine 3 x.mask none [] 0 (by decide) (by decide) HX.out.mask (fun h => by cases h) (fun _ => rfl) ⟨by decide, rfl⟩ (fun _ => rfl) (by decide) (fun _ => rfl) (fun h => by cases h), one_size _ _ _ _ _ _, fun W P => one_rep W P 3 x.mask none [] 0⟩

      all_goals
        go_wp2_with (at_builtin; go_must (refine wpList_appendR rfl _ _ 28 rfl 31 _ 9 120 Tryd.underlying28 infoVal rfl (by decide) g K c2 css.flatten rfl (HOWN.out.kept (((Kp.refl _ _).alloc _).alloc _)) _ 1 1 _ rfl (Span.of_new1 _ _ _ _ _) ?_ ?_ ?_ ?_ ?_))
      all_goals first | rfl | (intro u hu; simp only [List.mem_cons, List.not_mem_nil, or_false] at hu; rcases hu with rfl | rfl | rfl | rfl | rfl | rfl | rfl | rfl | rfl <;> rfl) | omega | skip
      all_goals
        intro g' c' w' ho hk hg
        have HO := hid (And.intro ho (And.intro hk hg))
        clear ho hk hg
        go_wp2_with fail
      all_goals
        go_roundw
      all_goals first
        | (simp [RowKit.intOf]; omega)
        | (obtain ⟨v, h1, h2, h3⟩ := HV.out
           obtain ⟨ho, hk, hg⟩ := HO.out
           have hs := HA.out.size
           have hmm := HA.out.many
           have hn := HA.out.snoc (j := j) (h3 wr _) h1 (by omega) hmm (((Kp.refl _ _).alloc _).alloc _) (by rw [← HKK.out]; exact ho) hk (by simpa using hg)
           rw [← HKK.out] at hn
           exact ⟨_, _, g', c', j + 1, hn, by go_num, by omega, by omega⟩)
    · by_cases hK0 : K = 0
      · subst hK0
        have hkr : Kp [] w wr := HK1.out.1.nil HA.out.kp
        have HKR := hid hkr
        have hroom := HROOM.out.kept HA.out.kp
        obtain ⟨a0, a1, a2, a3, a4, a5, a6, a7, a8, ⟨r0, r1, r2, r3, r4, r5, r6, r7, r8⟩, ⟨f0, f1, f2, f3, f4, f5, f6, f7, f8⟩⟩ := hroom.cells
        clear hkr hroom
        rcases (show ¬ j < N ∨ (j < N ∧ ¬ j < 80) by omega) with hx | ⟨hx, hx2⟩
        focus
          have z2 : decide ((j : Int) < (N : Int)) = false := decide_eq_false (by omega)
          have z2n : decide (j < N) = false := decide_eq_false hx
          have z3 : True := trivial
          have z3n : True := trivial
        rotate_left
        focus
          have z2 : decide ((j : Int) < (N : Int)) = true := decide_eq_true (by omega)
          have z2n : decide (j < N) = true := decide_eq_true hx
          have z3 : decide ((j : Int) < 80) = false := decide_eq_false (by omega)
          have z3n : decide (j < 80) = false := decide_eq_false hx2
        all_goals
          go_wp2_with fail
        all_goals
          exact bodyPost_ret (v := .agg #[.int .i64 1, .int .u64 0, .bool false, .string ⟨#[]⟩, .int .i64 0, .string ⟨#[]⟩, .slice none 0 0, .slice none 0 0, .int .i64 0]) (by simp [results, Tryd.results12, go_sem, r0, r1, r2, r3, r4, r5, r6, r7, r8]) rfl
            (built_end HKR.out HK1.out.2 (P := fun _ => False) (fun x hx => hx.elim) (one_rep wr _ 1 0 none [] 0) (one_fine 1 0 none [] 0 (by decide) (by decide) (by decide) (fun h => by cases h) (fun _ => rfl) ⟨by decide, rfl⟩ (fun _ => rfl) (by decide) (fun _ => rfl) (fun h => by cases h)) (by rw [one_size]; decide) _ _ _ _ _ _ _ _ _)
      · have z1 : ((K : Int) == 0) = false := by rw [beq_eq_false_iff_ne]; omega
        obtain ⟨v, hv⟩ : ∃ v, vs[K - 1]? = some v := ⟨_, List.getElem?_eq_getElem (by rw [← HKK.out]; omega)⟩
        obtain ⟨cs, hcs⟩ : ∃ cs, css[K - 1]? = some cs := ⟨_, List.getElem?_eq_getElem (by rw [HA.out.trees.len, ← HKK.out]; omega)⟩
        have hrep := HA.out.trees.rep _ v cs hv hcs
        have hkids := (HA.out.trees.kids HA.out.own).1.at_ (K - 1) (by rw [← HKK.out]; omega)
        rw [hcs] at hkids
        obtain ⟨gg, eg, hcell⟩ := hkids
        injection eg with eg
        injection eg with eg
        subst eg
        have hfv := HA.out.fine v (at_mem hv)
        have hsv := size_at vs (K - 1) v hv
        have hroom := HROOM.out.kept HA.out.kp
        have HF := hid (And.intro hfv (And.intro hsv hrep))
        obtain ⟨a0, a1, a2, a3, a4, a5, a6, a7, a8, ⟨r0, r1, r2, r3, r4, r5, r6, r7, r8⟩, ⟨f0, f1, f2, f3, f4, f5, f6, f7, f8⟩⟩ := hroom.cells
        have hkr : Kp [] w wr := HK1.out.1.nil HA.out.kp
        have HKR := hid hkr
        have zK : (((K : Int) - 1)) = ((K - 1 : Nat) : Int) := by omega
        have zK1 : (K - 1) < K := by omega
        obtain ⟨M, hM⟩ : ∃ M, M = K - 1 := ⟨_, rfl⟩
        simp only [← hM] at hcell zK zK1
        have hwrap : IntKind.i64.wrap ((K : Int) - 1) = (M : Int) := by rw [zK]; exact IntWalk.i64_in _ (by omega)
        generalize hcsg : cs = cs' at *
        clear hcsg
        have hrep2 := hrep
        cases hrep with
        | mk k3 m3 num3 t3 keys3 kids3 code3 A3 ck3 B3 cb3 ks3 _ _ _ _ _ =>
          unfold vC at hcell
          have c0 := hcell 0 _ rfl
          have c1 := hcell 1 _ rfl
          have c2 := hcell 2 _ rfl
          have c3 := hcell 3 _ rfl
          have c4 := hcell 4 _ rfl
          have c5 := hcell 5 _ rfl
          have c6 := hcell 6 _ rfl
          have c7 := hcell 7 _ rfl
          have c8 := hcell 8 _ rfl
          simp only [Nat.add_zero] at c0
          have e9 : M * 9 = 9 * M := Nat.mul_comm _ _
          clear hrep2 hfv hsv hkr hv hcs hM zK hcell
          rcases (show ¬ j < N ∨ (j < N ∧ ¬ j < 80) by omega) with hx | ⟨hx, hx2⟩
          focus
            have z2 : decide ((j : Int) < (N : Int)) = false := decide_eq_false (by omega)
            have z2n : decide (j < N) = false := decide_eq_false hx
            have z3 : True := trivial
            have z3n : True := trivial
          rotate_left
          focus
            have z2 : decide ((j : Int) < (N : Int)) = true := decide_eq_true (by omega)
            have z2n : decide (j < N) = true := decide_eq_true hx
            have z3 : decide ((j : Int) < 80) = false := decide_eq_false (by omega)
            have z3n : decide (j < 80) = false := decide_eq_false hx2
          all_goals
            go_wp2_with fail
          all_goals
            exact bodyPost_ret (v := .agg #[.int .i64 (k3 : Int), .int .u64 (m3 : Int), .bool (vN num3), .string ⟨(vD num3).toArray⟩, .int .i64 (vS num3), .string ⟨t3.toArray⟩, .slice A3 keys3.length ck3, .slice B3 kids3.length cb3, .int .i64 (code3 : Int)])
              (by simp [results, Tryd.results12, go_sem, r0, r1, r2, r3, r4, r5, r6, r7, r8]) rfl (built_end HKR.out HK1.out.2 (fun x hx => ⟨hx.1, hx.2.1⟩) HF.out.2.2 HF.out.1 (by have h1 := HF.out.2.1; have h2 := HA.out.size; omega) _ _ _ _ _ _ _ _ _)
end Go.Proofs.YtpeldjihalldkaaDoor
