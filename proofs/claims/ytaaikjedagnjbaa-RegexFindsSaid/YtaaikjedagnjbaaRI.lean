/- Small functions of the document's answer for layer 12. -/
import Derived.Test.YtaaikjedagnjbaaRH
import Derived.BigQuiet
import Derived.Test.YtaaikjedagnjbaaGRefParts
import Derived.Test.YtaaikjedagnjbaaGRowLaw
namespace Go.Proofs.Ytaaikjedagnjbaa
open Go Go.RowKit Go.Lib

def orL (X Y : List Bool) : List Bool := List.zipWith (fun a b => a || b) X Y
theorem orL_len {X Y : List Bool} (h : X.length = Y.length) : (orL X Y).length = X.length := by unfold orL; rw [List.length_zipWith]; omega
theorem orL_at {X Y : List Bool} {i : Nat} {a b : Bool} (h : X[i]? = some a) (h' : Y[i]? = some b) : (orL X Y)[i]? = some (a || b) := by
  unfold orL
  rw [List.getElem?_zipWith, h, h']
set_option maxRecDepth 100000 in
set_option maxHeartbeats 3200000 in
theorem union_any (w : World) (n : Nat) (hn2 : n ≤ 100000) (X Y : List Bool) (hX : X.length = n) (hY : Y.length = n) (A B : Option Addr) (c d : Nat) (sA : Span w A (bools X)) (sB : Span w B (bools Y)) (hc : n ≤ c) (hd : n ≤ d) :
    Calls Try.prog 43 #[.slice A n c, .slice B n d] w fun e w' => (∃ g, e = .returned (.slice (some ⟨g, 0, none⟩) n n) ∧ Cells w' g 4 (bools (orL X Y))) ∧ Kp [] w w' := by
  have HX := hid (And.intro hX (And.intro hY (And.intro sA sB)))
  clear hX hY sA sB
  go_enter Try.func43, Try.ntmps43
  go_wp2_with (at_make; go_must (refine wpList_make1 rfl _ _ 55 rfl 4 (.bool false) 1 Try.underlying55 boolInfo rfl .i64 .i64 (n : Int) (n : Int) n rfl rfl rfl rfl (by omega) (by omega) ?_))
  intro w1 Z hZ c1 k1
  obtain ⟨g, hg⟩ : ∃ g, g = w.heap.size := ⟨_, rfl⟩
  rw [← hg] at c1 ⊢
  have hc1 : Cells w1 g 4 (List.replicate n (.bool false)) := by rw [← hZ.out]; exact c1
  have H0 : Hid (Cells w1 g 4 (bools ((orL X Y).take 0 ++ List.replicate (n - 0) false)) ∧ Kp [] w w1 ∧ w.heap.size ≤ g) := hid ⟨by simpa [bools] using hc1, k1, by rw [hg]; exact Nat.le_refl _⟩
  clear hZ c1 hc1 k1 hg
  go_wp2_with fail
  go_loopg [6] n (fun gg v6 wx => ∃ i : Nat, v6 = .int .i64 (i : Int) ∧ i + gg = n ∧ Kp [g] w1 wx ∧ Cells wx g 4 (bools ((orL X Y).take i ++ List.replicate (n - i) false)))
  case atStart => exact ⟨0, rfl, by omega, Kp.refl _ _, H0.out.1⟩
  case round =>
    obtain ⟨i, rfl, hig, kx, cx⟩ := hrel
    by_cases hi : i < n
    · have b0 : decide ((i : Int) < (n : Int)) = true := decide_eq_true (by omega)
      have b1 : (i : Int) < (n : Int) := by omega
      have b2 : decide (i < n) = true := decide_eq_true hi
      have iw : IntKind.i64.wrap ((i : Int) + 1) = (i : Int) + 1 := IntWalk.i64_in _ (by omega)
      obtain ⟨hX, hY, sA, sB⟩ := HX.out
      obtain ⟨x, hx⟩ : ∃ x, X[i]? = some x := ⟨_, List.getElem?_eq_getElem (by omega)⟩
      obtain ⟨y, hy⟩ : ∃ y, Y[i]? = some y := ⟨_, List.getElem?_eq_getElem (by omega)⟩
      have kwx : Kp [] w wr := H0.out.2.1.fresh kx H0.out.2.2
      obtain ⟨A0, rfl, ya⟩ := (sA.kept kwx) i _ (bools_at hx)
      obtain ⟨B0, rfl, yb⟩ := (sB.kept kwx) i _ (bools_at hy)
      have fr := cx.free i
      have hz := orL_at hx hy
      have yc : wr.cell? ⟨g, i, none⟩ = some (.bool false) := by
        rw [cx.cell i]
        have hl := orL_len (X := X) (Y := Y) (by omega)
        exact bools_at (by rw [List.getElem?_append_right (by rw [List.length_take]; omega), List.length_take, List.getElem?_replicate, if_pos (by omega)])
      obtain ⟨z, hzz⟩ : ∃ z, z = (x || y) := ⟨_, rfl⟩
      rw [← hzz] at hz
      obtain ⟨w2, hw2⟩ : ∃ w2, w2 = wr.setCell ⟨g, i, none⟩ (.bool z) := ⟨_, rfl⟩
      have hbl : (bools ((orL X Y).take i ++ List.replicate (n - i) false)).set i (.bool z) = bools ((orL X Y).take (i + 1) ++ List.replicate (n - (i + 1)) false) := by
        rw [bools_set]
        have hl := orL_len (X := X) (Y := Y) (by omega)
        congr 1
        refine List.ext_getElem? fun j => ?_
        rw [List.getElem?_set]
        rcases Nat.lt_trichotomy j i with h | h | h
        · rw [if_neg (by omega), List.getElem?_append_left (by rw [List.length_take]; omega), List.getElem?_append_left (by rw [List.length_take]; omega), List.getElem?_take, List.getElem?_take, if_pos h, if_pos (by omega)]
        · subst h
          rw [if_pos rfl, if_pos (by rw [List.length_append, List.length_take, List.length_replicate]; omega), List.getElem?_append_left (by rw [List.length_take]; omega), List.getElem?_take, if_pos (by omega), hz]
        · rw [if_neg (by omega), List.getElem?_append_right (by rw [List.length_take]; omega), List.getElem?_append_right (by rw [List.length_take]; omega), List.length_take, List.length_take, List.getElem?_replicate, List.getElem?_replicate]
          by_cases hj : j < n
          · rw [if_pos (by omega), if_pos (by omega)]
          · rw [if_neg (by omega), if_neg (by omega)]
      have H2 : Hid (Kp [g] w1 w2 ∧ Cells w2 g 4 (bools ((orL X Y).take (i + 1) ++ List.replicate (n - (i + 1)) false))) := hid ⟨by rw [hw2]; exact kx.setCell (fun _ => by simp) _, by rw [hw2, ← hbl]; exact cx.put i _⟩
      have HW := hid hw2
      clear hz hbl cx kx kwx hw2 hX hY sA sB hx hy
      cases x with
      | true =>
        obtain rfl : z = true := by simpa using hzz
        clear hzz
        go_wp2_with fail
        rw [← HW.out]
        go_roundg (gk - 1)
        case measure => omega
        case rel => exact ⟨i + 1, rfl, by omega, H2.out.1, H2.out.2⟩
      | false =>
        obtain rfl : z = y := by simpa using hzz
        clear hzz
        go_wp2_with fail
        rw [← HW.out]
        go_roundg (gk - 1)
        case measure => omega
        case rel => exact ⟨i + 1, rfl, by omega, H2.out.1, H2.out.2⟩
    · have b0 : decide ((i : Int) < (n : Int)) = false := decide_eq_false (by omega)
      have b1 : ¬ (i : Int) < (n : Int) := by omega
      obtain rfl : n = i := by omega
      have HC := hid (And.intro kx cx)
      clear kx cx
      go_wp2_with fail
      go_ret
      refine ⟨⟨g, rfl, ?_⟩, H0.out.2.1.fresh HC.out.1 H0.out.2.2⟩
      have h := HC.out.2
      rw [Nat.sub_self, List.replicate_zero, List.append_nil, List.take_of_length_le (by rw [orL_len (by have := HX.out; omega)]; have := HX.out; omega)] at h
      exact h
/-- Whether there is a place among X that is none of Y. -/
def newB (X Y : List Bool) : Bool := (List.zipWith (fun a b => a && !b) X Y).any id
theorem newB_false {X Y : List Bool} : newB X Y = false ↔ ∀ i : Nat, X[i]? = some true → Y[i]? ≠ some false := by
  unfold newB
  rw [List.any_eq_false]
  constructor
  · intro h i hx hy
    have hm : true ∈ List.zipWith (fun a b => a && !b) X Y := List.mem_of_getElem? (i := i) (by rw [List.getElem?_zipWith, hx, hy]; rfl)
    exact h true hm rfl
  · intro h z hz hzt
    obtain ⟨i, hi⟩ := List.mem_iff_getElem?.1 hz
    rw [List.getElem?_zipWith] at hi
    cases hx : X[i]? with
    | none => rw [hx] at hi; cases hi
    | some x => cases hy : Y[i]? with
      | none => rw [hx, hy] at hi; cases hi
      | some y =>
        rw [hx, hy] at hi
        have hi : some (x && !y) = some z := hi
        injection hi with hi
        subst hi
        cases x <;> cases y <;> first | (cases hzt; done) | exact h i hx hy
set_option maxRecDepth 100000 in
set_option maxHeartbeats 3200000 in
theorem some_any (w : World) (n : Nat) (hn2 : n ≤ 100000) (X Y : List Bool) (hX : X.length = n) (hY : Y.length = n) (A B : Option Addr) (c d : Nat) (sA : Span w A (bools X)) (sB : Span w B (bools Y)) :
    Calls Try.prog 44 #[.slice A n c, .slice B n d] w fun e w' => e = .returned (.bool (newB X Y)) ∧ w' = w := by
  have HX := hid (And.intro hX (And.intro hY (And.intro sA sB)))
  clear hX hY sA sB
  go_enter Try.func44, Try.ntmps44
  go_wp2_with fail
  go_loopg [5] n (fun gg v5 wx => wx = w ∧ ∃ i : Nat, v5 = .int .i64 (i : Int) ∧ i + gg = n ∧ ∀ j, j < i → X[j]? = some true → Y[j]? ≠ some false)
  case atStart => exact ⟨rfl, 0, rfl, by omega, fun j h => by omega⟩
  case round =>
    obtain ⟨hw, i, rfl, hig, hN⟩ := hrel
    have hw2 := hw.symm
    subst hw2
    have HN := hid hN
    clear hw hN
    by_cases hi : i < n
    · have b0 : decide ((i : Int) < (n : Int)) = true := decide_eq_true (by omega)
      have b1 : (i : Int) < (n : Int) := by omega
      have b2 : decide (i < n) = true := decide_eq_true hi
      have iw : IntKind.i64.wrap ((i : Int) + 1) = (i : Int) + 1 := IntWalk.i64_in _ (by omega)
      obtain ⟨hX, hY, sA, sB⟩ := HX.out
      obtain ⟨x, hx⟩ : ∃ x, X[i]? = some x := ⟨_, List.getElem?_eq_getElem (by omega)⟩
      obtain ⟨y, hy⟩ : ∃ y, Y[i]? = some y := ⟨_, List.getElem?_eq_getElem (by omega)⟩
      obtain ⟨A0, rfl, ya⟩ := sA i _ (bools_at hx)
      obtain ⟨B0, rfl, yb⟩ := sB i _ (bools_at hy)
      have HXY := hid (And.intro hx hy)
      clear hX hY sA sB hx hy
      have hst : ¬ (x = true ∧ y = false) → ∀ j, j < i + 1 → X[j]? = some true → Y[j]? ≠ some false := fun h0 j hj h1 h2 => by
        rcases Nat.lt_or_ge j i with h | h
        · exact HN.out j h h1 h2
        · obtain rfl : j = i := by omega
          rw [HXY.out.1] at h1
          rw [HXY.out.2] at h2
          injection h1 with h1
          injection h2 with h2
          exact h0 ⟨h1, h2⟩
      have HST := hid hst
      clear hst
      cases x with
      | false =>
        go_wp2_with fail
        go_roundg (gk - 1)
        case measure => omega
        case rel => exact ⟨rfl, i + 1, rfl, by omega, HST.out (by simp)⟩
      | true =>
        cases y with
        | true =>
          go_wp2_with fail
          go_roundg (gk - 1)
          case measure => omega
          case rel => exact ⟨rfl, i + 1, rfl, by omega, HST.out (by simp)⟩
        | false =>
          have hnb : newB X Y = true := by
            cases h : newB X Y
            · exact absurd HXY.out.2 (newB_false.1 h i HXY.out.1)
            · rfl
          have HNB := hid hnb
          clear hnb
          go_wp2_with fail
          go_ret
          exact ⟨by rw [HNB.out]; rfl, rfl⟩
    · have b0 : decide ((i : Int) < (n : Int)) = false := decide_eq_false (by omega)
      have b1 : ¬ (i : Int) < (n : Int) := by omega
      have hnb : newB X Y = false := newB_false.2 fun j h1 => HN.out j (by have := (List.getElem?_eq_some_iff.1 h1).1; have := HX.out.1; omega) h1
      have HNB := hid hnb
      clear hnb
      go_wp2_with fail
      go_ret
      exact ⟨by rw [HNB.out]; rfl, rfl⟩
/-- A rune is one of a text's bytes. -/
def amongB (s : ByteArray) (c : Int) : Bool := s.data.toList.any fun b => decide ((b.toNat : Int) = c)
set_option maxRecDepth 100000 in
set_option maxHeartbeats 3200000 in
theorem among_any (w : World) (c : Int) (s : ByteArray) (hs : s.size ≤ 100) :
    Calls Try.prog 47 #[.int .i64 c, .string s] w fun e w' => e = .returned (.bool (amongB s c)) ∧ w' = w := by
  go_enter Try.func47, Try.ntmps47
  go_wp2_with fail
  go_loopg [5] s.size (fun gg v5 wx => wx = w ∧ ∃ i : Nat, v5 = .int .i64 (i : Int) ∧ i + gg = s.size ∧ ∀ (j : Nat) b, j < i → s.data.toList[j]? = some b → ¬ (b.toNat : Int) = c)
  case atStart => exact ⟨rfl, 0, rfl, by omega, fun j b h => by omega⟩
  case round =>
    obtain ⟨hw, i, rfl, hig, hN⟩ := hrel
    have hw2 := hw.symm
    subst hw2
    have HN := hid hN
    clear hw hN
    by_cases hi : i < s.size
    · have b0 : decide ((i : Int) < (s.size : Int)) = true := decide_eq_true (by omega)
      have b1 : (i : Int) < (s.size : Int) := by omega
      have iw : IntKind.i64.wrap ((i : Int) + 1) = (i : Int) + 1 := IntWalk.i64_in _ (by omega)
      have hat : s.data.toList[i]? = some (s[i]'hi) := List.getElem?_eq_getElem hi
      have hy256 : (s[i]'hi).toNat < 256 := UInt8.toNat_lt _
      have iv : IntKind.i64.wrap ((s[i]'hi).toNat : Int) = ((s[i]'hi).toNat : Int) := IntWalk.i64_in _ (by omega)
      have HAT := hid hat
      clear hat hy256
      by_cases hc : ((s[i]'hi).toNat : Int) = c
      · have c0 : (((s[i]'hi).toNat : Int) == c) = true := beq_iff_eq.2 hc
        have HAN : Hid (amongB s c = true) := hid (List.any_eq_true.2 ⟨_, List.mem_of_getElem? HAT.out, decide_eq_true hc⟩)
        clear hc
        go_wp2_with fail
        go_ret
        exact ⟨by rw [HAN.out]; rfl, rfl⟩
      · have c0 : (((s[i]'hi).toNat : Int) == c) = false := beq_eq_false_iff_ne.2 hc
        have HC := hid hc
        clear hc
        go_wp2_with fail
        go_roundg (gk - 1)
        case measure => omega
        case rel =>
          refine ⟨rfl, i + 1, rfl, by omega, fun j b hj hb => ?_⟩
          rcases Nat.lt_or_ge j i with h | h
          · exact HN.out j b h hb
          · obtain rfl : j = i := by omega
            rw [HAT.out] at hb
            injection hb with hb
            rw [← hb]
            exact HC.out
    · have b0 : decide ((i : Int) < (s.size : Int)) = false := decide_eq_false (by omega)
      have b1 : ¬ (i : Int) < (s.size : Int) := by omega
      have HAN : Hid (amongB s c = false) := hid (List.any_eq_false.2 fun b hb h => by
        obtain ⟨j, hj⟩ := List.mem_iff_getElem?.1 hb
        have hl : j < s.size := (List.getElem?_eq_some_iff.1 hj).1
        exact HN.out j b (by omega) hj (of_decide_eq_true h))
      go_wp2_with fail
      go_ret
      exact ⟨by rw [HAN.out]; rfl, rfl⟩
/-- A rune behind a backslash, as a number. -/
def escI (c : Nat) : Int := match escR c with | none => -1 | some x => (x : Int)
set_option maxRecDepth 100000 in
set_option maxHeartbeats 6400000 in
theorem escd_any (w : World) (c : Nat) (hc : c ≤ 2000000) : Calls Try.prog 54 #[.int .i64 (c : Int)] w fun e w' => e = .returned (.int .i64 (escI c)) ∧ w' = w := by
  have hr : (0 ≤ c ∧ c ≤ 32) ∨ (33 ≤ c ∧ c ≤ 47) ∨ (48 ≤ c ∧ c ≤ 57) ∨ (58 ≤ c ∧ c ≤ 64) ∨ (65 ≤ c ∧ c ≤ 90) ∨ (91 ≤ c ∧ c ≤ 96) ∨ (97 ≤ c ∧ c ≤ 109) ∨ (110 ≤ c ∧ c ≤ 110) ∨ (111 ≤ c ∧ c ≤ 115) ∨ (116 ≤ c ∧ c ≤ 116) ∨ (117 ≤ c ∧ c ≤ 122) ∨ (123 ≤ c ∧ c ≤ 126) ∨ (127 ≤ c ∧ c ≤ 2000000) := by omega
  go_enter Try.func54, Try.ntmps54
  rcases hr with hr | hr | hr | hr | hr | hr | hr | hr | hr | hr | hr | hr | hr
  · have he : escI c = -1 := by unfold escI escR; rw [if_neg (by omega), if_neg (by omega), if_pos (by omega)]
    have HE := hid he
    clear he
    have e0 : ((c : Int) == 110) = false := beq_eq_false_iff_ne.2 (by omega)
    have e1 : ((c : Int) == 116) = false := beq_eq_false_iff_ne.2 (by omega)
    have d1 : decide ((c : Int) < 33) = true := decide_eq_true (by omega)
    have d2 : decide ((126 : Int) < (c : Int)) = false := decide_eq_false (by omega)
    have d3 : decide ((48 : Int) ≤ (c : Int)) = false := decide_eq_false (by omega)
    have d4 : decide ((c : Int) ≤ 57) = true := decide_eq_true (by omega)
    have d5 : decide ((97 : Int) ≤ (c : Int)) = false := decide_eq_false (by omega)
    have d6 : decide ((c : Int) ≤ 122) = true := decide_eq_true (by omega)
    have d7 : decide ((65 : Int) ≤ (c : Int)) = false := decide_eq_false (by omega)
    have d8 : decide ((c : Int) ≤ 90) = true := decide_eq_true (by omega)
    clear hr
    go_wp2_with fail
    go_ret
    exact ⟨by rw [HE.out]; rfl, rfl⟩
  · have hi : inR [(48, 57), (97, 122), (65, 90)] c = false := by
      cases hx : inR [(48, 57), (97, 122), (65, 90)] c
      · rfl
      · unfold inR at hx
        simp at hx
        omega
    have he : escI c = (c : Int) := by unfold escI escR; rw [if_neg (by omega), if_neg (by omega), if_neg (by rw [hi]; simp; omega)]
    have HE := hid he
    clear he
    have e0 : ((c : Int) == 110) = false := beq_eq_false_iff_ne.2 (by omega)
    have e1 : ((c : Int) == 116) = false := beq_eq_false_iff_ne.2 (by omega)
    have d1 : decide ((c : Int) < 33) = false := decide_eq_false (by omega)
    have d2 : decide ((126 : Int) < (c : Int)) = false := decide_eq_false (by omega)
    have d3 : decide ((48 : Int) ≤ (c : Int)) = false := decide_eq_false (by omega)
    have d4 : decide ((c : Int) ≤ 57) = true := decide_eq_true (by omega)
    have d5 : decide ((97 : Int) ≤ (c : Int)) = false := decide_eq_false (by omega)
    have d6 : decide ((c : Int) ≤ 122) = true := decide_eq_true (by omega)
    have d7 : decide ((65 : Int) ≤ (c : Int)) = false := decide_eq_false (by omega)
    have d8 : decide ((c : Int) ≤ 90) = true := decide_eq_true (by omega)
    clear hr
    go_wp2_with fail
    go_ret
    exact ⟨by rw [HE.out]; rfl, rfl⟩
  · have hi : inR [(48, 57), (97, 122), (65, 90)] c = true := by unfold inR; simp; omega
    have he : escI c = -1 := by unfold escI escR; rw [if_neg (by omega), if_neg (by omega), if_pos (by rw [hi]; simp)]
    have HE := hid he
    clear he
    have e0 : ((c : Int) == 110) = false := beq_eq_false_iff_ne.2 (by omega)
    have e1 : ((c : Int) == 116) = false := beq_eq_false_iff_ne.2 (by omega)
    have d1 : decide ((c : Int) < 33) = false := decide_eq_false (by omega)
    have d2 : decide ((126 : Int) < (c : Int)) = false := decide_eq_false (by omega)
    have d3 : decide ((48 : Int) ≤ (c : Int)) = true := decide_eq_true (by omega)
    have d4 : decide ((c : Int) ≤ 57) = true := decide_eq_true (by omega)
    have d5 : decide ((97 : Int) ≤ (c : Int)) = false := decide_eq_false (by omega)
    have d6 : decide ((c : Int) ≤ 122) = true := decide_eq_true (by omega)
    have d7 : decide ((65 : Int) ≤ (c : Int)) = false := decide_eq_false (by omega)
    have d8 : decide ((c : Int) ≤ 90) = true := decide_eq_true (by omega)
    clear hr
    clear hi
    go_wp2_with fail
    go_ret
    exact ⟨by rw [HE.out]; rfl, rfl⟩
  · have hi : inR [(48, 57), (97, 122), (65, 90)] c = false := by
      cases hx : inR [(48, 57), (97, 122), (65, 90)] c
      · rfl
      · unfold inR at hx
        simp at hx
        omega
    have he : escI c = (c : Int) := by unfold escI escR; rw [if_neg (by omega), if_neg (by omega), if_neg (by rw [hi]; simp; omega)]
    have HE := hid he
    clear he
    have e0 : ((c : Int) == 110) = false := beq_eq_false_iff_ne.2 (by omega)
    have e1 : ((c : Int) == 116) = false := beq_eq_false_iff_ne.2 (by omega)
    have d1 : decide ((c : Int) < 33) = false := decide_eq_false (by omega)
    have d2 : decide ((126 : Int) < (c : Int)) = false := decide_eq_false (by omega)
    have d3 : decide ((48 : Int) ≤ (c : Int)) = true := decide_eq_true (by omega)
    have d4 : decide ((c : Int) ≤ 57) = false := decide_eq_false (by omega)
    have d5 : decide ((97 : Int) ≤ (c : Int)) = false := decide_eq_false (by omega)
    have d6 : decide ((c : Int) ≤ 122) = true := decide_eq_true (by omega)
    have d7 : decide ((65 : Int) ≤ (c : Int)) = false := decide_eq_false (by omega)
    have d8 : decide ((c : Int) ≤ 90) = true := decide_eq_true (by omega)
    clear hr
    go_wp2_with fail
    go_ret
    exact ⟨by rw [HE.out]; rfl, rfl⟩
  · have hi : inR [(48, 57), (97, 122), (65, 90)] c = true := by unfold inR; simp; omega
    have he : escI c = -1 := by unfold escI escR; rw [if_neg (by omega), if_neg (by omega), if_pos (by rw [hi]; simp)]
    have HE := hid he
    clear he
    have e0 : ((c : Int) == 110) = false := beq_eq_false_iff_ne.2 (by omega)
    have e1 : ((c : Int) == 116) = false := beq_eq_false_iff_ne.2 (by omega)
    have d1 : decide ((c : Int) < 33) = false := decide_eq_false (by omega)
    have d2 : decide ((126 : Int) < (c : Int)) = false := decide_eq_false (by omega)
    have d3 : decide ((48 : Int) ≤ (c : Int)) = true := decide_eq_true (by omega)
    have d4 : decide ((c : Int) ≤ 57) = false := decide_eq_false (by omega)
    have d5 : decide ((97 : Int) ≤ (c : Int)) = false := decide_eq_false (by omega)
    have d6 : decide ((c : Int) ≤ 122) = true := decide_eq_true (by omega)
    have d7 : decide ((65 : Int) ≤ (c : Int)) = true := decide_eq_true (by omega)
    have d8 : decide ((c : Int) ≤ 90) = true := decide_eq_true (by omega)
    clear hr
    clear hi
    go_wp2_with fail
    go_ret
    exact ⟨by rw [HE.out]; rfl, rfl⟩
  · have hi : inR [(48, 57), (97, 122), (65, 90)] c = false := by
      cases hx : inR [(48, 57), (97, 122), (65, 90)] c
      · rfl
      · unfold inR at hx
        simp at hx
        omega
    have he : escI c = (c : Int) := by unfold escI escR; rw [if_neg (by omega), if_neg (by omega), if_neg (by rw [hi]; simp; omega)]
    have HE := hid he
    clear he
    have e0 : ((c : Int) == 110) = false := beq_eq_false_iff_ne.2 (by omega)
    have e1 : ((c : Int) == 116) = false := beq_eq_false_iff_ne.2 (by omega)
    have d1 : decide ((c : Int) < 33) = false := decide_eq_false (by omega)
    have d2 : decide ((126 : Int) < (c : Int)) = false := decide_eq_false (by omega)
    have d3 : decide ((48 : Int) ≤ (c : Int)) = true := decide_eq_true (by omega)
    have d4 : decide ((c : Int) ≤ 57) = false := decide_eq_false (by omega)
    have d5 : decide ((97 : Int) ≤ (c : Int)) = false := decide_eq_false (by omega)
    have d6 : decide ((c : Int) ≤ 122) = true := decide_eq_true (by omega)
    have d7 : decide ((65 : Int) ≤ (c : Int)) = true := decide_eq_true (by omega)
    have d8 : decide ((c : Int) ≤ 90) = false := decide_eq_false (by omega)
    clear hr
    go_wp2_with fail
    go_ret
    exact ⟨by rw [HE.out]; rfl, rfl⟩
  · have hi : inR [(48, 57), (97, 122), (65, 90)] c = true := by unfold inR; simp; omega
    have he : escI c = -1 := by unfold escI escR; rw [if_neg (by omega), if_neg (by omega), if_pos (by rw [hi]; simp)]
    have HE := hid he
    clear he
    have e0 : ((c : Int) == 110) = false := beq_eq_false_iff_ne.2 (by omega)
    have e1 : ((c : Int) == 116) = false := beq_eq_false_iff_ne.2 (by omega)
    have d1 : decide ((c : Int) < 33) = false := decide_eq_false (by omega)
    have d2 : decide ((126 : Int) < (c : Int)) = false := decide_eq_false (by omega)
    have d3 : decide ((48 : Int) ≤ (c : Int)) = true := decide_eq_true (by omega)
    have d4 : decide ((c : Int) ≤ 57) = false := decide_eq_false (by omega)
    have d5 : decide ((97 : Int) ≤ (c : Int)) = true := decide_eq_true (by omega)
    have d6 : decide ((c : Int) ≤ 122) = true := decide_eq_true (by omega)
    have d7 : decide ((65 : Int) ≤ (c : Int)) = true := decide_eq_true (by omega)
    have d8 : decide ((c : Int) ≤ 90) = false := decide_eq_false (by omega)
    clear hr
    clear hi
    go_wp2_with fail
    go_ret
    exact ⟨by rw [HE.out]; rfl, rfl⟩
  · obtain rfl : c = 110 := by omega
    have he : escI 110 = 10 := by decide
    have HE := hid he
    clear he
    go_wp2_with fail
    go_ret
    exact ⟨by rw [HE.out]; rfl, rfl⟩
  · have hi : inR [(48, 57), (97, 122), (65, 90)] c = true := by unfold inR; simp; omega
    have he : escI c = -1 := by unfold escI escR; rw [if_neg (by omega), if_neg (by omega), if_pos (by rw [hi]; simp)]
    have HE := hid he
    clear he
    have e0 : ((c : Int) == 110) = false := beq_eq_false_iff_ne.2 (by omega)
    have e1 : ((c : Int) == 116) = false := beq_eq_false_iff_ne.2 (by omega)
    have d1 : decide ((c : Int) < 33) = false := decide_eq_false (by omega)
    have d2 : decide ((126 : Int) < (c : Int)) = false := decide_eq_false (by omega)
    have d3 : decide ((48 : Int) ≤ (c : Int)) = true := decide_eq_true (by omega)
    have d4 : decide ((c : Int) ≤ 57) = false := decide_eq_false (by omega)
    have d5 : decide ((97 : Int) ≤ (c : Int)) = true := decide_eq_true (by omega)
    have d6 : decide ((c : Int) ≤ 122) = true := decide_eq_true (by omega)
    have d7 : decide ((65 : Int) ≤ (c : Int)) = true := decide_eq_true (by omega)
    have d8 : decide ((c : Int) ≤ 90) = false := decide_eq_false (by omega)
    clear hr
    clear hi
    go_wp2_with fail
    go_ret
    exact ⟨by rw [HE.out]; rfl, rfl⟩
  · obtain rfl : c = 116 := by omega
    have he : escI 116 = 9 := by decide
    have HE := hid he
    clear he
    go_wp2_with fail
    go_ret
    exact ⟨by rw [HE.out]; rfl, rfl⟩
  · have hi : inR [(48, 57), (97, 122), (65, 90)] c = true := by unfold inR; simp; omega
    have he : escI c = -1 := by unfold escI escR; rw [if_neg (by omega), if_neg (by omega), if_pos (by rw [hi]; simp)]
    have HE := hid he
    clear he
    have e0 : ((c : Int) == 110) = false := beq_eq_false_iff_ne.2 (by omega)
    have e1 : ((c : Int) == 116) = false := beq_eq_false_iff_ne.2 (by omega)
    have d1 : decide ((c : Int) < 33) = false := decide_eq_false (by omega)
    have d2 : decide ((126 : Int) < (c : Int)) = false := decide_eq_false (by omega)
    have d3 : decide ((48 : Int) ≤ (c : Int)) = true := decide_eq_true (by omega)
    have d4 : decide ((c : Int) ≤ 57) = false := decide_eq_false (by omega)
    have d5 : decide ((97 : Int) ≤ (c : Int)) = true := decide_eq_true (by omega)
    have d6 : decide ((c : Int) ≤ 122) = true := decide_eq_true (by omega)
    have d7 : decide ((65 : Int) ≤ (c : Int)) = true := decide_eq_true (by omega)
    have d8 : decide ((c : Int) ≤ 90) = false := decide_eq_false (by omega)
    clear hr
    clear hi
    go_wp2_with fail
    go_ret
    exact ⟨by rw [HE.out]; rfl, rfl⟩
  · have hi : inR [(48, 57), (97, 122), (65, 90)] c = false := by
      cases hx : inR [(48, 57), (97, 122), (65, 90)] c
      · rfl
      · unfold inR at hx
        simp at hx
        omega
    have he : escI c = (c : Int) := by unfold escI escR; rw [if_neg (by omega), if_neg (by omega), if_neg (by rw [hi]; simp; omega)]
    have HE := hid he
    clear he
    have e0 : ((c : Int) == 110) = false := beq_eq_false_iff_ne.2 (by omega)
    have e1 : ((c : Int) == 116) = false := beq_eq_false_iff_ne.2 (by omega)
    have d1 : decide ((c : Int) < 33) = false := decide_eq_false (by omega)
    have d2 : decide ((126 : Int) < (c : Int)) = false := decide_eq_false (by omega)
    have d3 : decide ((48 : Int) ≤ (c : Int)) = true := decide_eq_true (by omega)
    have d4 : decide ((c : Int) ≤ 57) = false := decide_eq_false (by omega)
    have d5 : decide ((97 : Int) ≤ (c : Int)) = true := decide_eq_true (by omega)
    have d6 : decide ((c : Int) ≤ 122) = false := decide_eq_false (by omega)
    have d7 : decide ((65 : Int) ≤ (c : Int)) = true := decide_eq_true (by omega)
    have d8 : decide ((c : Int) ≤ 90) = false := decide_eq_false (by omega)
    clear hr
    go_wp2_with fail
    go_ret
    exact ⟨by rw [HE.out]; rfl, rfl⟩
  · have he : escI c = -1 := by unfold escI escR; rw [if_neg (by omega), if_neg (by omega), if_pos (by omega)]
    have HE := hid he
    clear he
    have e0 : ((c : Int) == 110) = false := beq_eq_false_iff_ne.2 (by omega)
    have e1 : ((c : Int) == 116) = false := beq_eq_false_iff_ne.2 (by omega)
    have d1 : decide ((c : Int) < 33) = false := decide_eq_false (by omega)
    have d2 : decide ((126 : Int) < (c : Int)) = true := decide_eq_true (by omega)
    have d3 : decide ((48 : Int) ≤ (c : Int)) = true := decide_eq_true (by omega)
    have d4 : decide ((c : Int) ≤ 57) = false := decide_eq_false (by omega)
    have d5 : decide ((97 : Int) ≤ (c : Int)) = true := decide_eq_true (by omega)
    have d6 : decide ((c : Int) ≤ 122) = false := decide_eq_false (by omega)
    have d7 : decide ((65 : Int) ≤ (c : Int)) = true := decide_eq_true (by omega)
    have d8 : decide ((c : Int) ≤ 90) = false := decide_eq_false (by omega)
    clear hr
    go_wp2_with fail
    go_ret
    exact ⟨by rw [HE.out]; rfl, rfl⟩
end Go.Proofs.Ytaaikjedagnjbaa

/- Runes of the document's answer for layer 12; its classes. -/
namespace Go.Proofs.Ytaaikjedagnjbaa
open Go Go.RowKit Go.Lib

theorem runesInfo : (Try.prog.info? 3).map (fun i => (i.zero, i.size, i.bytes)) = some (some (.int .i64 0), 1, 8) := by kernel_rfl
theorem one_int64 (x : Int) : ∀ u ∈ [Value.int .i64 x], u.oneCell' = true := by
  intro u hu
  rw [List.mem_singleton.1 hu]
  rfl
def RunesPost (w : World) (L : List UInt8) (e : Ending) (w' : World) : Prop := ∃ v, e = .returned v ∧ Own w' 3 v (cpsL L).length (ints (cpsL L)) ∧ New w w' v
theorem valid_rune {s : ByteArray} (hv : okS s) (k : Nat) (h : offs s.data.toList k < s.size) : (runeAt s (offs s.data.toList k)).1 = (decodeL (s.data.toList.drop (offs s.data.toList k))).1 ∧ (cpsL s.data.toList)[k]? = some (decodeL (s.data.toList.drop (offs s.data.toList k))).1 := by
  have hl : s.data.toList.length = s.size := rfl
  have hd := valid_drop s.data.toList hv k
  have hne : s.data.toList.drop (offs s.data.toList k) ≠ [] := by
    intro e
    have := congrArg List.length e
    rw [List.length_drop] at this
    simp only [List.length_nil] at this
    omega
  have hnb : ¬ Bad (s.data.toList.drop (offs s.data.toList k)) := by
    intro hb
    rw [valid_no hb hne] at hd
    cases hd
  obtain ⟨r1, r2, r3⟩ := rune_wd s (offs s.data.toList k)
  refine ⟨by rw [r3 hnb], ?_⟩
  obtain ⟨o1, o2, o3⟩ := offs_step (l := s.data.toList) (k := k) (by omega)
  unfold cpsL
  rw [List.getElem?_map, o3]
  exact congrArg some (decode_head _ hne)
set_option maxRecDepth 100000 in
set_option maxHeartbeats 1600000 in
theorem runes_any (w : World) (s : ByteArray) (hv : okS s) (hs : s.size ≤ 1000000000) : Calls Try.prog 23 #[.string s] w (RunesPost w s.data.toList) := by
  have hvr := fun k h => valid_rune (s := s) hv k h
  obtain ⟨L, hL⟩ : ∃ L, L = s.data.toList := ⟨_, rfl⟩
  have hlen : L.length = s.size := by rw [hL, Array.length_toList]; rfl
  have hrw := fun i => rune_wd s i
  rw [← hL] at hrw hvr ⊢
  have Hrw := hid hrw
  have Hvr := hid hvr
  clear hL hrw hvr hv
  go_enter Try.func23, Try.ntmps23
  have ho0 : Own (w.alloc (.cells (#[] : Array Value) 3)) 3 (.slice (some ⟨w.heap.size, 0, none⟩) 0 0) 0 [] := Own.of_cells (Cells.fresh w 3 []) (by simp)
  have hn0 : New w (w.alloc (.cells (#[] : Array Value) 3)) (.slice (some ⟨w.heap.size, 0, none⟩) 0 0) := ⟨(Kp.refl _ _).alloc _, by intro g hg; simp [Value.ownBlock] at hg; omega⟩
  have H0 := hid (And.intro ho0 hn0)
  clear ho0 hn0
  go_wp2_with fail
  go_loopw [3, 4] (fun v va wr => ∃ k : Nat, va = .int .i64 ((offs L k : Nat) : Int) ∧ k ≤ (partsL L).length ∧ Own wr 3 v k (ints ((cpsL L).take k)) ∧ New w wr v) (fun _ va _ => s.size - (RowKit.intOf va).toNat)
  case atStart => exact ⟨0, rfl, by omega, H0.out.1, H0.out.2⟩
  case round =>
    obtain ⟨k, rfl, hk, ho, hnw⟩ := hrel
    have hle := offs_le L k
    have hvk := Hvr.out k
    obtain ⟨p, hp⟩ : ∃ p, p = offs L k := ⟨_, rfl⟩
    rw [← hp] at hle hvk ⊢
    have hkl := length_parts_le L
    by_cases hlt : p < s.size
    · obtain ⟨o1, o2, -⟩ := offs_step (l := L) (k := k) (by omega)
      obtain ⟨r1, -, -⟩ := Hrw.out p
      rw [← hp] at o2
      obtain ⟨g1, g2⟩ := hvk hlt
      have hwl := wd_le (L.drop p) (by
        intro e
        have := congrArg List.length e
        rw [List.length_drop] at this
        simp at this
        omega)
      rw [List.length_drop] at hwl
      obtain ⟨x, hx⟩ : ∃ x, x = (runeAt s p).1 := ⟨_, rfl⟩
      have htk : ints ((cpsL L).take (k + 1)) = ints ((cpsL L).take k) ++ [.int .i64 (x : Int)] := by
        rw [List.take_add_one, g2, ← g1, ← hx]
        unfold ints
        rw [List.map_append]
        rfl
      have hwp := wd_pos (L.drop p)
      obtain ⟨d, hd⟩ : ∃ d, d = wd (L.drop p) := ⟨_, rfl⟩
      rw [← hd] at o2 r1 hwl hwp
      have Htk := hid (And.intro htk o2)
      clear htk o2 hd g1 g2 hvk hp
      go_wp2_with fail
      refine (rune_any _ s p hlt (by omega)).mono ?_
      rintro e w2 ⟨rfl, rfl⟩
      obtain ⟨n, hn⟩ : ∃ n, n = (runeAt s p).2 := ⟨_, rfl⟩
      rw [← hn] at r1
      rw [← hx, ← hn]
      have hmx : max (n : Int) 1 = (d : Int) := by omega
      clear hx hn r1
      go_wp2_with (at_builtin; go_must (refine wpList_append1 rfl _ _ 43 rfl 3 (.int .i64 0) 8 Try.underlying43 runesInfo rfl _ _ _ rfl (ho.kept ((Kp.refl _ _).alloc _)) _ 1 1 [.int .i64 (x : Int)] rfl (Span.of_new _ _ _ _) rfl (one_int64 _) ?_ ?_ ?_))
      · omega
      · omega
      intro v1 w1 ho1 hk1 hb1
      go_wp2_with fail
      go_roundw
      case rel =>
        refine ⟨k + 1, ?_, by omega, ?_, (hnw.kept ((Kp.refl _ _).alloc _)).append hk1 hb1 (by simp)⟩
        · rw [Htk.out.2]
          go_num
        · rw [Htk.out.1]; exact ho1
      case measure => simp [RowKit.intOf]; omega
    · have hkn := offs_end (l := L) (k := k) (by omega)
      have hkk : k = (cpsL L).length := by unfold cpsL; rw [List.length_map]; omega
      have ht : (cpsL L).take k = cpsL L := List.take_of_length_le (by omega)
      rw [ht, hkk] at ho
      have Ho := hid (And.intro ho hnw)
      clear ho hnw ht hkk hp hvk
      go_wp2_with fail
      go_ret
      exact ⟨_, rfl, Ho.out.1, Ho.out.2⟩
/-- Items in memory. -/
def itemsV (l : List (Int × Int)) : List Value := l.flatMap fun p => [.int .i64 p.1, .int .i64 p.2]
def clsI (c : Nat) : List (Int × Int) := (classR c).map fun p => ((p.1 : Int), (p.2 : Int))
set_option maxRecDepth 100000 in
set_option maxHeartbeats 1600000 in
theorem classd_any (w : World) (c : Nat) : Calls Try.prog 53 #[.int .i64 (c : Int)] w fun e w' => (∃ A n cap, e = .returned (.slice A n cap) ∧ n = (clsI c).length ∧ n ≤ cap ∧ Span w' A (itemsV (clsI c)) ∧ ∀ ad, A = some ad → w.heap.size ≤ ad.block ∧ ad = ⟨ad.block, 0, none⟩ ∧ ad.block < w'.heap.size) ∧ Kp [] w w' := by
  go_enter Try.func53, Try.ntmps53
  have hnew : ∀ cs : List Value, Span (w.alloc (.cells cs.toArray 89)) (some ⟨w.heap.size, 0, none⟩) cs := fun cs => Span.of_new _ _ _ _
  have HN := hid hnew
  clear hnew
  by_cases h1 : c = 100
  · subst h1
    go_wp2_with fail
    go_ret
    exact ⟨⟨_, _, _, rfl, rfl, by decide, HN.out _, fun ad h => by injection h with h; rw [← h]; exact ⟨Nat.le_refl _, rfl, by simp⟩⟩, (Kp.refl _ _).alloc _⟩
  · have e1 : ((c : Int) == 100) = false := beq_eq_false_iff_ne.2 (by omega)
    by_cases h2 : c = 119
    · subst h2
      go_wp2_with fail
      go_ret
      exact ⟨⟨_, _, _, rfl, rfl, by decide, HN.out _, fun ad h => by injection h with h; rw [← h]; exact ⟨Nat.le_refl _, rfl, by simp⟩⟩, (Kp.refl _ _).alloc _⟩
    · have e2 : ((c : Int) == 119) = false := beq_eq_false_iff_ne.2 (by omega)
      by_cases h3 : c = 115
      · subst h3
        go_wp2_with fail
        go_ret
        exact ⟨⟨_, _, _, rfl, rfl, by decide, HN.out _, fun ad h => by injection h with h; rw [← h]; exact ⟨Nat.le_refl _, rfl, by simp⟩⟩, (Kp.refl _ _).alloc _⟩
      · have e3 : ((c : Int) == 115) = false := beq_eq_false_iff_ne.2 (by omega)
        have hc : clsI c = [] := by unfold clsI classR; rw [if_neg h1, if_neg h2, if_neg h3]; rfl
        have HC := hid hc
        clear hc h1 h2 h3
        go_wp2_with fail
        go_ret
        exact ⟨⟨none, 0, 0, rfl, by rw [HC.out]; rfl, Nat.le_refl _, by rw [HC.out]; exact Span.nil _ _, fun ad h => by cases h⟩, Kp.refl _ _⟩
end Go.Proofs.Ytaaikjedagnjbaa

/- The document's reader for layer 12: its state, is, take, put. -/
namespace Go.Proofs.Ytaaikjedagnjbaa
open Go Go.RowKit Go.Lib

/-- The block that a row owns. -/
def ownP (v : Value) : Nat → Prop := fun x => v.ownBlock = some x
/-- A reader in memory: its runes lie in AR; v are its parts, n of them, in cells cs. -/
structure RdS (w : World) (rb : Nat) (AR : Option Addr) (cR : Nat) (L : List Nat) (a d : Nat) (bad : Bool) (v : Value) (n : Nat) (cs : List Value) : Prop where
  cell : Cells w rb 46 [.slice AR L.length cR, .int .i64 (a : Int), .int .i64 (d : Int), v, .bool bad]
  runes : Span w AR (ints L)
  apart : ∀ ad, AR = some ad → ad.block ≠ rb ∧ ¬ ownP v ad.block ∧ ad.block < w.heap.size
  le : a ≤ L.length
  own : OwnN w 63 4 v n cs
  rbv : ¬ ownP v rb
section
variable {w w' : World} {rb : Nat} {AR : Option Addr} {cR : Nat} {L : List Nat} {a d : Nat} {bad : Bool} {v : Value} {n : Nat} {cs : List Value}
theorem RdS.next (h : RdS w rb AR cR L a d bad v n cs) (k : Kp [rb] w w') {a' d' : Nat} {bad' : Bool} (c : Cells w' rb 46 [.slice AR L.length cR, .int .i64 (a' : Int), .int .i64 (d' : Int), v, .bool bad']) (hle : a' ≤ L.length) : RdS w' rb AR cR L a' d' bad' v n cs :=
  ⟨c, h.runes.keep k (fun ad e => by simpa using (h.apart ad e).1), fun ad e => ⟨(h.apart ad e).1, (h.apart ad e).2.1, Nat.lt_of_lt_of_le (h.apart ad e).2.2 k.size⟩, hle,
    h.own.keep k (fun g hg hm => h.rbv (by rw [List.mem_singleton.1 hm] at hg; exact hg)), h.rbv⟩
theorem RdS.kept (h : RdS w rb AR cR L a d bad v n cs) (k : Kp [] w w') : RdS w' rb AR cR L a d bad v n cs := h.next (k.mono (by simp)) (h.cell.keep k (by simp)) h.le
/-- Its place is another. -/
theorem RdS.at (h : RdS w rb AR cR L a d bad v n cs) {a' : Nat} (hle : a' ≤ L.length) : RdS (w.setCell ⟨rb, 1, none⟩ (.int .i64 (a' : Int))) rb AR cR L a' d bad v n cs :=
  h.next ((Kp.refl _ _).setCell (fun _ => by simp) _) (h.cell.put 1 _) hle
theorem RdS.deep (h : RdS w rb AR cR L a d bad v n cs) (d' : Nat) : RdS (w.setCell ⟨rb, 2, none⟩ (.int .i64 (d' : Int))) rb AR cR L a d' bad v n cs :=
  h.next ((Kp.refl _ _).setCell (fun _ => by simp) _) (h.cell.put 2 _) h.le
theorem RdS.setBad (h : RdS w rb AR cR L a d bad v n cs) (b' : Bool) : RdS (w.setCell ⟨rb, 4, none⟩ (.bool b')) rb AR cR L a d b' v n cs :=
  h.next ((Kp.refl _ _).setCell (fun _ => by simp) _) (h.cell.put 4 _) h.le
/-- Its five cells. -/
theorem RdS.five (h : RdS w rb AR cR L a d bad v n cs) : w.cell? ⟨rb, 0, none⟩ = some (.slice AR L.length cR) ∧ w.cell? ⟨rb, 1, none⟩ = some (.int .i64 (a : Int)) ∧ w.cell? ⟨rb, 2, none⟩ = some (.int .i64 (d : Int)) ∧ w.cell? ⟨rb, 3, none⟩ = some v ∧ w.cell? ⟨rb, 4, none⟩ = some (.bool bad) :=
  ⟨h.cell.cell 0, h.cell.cell 1, h.cell.cell 2, h.cell.cell 3, h.cell.cell 4⟩
theorem RdS.rune (h : RdS w rb AR cR L a d bad v n cs) {j x : Nat} (hx : L[j]? = some x) : ∃ ad, AR = some ad ∧ w.cell? (ad.add j) = some (.int .i64 (x : Int)) := h.runes j _ (by simp [ints, hx])
end
/-- Whether a rune stands there. -/
def isB (L : List Nat) (a c : Nat) : Bool := L[a]? == some c
set_option maxRecDepth 100000 in
set_option maxHeartbeats 3200000 in
theorem is_any (w : World) (rb : Nat) (AR : Option Addr) (cR : Nat) (L : List Nat) (a d : Nat) (bad : Bool) (v : Value) (n : Nat) (cs : List Value) (h : RdS w rb AR cR L a d bad v n cs) (_ : L.length ≤ 100000) (c : Nat) :
    Calls Try.prog 37 #[.pointer (some ⟨rb, 0, none⟩), .int .i64 (c : Int)] w fun e w' => e = .returned (.bool (isB L a c)) ∧ ∃ q, w' = w.drewN q := by
  obtain ⟨x0, x1, -, -, -⟩ := h.five
  have hle := h.le
  obtain ⟨m, hm⟩ : ∃ m, m = L.length := ⟨_, rfl⟩
  rw [← hm] at x0 hle
  by_cases hlt : a < m
  · obtain ⟨x, hx⟩ : ∃ x, L[a]? = some x := ⟨_, List.getElem?_eq_getElem (by omega)⟩
    obtain ⟨ad, rfl, y⟩ := h.rune hx
    have i0 : (a : Int) < (m : Int) := by omega
    have i1 : decide ((a : Int) < (m : Int)) = true := decide_eq_true i0
    have i2 : decide (a < m) = true := decide_eq_true hlt
    obtain ⟨z, hz⟩ : ∃ z, z = ((x : Int) == (c : Int)) := ⟨_, rfl⟩
    have e1 := hz.symm
    have HB : Hid (isB L a c = z) := hid (by
      unfold isB
      rw [hx, hz, Bool.eq_iff_iff, beq_iff_eq, beq_iff_eq]
      constructor
      · intro h; injection h with h; omega
      · intro h; congr 1; omega)
    clear hz hx h hm
    go_enter Try.func37, Try.ntmps37
    go_wp2_with fail
    go_quiet (fail)
    generalize nq = n1 at *
    go_wp2_with fail
    go_ret
    exact ⟨by rw [HB.out]; rfl, _, rfl⟩
  · have hx : L[a]? = none := List.getElem?_eq_none (by omega)
    have i0 : ¬ (a : Int) < (m : Int) := by omega
    have i1 : decide ((a : Int) < (m : Int)) = false := decide_eq_false i0
    have i2 : decide (a < m) = false := decide_eq_false hlt
    have HB : Hid (isB L a c = false) := hid (by unfold isB; rw [hx]; rfl)
    clear hx h hm
    go_enter Try.func37, Try.ntmps37
    go_wp2_with fail
    go_quiet (fail)
    generalize nq = n1 at *
    go_wp2_with fail
    go_ret
    exact ⟨by rw [HB.out]; rfl, _, rfl⟩
set_option maxRecDepth 100000 in
set_option maxHeartbeats 3200000 in
theorem take_any (w : World) (rb : Nat) (AR : Option Addr) (cR : Nat) (L : List Nat) (a d : Nat) (bad : Bool) (v : Value) (n : Nat) (cs : List Value) (h : RdS w rb AR cR L a d bad v n cs) (hL : L.length ≤ 100000) (c : Nat) :
    Calls Try.prog 32 #[.pointer (some ⟨rb, 0, none⟩), .int .i64 (c : Int)] w fun e w' => e = .returned (.bool (isB L a c)) ∧ RdS w' rb AR cR L (if isB L a c then a + 1 else a) d bad v n cs ∧ Kp [rb] w w' := by
  have q := is_any w rb AR cR L a d bad v n cs h hL c
  have hlt : isB L a c = true → a < L.length := fun hb => by
    unfold isB at hb
    exact (List.getElem?_eq_some_iff.1 (beq_iff_eq.1 hb)).1
  obtain ⟨b, hb⟩ : ∃ b, b = isB L a c := ⟨_, rfl⟩
  rw [← hb] at q hlt ⊢
  have H := hid (And.intro h hlt)
  clear h hb
  go_enter Try.func32, Try.ntmps32
  go_wp2_with fail
  (with_reducible refine q.mono ?_)
  clear q
  rintro e w1 ⟨rfl, nq, hq⟩
  have k1 : Kp [] w w1 := by rw [hq]; exact (Kp.refl _ _).drewN _
  clear hq
  have h1 := H.out.1.kept k1
  cases b with
  | false =>
    have HK := hid (And.intro h1 k1)
    clear h1 k1 hlt
    go_wp2_with fail
    go_ret
    exact ⟨rfl, HK.out.1, HK.out.2.mono (by simp)⟩
  | true =>
    have hl := hlt rfl
    obtain ⟨-, x1, -, -, -⟩ := h1.five
    have fr := h1.cell.free 1
    have iw : IntKind.i64.wrap ((a : Int) + 1) = ((a + 1 : Nat) : Int) := by rw [IntWalk.i64_in _ (by omega)]; omega
    have HK := hid (And.intro h1 k1)
    clear h1 k1 hlt
    go_wp2_with fail
    go_ret
    refine ⟨rfl, ?_, (HK.out.2.mono (by simp)).setCell (fun _ => by simp) _⟩
    exact HK.out.1.at (a' := a + 1) (by omega)
/-- A part's four cells. -/
def partCs (k : Nat) (K I : Value) (neg : Bool) : List Value := [.int .u8 (k : Int), K, I, .bool neg]
theorem rpartInfo : (Try.prog.info? 63).map (fun i => (i.zero, i.size, i.bytes)) = some (some (.agg #[.int .u8 0, .slice none 0 0, .slice none 0 0, .bool false]), 4, 64) := by kernel_rfl
theorem RdS.grown {w w1 : World} {rb : Nat} {AR : Option Addr} {cR : Nat} {L : List Nat} {a d : Nat} {bad : Bool} {v : Value} {n : Nat} {cs : List Value} (h : RdS w rb AR cR L a d bad v n cs) (k : Kp v.ownBlock.toList w w1) {v' : Value} {n' : Nat} {cs' : List Value}
    (ho : OwnN w1 63 4 v' n' cs') (hb : ∀ g, v'.ownBlock = some g → v.ownBlock = some g ∨ w.heap.size ≤ g) :
    RdS (w1.setCell ⟨rb, 3, none⟩ v') rb AR cR L a d bad v' n' cs' ∧ Rew w (ownP v) rb (w1.setCell ⟨rb, 3, none⟩ v') (ownP v') := by
  have hrb : rb ∉ v.ownBlock.toList := fun hm => h.rbv (Option.mem_toList.1 hm)
  have hlt := h.cell.lt
  obtain ⟨w2, hw2⟩ : ∃ w2, w2 = w1.setCell ⟨rb, 3, none⟩ v' := ⟨_, rfl⟩
  have k2 : Kp [rb] w1 w2 := by rw [hw2]; exact (Kp.refl _ _).setCell (fun _ => by simp) _
  have hv'rb : v'.ownBlock ≠ some rb := fun e => by
    rcases hb rb e with h1 | h1
    · exact h.rbv h1
    · omega
  have hc : Cells w2 rb 46 [.slice AR L.length cR, .int .i64 (a : Int), .int .i64 (d : Int), v', .bool bad] := by rw [hw2]; exact (h.cell.keep k hrb).put 3 v'
  rw [← hw2]
  refine ⟨⟨hc, (h.runes.keep k fun ad e hm => (h.apart ad e).2.1 (Option.mem_toList.1 hm)).keep k2 (fun ad e => by simpa using (h.apart ad e).1), fun ad e => ⟨(h.apart ad e).1, fun hh => ?_, ?_⟩, h.le, ho.keep k2 (fun g hg hm => ?_), hv'rb⟩, ⟨fun x hx => hb x hx, ⟨rb :: v.ownBlock.toList, fun x hx => ?_, (k.mono fun x hx => List.mem_cons_of_mem _ hx).trans k2 (fun x hx _ => by rw [List.mem_singleton.1 hx]; exact List.mem_cons_self)⟩⟩⟩
  · rcases hb _ hh with h1 | h1
    · exact (h.apart ad e).2.1 h1
    · have := (h.apart ad e).2.2; omega
  · have := (h.apart ad e).2.2; have := k.size; have := k2.size; omega
  · rw [List.mem_singleton.1 hm] at hg; exact hv'rb hg
  · rcases List.mem_cons.1 hx with h1 | h1
    · exact .inr h1
    · exact .inl (Option.mem_toList.1 h1)
set_option maxRecDepth 100000 in
set_option maxHeartbeats 6400000 in
/-- A part more: the parts before stay, and nothing else but they and the reader is written. -/
theorem put_any (w : World) (rb : Nat) (AR : Option Addr) (cR : Nat) (L : List Nat) (a d : Nat) (bad : Bool) (v : Value) (n : Nat) (cs : List Value) (h : RdS w rb AR cR L a d bad v n cs) (hn : n ≤ 100000) (k : Nat) (A1 A2 : Option Addr) (n1 c1 n2 c2 : Nat) (neg : Bool) :
    Calls Try.prog 33 #[.pointer (some ⟨rb, 0, none⟩), .agg #[.int .u8 (k : Int), .slice A1 n1 c1, .slice A2 n2 c2, .bool neg]] w fun e w' => e = .returned (.int .i64 (n : Int)) ∧ ∃ v', RdS w' rb AR cR L a d bad v' (n + 1) (cs ++ partCs k (.slice A1 n1 c1) (.slice A2 n2 c2) neg) ∧ Rew w (ownP v) rb w' (ownP v') := by
  have H := hid h
  obtain ⟨A0, c0, rfl, -, hc0, hc1, -⟩ := h.own.shape
  obtain ⟨g0, hg0⟩ : ∃ g, g = w.heap.size := ⟨_, rfl⟩
  obtain ⟨wB, hwB⟩ : ∃ wB, wB = w.alloc (.cells #[.int .u8 (k : Int), .slice A1 n1 c1, .slice A2 n2 c2, .bool neg] 63) := ⟨_, rfl⟩
  have kB : Kp [] w wB := by rw [hwB]; exact (Kp.refl _ _).alloc _
  have cB : Cells wB g0 63 (partCs k (.slice A1 n1 c1) (.slice A2 n2 c2) neg) := by rw [hwB, hg0]; exact Cells.fresh w 63 _
  obtain ⟨-, -, -, x3, -⟩ := (h.kept kB).five
  have hoB := (h.kept kB).own
  have hnrb : rb ∉ (Value.slice A0 n c0).ownBlock.toList := fun hm => h.rbv (Option.mem_toList.1 hm)
  have hng : g0 ∉ (Value.slice A0 n c0).ownBlock.toList := fun hm => by have := h.own.lt _ (Option.mem_toList.1 hm); omega
  have y0 := cB.cell 0
  have y1 := cB.cell 1
  have y2 := cB.cell 2
  have y3 := cB.cell 3
  unfold partCs at y0 y1 y2 y3
  simp only [List.getElem?_cons_zero, List.getElem?_cons_succ] at y0 y1 y2 y3
  have HB := hid (And.intro hwB (And.intro kB (And.intro hg0 (And.intro hoB (by rw [hwB]; simp : wB.heap.size = w.heap.size + 1)))))
  clear h cB hoB kB
  go_enter Try.func33, Try.ntmps33
  go_upto_region 1 with fail
  rw [← hwB, ← hg0]
  clear hwB hg0
  refine lin_start (fun W' => Kp (Value.slice A0 n c0).ownBlock.toList wB W') (Stays.kp _ _) (by kernel_rfl) (Kp.refl _ _).drew (fun hSS hS => ?_)
  refine lin_val (i := 0) (v := ?_) rfl (by kernel_rfl) (by kernel_rfl) (by kernel_rfl) (by kernel_rfl) (fun _ _ _ h => h) hSS hS rfl (fun W' hSw => ?_) ?_
  rotate_left
  · go_simp; first | done | with_reducible rfl
  try simp only [Act.put, List.setIfInBounds_toArray, List.set_cons_zero, List.set_cons_succ]
  refine lin_val (i := 1) (v := ?_) rfl (by kernel_rfl) (by kernel_rfl) (by kernel_rfl) (by kernel_rfl) (fun _ _ _ h => h) hSS hS rfl (fun W' hSw => ?_) ?_
  rotate_left
  · go_simp; first | done | with_reducible rfl
  try simp only [Act.put, List.setIfInBounds_toArray, List.set_cons_zero, List.set_cons_succ]
  refine lin_val (i := 2) (v := ?_) rfl (by kernel_rfl) (by kernel_rfl) (by kernel_rfl) (by kernel_rfl) (fun _ _ _ h => h) hSS hS rfl (fun W' hSw => ?_) ?_
  rotate_left
  · go_simp; first | done | with_reducible rfl
  try simp only [Act.put, List.setIfInBounds_toArray, List.set_cons_zero, List.set_cons_succ]
  refine lin_val (i := 3) (v := ?_) rfl (by kernel_rfl) (by kernel_rfl) (by kernel_rfl) (by kernel_rfl) (fun _ _ _ h => h) hSS hS rfl (fun W' hSw => ?_) ?_
  rotate_left
  · go_simp; first | done | with_reducible rfl
  try simp only [Act.put, List.setIfInBounds_toArray, List.set_cons_zero, List.set_cons_succ]
  refine lin_val (i := 4) (v := ?_) rfl (by kernel_rfl) (by kernel_rfl) (by kernel_rfl) (by kernel_rfl) (fun _ _ _ h => h) hSS hS rfl (fun W' hSw => ?_) ?_
  rotate_left
  · have x3 := hSw.cell x3 hnrb; go_simp; first | done | with_reducible rfl
  try simp only [Act.put, List.setIfInBounds_toArray, List.set_cons_zero, List.set_cons_succ]
  refine lin_val (i := 5) (v := ?_) rfl (by kernel_rfl) (by kernel_rfl) (by kernel_rfl) (by kernel_rfl) (fun _ _ _ h => h) hSS hS rfl (fun W' hSw => ?_) ?_
  rotate_left
  · have y0 := hSw.cell y0 hng; have y1 := hSw.cell y1 hng; have y2 := hSw.cell y2 hng; have y3 := hSw.cell y3 hng; go_simp; first | done | with_reducible rfl
  try simp only [Act.put, List.setIfInBounds_toArray, List.set_cons_zero, List.set_cons_succ]
  refine lin_list (i := 6) (by kernel_rfl) rfl (fun w8 k8 Q2 hQ => ?_)
  have k08 : Kp [] wB w8 := (Kp.refl _ _).drew.nil k8
  clear k8
  go_wp2_with fail
  obtain ⟨w9, hw9⟩ : ∃ w9, w9 = w8.alloc (.cells #[.int .u8 (k : Int), .slice A1 n1 c1, .slice A2 n2 c2, .bool neg] 63) := ⟨_, rfl⟩
  obtain ⟨g8, hg8⟩ : ∃ g, g = w8.heap.size := ⟨_, rfl⟩
  rw [← hw9, ← hg8]
  have k09 : Kp [] wB w9 := by rw [hw9]; exact k08.alloc _
  have c9 : Cells w9 g8 63 (partCs k (.slice A1 n1 c1) (.slice A2 n2 c2) neg) := by rw [hw9, hg8]; exact Cells.fresh w8 63 _
  have H9 := hid (And.intro k09 c9)
  clear k08 k09 c9 hw9 hg8
  refine hQ.out _ _ (H9.out.1.mono (by simp)) (fun hS9 => ?_)
  clear hQ hS
  try simp only [Act.put, List.setIfInBounds_toArray, List.set_cons_zero, List.set_cons_succ]
  refine lin_list (i := 7) (by kernel_rfl) rfl (fun w10 k10 Q2 hQ => ?_)
  have k010 := H9.out.1.nil k10
  have ho10 := HB.out.2.2.2.1.kept k010
  have sp10 := Span.of_cells (H9.out.2.keep k10 (by simp))
  have H10 := hid k010
  clear k10 k010
  go_wp2_with (at_builtin; go_must (refine wpList_appendN rfl _ _ 24 rfl 63 (.agg #[.int .u8 0, .slice none 0 0, .slice none 0 0, .bool false]) 4 64 Try.underlying24 rpartInfo rfl (by decide) _ n cs rfl ho10 _ 1 1 (partCs k (.slice A1 n1 c1) (.slice A2 n2 c2) neg) rfl sp10 rfl (by simp [partCs, Value.oneCell']) ?_ ?_ ?_))
  · omega
  · omega
  intro v11 w11 ho11 k11 hb11
  obtain ⟨A11, c11, rfl, -, -, -, -⟩ := ho11.shape
  have k011 := (H10.out.mono (by simp) : Kp (Value.slice A0 n c0).ownBlock.toList wB w10).trans k11 (fun x hx _ => hx)
  have H11 := hid (And.intro k011 (And.intro ho11 (And.intro hb11 H10.out.size)))
  clear ho11 k11 hb11 ho10 sp10 k011
  go_wp2_with fail
  refine hQ.out _ _ H11.out.1 (fun hS11 => ?_)
  clear hQ hS9
  try simp only [Act.put, List.setIfInBounds_toArray, List.set_cons_zero, List.set_cons_succ]
  refine lin_val (i := 8) (v := ?_) rfl (by kernel_rfl) (by kernel_rfl) (by kernel_rfl) (by kernel_rfl) (fun _ _ _ h => h) hSS hS11 rfl (fun W' hSw => ?_) ?_
  rotate_left
  · go_simp; first | done | with_reducible rfl
  try simp only [Act.put, List.setIfInBounds_toArray, List.set_cons_zero, List.set_cons_succ]
  refine lin_val (i := 9) (v := ?_) rfl (by kernel_rfl) (by kernel_rfl) (by kernel_rfl) (by kernel_rfl) (fun _ _ _ h => h) hSS hS11 rfl (fun W' hSw => ?_) ?_
  rotate_left
  · go_simp; first | done | with_reducible rfl
  try simp only [Act.put, List.setIfInBounds_toArray, List.set_cons_zero, List.set_cons_succ]
  refine lin_last (i := 10) (by kernel_rfl) rfl (by kernel_rfl) (fun w12 k12 K hK => ?_)
  have k012 := H11.out.1.nil k12
  have x3b := k012.cell x3 hnrb
  have frb := ((H.out.kept HB.out.2.1).cell.keep k012 hnrb).free 3
  have hg := H.out.grown (w1 := w12) ((HB.out.2.1.mono (by simp)).trans k012 (fun x hx _ => hx)) (H11.out.2.1.kept k12) (fun g hg => by
    rcases H11.out.2.2.1 with h1 | h1
    · rw [h1] at hg; exact .inl hg
    · rw [h1] at hg
      injection hg with hg
      have := H11.out.2.2.2
      have := HB.out.2.2.2.2
      exact .inr (by omega))
  have HG := hid hg
  clear k012 hg
  go_simp
  refine hK.out _ _ ?_
  clear hK K hS11 hSS x3 x3b frb y0 y1 y2 y3 hnrb hng k12
  obtain ⟨w13, hw13⟩ : ∃ w13, w13 = w12.setCell ⟨rb, 3, none⟩ (.slice A11 (n + 1) c11) := ⟨_, rfl⟩
  obtain ⟨r13, g13⟩ := HG.out
  rw [← hw13] at r13 g13 ⊢
  have x3 := r13.five.2.2.2.1
  have iw : IntKind.i64.wrap (((n + 1 : Nat) : Int) - 1) = (n : Int) := by rw [IntWalk.i64_in _ (by omega)]; omega
  have HR := hid (And.intro r13 g13)
  clear r13 g13 hw13 HG
  go_wp2_with fail
  go_ret
  exact ⟨rfl, _, HR.out.1, HR.out.2⟩
end Go.Proofs.Ytaaikjedagnjbaa

/- The document's reader: single. -/
namespace Go.Proofs.Ytaaikjedagnjbaa
open Go Go.RowKit Go.Lib

theorem among4 (x : Nat) : amongB ⟨#[91, 93, 94, 45]⟩ (x : Int) = decide (x = 91 ∨ x = 93 ∨ x = 94 ∨ x = 45) := by
  unfold amongB
  rw [Bool.eq_iff_iff, decide_eq_true_eq]
  simp
  omega
/-- What a single is, and where the reader stands then. -/
def SingleP (L : List Nat) (a a' : Nat) (z : Int) : Prop := match singleR (L.drop a) with
  | none => z = -1 ∧ a ≤ a'
  | some (x, r) => z = (x : Int) ∧ r = L.drop a' ∧ a < a'
theorem drop_at {L : List Nat} {a x : Nat} (h : L[a]? = some x) : L.drop a = x :: L.drop (a + 1) := by
  obtain ⟨h1, h2⟩ := List.getElem?_eq_some_iff.1 h
  rw [← h2]
  exact List.drop_eq_getElem_cons h1
set_option maxRecDepth 100000 in
set_option maxHeartbeats 6400000 in
theorem rsingle_any (w : World) (rb : Nat) (AR : Option Addr) (cR : Nat) (L : List Nat) (a d : Nat) (bad : Bool) (v : Value) (n : Nat) (cs : List Value) (h : RdS w rb AR cR L a d bad v n cs) (hL : L.length ≤ 100000) (hx : ∀ x ∈ L, x ≤ 2000000) :
    Calls Try.prog 64 #[.pointer (some ⟨rb, 0, none⟩)] w fun e w' => ∃ z a', e = .returned (.int .i64 z) ∧ RdS w' rb AR cR L a' d bad v n cs ∧ Kp [rb] w w' ∧ SingleP L a a' z := by
  obtain ⟨x0, x1, -, -, -⟩ := h.five
  have hle := h.le
  have H := hid (And.intro h hx)
  obtain ⟨m, hm⟩ : ∃ m, m = L.length := ⟨_, rfl⟩
  rw [← hm] at x0 hle hL
  have HM := hid hm
  clear h hx hm
  by_cases hlt : a < m
  · obtain ⟨x, hx⟩ : ∃ x, L[a]? = some x := ⟨_, List.getElem?_eq_getElem (by have := HM.out; omega)⟩
    obtain ⟨ad, rfl, y⟩ := H.out.1.rune hx
    have hx2 := H.out.2 x (List.mem_of_getElem? hx)
    have HX := hid hx
    have i0 : (a : Int) < (m : Int) := by omega
    have i1 : decide ((a : Int) < (m : Int)) = true := decide_eq_true i0
    have i2 : decide (a < m) = true := decide_eq_true hlt
    have i3 : ¬ (m : Int) ≤ (a : Int) := by omega
    have i4 : decide ((m : Int) ≤ (a : Int)) = false := decide_eq_false i3
    have i5 : decide (m ≤ a) = false := decide_eq_false (by omega)
    clear hx
    obtain ⟨b, hb⟩ : ∃ b, b = amongB ⟨#[91, 93, 94, 45]⟩ (x : Int) := ⟨_, rfl⟩
    have qa : ∀ W, Calls Try.prog 47 #[.int .i64 (x : Int), .string ⟨#[91, 93, 94, 45]⟩] W fun e w' => e = .returned (.bool b) ∧ w' = W := fun W => by
      rw [hb]; exact among_any W x _ (by decide)
    have HB : Hid (b = decide (x = 91 ∨ x = 93 ∨ x = 94 ∨ x = 45)) := hid (by rw [hb, among4])
    have HQ := hid qa
    clear hb qa
    go_enter Try.func64, Try.ntmps64
    go_wp2_with fail
    go_quiet ((go_at_call 47; exact Calls.quiet_of_same (HQ.out _)))
    generalize nq = n1 at *
    cases b with
    | true =>
      go_wp2_with fail
      go_ret
      have k1 : Kp [] w (w.drewN n1) := (Kp.refl _ _).drewN _
      refine ⟨_, _, rfl, H.out.1.kept k1, k1.mono (by simp), ?_⟩
      unfold SingleP
      rw [drop_at HX.out, single_cons]
      have := of_decide_eq_true HB.out.symm
      rw [if_neg (by omega), if_pos this]
      exact ⟨rfl, Nat.le_refl _⟩
    | false =>
      obtain ⟨w1, hw1⟩ : ∃ w1, w1 = w.drewN n1 := ⟨_, rfl⟩
      have k1 : Kp [] w w1 := by rw [hw1]; exact (Kp.refl _ _).drewN _
      rw [← hw1]
      have r1 := H.out.1.kept k1
      obtain ⟨x0, x1, -, -, -⟩ := r1.five
      rw [← HM.out] at x0
      obtain ⟨ad1, e1, y⟩ := r1.rune HX.out
      injection e1 with e1
      subst e1
      have H1 := hid (And.intro r1 k1)
      clear hw1 r1 k1
      go_wp2_with fail
      go_quiet (fail)
      generalize nq = n2 at *
      obtain ⟨w2, hw2⟩ : ∃ w2, w2 = w1.drewN n2 := ⟨_, rfl⟩
      have k2 : Kp [] w1 w2 := by rw [hw2]; exact (Kp.refl _ _).drewN _
      rw [← hw2]
      have r2 := H1.out.1.kept k2
      obtain ⟨x0, x1, -, -, -⟩ := r2.five
      rw [← HM.out] at x0
      have fr := r2.cell.free 1
      obtain ⟨a1, ha1⟩ : ∃ k, k = a + 1 := ⟨_, rfl⟩
      have iw : IntKind.i64.wrap ((a : Int) + 1) = (a1 : Int) := by rw [IntWalk.i64_in _ (by omega)]; omega
      have r3 := r2.at (a' := a1) (by have := HM.out; omega)
      obtain ⟨w3, hw3⟩ : ∃ w3, w3 = w2.setCell ⟨rb, 1, none⟩ (.int .i64 (a1 : Int)) := ⟨_, rfl⟩
      rw [← hw3] at r3
      have k3 : Kp [rb] w w3 := by rw [hw3]; exact ((H1.out.2.nil k2).mono (by simp)).setCell (fun _ => by simp) _
      have H3 := hid (And.intro r3 k3)
      have HW3 := hid hw3
      clear hw2 r2 k2 r3 k3 hw3
      by_cases h92 : x = 92
      · subst h92
        by_cases hlt2 : a1 < m
        · obtain ⟨x2, hx2'⟩ : ∃ x, L[a1]? = some x := ⟨_, List.getElem?_eq_getElem (by have := HM.out; omega)⟩
          have hx22 := H.out.2 x2 (List.mem_of_getElem? hx2')
          have HX2 := hid hx2'
          have HS : Hid (singleR (L.drop a) = (escR x2).map fun x => (x, L.drop (a1 + 1))) := hid (by rw [drop_at HX.out, ← ha1, drop_at hx2', single_cons, if_pos rfl])
          clear hx2'
          have HA1 := hid ha1
          clear ha1
          go_wp2_with fail
          rw [← HW3.out]
          clear HW3
          obtain ⟨x0, x1, -, -, -⟩ := H3.out.1.five
          rw [← HM.out] at x0
          have j0 : (a1 : Int) < (m : Int) := by omega
          have j1 : decide ((m : Int) ≤ (a1 : Int)) = false := decide_eq_false (by omega)
          have j2 : ¬ (m : Int) ≤ (a1 : Int) := by omega
          have j5 : decide (m ≤ a1) = false := decide_eq_false (by omega)
          go_wp2_with fail
          go_quiet (fail)
          generalize nq = n4 at *
          obtain ⟨w4, hw4⟩ : ∃ w4, w4 = w3.drewN n4 := ⟨_, rfl⟩
          have k4 : Kp [] w3 w4 := by rw [hw4]; exact (Kp.refl _ _).drewN _
          rw [← hw4]
          have r4 := H3.out.1.kept k4
          obtain ⟨x0, x1, -, -, -⟩ := r4.five
          rw [← HM.out] at x0
          have fr := r4.cell.free 1
          obtain ⟨a2, ha2⟩ : ∃ k, k = a1 + 1 := ⟨_, rfl⟩
          have iw : IntKind.i64.wrap ((a1 : Int) + 1) = (a2 : Int) := by rw [IntWalk.i64_in _ (by omega)]; omega
          have r5 := r4.at (a' := a2) (by have := HM.out; omega)
          obtain ⟨w5, hw5⟩ : ∃ w5, w5 = w4.setCell ⟨rb, 1, none⟩ (.int .i64 (a2 : Int)) := ⟨_, rfl⟩
          rw [← hw5] at r5
          have k5 : Kp [rb] w w5 := by rw [hw5]; exact (H3.out.2.nil k4).setCell (fun _ => by simp) _
          have iw2 : IntKind.i64.wrap ((a2 : Int) - 1) = (a1 : Int) := by rw [IntWalk.i64_in _ (by omega)]; omega
          have H5 := hid (And.intro r5 k5)
          have HA2 := hid ha2
          clear ha2
          have HW5 := hid hw5
          clear hw4 r4 k4 r5 k5 hw5
          go_wp2_with fail
          rw [← HW5.out]
          clear HW5
          obtain ⟨x0, x1, -, -, -⟩ := H5.out.1.five
          rw [← HM.out] at x0
          obtain ⟨ad1, e1, y⟩ := H5.out.1.rune HX2.out
          injection e1 with e1
          subst e1
          have HQE := hid (fun W => escd_any W x2 (by omega))
          clear fr
          go_wp2_with fail
          go_quiet ((go_at_call 54; exact Calls.quiet_of_same (HQE.out _)))
          generalize nq = n6 at *
          go_wp2_with fail
          go_ret
          have k6 : Kp [] w5 (w5.drewN n6) := (Kp.refl _ _).drewN _
          refine ⟨_, a2, rfl, H5.out.1.kept k6, H5.out.2.nil k6, ?_⟩
          unfold SingleP
          rw [HS.out, ← HA2.out]
          have := HA1.out
          have := HA2.out
          unfold escI
          cases escR x2 with
          | none => exact ⟨rfl, by omega⟩
          | some y => exact ⟨rfl, rfl, by omega⟩
        · have hx2' : L.drop a1 = [] := List.drop_eq_nil_of_le (by have := HM.out; omega)
          have HS : Hid (singleR (L.drop a) = none) := hid (by rw [drop_at HX.out, ← ha1, hx2', single_cons, if_pos rfl])
          have HA1 := hid ha1
          clear hx2' ha1
          go_wp2_with fail
          rw [← HW3.out]
          clear HW3
          obtain ⟨x0, x1, -, -, -⟩ := H3.out.1.five
          rw [← HM.out] at x0
          have j0 : (m : Int) ≤ (a1 : Int) := by omega
          have j1 : decide ((m : Int) ≤ (a1 : Int)) = true := decide_eq_true j0
          have j5 : decide (m ≤ a1) = true := decide_eq_true (by omega)
          go_wp2_with fail
          go_quiet (fail)
          generalize nq = n4 at *
          go_wp2_with fail
          go_ret
          have k4 : Kp [] w3 (w3.drewN n4) := (Kp.refl _ _).drewN _
          refine ⟨_, a1, rfl, H3.out.1.kept k4, H3.out.2.nil k4, ?_⟩
          unfold SingleP
          rw [HS.out]
          have := HA1.out
          exact ⟨rfl, by omega⟩
      · have e92 : ((x : Int) != 92) = true := bne_iff_ne.2 (by omega)
        have HS : Hid (singleR (L.drop a) = some (x, L.drop a1)) := hid (by
          rw [drop_at HX.out, single_cons, if_neg h92, if_neg (of_decide_eq_false HB.out.symm), ha1])
        have HA1 := hid ha1
        clear h92 ha1
        go_wp2_with fail
        rw [← HW3.out]
        go_ret
        refine ⟨_, a1, rfl, H3.out.1, H3.out.2, ?_⟩
        unfold SingleP
        rw [HS.out]
        have := HA1.out
        exact ⟨rfl, rfl, by omega⟩
  · have hdn : L.drop a = [] := List.drop_eq_nil_of_le (by have := HM.out; omega)
    have HD := hid hdn
    have i0 : (m : Int) ≤ (a : Int) := by omega
    have i1 : decide ((m : Int) ≤ (a : Int)) = true := decide_eq_true i0
    have i5 : decide (m ≤ a) = true := decide_eq_true (by omega)
    clear hdn
    go_enter Try.func64, Try.ntmps64
    go_wp2_with fail
    go_quiet (fail)
    generalize nq = n1 at *
    go_wp2_with fail
    go_ret
    have k1 : Kp [] w (w.drewN n1) := (Kp.refl _ _).drewN _
    refine ⟨_, _, rfl, H.out.1.kept k1, k1.mono (by simp), ?_⟩
    unfold SingleP
    rw [HD.out]
    exact ⟨rfl, Nat.le_refl _⟩
end Go.Proofs.Ytaaikjedagnjbaa

