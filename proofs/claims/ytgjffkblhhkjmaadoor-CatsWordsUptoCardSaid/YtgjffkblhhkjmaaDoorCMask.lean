/- Layer 6: names read as a mask. -/
import Derived.Test.YtgjffkblhhkjmaaDoorCPlaces
import Derived.Lib.SplitLaws
namespace Go.Proofs.YtgjffkblhhkjmaaDoor
open Go Go.RowKit Go.Maps

theorem first_cut (L : Txt) : (32 : UInt8) ∉ L ∨ ∃ x r, L = x ++ 32 :: r ∧ (32 : UInt8) ∉ x := by
  induction L with
  | nil => left; simp
  | cons c t ih =>
    by_cases hc : c = 32
    · subst hc; exact .inr ⟨[], t, rfl, by simp⟩
    · rcases ih with h | ⟨x, r, rfl, h⟩
      · left; simp [h, Ne.symm hc]
      · exact .inr ⟨c :: x, r, rfl, by simp [h, Ne.symm hc]⟩
theorem index_cut {x r : Txt} (h : (32 : UInt8) ∉ x) : Lib.index (x ++ 32 :: r) [32] = (x.length : Int) := by
  refine Lib.index_first (by simp) ?_ ?_
  · simp [Lib.occAt]
  · intro j hj
    cases hb : Lib.occAt (x ++ 32 :: r) [32] j with
    | false => rfl
    | true =>
      have h1 := Lib.occAt_head (c := 32) (t := []) rfl hb
      rw [List.getElem?_append_left hj, List.getElem?_eq_getElem hj] at h1
      injection h1 with h1
      exact absurd (h1 ▸ List.getElem_mem hj) h
theorem index_not {x : Txt} (h : (32 : UInt8) ∉ x) : Lib.index x [32] = -1 := by
  refine Lib.index_none fun j hj => ?_
  cases hb : Lib.occAt x [32] j with
  | false => rfl
  | true =>
    have h1 := Lib.occAt_head (c := 32) (t := []) rfl hb
    exact absurd (List.mem_of_getElem? h1) h
theorem split_pieces (L : Txt) : Lib.split L [32] = pieces L := by
  have key : ∀ (n : Nat) (L : Txt), L.length ≤ n → Lib.split L [32] = pieces L := by
    intro n
    induction n with
    | zero =>
      intro L hL
      obtain rfl := List.length_eq_zero_iff.1 (Nat.le_zero.1 hL)
      rfl
    | succ n ih =>
      intro L hL
      rcases first_cut L with h | ⟨x, r, rfl, h⟩
      · rw [pieces_none h]
        unfold Lib.split
        rw [Lib.count_miss (index_not h)]
        rfl
      · rw [pieces_cut r h]
        have hi := index_cut (r := r) h
        have hd : (x ++ 32 :: r).drop (x.length + 1) = r := by rw [List.drop_append]; simp
        unfold Lib.split
        rw [Lib.count_hit (by simp) hi, show [(32 : UInt8)].length = 1 from rfl, hd, Nat.add_comm]
        show Lib.splitK [32] 0 (Lib.count r [32] + 1) _ = _
        unfold Lib.splitK
        rw [hi]
        rw [if_neg (by intro e; have := eq_of_beq e; omega)]
        simp only [Int.toNat_natCast, Nat.add_zero]
        rw [show [(32 : UInt8)].length = 1 from rfl, hd, List.take_left' rfl]
        congr 1
        exact ih r (by rw [List.length_append, List.length_cons] at hL; omega)
  exact key _ L (Nat.le_refl _)
theorem strs_b (l : List ByteArray) : l.map Value.string = strs (l.map (·.data.toList)) := by
  unfold strs
  rw [List.map_map]
  apply List.map_congr_left
  intro b _
  simp
/-- Some number stands in the variable that the library's search looks at. -/
def ML (w : World) : Prop := ∃ m, w.cell? ⟨0, 0, none⟩ = some (.int .i64 m)
theorem ML.kept {w w' : World} (h : ML w) (k : Kp [] w w') : ML w' := by
  obtain ⟨m, hm⟩ := h
  exact ⟨m, k.cell hm (by simp)⟩
theorem split_any (w : World) (L : Txt) (hL : L.length ≤ 2000000) (hml : ML w) :
    Calls Tryd.prog 33 #[.string ⟨L.toArray⟩, .string ⟨#[32]⟩] w fun e w' => e = .returned (.slice (some ⟨w.heap.size, 0, none⟩) (pieces L).length (pieces L).length) ∧ w' = w.alloc (.cells (strs (pieces L)).toArray 9) := by
  obtain ⟨m, hm⟩ := hml
  have h := Tryd.strings_Split ⟨L.toArray⟩ ⟨#[32]⟩ m w (by rw [size_mk]; omega) hm (by decide)
  have e1 : (Lib.splitB ⟨#[32]⟩ 0 (Lib.countB ⟨L.toArray⟩ ⟨#[32]⟩) ⟨L.toArray⟩).map (·.data.toList) = pieces L := by
    rw [Lib.splitB_data, ← split_pieces]
    rfl
  have e2 : Lib.countB ⟨L.toArray⟩ ⟨#[32]⟩ + 1 = (pieces L).length := by
    rw [← e1, List.length_map, Lib.splitB_all _ (by decide) 0 _ _ rfl]
  rw [e2, strs_b, e1] at h
  exact h

/-- 'at[x]' of a name that is one. -/
theorem wpList_place {w : World} {ops : Array Oper} {rest : List Oper} {o : Oper} {a : Act} {Q : Exit → Act → World → Prop} (hg : o.guard = none) (m x : Operand) (hop : o.op = Op.lookup 53 m x true)
    (b n : Nat) (C : List Txt) (hm : a.eval m = .map (some b)) (hown : InMap w b n (placesD C)) (X : Txt) (hx : a.eval x = .string ⟨X.toArray⟩) (hX : X.length ≤ 2000000) (ok : Bool) (i : Nat)
    (hr : (ok = true ∧ C.Nodup ∧ C[i]? = some X) ∨ (ok = false ∧ i = 0 ∧ X ∉ C))
    (hK : wpList Tryd.prog ops Q rest (a.put o.dst (.tuple #[.int .i64 (i : Int), .bool ok])) w) :
    wpList Tryd.prog ops Q (o :: rest) a w := by
  refine wpList_lookup_own_ok_int w hg m x 53 hop 9 3 .i64 law Tryd.underlying53 Tryd.underlying3 (zeroI _) b n (placesD C) hm hown _ _ hx (key_str X hX) ?_
  intro c hat _
  rw [has_places]
  rcases hr with ⟨rfl, hn, hi⟩ | ⟨rfl, rfl, hn⟩
  · rw [at_places C hn i X hi] at hat
    unfold nd at hat
    injection hat with hat
    injection hat with _ hat
    rw [← hat, decide_eq_true (List.mem_of_getElem? hi)]
    exact hK
  · rw [at_not C X hn] at hat
    injection hat with hat
    injection hat with _ hat
    rw [← hat, decide_eq_false hn]
    exact hK
theorem maskW_snoc (C : List Txt) : ∀ (ws : List Txt) (m : Nat) (x : Txt), maskW C (ws ++ [x]) m = (maskW C ws m).bind fun M => maskW C [x] M
  | [], m, x => by simp [maskW]
  | y :: r, m, x => by
    rw [List.cons_append, maskW, maskW]
    cases C.findIdx? (· == y) with
    | none => rfl
    | some i => exact maskW_snoc C r _ x
/-- The words among the first pieces. -/
def wordsK (L : Txt) (k : Nat) : List Txt := ((pieces L).take k).filter (fun x => !x.isEmpty)
theorem wordsK_succ (L : Txt) (k : Nat) (h : k < (pieces L).length) : wordsK L (k + 1) = wordsK L k ++ if (pieces L)[k] = [] then [] else [(pieces L)[k]] := by
  unfold wordsK
  rw [List.take_add_one, List.getElem?_eq_getElem h, List.filter_append]
  congr 1
  cases hx : (pieces L)[k] <;> simp
theorem wordsK_all (L : Txt) : wordsK L (pieces L).length = wordsL L := by
  unfold wordsK wordsL
  rw [List.take_length]
theorem pieces_short : ∀ (L : Txt), ∀ x ∈ pieces L, x.length ≤ L.length
  | [], x, h => by simp [pieces] at h; subst h; simp
  | c :: t, x, h => by
    have ih := pieces_short t
    unfold pieces at h
    split at h
    · rcases List.mem_cons.1 h with rfl | h
      · simp
      · have := ih x h; simp; omega
    · split at h
      · rename_i y r e
        rw [e] at ih
        rcases List.mem_cons.1 h with rfl | h
        · have := ih y (by simp); simp; omega
        · have := ih x (by simp [h]); simp; omega
      · rw [List.mem_singleton.1 h]; simp
theorem pieces_len : ∀ (L : Txt), (pieces L).length ≤ L.length + 1
  | [] => by simp [pieces]
  | c :: t => by
    have ih := pieces_len t
    unfold pieces
    split
    · simp; omega
    · split
      · rename_i y r e
        rw [e] at ih
        simp at ih ⊢
        omega
      · simp
def maskV (o : Option Nat) : Value := match o with | some m => .tuple #[.int .u64 (m : Int), .int .i64 0] | none => .tuple #[.int .u64 0, .int .i64 20]
theorem shl_one (i : Nat) (hi : i < 64) : IntKind.u64.wrap (2 ^ i) = ((2 ^ i : Nat) : Int) := by
  rw [IntKind.wrap_u64]
  have h : 2 ^ i < 2 ^ 64 := Nat.pow_lt_pow_right (by decide) hi
  have e : (2 : Int) ^ i = ((2 ^ i : Nat) : Int) := by simp
  rw [e]
  obtain ⟨B, hB⟩ : ∃ B, B = 2 ^ i := ⟨_, rfl⟩
  rw [← hB] at h ⊢
  omega

set_option maxRecDepth 100000 in
set_option maxHeartbeats 6400000 in
theorem cmask_any (w : World) (A : Option Addr) (c : Nat) (C : List Txt) (hC : Strs w A c C) (hnd : C.Nodup) (h64 : C.length ≤ 64) (hne : [] ∉ C) (L : Txt) (hL : L.length ≤ 2000000) (hml : ML w) :
    Calls Tryd.prog 15 #[.slice A C.length c, .string ⟨L.toArray⟩] w fun e w' => e = .returned (maskV (maskL C L)) ∧ Kp [] w w' := by
  have hsz : (⟨L.toArray⟩ : ByteArray).size = L.length := size_mk _
  have qp := places_any w A c C hC
  have qs := fun W (h : ML W) => split_any W L hL h
  obtain ⟨Ps, hPs⟩ : ∃ P, P = pieces L := ⟨_, rfl⟩
  have hPl : Ps.length ≤ 2000001 := by rw [hPs]; have := pieces_len L; omega
  have hPx : ∀ x ∈ Ps, x.length ≤ 2000000 := by rw [hPs]; exact fun x hx => by have := pieces_short L x hx; omega
  obtain ⟨n, hn⟩ : ∃ n, n = C.length := ⟨_, rfl⟩
  obtain ⟨N, hN⟩ : ∃ N, N = Ps.length := ⟨_, rfl⟩
  simp only [← hPs, ← hN] at qs
  rw [← hn] at qp h64 ⊢
  rw [← hN] at hPl
  have HP := hid (And.intro hPs (And.intro hn hN))
  have HC := hid (And.intro hnd (And.intro hne (And.intro hml hPx)))
  clear hPs hn hN hnd hne hml hPx
  obtain ⟨S, hS⟩ : ∃ S, S = w.heap.size := ⟨_, rfl⟩
  rw [← hS] at qp
  have HS := hid hS
  clear hS
  go_enter Tryd.func15, Tryd.ntmps15
  go_wp2_with fail
  (with_reducible refine qp.mono ?_)
  rintro e w1 ⟨rfl, hown, k1⟩
  rw [decide_eq_true HC.out.1]
  have Hown := hid hown
  have Hk1 := hid k1
  clear hown k1 qp
  go_wp2_with fail
  (with_reducible refine (qs _ (HC.out.2.2.1.kept Hk1.out)).mono ?_)
  rintro e w2 ⟨rfl, hw2⟩
  have k2 : Kp [] w1 w2 := by rw [hw2]; exact (Kp.refl _ _).alloc _
  have hrow : Cells w2 w1.heap.size 9 (strs Ps) := by rw [hw2]; exact Cells.fresh _ _ _
  have Hrow := hid hrow
  have Hk2 := hid k2
  have hown2 : InMap w2 S n (placesD C) := Hown.out.kept (row := none) ⟨k2.os, k2.tape, k2.output, k2.size, fun i hi _ => k2.block i hi (by simp)⟩ (by simp)
  clear hw2 k2 hrow qs
  obtain ⟨R, hR⟩ : ∃ R, R = w1.heap.size := ⟨_, rfl⟩
  rw [← hR] at Hrow ⊢
  clear hR
  go_wp2_with fail
  go_loopw [8, 21] (fun v8 v21 wr => wr = w2 ∧ ∃ k M : Nat, k ≤ N ∧ v21 = .int .i64 (k : Int) ∧ v8 = .int .u64 (M : Int) ∧ M < 2 ^ 64 ∧ maskW C (wordsK L k) 0 = some M) (fun _ v21 _ => N - (intOf v21).toNat)
  case atStart => exact ⟨rfl, 0, 0, Nat.zero_le _, rfl, rfl, by decide, rfl⟩
  case round =>
    obtain ⟨hwr, k, M, hk, rfl, rfl, hM, hmask⟩ := hrel
    have hwr2 := hwr.symm
    subst hwr2
    have HM := hid hmask
    clear hmask
    by_cases hlt : k < N
    · have hkP : k < Ps.length := by rw [← HP.out.2.2]; exact hlt
      have hkL : k < (pieces L).length := by rw [← HP.out.1]; exact hkP
      have hcl := Hrow.out.cell k
      have hst := wordsK_succ L k hkL
      have hmem : (pieces L)[k] ∈ wordsL L ∨ (pieces L)[k] = [] := by
        by_cases h : (pieces L)[k] = []
        · exact .inr h
        · left
          unfold wordsL
          rw [List.mem_filter]
          refine ⟨List.getElem_mem _, ?_⟩
          cases hx : (pieces L)[k] with
          | nil => exact absurd hx h
          | cons _ _ => rfl
      have hx9 : (Ps[k]'hkP).length ≤ 2000000 := HC.out.2.2.2 _ (List.getElem_mem hkP)
      obtain ⟨X, hX⟩ : ∃ X, X = Ps[k]'hkP := ⟨_, rfl⟩
      have hXp : (pieces L)[k] = X := by rw [hX]; simp only [HP.out.1]
      have hcl2 : w2.cell? ⟨R, k, none⟩ = some (Value.string ⟨X.toArray⟩) := by
        rw [hcl]
        simp [strs, hX, hkP]
      rw [hXp] at hst hmem
      rw [← hX] at hx9
      have Hst := hid hst
      have Hmem := hid hmem
      clear hst hmem hXp hX hcl
      by_cases hin : X ∈ C
      · obtain ⟨i, hi, hil⟩ := idx_mem hin
        have hi64 : i < 64 := by rw [← HP.out.2.1] at hil; omega
        have hone := mask_one HC.out.1 hi M
        have hX0 : ¬ X = [] := fun e => HC.out.2.1 (e ▸ hin)
        have hor := u64_or_nat M (2 ^ i) (by simpa using hM) (by have : 2 ^ i < 2 ^ 64 := Nat.pow_lt_pow_right (by decide) hi64; simpa using this)
        have hM2 : M ||| 2 ^ i < 2 ^ 64 := Nat.or_lt_two_pow hM (Nat.pow_lt_pow_right (by decide) hi64)
        have hnew : maskW C (wordsK L (k + 1)) 0 = some (M ||| 2 ^ i) := by
          rw [Hst.out, if_neg hX0, maskW_snoc, HM.out]
          exact hone
        obtain ⟨M2, hM2e⟩ : ∃ m, m = M ||| 2 ^ i := ⟨_, rfl⟩
        rw [← hM2e] at hor hM2 hnew
        have Hnew := hid hnew
        have Hi := hid hi
        have hsh := shl_one i hi64
        obtain ⟨B, hB⟩ : ∃ B, B = 2 ^ i := ⟨_, rfl⟩
        rw [← hB] at hor hsh
        have hi63 : (i : Int) ≤ 64 := by omega
        clear hnew hi hone hil hin hX0 hB hM2e
        go_wp2_with (at_lookup; go_must (refine wpList_place rfl _ _ rfl S n C rfl hown2 X rfl hx9 true i (.inl ⟨rfl, HC.out.1, Hi.out⟩) ?_))
        go_roundw
        case rel => exact ⟨trivial, k + 1, M2, by omega, by go_num, by first | rfl | congr 1, hM2, Hnew.out⟩
        case measure => simp [intOf]; omega
      · by_cases hX0 : X = []
        · subst hX0
          have hnew : maskW C (wordsK L (k + 1)) 0 = some M := by rw [Hst.out, if_pos rfl, List.append_nil]; exact HM.out
          have Hnew := hid hnew
          have Hin := hid hin
          clear hnew hin
          go_wp2_with (at_lookup; go_must (refine wpList_place rfl _ _ rfl S n C rfl hown2 [] rfl hx9 false 0 (.inr ⟨rfl, rfl, Hin.out⟩) ?_))
          go_roundw
          case rel => exact ⟨trivial, k + 1, M, by omega, by go_num, rfl, hM, Hnew.out⟩
          case measure => simp [intOf]; omega
        · have hres : maskL C L = none := by
            refine maskW_none _ _ ⟨X, ?_, hin⟩
            rcases Hmem.out with h | h
            · exact h
            · exact absurd h hX0
          have hXe : X.isEmpty = false := by cases X with | nil => exact absurd rfl hX0 | cons _ _ => rfl
          have Hres := hid hres
          have Hin := hid hin
          clear hres hin hX0
          go_wp2_with (at_lookup; go_must (refine wpList_place rfl _ _ rfl S n C rfl hown2 X rfl hx9 false 0 (.inr ⟨rfl, rfl, Hin.out⟩) ?_))
          go_ret2
          exact ⟨by rw [Hres.out]; rfl, Hk1.out.nil Hk2.out⟩
    · have hkN : k = N := by omega
      have hres : maskL C L = some M := by
        have h := HM.out
        rw [hkN, HP.out.2.2, HP.out.1, wordsK_all] at h
        exact h
      have Hres := hid hres
      clear hres
      go_wp2_with fail
      go_ret2
      exact ⟨by rw [Hres.out]; rfl, Hk1.out.nil Hk2.out⟩
end Go.Proofs.YtgjffkblhhkjmaaDoor
