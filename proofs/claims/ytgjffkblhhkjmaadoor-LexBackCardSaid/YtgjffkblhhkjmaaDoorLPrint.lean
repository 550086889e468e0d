/- A token's text (written); the text of a row of tokens (Print). -/
import Derived.Test.YtgjffkblhhkjmaaDoorLAppend
import Derived.Test.YtgjffkblhhkjmaaDoorQQuote
import Derived.Test.YtgjffkblhhkjmaaDoorDPrint
import Derived.Test.YtgjffkblhhkjmaaDoorDMore
namespace Go.Proofs.YtgjffkblhhkjmaaDoor
open Go Go.RowKit Go.Lib

/-- What is asked of a token that is written. -/
def FineT (t : Tk) : Prop := t.text.length ≤ 4096 ∧ ((t.kind = 3 ∨ t.kind = 5) → validD t.text = true) ∧ (t.kind = 4 → ∃ d, t.num = some d ∧ Ok d)
theorem fine_of {s : Txt} {k n : Nat} {x : Txt} {d : Option Dc} (h : tokL s = some (k, x, d, n)) (p : Nat) : FineT ⟨k, x, d, p⟩ := by
  obtain ⟨c, t, _, hf⟩ := tok_form h
  unfold FineT
  dsimp only
  rcases hf with ⟨rfl, hn, -, rfl⟩ | ⟨rfl, -, hn, rfl⟩ | ⟨rfl, -, hn, rfl⟩ | ⟨rfl, -, hv, hl, rfl⟩ | ⟨rfl, -, hv, hl, rfl⟩ | ⟨rfl, -, rfl, e, rfl, ho, -⟩ | ⟨rfl, -, -, -, hl, rfl⟩
  · exact ⟨by have := (name_all hn).2.2; omega, fun h => by omega, fun h => by omega⟩
  · exact ⟨by have := (name_all hn).2.2; omega, fun h => by omega, fun h => by omega⟩
  · exact ⟨by have := (name_all hn).2.2; omega, fun _ => name_valid hn, fun h => by omega⟩
  · exact ⟨hl, fun _ => hv, fun h => by omega⟩
  · exact ⟨hl, fun _ => hv, fun h => by omega⟩
  · exact ⟨by simp, fun h => by omega, fun _ => ⟨e, rfl, ho⟩⟩
  · exact ⟨by omega, fun h => by omega, fun h => by omega⟩
theorem quote_len (x : Txt) : (quoteL x).length ≤ 6 * x.length + 2 := by
  have := (body_len x).2
  unfold quoteL
  simp
  omega
theorem writ_len {t : Tk} (h : FineT t) : (writ t).length ≤ 30000 := by
  obtain ⟨h1, h2, h3⟩ := h
  have := quote_len t.text
  unfold writ
  split
  · simp; omega
  · split
    · simp; omega
    · split
      · rename_i h4
        obtain ⟨d, e, ho⟩ := h3 h4
        rw [e]
        have := print_len ho
        dsimp only
        omega
      · split <;> omega
set_option maxRecDepth 100000 in
set_option maxHeartbeats 6400000 in
theorem written_any (w : World) (t : Tk) (hf : FineT t) :
    Calls Tryd.prog 39 #[.agg #[.int .i64 (t.kind : Int), .int .i64 (t.pos : Int), .string ⟨t.text.toArray⟩, .bool (tN t.num), .string ⟨(tL t.num).toArray⟩, .int .i64 (tS t.num)]] w fun e w' => e = .returned (.string ⟨(writ t).toArray⟩) ∧ Kp [] w w' := by
  obtain ⟨k, x, d, p⟩ := t
  obtain ⟨h1, h2, h3⟩ := hf
  dsimp only at h1 h2 h3 ⊢
  have qq : ∀ W, validD x = true → Calls Tryd.prog 59 #[.string ⟨x.toArray⟩] W fun e w' => e = .returned (.string ⟨(quoteL x).toArray⟩) ∧ Kp [] W w' := fun W (hv : validD x = true) => qquote_any W ⟨x.toArray⟩ (by rw [show (⟨x.toArray⟩ : ByteArray).size = x.length from size_mk _]; omega) hv
  have hxl := quote_len x
  have hk0 : Kp [] w (w.alloc (.cells #[.int .i64 (k : Int), .int .i64 (p : Int), .string ⟨x.toArray⟩, .bool (tN d), .string ⟨(tL d).toArray⟩, .int .i64 (tS d)] 49)) := (Kp.refl _ _).alloc _
  have hcf := Cells.fresh w 49 [.int .i64 (k : Int), .int .i64 (p : Int), .string ⟨x.toArray⟩, .bool (tN d), .string ⟨(tL d).toArray⟩, .int .i64 (tS d)]
  have HK := hid hk0
  have HC := hid hcf
  clear hk0 hcf
  rcases (show k = 2 ∨ k = 3 ∨ k = 4 ∨ k = 5 ∨ (k ≠ 2 ∧ k ≠ 3 ∧ k ≠ 4 ∧ k ≠ 5) by omega) with rfl | rfl | rfl | rfl | ⟨n2, n3, n4, n5⟩
  · have A1 := fun W => run_add_text (P := Tryd.prog) [36] x (36 :: x) rfl (by simp; omega) W
    have hr : writ ⟨2, x, d, p⟩ = 36 :: x := rfl
    rw [hr]
    clear hr h2 h3 qq
    go_enter Tryd.func39, Tryd.ntmps39
    go_wp2_with fail
    go_ret
    exact ⟨rfl, HK.out⟩
  · have q := fun W => qq W (h2 (.inl rfl))
    have A1 := fun W => run_add_text (P := Tryd.prog) [46] (quoteL x) (46 :: quoteL x) rfl (by simp; omega) W
    have hr : writ ⟨3, x, d, p⟩ = 46 :: quoteL x := rfl
    rw [hr]
    clear hr h2 h3 qq
    obtain ⟨Y, hY⟩ : ∃ Y, Y = quoteL x := ⟨_, rfl⟩
    simp only [← hY] at q A1 ⊢
    clear hY hxl
    go_enter Tryd.func39, Tryd.ntmps39
    go_wp2_with fail
    (with_reducible refine (q _).mono ?_)
    rintro e w2 ⟨rfl, k2⟩
    have HK2 := hid (HK.out.nil k2)
    clear k2 q
    go_wp2_with fail
    go_ret
    exact ⟨rfl, HK2.out⟩
  · obtain ⟨e, rfl, ho⟩ := h3 rfl
    have hdl := length_dtxt_le (k := 60) ho.1 (by decide)
    have q := fun W => print_any W e (by omega) (by have := ho.2.1; omega)
    have hr : writ ⟨4, x, some e, p⟩ = printL e := rfl
    rw [hr]
    have b3 := HC.out.cell 3
    have b4 := HC.out.cell 4
    have b5 := HC.out.cell 5
    simp only [List.getElem?_cons_zero, List.getElem?_cons_succ] at b3 b4 b5
    simp only [tN, tL, tS] at b3 b4 b5 HK ⊢
    clear hr h2 h3 qq hxl HC ho hdl
    go_enter Tryd.func39, Tryd.ntmps39
    go_wp2_with fail
    (with_reducible refine (q _).mono ?_)
    rintro e' w2 ⟨rfl, k2⟩
    have HK2 := hid (HK.out.nil k2)
    clear k2 q
    go_wp2_with fail
    go_ret
    exact ⟨rfl, HK2.out⟩
  · have q := fun W => qq W (h2 (.inr rfl))
    have hr : writ ⟨5, x, d, p⟩ = quoteL x := rfl
    rw [hr]
    clear hr h2 h3 qq
    obtain ⟨Y, hY⟩ : ∃ Y, Y = quoteL x := ⟨_, rfl⟩
    simp only [← hY] at q ⊢
    clear hY hxl
    go_enter Tryd.func39, Tryd.ntmps39
    go_wp2_with fail
    (with_reducible refine (q _).mono ?_)
    rintro e w2 ⟨rfl, k2⟩
    have HK2 := hid (HK.out.nil k2)
    clear k2 q
    go_wp2_with fail
    go_ret
    exact ⟨rfl, HK2.out⟩
  · have hr : writ ⟨k, x, d, p⟩ = x := by unfold writ; rw [if_neg n2, if_neg n3, if_neg n4, if_neg n5]
    rw [hr]
    have z2 : ((k : Int) == 2) = false := by rw [beq_eq_false_iff_ne]; omega
    have z3 : ((k : Int) == 3) = false := by rw [beq_eq_false_iff_ne]; omega
    have z4 : ((k : Int) == 4) = false := by rw [beq_eq_false_iff_ne]; omega
    have z5 : ((k : Int) == 5) = false := by rw [beq_eq_false_iff_ne]; omega
    clear hr h2 h3 qq n2 n3 n4 n5
    go_enter Tryd.func39, Tryd.ntmps39
    go_wp2_with fail
    go_ret
    exact ⟨rfl, HK.out⟩
theorem linfoStr : (Tryd.prog.info? 9).map (fun i => (i.zero, i.size, i.bytes)) = some (some (.string ⟨#[]⟩), 1, 16) := by kernel_rfl
theorem lone_string (x : ByteArray) : ∀ u ∈ [Value.string x], u.oneCell' = true := by
  intro u hu
  rw [List.mem_singleton.1 hu]
  rfl
def lstrs (C : List Txt) : List Value := C.map fun x => .string ⟨x.toArray⟩
theorem length_lstrs (C : List Txt) : (lstrs C).length = C.length := by simp [lstrs]
theorem ljoin_is : ∀ l : List Txt, Lib.join l [32] = joinB l
  | [] => rfl
  | [x] => Lib.join_one x [32]
  | x :: y :: r => by
    rw [Lib.join_cons]
    show x ++ ([32] ++ y ++ Lib.joinTail [32] r) = x ++ 32 :: joinB (y :: r)
    rw [← ljoin_is (y :: r), Lib.join_cons]
    simp
theorem ljoin_len : ∀ (l : List Txt), (∀ x ∈ l, x.length ≤ 30000) → (joinB l).length ≤ l.length * 30001
  | [], _ => Nat.zero_le _
  | [x], h => by have := h x (by simp); simp [joinB]; omega
  | x :: y :: r, h => by
    have h1 := h x (by simp)
    have h2 := ljoin_len (y :: r) (fun z hz => h z (List.mem_cons_of_mem _ hz))
    show (x ++ 32 :: joinB (y :: r)).length ≤ _
    rw [List.length_append, List.length_cons, List.length_cons, Nat.add_mul]
    omega
theorem ljoin_any (w : World) (v : Value) (l : List Txt) (h : Own w 9 v l.length (lstrs l)) (hl : l.length ≤ 1000) (hx : ∀ x ∈ l, x.length ≤ 30000) :
    Calls Tryd.prog 34 #[v, .string ⟨#[32]⟩] w fun e w' => e = .returned (.string ⟨(joinB l).toArray⟩) ∧ Kp [] w w' := by
  obtain ⟨A, c, rfl, hs, hc, -, hA⟩ := h.shape
  have hbl := ljoin_len l hx
  by_cases h0 : l.length = 0
  · obtain rfl := List.length_eq_zero_iff.1 h0
    exact (Tryd.strings_Join_none A c ⟨#[32]⟩ w).mono fun e w' ⟨h1, h2⟩ => ⟨h1, by rw [h2]; exact Kp.refl _ _⟩
  · obtain ⟨ad, e, hcell⟩ := hs.get (j := 0) (by rw [length_lstrs]; omega)
    subst e
    obtain ⟨hb, -⟩ := hA ad rfl
    have e1 : (l.map fun x => (⟨x.toArray⟩ : ByteArray)).map (·.data.toList) = l := by rw [List.map_map]; exact List.map_id'' (fun _ => rfl) l
    have q := Tryd.strings_Join ad.block 0 c (l.map fun x => ⟨x.toArray⟩) ⟨#[32]⟩ w (fun j x hj => by
        rw [List.getElem?_map, Option.map_eq_some_iff] at hj
        obtain ⟨y, hy, rfl⟩ := hj
        obtain ⟨ad2, e2, h2⟩ := hs j (.string ⟨y.toArray⟩) (by unfold lstrs; rw [List.getElem?_map, hy]; rfl)
        injection e2 with e2
        rw [← e2, hb] at h2
        rcases Nat.eq_zero_or_pos j with hj0 | hj0
        · subst hj0; simpa [Addr.add] using h2
        · simpa [Addr.add, Nat.ne_of_gt hj0] using h2)
      (hs.old (by rw [length_lstrs]; omega) ad rfl) (by rw [List.length_map]; omega) (by rw [List.length_map]; exact hc) (by rw [e1]; show (Lib.join l [32]).length ≤ _; rw [ljoin_is]; omega)
    rw [e1, List.length_map, ← hb] at q
    have e3 : Lib.join l (⟨#[32]⟩ : ByteArray).data.toList = joinB l := ljoin_is l
    rw [e3] at q
    exact q.mono fun e w' ⟨h1, h2⟩ => ⟨h1, Kp.of_below h2⟩
set_option maxRecDepth 100000 in
set_option maxHeartbeats 6400000 in
theorem lprint_any (w : World) (A : Option Addr) (c : Nat) (l : List Tk) (hl : TkRow w A c l) (h6 : l.length ≤ 600) (hf : ∀ t ∈ l, FineT t) :
    Calls Tryd.prog 30 #[.slice A l.length c] w fun e w' => e = .returned (.string ⟨(joinB (l.map writ)).toArray⟩) ∧ Kp [] w w' := by
  have hcap := hl.le
  have hcap2 := hl.top
  have HL := hid hl
  have HF := hid hf
  obtain ⟨n, hn⟩ : ∃ n, n = l.length := ⟨_, rfl⟩
  rw [← hn] at hcap h6 ⊢
  have Hn := hid hn
  clear hn hl hf
  go_enter Tryd.func30, Tryd.ntmps30
  go_wp2_with fail
  go_loopw [3, 8] (fun v i wr => ∃ k : Nat, k ≤ n ∧ i = .int .i64 (k : Int) ∧ Own wr 9 v k (lstrs ((l.take k).map writ)) ∧ New w wr v) (fun _ i _ => n - (intOf i).toNat)
  case atStart => exact ⟨0, Nat.zero_le _, rfl, Own.nil _ _, New.nil (Kp.refl _ _)⟩
  case round =>
    obtain ⟨k, hk, rfl, ho, hnw⟩ := hrel
    by_cases hlt : k < n
    · have hkl : k < l.length := by rw [← Hn.out]; exact hlt
      obtain ⟨t, ht⟩ : ∃ t, l[k]? = some t := ⟨_, List.getElem?_eq_getElem hkl⟩
      obtain ⟨g, rfl, hat⟩ := HL.out.at_ k t ht
      have hat := hat.kept hnw.kp
      have hft := HF.out t (List.mem_of_getElem? ht)
      have hst : lstrs ((l.take (k + 1)).map writ) = lstrs ((l.take k).map writ) ++ [.string ⟨(writ t).toArray⟩] := by
        rw [List.take_add_one, ht]
        simp [lstrs]
      have qw := fun W => written_any W t hft
      have a0 := hat k _ ht 0 _ rfl
      have a1 := hat k _ ht 1 _ rfl
      have a2 := hat k _ ht 2 _ rfl
      have a3 := hat k _ ht 3 _ rfl
      have a4 := hat k _ ht 4 _ rfl
      have a5 := hat k _ ht 5 _ rfl
      simp only [Nat.add_zero] at a0
      have e6 : k * 6 = 6 * k := Nat.mul_comm _ _
      obtain ⟨Y, hY⟩ : ∃ Y, Y = writ t := ⟨_, rfl⟩
      rw [← hY] at hst
      simp only [← hY] at qw
      have Hst := hid hst
      have HO := hid (And.intro ho hnw)
      clear hst ht hat hft hY ho hnw
      go_wp2_with fail
      (with_reducible refine (qw _).mono ?_)
      rintro e w2 ⟨rfl, k2⟩
      have hk2 : Kp [] wr w2 := ((Kp.refl _ _).alloc _).nil k2
      have ho2 := HO.out.1.kept hk2
      have hnw2 := hid (HO.out.2.kept hk2)
      clear k2 hk2 qw a0 a1 a2 a3 a4 a5 HO
      go_wp2_with (at_builtin; go_must (refine wpList_append1 rfl _ _ 22 rfl 9 (.string ⟨#[]⟩) 16 Tryd.underlying22 linfoStr rfl _ _ _ rfl (ho2.kept ((Kp.refl _ _).alloc _)) _ 1 1 [.string ⟨Y.toArray⟩] rfl (Span.of_new w2 _ _ _) rfl (lone_string _) ?_ ?_ ?_))
      · omega
      · omega
      intro v1 w3 ho3 hk3 hb3
      go_wp2_with fail
      go_roundw
      case rel => exact ⟨k + 1, by omega, by go_num, by rw [Hst.out, List.map_take]; exact ho3, (hnw2.out.kept ((Kp.refl _ _).alloc _)).append hk3 hb3 (by simp)⟩
      case measure => simp [intOf]; omega
    · have hkn : k = n := by omega
      have htk : l.take k = l := List.take_of_length_le (by rw [hkn, Hn.out]; exact Nat.le_refl _)
      rw [htk] at ho
      have hml : (l.map writ).length = k := by rw [List.length_map, hkn, Hn.out]
      rw [← hml] at ho
      have q := ljoin_any wr _ (l.map writ) ho (by omega) (fun x hx => by
        obtain ⟨t, ht, rfl⟩ := List.mem_map.1 hx
        exact writ_len (HF.out t ht))
      have z1 : decide ((k : Int) < (n : Int)) = false := decide_eq_false (by omega)
      have z1n : decide (k < n) = false := decide_eq_false hlt
      have Hkp := hid hnw.kp
      obtain ⟨J, hJ⟩ : ∃ J, J = joinB (l.map writ) := ⟨_, rfl⟩
      rw [← hJ] at q
      have HJ := hid hJ
      clear htk ho hnw hml hkn hJ
      go_wp2_with fail
      (with_reducible refine q.mono ?_)
      rintro e w2 ⟨rfl, k2⟩
      have Hk2 := hid (Hkp.out.nil k2)
      clear k2
      go_wp2_with fail
      go_ret
      exact ⟨by rw [HJ.out]; rfl, Hk2.out⟩
end Go.Proofs.YtgjffkblhhkjmaaDoor
