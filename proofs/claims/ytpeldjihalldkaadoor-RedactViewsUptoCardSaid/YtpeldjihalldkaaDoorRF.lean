/- Show; View. -/
import Derived.Test.YtpeldjihalldkaaDoorRD
import Derived.Test.YtpeldjihalldkaaDoorRB
import Derived.Test.YtpeldjihalldkaaDoorRE
import Derived.Test.YtpeldjihalldkaaDoorRA
import Derived.Laws.Bits128
import Derived.Deep.Cut
namespace Go.Proofs.YtpeldjihalldkaaDoor
open Go Go.RowKit Go.Lib

theorem kidsL_at (cl : Nat) (hole : Txt) : ∀ (l : List Vl) (i : Nat), (kidsL cl hole l)[i]? = l[i]?.map (showL cl hole)
  | [], _ => by simp [kidsL]
  | v :: r, 0 => by simp [kidsL]
  | v :: r, i + 1 => by
    unfold kidsL
    rw [List.getElem?_cons_succ, List.getElem?_cons_succ]
    exact kidsL_at cl hole r i
theorem kidsL_len (cl : Nat) (hole : Txt) : ∀ l : List Vl, (kidsL cl hole l).length = l.length
  | [] => by simp [kidsL]
  | v :: r => by unfold kidsL; simp [kidsL_len cl hole r]
theorem kidsO_at (cl : Nat) (hole : Txt) : ∀ (keys : List Txt) (l : List Vl) (i : Nat) (x : Txt) (v : Vl), keys[i]? = some x → l[i]? = some v → (kidsO cl hole keys l)[i]? = some (quoteL x ++ 58 :: showL cl hole v)
  | [], _, _, _, _, h, _ => by cases h
  | _, [], _, _, _, _, h => by cases h
  | y :: ys, u :: r, 0, x, v, h1, h2 => by
    injection h1 with h1
    injection h2 with h2
    subst h1 h2
    simp [kidsO]
  | y :: ys, u :: r, i + 1, x, v, h1, h2 => by
    unfold kidsO
    rw [List.getElem?_cons_succ] at h1 h2 ⊢
    exact kidsO_at cl hole ys r i x v h1 h2
theorem kidsO_len (cl : Nat) (hole : Txt) : ∀ (keys : List Txt) (l : List Vl), (kidsO cl hole keys l).length = l.length
  | _, [] => by simp [kidsO]
  | keys, v :: r => by unfold kidsO; simp [kidsO_len cl hole keys.tail r]
theorem joinC_len : ∀ (l : List Txt), (joinC l).length ≤ (l.map List.length).sum + l.length
  | [] => Nat.zero_le _
  | [x] => by simp [joinC]
  | x :: y :: r => by
    have := joinC_len (y :: r)
    show (x ++ 44 :: joinC (y :: r)).length ≤ _
    simp only [List.length_append, List.length_cons, List.map_cons, List.sum_cons] at this ⊢
    omega
theorem join_c : ∀ l : List Txt, Lib.join l [44] = joinC l
  | [] => rfl
  | [x] => Lib.join_one x [44]
  | x :: y :: r => by
    rw [Lib.join_cons]
    show x ++ ([44] ++ y ++ Lib.joinTail [44] r) = x ++ 44 :: joinC (y :: r)
    rw [← join_c (y :: r), Lib.join_cons]
    simp
theorem fine_kids {k m : Nat} {num : Option Dc} {t : Txt} {keys : List Txt} {kids : List Vl} {code : Nat} (h : FineV (.mk k m num t keys kids code)) : ∀ v ∈ kids, FineV v := by
  cases h with
  | mk _ _ _ _ _ _ _ hk hm hn hn0 ht ht0 hkl hk0 hks hkd hc hcode hc0 hc8 hmany hf =>
    intro v hv
    obtain ⟨i, hi⟩ := List.getElem?_of_mem hv
    exact hf i v hi
mutual
theorem show_len (cl : Nat) (hole : Txt) (hh : hole.length ≤ 100) : ∀ v : Vl, FineV v → (showL cl hole v).length ≤ sizeV v * 7000
  | .mk k m num t keys kids code, hf => by
    have ha := atom_len hf
    have h1 := kids_len cl hole hh kids (fine_kids hf)
    have hfk : kids.length ≤ 10 ∧ ∀ x ∈ keys, x.length ≤ 100 := by
      cases hf with
      | mk _ _ _ _ _ _ _ hk hm hn hn0 ht ht0 hkl hk0 hks hkd hc hcode hc0 hc8 hmany hf => exact ⟨hmany, fun x hx => (hks x hx).1⟩
    have h2 := kidso_len cl hole hh keys kids (fine_kids hf) hfk.2
    have j1 := joinC_len (kidsL cl hole kids)
    have j2 := joinC_len (kidsO cl hole keys kids)
    rw [kidsL_len] at j1
    rw [kidsO_len] at j2
    have hk9 := hfk.1
    unfold showL sizeV
    split
    · omega
    · split
      · simp only [List.length_cons, List.length_append, List.length_nil]; omega
      · split
        · simp only [List.length_cons, List.length_append, List.length_nil]; omega
        · omega
theorem kids_len (cl : Nat) (hole : Txt) (hh : hole.length ≤ 100) : ∀ l : List Vl, (∀ v ∈ l, FineV v) → ((kidsL cl hole l).map List.length).sum ≤ sizes l * 7000
  | [], _ => by simp [kidsL]
  | v :: r, h => by
    have h1 := show_len cl hole hh v (h v (by simp))
    have h2 := kids_len cl hole hh r (fun u hu => h u (by simp [hu]))
    unfold kidsL sizes
    simp only [List.map_cons, List.sum_cons]
    omega
theorem kidso_len (cl : Nat) (hole : Txt) (hh : hole.length ≤ 100) : ∀ (keys : List Txt) (l : List Vl), (∀ v ∈ l, FineV v) → (∀ x ∈ keys, x.length ≤ 100) → ((kidsO cl hole keys l).map List.length).sum ≤ sizes l * 7000 + l.length * 603
  | _, [], _, _ => by simp [kidsO]
  | keys, v :: r, h, hk => by
    have h1 := show_len cl hole hh v (h v (by simp))
    have h2 := kidso_len cl hole hh keys.tail r (fun u hu => h u (by simp [hu])) (fun x hx => hk x (List.mem_of_mem_tail hx))
    have h3 := quote_len (keys.headD [])
    have h4 : (keys.headD []).length ≤ 100 := by
      cases keys with
      | nil => simp
      | cons a b => exact hk a (by simp)
    unfold kidsO sizes
    simp only [List.map_cons, List.sum_cons, List.length_append, List.length_cons, Nat.add_mul]
    omega
end
def tstrs (C : List Txt) : List Value := C.map fun x => .string ⟨x.toArray⟩
theorem length_tstrs (C : List Txt) : (tstrs C).length = C.length := by simp [tstrs]
theorem tinfoStr : (Tryd.prog.info? 9).map (fun i => (i.zero, i.size, i.bytes)) = some (some (.string ⟨#[]⟩), 1, 16) := by kernel_rfl
theorem tone_string (x : ByteArray) : ∀ u ∈ [Value.string x], u.oneCell' = true := by
  intro u hu
  rw [List.mem_singleton.1 hu]
  rfl
theorem tjoin_any (w : World) (v : Value) (l : List Txt) (h : Own w 9 v l.length (tstrs l)) (hl : l.length ≤ 1000) (hx : (joinC l).length ≤ 100000000000000) :
    Calls Tryd.prog 46 #[v, .string ⟨#[44]⟩] w fun e w' => e = .returned (.string ⟨(joinC l).toArray⟩) ∧ Kp [] w w' := by
  obtain ⟨A, c, rfl, hs, hc, -, hA⟩ := h.shape
  by_cases h0 : l.length = 0
  · obtain rfl := List.length_eq_zero_iff.1 h0
    exact (Tryd.strings_Join_none A c ⟨#[44]⟩ w).mono fun e w' ⟨h1, h2⟩ => ⟨h1, by rw [h2]; exact Kp.refl _ _⟩
  · obtain ⟨ad, e, hcell⟩ := hs.get (j := 0) (by rw [length_tstrs]; omega)
    subst e
    obtain ⟨hb, -⟩ := hA ad rfl
    have e1 : (l.map fun x => (⟨x.toArray⟩ : ByteArray)).map (·.data.toList) = l := by rw [List.map_map]; exact List.map_id'' (fun _ => rfl) l
    have q := Tryd.strings_Join ad.block 0 c (l.map fun x => ⟨x.toArray⟩) ⟨#[44]⟩ w (fun j x hj => by
        rw [List.getElem?_map, Option.map_eq_some_iff] at hj
        obtain ⟨y, hy, rfl⟩ := hj
        obtain ⟨ad2, e2, h2⟩ := hs j (.string ⟨y.toArray⟩) (by unfold tstrs; rw [List.getElem?_map, hy]; rfl)
        injection e2 with e2
        rw [← e2, hb] at h2
        rcases Nat.eq_zero_or_pos j with hj0 | hj0
        · subst hj0; simpa [Addr.add] using h2
        · simpa [Addr.add, Nat.ne_of_gt hj0] using h2)
      (hs.old (by rw [length_tstrs]; omega) ad rfl) (by rw [List.length_map]; omega) (by rw [List.length_map]; exact hc) (by rw [e1]; show (Lib.join l [44]).length ≤ _; rw [join_c]; omega)
    rw [e1, List.length_map, ← hb] at q
    have e3 : Lib.join l (⟨#[44]⟩ : ByteArray).data.toList = joinC l := join_c l
    rw [e3] at q
    exact q.mono fun e w' ⟨h1, h2⟩ => ⟨h1, Kp.of_below h2⟩
/-- What Show does for a tree at any later world. -/
def ShowAt (w : World) (v : Vl) (cs : List Value) : Prop :=
  FineV v → sizeV v ≤ 1000000 → ∀ W, Kp [] w W → ∀ (cl : Nat) (hole : Txt), cl < 18446744073709551616 → hole.length ≤ 100 →
    Calls Tryd.prog 18 #[.agg cs.toArray, .int .u64 (cl : Int), .string ⟨hole.toArray⟩] W fun e w' => e = .returned (.string ⟨(showL cl hole v).toArray⟩) ∧ Kp [] W w'
set_option maxRecDepth 100000 in
set_option maxHeartbeats 12800000 in
theorem show_step (w : World) (k m : Nat) (num : Option Dc) (t : Txt) (keys : List Txt) (kids : List Vl) (code : Nat) (A : Option Addr) (ck : Nat) (B : Option Addr) (cb : Nat) (ks : Nat → List Value)
    (hA : KeysAt w A ck keys) (hB : KidsAt w B cb kids.length ks) (hr : ∀ (i : Nat) v, kids[i]? = some v → Rep w v (ks i)) (ih : ∀ (i : Nat) v, kids[i]? = some v → ShowAt w v (ks i)) :
    ShowAt w (.mk k m num t keys kids code) (vC k m (vN num) (vD num) (vS num) t A keys.length ck B kids.length cb code) := by
  intro hf hsz W hK cl hole hcl hho
  have hA := hA.kept hK
  have hB := hB.kept hK
  have hslen := show_len cl hole hho _ hf
  have hkl := kids_len cl hole hho kids (fine_kids hf)
  have hko := kidso_len cl hole hho keys kids (fine_kids hf)
  have hfk := fine_kids hf
  have HF := hid hf
  cases hf with
  | mk _ _ _ _ _ _ _ hk hm hn hn0 ht ht0 hkey hk0 hks hkd hc hcode hc0 hc8 hmany hff =>
    have q1 := fun W' => hidden_cells W' (k : Int) m (vN num) (vD num) (vS num) t A keys.length ck B kids.length cb (code : Int) cl hm hcl
    have hk0' : Kp [] W (W.alloc (.cells #[.int .i64 (k : Int), .int .u64 (m : Int), .bool (vN num), .string ⟨(vD num).toArray⟩, .int .i64 (vS num), .string ⟨t.toArray⟩, .slice A keys.length ck, .slice B kids.length cb, .int .i64 (code : Int)] 31)) := (Kp.refl _ _).alloc _
    have hcf := Cells.fresh W 31 [.int .i64 (k : Int), .int .u64 (m : Int), .bool (vN num), .string ⟨(vD num).toArray⟩, .int .i64 (vS num), .string ⟨t.toArray⟩, .slice A keys.length ck, .slice B kids.length cb, .int .i64 (code : Int)]
    have HK0 := hid hk0'
    have HC := hid hcf
    have hka := hA.le
    have hka2 := hA.top
    have hkb := hB.le
    have hkb2 := hB.top
    obtain ⟨nk, hnk⟩ : ∃ x, x = keys.length := ⟨_, rfl⟩
    obtain ⟨nb, hnb⟩ : ∃ x, x = kids.length := ⟨_, rfl⟩
    unfold vC
    simp only [← hnk, ← hnb] at hkey hka hkb hB q1 HK0 HC hmany ⊢
    clear ht0 hc0 hc8 hn0
    obtain ⟨hb, hhb⟩ : ∃ b, b = hidB m cl := ⟨_, rfl⟩
    simp only [← hhb] at q1
    have HHB := hid hhb
    have hko := hko (fun x hx => (hks x hx).1)
    have HN := hid (And.intro hnk hnb)
    clear hk0' hcf hhb hnk hnb
    cases hb
    · rcases (show k = 7 ∨ k = 6 ∨ (k ≠ 7 ∧ k ≠ 6) by omega) with rfl | rfl | ⟨h7, h6⟩
      · have hkl2 : nk = nb := hkey rfl
        have hres : showL cl hole (.mk 7 m num t keys kids code) = 123 :: (joinC (kidsO cl hole keys kids) ++ [125]) := by
          unfold showL
          rw [if_neg (by rw [← HHB.out]; simp), if_pos rfl]
        rw [hres]
        have hsum : sizes kids ≤ 1000000 := by unfold sizeV at hsz; omega
        obtain ⟨P, hP⟩ : ∃ P, P = kidsO cl hole keys kids := ⟨_, rfl⟩
        have hPl : P.length = nb := by rw [hP, kidsO_len, HN.out.2]
        rw [← HN.out.2] at hko
        simp only [Int.cast_ofNat_Int] at q1
        have hjl := joinC_len P
        rw [← hP] at hko ⊢
        have A1 := fun W => run_add_text (P := Tryd.prog) [123] (joinC P) (123 :: joinC P) rfl (by simp; omega) W
        have A2 := fun W => run_add_text (P := Tryd.prog) (123 :: joinC P) [125] (123 :: (joinC P ++ [125])) rfl (by simp; omega) W
        have HR := hid (And.intro hA (And.intro hB (And.intro hr (And.intro ih (And.intro hff (And.intro hks hslen))))))
        have HP := hid (And.intro hP hkl2)
        have HJ := hid (And.intro hPl hjl)
        clear hres hA hB hslen hkl hfk hn hkey hk0 hc hff ih hr hks hkl2 hP hPl
        go_enter Tryd.func18, Tryd.ntmps18
        go_wp2_with fail
        (with_reducible refine (q1 _).mono ?_)
        rintro e w2 ⟨rfl, k2⟩
        have HK2 := hid (HK0.out.nil k2)
        have HC2 := hid (HC.out.keep k2 (by simp))
        have x0 := HC2.out.cell 0
        have x6 := HC2.out.cell 6
        have x7 := HC2.out.cell 7
        simp only [List.getElem?_cons_zero, List.getElem?_cons_succ] at x0 x6 x7
        clear k2 q1
        go_wp2_with fail
        go_loopw [7, 18] (fun v i wr => ∃ j : Nat, j ≤ nb ∧ i = .int .i64 (j : Int) ∧ Own wr 9 v j (tstrs (P.take j)) ∧ New w2 wr v) (fun _ i _ => nb - (RowKit.intOf i).toNat)
        case atStart => exact ⟨0, Nat.zero_le _, rfl, Own.nil _ _, New.nil (Kp.refl _ _)⟩
        case round =>
          obtain ⟨j, hj, rfl, ho, hnw⟩ := hrel
          by_cases hlt : j < nb
          · obtain ⟨v, hv⟩ : ∃ v, kids[j]? = some v := ⟨_, List.getElem?_eq_getElem (by rw [← HN.out.2]; exact hlt)⟩
            obtain ⟨x, hx⟩ : ∃ x, keys[j]? = some x := ⟨_, List.getElem?_eq_getElem (by rw [← HN.out.1, HP.out.2]; exact hlt)⟩
            have hk2r : Kp [] W wr := HK2.out.nil hnw.kp
            obtain ⟨ga, rfl, a1⟩ := (HR.out.1.kept hk2r).at_ j x hx
            obtain ⟨gb, rfl, b1⟩ := (HR.out.2.1.kept hk2r).at_ j (by rw [← HN.out.2] at *; exact hlt)
            have hfv := HR.out.2.2.2.2.1 j v hv
            have hxs := HR.out.2.2.2.2.2.1 x (List.mem_of_getElem? hx)
            have hsv := size_at kids j v hv
            have qs := fun W' (k' : Kp [] w W') => HR.out.2.2.2.1 j v hv hfv (by omega) W' k' cl hole hcl hho
            have hrep := HR.out.2.2.1 j v hv
            have hsl := show_len cl hole hho v hfv
            have hPj : P[j]? = some (quoteL x ++ 58 :: showL cl hole v) := by rw [HP.out.1]; exact kidsO_at cl hole keys kids j x v hx hv
            have hst : tstrs (P.take (j + 1)) = tstrs (P.take j) ++ [.string ⟨(quoteL x ++ 58 :: showL cl hole v).toArray⟩] := by
              rw [List.take_add_one, hPj]
              simp [tstrs]
            obtain ⟨S, hS⟩ : ∃ S, S = showL cl hole v := ⟨_, rfl⟩
            rw [← hS] at hst hsl
            simp only [← hS] at qs
            have hsl9 : S.length ≤ 7000000000 := by omega
            have y0 : wr.cell? ⟨W.heap.size, 0, none⟩ = some (.int .i64 7) := hnw.kp.cell x0 (by simp)
            have y6 := hnw.kp.cell x6 (by simp)
            have y7 := hnw.kp.cell x7 (by simp)
            have Hst := hid hst
            have HO := hid (And.intro ho hnw)
            clear hPj hst hsl hS hfv hx hv hsv x0 x6 x7 ho hnw
            generalize ks j = cs at *
            cases hrep with
            | mk k3 m3 num3 t3 keys3 kids3 code3 A3 ck3 B3 cb3 ks3 _ _ _ =>
              unfold vC at b1 qs
              have c0 := b1 0 _ rfl
              have c1 := b1 1 _ rfl
              have c2 := b1 2 _ rfl
              have c3 := b1 3 _ rfl
              have c4 := b1 4 _ rfl
              have c5 := b1 5 _ rfl
              have c6 := b1 6 _ rfl
              have c7 := b1 7 _ rfl
              have c8 := b1 8 _ rfl
              simp only [Nat.add_zero] at c0
              have e9 : j * 9 = 9 * j := Nat.mul_comm _ _
              have hKwr : Kp [] w wr := hK.nil hk2r
              have q2 := qs _ (hKwr.alloc (.cells #[.int .i64 (k3 : Int), .int .u64 (m3 : Int), .bool (vN num3), .string ⟨(vD num3).toArray⟩, .int .i64 (vS num3), .string ⟨t3.toArray⟩, .slice A3 keys3.length ck3, .slice B3 kids3.length cb3, .int .i64 (code3 : Int)] 31))
              have q3 := fun W' => tquote_any W' x hxs
              have hql := quote_len x
              have hxl := hxs.1
              obtain ⟨Q, hQ⟩ : ∃ Q, Q = quoteL x := ⟨_, rfl⟩
              rw [← hQ] at hql
              simp only [← hQ] at q3
              have Hst2 : Hid (tstrs (P.take (j + 1)) = tstrs (P.take j) ++ [.string ⟨(Q ++ 58 :: S).toArray⟩]) := hid (by rw [hQ]; exact Hst.out)
              have hQ9 : Q.length ≤ 700 := by omega
              have A3' := fun W' => run_add_text (P := Tryd.prog) Q [58] (Q ++ [58]) rfl (by simp; omega) W'
              have A4' := fun W' => run_add_text (P := Tryd.prog) (Q ++ [58]) S (Q ++ 58 :: S) (by simp) (by simp; omega) W'
              have hkw : Kp [] wr _ := (Kp.refl [] wr).alloc (.cells #[.int .i64 (k3 : Int), .int .u64 (m3 : Int), .bool (vN num3), .string ⟨(vD num3).toArray⟩, .int .i64 (vS num3), .string ⟨t3.toArray⟩, .slice A3 keys3.length ck3, .slice B3 kids3.length cb3, .int .i64 (code3 : Int)] 31)
              have HKW := hid hkw
              have jn : (j : Int) < (nb : Int) := by omega
              have jk : j < nk := by rw [HP.out.2]; exact hlt
              have jki : (j : Int) < (nk : Int) := by omega
              clear qs b1 hkw hK hk2r hKwr hxs hQ hko hjl HK0 HC
              go_wp2_with fail
              (with_reducible refine q2.mono ?_)
              rintro e w3 ⟨rfl, k3'⟩
              have hk3 := HKW.out.nil k3'
              have a1' := hk3.cell a1 (by simp)
              have z0 := hk3.cell y0 (by simp)
              have z6 := hk3.cell y6 (by simp)
              have HK3 := hid hk3
              clear k3' hk3 q2 a1 y0 y6 y7 c0 c1 c2 c3 c4 c5 c6 c7 c8
              go_wp2_with fail
              (with_reducible refine (q3 _).mono ?_)
              rintro e w4 ⟨rfl, k4⟩
              have hk4 := HK3.out.nil k4
              have ho4 := HO.out.1.kept hk4
              have hnw4 := hid (HO.out.2.kept hk4)
              clear k4 hk4 q3 a1' z0 z6 HO HKW
              go_wp2_with (at_builtin; go_must (refine wpList_append1 rfl _ _ 27 rfl 9 (.string ⟨#[]⟩) 16 Tryd.underlying27 tinfoStr rfl _ _ _ rfl (ho4.kept ((Kp.refl _ _).alloc _)) _ 1 1 [.string ⟨(Q ++ 58 :: S).toArray⟩] rfl (Span.of_new w4 _ _ _) rfl (tone_string _) ?_ ?_ ?_))
              · omega
              · omega
              intro v1 w5 ho5 hk5 hb5
              go_wp2_with fail
              go_roundw
              case rel => exact ⟨j + 1, by omega, by go_num, by rw [Hst2.out]; exact ho5, (hnw4.out.kept ((Kp.refl _ _).alloc _)).append hk5 hb5 (by simp)⟩
              case measure => simp [RowKit.intOf]; omega
          · have hjn : j = nb := by omega
            have htk : P.take j = P := List.take_of_length_le (by rw [HJ.out.1, hjn]; exact Nat.le_refl _)
            rw [htk] at ho
            have hml : P.length = j := by rw [HJ.out.1, hjn]
            rw [← hml] at ho
            have q := tjoin_any wr _ P ho (by omega) (by omega)
            have y0 : wr.cell? ⟨W.heap.size, 0, none⟩ = some (.int .i64 7) := hnw.kp.cell x0 (by simp)
            have z1 : decide ((j : Int) < (nb : Int)) = false := decide_eq_false (by omega)
            have z1n : decide (j < nb) = false := decide_eq_false hlt
            have Hkp := hid (HK2.out.nil hnw.kp)
            obtain ⟨J, hJ⟩ : ∃ J, J = joinC P := ⟨_, rfl⟩
            rw [← hJ] at q
            simp only [← hJ] at A1 A2
            have HJ2 := hid hJ
            clear htk ho hnw hml hjn hJ x0 x6 x7 hko hjl HK0 HC HR
            go_wp2_with fail
            (with_reducible refine q.mono ?_)
            rintro e w3 ⟨rfl, k3⟩
            have Hk3 := hid (Hkp.out.nil k3)
            clear k3 q
            go_wp2_with fail
            go_ret
            exact ⟨by rw [HJ2.out]; rfl, Hk3.out⟩
      · have hres : showL cl hole (.mk 6 m num t keys kids code) = 91 :: (joinC (kidsL cl hole kids) ++ [93]) := by
          unfold showL
          rw [if_neg (by rw [← HHB.out]; simp), if_neg (by decide), if_pos rfl]
        rw [hres]
        have hsum : sizes kids ≤ 1000000 := by unfold sizeV at hsz; omega
        obtain ⟨P, hP⟩ : ∃ P, P = kidsL cl hole kids := ⟨_, rfl⟩
        have hPl : P.length = nb := by rw [hP, kidsL_len, HN.out.2]
        simp only [Int.cast_ofNat_Int] at q1
        have hjl := joinC_len P
        rw [← hP] at hkl ⊢
        have A1 := fun W => run_add_text (P := Tryd.prog) [91] (joinC P) (91 :: joinC P) rfl (by simp; omega) W
        have A2 := fun W => run_add_text (P := Tryd.prog) (91 :: joinC P) [93] (91 :: (joinC P ++ [93])) rfl (by simp; omega) W
        have HR := hid (And.intro hA (And.intro hB (And.intro hr (And.intro ih (And.intro hff (And.intro hks hslen))))))
        have HP := hid hP
        have HJ := hid (And.intro hPl hjl)
        clear hres hA hB hslen hko hfk hn hkey hk0 hc hff ih hr hks hP hPl
        go_enter Tryd.func18, Tryd.ntmps18
        go_wp2_with fail
        (with_reducible refine (q1 _).mono ?_)
        rintro e w2 ⟨rfl, k2⟩
        have HK2 := hid (HK0.out.nil k2)
        have HC2 := hid (HC.out.keep k2 (by simp))
        have x0 := HC2.out.cell 0
        have x6 := HC2.out.cell 6
        have x7 := HC2.out.cell 7
        simp only [List.getElem?_cons_zero, List.getElem?_cons_succ] at x0 x6 x7
        clear k2 q1
        go_wp2_with fail
        go_loopw [7, 18] (fun v i wr => ∃ j : Nat, j ≤ nb ∧ i = .int .i64 (j : Int) ∧ Own wr 9 v j (tstrs (P.take j)) ∧ New w2 wr v) (fun _ i _ => nb - (RowKit.intOf i).toNat)
        case atStart => exact ⟨0, Nat.zero_le _, rfl, Own.nil _ _, New.nil (Kp.refl _ _)⟩
        case round =>
          obtain ⟨j, hj, rfl, ho, hnw⟩ := hrel
          by_cases hlt : j < nb
          · obtain ⟨v, hv⟩ : ∃ v, kids[j]? = some v := ⟨_, List.getElem?_eq_getElem (by rw [← HN.out.2]; exact hlt)⟩
            have hk2r : Kp [] W wr := HK2.out.nil hnw.kp
            obtain ⟨gb, rfl, b1⟩ := (HR.out.2.1.kept hk2r).at_ j (by rw [← HN.out.2] at *; exact hlt)
            have hfv := HR.out.2.2.2.2.1 j v hv
            have hsv := size_at kids j v hv
            have qs := fun W' (k' : Kp [] w W') => HR.out.2.2.2.1 j v hv hfv (by omega) W' k' cl hole hcl hho
            have hrep := HR.out.2.2.1 j v hv
            have hsl := show_len cl hole hho v hfv
            have hPj : P[j]? = some (showL cl hole v) := by rw [HP.out, kidsL_at, hv]; rfl
            have hst : tstrs (P.take (j + 1)) = tstrs (P.take j) ++ [.string ⟨(showL cl hole v).toArray⟩] := by
              rw [List.take_add_one, hPj]
              simp [tstrs]
            obtain ⟨S, hS⟩ : ∃ S, S = showL cl hole v := ⟨_, rfl⟩
            rw [← hS] at hst hsl
            simp only [← hS] at qs
            have hsl9 : S.length ≤ 7000000000 := by omega
            have y0 : wr.cell? ⟨W.heap.size, 0, none⟩ = some (.int .i64 6) := hnw.kp.cell x0 (by simp)
            have y6 := hnw.kp.cell x6 (by simp)
            have y7 := hnw.kp.cell x7 (by simp)
            have Hst := hid hst
            have HO := hid (And.intro ho hnw)
            clear hPj hst hsl hS hfv hv hsv x0 x6 x7 ho hnw
            generalize ks j = cs at *
            cases hrep with
            | mk k3 m3 num3 t3 keys3 kids3 code3 A3 ck3 B3 cb3 ks3 _ _ _ =>
              unfold vC at b1 qs
              have c0 := b1 0 _ rfl
              have c1 := b1 1 _ rfl
              have c2 := b1 2 _ rfl
              have c3 := b1 3 _ rfl
              have c4 := b1 4 _ rfl
              have c5 := b1 5 _ rfl
              have c6 := b1 6 _ rfl
              have c7 := b1 7 _ rfl
              have c8 := b1 8 _ rfl
              simp only [Nat.add_zero] at c0
              have e9 : j * 9 = 9 * j := Nat.mul_comm _ _
              have hKwr : Kp [] w wr := hK.nil hk2r
              have q2 := qs _ (hKwr.alloc (.cells #[.int .i64 (k3 : Int), .int .u64 (m3 : Int), .bool (vN num3), .string ⟨(vD num3).toArray⟩, .int .i64 (vS num3), .string ⟨t3.toArray⟩, .slice A3 keys3.length ck3, .slice B3 kids3.length cb3, .int .i64 (code3 : Int)] 31))
              have hkw : Kp [] wr _ := (Kp.refl [] wr).alloc (.cells #[.int .i64 (k3 : Int), .int .u64 (m3 : Int), .bool (vN num3), .string ⟨(vD num3).toArray⟩, .int .i64 (vS num3), .string ⟨t3.toArray⟩, .slice A3 keys3.length ck3, .slice B3 kids3.length cb3, .int .i64 (code3 : Int)] 31)
              have HKW := hid hkw
              have jn : (j : Int) < (nb : Int) := by omega
              clear qs b1 hkw hK hk2r hKwr hkl hjl HK0 HC
              go_wp2_with fail
              (with_reducible refine q2.mono ?_)
              rintro e w3 ⟨rfl, k3'⟩
              have hk3 := HKW.out.nil k3'
              have z0 := hk3.cell y0 (by simp)
              have ho4 := HO.out.1.kept hk3
              have hnw4 := hid (HO.out.2.kept hk3)
              clear k3' hk3 q2 y0 y6 y7 c0 c1 c2 c3 c4 c5 c6 c7 c8 HO HKW
              go_wp2_with (at_builtin; go_must (refine wpList_append1 rfl _ _ 27 rfl 9 (.string ⟨#[]⟩) 16 Tryd.underlying27 tinfoStr rfl _ _ _ rfl (ho4.kept ((Kp.refl _ _).alloc _)) _ 1 1 [.string ⟨S.toArray⟩] rfl (Span.of_new w3 _ _ _) rfl (tone_string _) ?_ ?_ ?_))
              · omega
              · omega
              intro v1 w5 ho5 hk5 hb5
              go_wp2_with fail
              go_roundw
              case rel => exact ⟨j + 1, by omega, by go_num, by rw [Hst.out]; exact ho5, (hnw4.out.kept ((Kp.refl _ _).alloc _)).append hk5 hb5 (by simp)⟩
              case measure => simp [RowKit.intOf]; omega
          · have hjn : j = nb := by omega
            have htk : P.take j = P := List.take_of_length_le (by rw [HJ.out.1, hjn]; exact Nat.le_refl _)
            rw [htk] at ho
            have hml : P.length = j := by rw [HJ.out.1, hjn]
            rw [← hml] at ho
            have q := tjoin_any wr _ P ho (by omega) (by omega)
            have y0 : wr.cell? ⟨W.heap.size, 0, none⟩ = some (.int .i64 6) := hnw.kp.cell x0 (by simp)
            have z1 : decide ((j : Int) < (nb : Int)) = false := decide_eq_false (by omega)
            have z1n : decide (j < nb) = false := decide_eq_false hlt
            have Hkp := hid (HK2.out.nil hnw.kp)
            obtain ⟨J, hJ⟩ : ∃ J, J = joinC P := ⟨_, rfl⟩
            rw [← hJ] at q
            simp only [← hJ] at A1 A2
            have HJ2 := hid hJ
            clear htk ho hnw hml hjn hJ x0 x6 x7 hkl hjl HK0 HC HR
            go_wp2_with fail
            (with_reducible refine q.mono ?_)
            rintro e w3 ⟨rfl, k3⟩
            have Hk3 := hid (Hkp.out.nil k3)
            clear k3 q
            go_wp2_with fail
            go_ret
            exact ⟨by rw [HJ2.out]; rfl, Hk3.out⟩
      · have hkn : kids = [] := hc h6 h7
        subst hkn
        have hres : showL cl hole (.mk k m num t keys [] code) = atomL k num t code := by
          unfold showL
          rw [if_neg (by rw [← HHB.out]; simp), if_neg h7, if_neg h6]
        rw [hres]
        have hn0' : nb = 0 := HN.out.2
        subst hn0'
        have qt := fun W' => tprint_any W' k m num t keys code HF.out h7 h6 A nk ck B 0 cb
        have z7 : ((k : Int) == 7) = false := by rw [beq_eq_false_iff_ne]; omega
        have z6 : ((k : Int) == 6) = false := by rw [beq_eq_false_iff_ne]; omega
        obtain ⟨Y, hY⟩ : ∃ Y, Y = atomL k num t code := ⟨_, rfl⟩
        simp only [← hY] at qt ⊢
        clear hres hA hB hslen hkl hko hfk hn hkey hk0 hc hff ih hr hks hY h7 h6
        go_enter Tryd.func18, Tryd.ntmps18
        go_wp2_with fail
        (with_reducible refine (q1 _).mono ?_)
        rintro e w2 ⟨rfl, k2⟩
        have HK2 := hid (HK0.out.nil k2)
        have HC2 := hid (HC.out.keep k2 (by simp))
        have x0 := HC2.out.cell 0
        have x1 := HC2.out.cell 1
        have x2 := HC2.out.cell 2
        have x3 := HC2.out.cell 3
        have x4 := HC2.out.cell 4
        have x5 := HC2.out.cell 5
        have x6 := HC2.out.cell 6
        have x7 := HC2.out.cell 7
        have x8 := HC2.out.cell 8
        simp only [List.getElem?_cons_zero, List.getElem?_cons_succ] at x0 x1 x2 x3 x4 x5 x6 x7 x8
        clear k2 q1
        go_wp2_with fail
        go_loopw [18] (fun i wr => i = .int .i64 0 ∧ wr = w2) (fun _ _ => 0)
        case atStart => exact ⟨rfl, rfl⟩
        case round =>
          obtain ⟨rfl, hw⟩ := hrel
          subst hw
          go_wp2_with fail
          (with_reducible refine (qt _).mono ?_)
          rintro e w3 ⟨rfl, k3⟩
          have Hk3 := hid (HK2.out.nil k3)
          clear k3 qt
          go_wp2_with fail
          go_ret
          exact ⟨rfl, Hk3.out⟩
    · have hres : showL cl hole (.mk k m num t keys kids code) = hole := by unfold showL; rw [if_pos HHB.out.symm]
      rw [hres]
      clear hres hA hB hslen hkl hko hfk hn hkey hk0 hks hkd hc hff ih hr HC
      go_enter Tryd.func18, Tryd.ntmps18
      go_wp2_with fail
      (with_reducible refine (q1 _).mono ?_)
      rintro e w2 ⟨rfl, k2⟩
      have HK2 := hid (HK0.out.nil k2)
      clear k2 q1
      go_wp2_with fail
      go_ret
      exact ⟨rfl, HK2.out⟩
theorem show_any {w : World} {v : Vl} {cs : List Value} (h : Rep w v cs) : ShowAt w v cs := by
  induction h with
  | mk k m num t keys kids code A ck B cb ks hA hB hr ih => exact show_step w k m num t keys kids code A ck B cb ks hA hB hr ih
set_option maxRecDepth 100000 in
theorem view_any {w : World} {v : Vl} {cs : List Value} (h : Rep w v cs) (hf : FineV v) (hz : sizeV v ≤ 1000000) (W : World) (k : Kp [] w W) (cl : Nat) (hcl : cl < 18446744073709551616) :
    Calls Tryd.prog 20 #[.agg cs.toArray, .int .u64 (cl : Int)] W fun e w' => e = .returned (.string ⟨(showL cl [35] v).toArray⟩) ∧ Kp [] W w' := by
  cases h with
  | mk k0 m num t keys kids code A ck B cb ks hA hB hr =>
    have hk0 := (Kp.refl [] W).alloc (.cells (vC k0 m (vN num) (vD num) (vS num) t A keys.length ck B kids.length cb code).toArray 31)
    have q := show_any (Rep.mk k0 m num t keys kids code A ck B cb ks hA hB hr) hf hz _ (k.nil hk0) cl [35] hcl (by decide)
    unfold vC at q hk0 ⊢
    obtain ⟨Y, hY⟩ : ∃ Y, Y = showL cl [35] (.mk k0 m num t keys kids code) := ⟨_, rfl⟩
    rw [← hY] at q ⊢
    have HK := hid hk0
    clear hY hk0 hA hB hr hf hz hcl
    go_enter Tryd.func20, Tryd.ntmps20
    go_wp2_with fail
    (with_reducible refine q.mono ?_)
    rintro e w2 ⟨rfl, k2⟩
    have HK2 := hid (HK.out.nil k2)
    clear k2 q
    go_wp2_with fail
    go_ret
    exact ⟨rfl, HK2.out⟩
theorem hidden_any {w : World} {v : Vl} {cs : List Value} (h : Rep w v cs) (hf : FineV v) (W : World) (cl : Nat) (hcl : cl < 18446744073709551616) :
    Calls Tryd.prog 16 #[.agg cs.toArray, .int .u64 (cl : Int)] W fun e w' => (∃ b, e = .returned (.bool b) ∧ b = (match v with | .mk _ m _ _ _ _ _ => hidB m cl)) ∧ Kp [] W w' := by
  cases h with
  | mk k0 m num t keys kids code A ck B cb ks hA hB hr =>
    have hm : m < 18446744073709551616 := by cases hf; assumption
    exact (hidden_cells W k0 m (vN num) (vD num) (vS num) t A keys.length ck B kids.length cb code cl hm hcl).mono fun e w' ⟨h1, h2⟩ => ⟨⟨_, h1, rfl⟩, h2⟩
end Go.Proofs.YtpeldjihalldkaaDoor

/- short; word. -/
namespace Go.Proofs.YtpeldjihalldkaaDoor
open Go Go.RowKit Go.Lib

def firstH (L : Txt) : Txt := if 100 < L.length then L.take 100 else L
theorem firstH_len (L : Txt) : (firstH L).length ≤ 100 := by
  unfold firstH
  split
  · rw [List.length_take]; omega
  · omega
set_option maxRecDepth 100000 in
theorem short4_any (w : World) (x : Txt) (hx : x.length ≤ 9223372036854775807) :
    Calls Tryd.prog 36 #[.string ⟨x.toArray⟩] w fun e w' => e = .returned (.string ⟨(firstH x).toArray⟩) ∧ w' = w := by
  have hsz : (⟨x.toArray⟩ : ByteArray).size = x.length := size_mk _
  have he := extract_mk x 0 100
  rw [List.drop_zero] at he
  by_cases h : 100 < x.length
  · have hr : firstH x = x.take 100 := by unfold firstH; rw [if_pos h]
    rw [hr]
    obtain ⟨y, hy⟩ : ∃ y, y = x.take 100 := ⟨_, rfl⟩
    rw [← hy] at he ⊢
    clear hr hy
    go_enter Tryd.func36, Tryd.ntmps36
    go_wp2_with fail
    go_ret
    exact ⟨rfl, rfl⟩
  · have hr : firstH x = x := by unfold firstH; rw [if_neg h]
    rw [hr]
    clear hr he
    go_enter Tryd.func36, Tryd.ntmps36
    go_wp2_with fail
    go_ret
    exact ⟨rfl, rfl⟩
def wordL (x : Txt) : Txt := if validD (firstH x) then firstH x else [97]
theorem wordL_ok (x : Txt) : (wordL x).length ≤ 100 ∧ validD (wordL x) = true := by
  unfold wordL
  split
  · rename_i h; exact ⟨firstH_len x, h⟩
  · exact ⟨by decide, by decide⟩
set_option maxRecDepth 100000 in
theorem word4_any (w : World) (x : Txt) (hx : x.length ≤ 9223372036854775807) :
    Calls Tryd.prog 37 #[.string ⟨x.toArray⟩] w fun e w' => e = .returned (.string ⟨(wordL x).toArray⟩) ∧ w' = w := by
  have q1 := fun W => short4_any W x hx
  have hl := firstH_len x
  have q2 : ∀ W, Calls Tryd.prog 30 #[.string ⟨(firstH x).toArray⟩] W fun e w' => e = .returned (.bool (validD (firstH x))) ∧ w' = W := fun W =>
    rvalid_any W ⟨(firstH x).toArray⟩ (by rw [show (⟨(firstH x).toArray⟩ : ByteArray).size = (firstH x).length from size_mk _]; omega)
  have hr : wordL x = if validD (firstH x) then firstH x else [97] := rfl
  rw [hr]
  obtain ⟨y, hy⟩ : ∃ y, y = firstH x := ⟨_, rfl⟩
  simp only [← hy] at q1 q2 ⊢
  obtain ⟨b, hb⟩ : ∃ b, b = validD y := ⟨_, rfl⟩
  rw [← hb]
  simp only [← hb] at q2
  clear hr hl hx hy hb
  go_enter Tryd.func37, Tryd.ntmps37
  go_wp2_with fail
  (with_reducible refine (q1 _).mono ?_)
  rintro e w2 ⟨rfl, hw⟩
  have hw := hw.symm
  subst hw
  go_wp2_with fail
  (with_reducible refine (q2 _).mono ?_)
  rintro e w2 ⟨rfl, hw⟩
  have hw := hw.symm
  subst hw
  cases b
  · go_wp2_with fail
    go_ret
    exact ⟨rfl, rfl⟩
  · go_wp2_with fail
    go_ret
    exact ⟨rfl, rfl⟩
/-- How many of some texts are rows of at least so many k. -/
def kCount (l : List Txt) (r : Nat) : Nat := (l.filter fun x => decide (r ≤ x.length) && (x == List.replicate x.length 107)).length
theorem kCount_le (l : List Txt) (r : Nat) : kCount l r ≤ l.length := List.length_filter_le _ _
theorem kCount_snoc (l : List Txt) (x : Txt) (r : Nat) : kCount (l ++ [x]) r ≤ kCount l r + 1 := by
  unfold kCount
  rw [List.filter_append, List.length_append]
  have := List.length_filter_le (fun x : List UInt8 => decide (r ≤ x.length) && (x == List.replicate x.length 107)) [x]
  exact Nat.add_le_add_left this _
theorem kCount_more (l : List Txt) (r : Nat) : kCount l (r + 1) ≤ kCount l r := by
  induction l with
  | nil => exact Nat.le_refl _
  | cons x t ih =>
    unfold kCount at ih ⊢
    simp only [List.filter_cons]
    by_cases h1 : (decide (r + 1 ≤ x.length) && (x == List.replicate x.length 107)) = true
    · have h2 : (decide (r ≤ x.length) && (x == List.replicate x.length 107)) = true := by
        simp only [Bool.and_eq_true, decide_eq_true_eq] at h1 ⊢
        exact ⟨by omega, h1.2⟩
      rw [if_pos h1, if_pos h2]
      simp only [List.length_cons]
      omega
    · rw [if_neg h1]
      split
      · simp only [List.length_cons]; omega
      · exact ih
theorem kCount_new (l : List Txt) (r : Nat) : kCount (l ++ [List.replicate r 107]) (r + 1) = kCount l (r + 1) := by
  unfold kCount
  rw [List.filter_append]
  simp
theorem kCount_met (l : List Txt) (r : Nat) (h : List.replicate r 107 ∈ l) : kCount l (r + 1) + 1 ≤ kCount l r := by
  induction l with
  | nil => cases h
  | cons x t ih =>
    by_cases hx : x = List.replicate r 107
    · have := kCount_more t r
      subst hx
      unfold kCount at this ⊢
      simp only [List.filter_cons, List.length_replicate]
      simp only [Nat.le_refl, decide_true, beq_self_eq_true, Bool.and_self, if_true, List.length_cons, decide_eq_false (Nat.not_succ_le_self r), Bool.false_and, Bool.false_eq_true, if_false]
      omega
    · have h2 := ih ((List.mem_cons.1 h).resolve_left (fun e => hx e.symm))
      unfold kCount at h2 ⊢
      simp only [List.filter_cons]
      by_cases h1 : (decide (r + 1 ≤ x.length) && (x == List.replicate x.length 107)) = true
      · have h3 : (decide (r ≤ x.length) && (x == List.replicate x.length 107)) = true := by
          simp only [Bool.and_eq_true, decide_eq_true_eq] at h1 ⊢
          exact ⟨by omega, h1.2⟩
        rw [if_pos h1, if_pos h3]
        simp only [List.length_cons]
        omega
      · rw [if_neg h1]
        split
        · simp only [List.length_cons]; omega
        · exact h2
theorem rep_ok (r : Nat) (h : r ≤ 100) : (List.replicate r (107 : UInt8)).length ≤ 100 ∧ validD (List.replicate r (107 : UInt8)) = true := by
  refine ⟨by simpa using h, ?_⟩
  clear h
  induction r with
  | zero => rfl
  | succ r ih => rw [List.replicate_succ, validD_cons 107 _ (by decide)]; exact ih
end Go.Proofs.YtpeldjihalldkaaDoor

/- named: so many keys, no two the same. -/
namespace Go.Proofs.YtpeldjihalldkaaDoor
open Go Go.RowKit Go.Lib

/-- A row of any texts that came in. -/
structure RawsAt (w : World) (A : Option Addr) (c : Nat) (l : List Txt) : Prop where
  le : l.length ≤ c
  top : c ≤ 9223372036854775807
  few : l.length ≤ 4611686018427387904
  short : ∀ x ∈ l, x.length ≤ 9223372036854775807
  at_ : ∀ (i : Nat) x, l[i]? = some x → ∃ ad, A = some ad ∧ w.cell? (ad.add i) = some (.string ⟨x.toArray⟩)
theorem RawsAt.kept {w w' : World} {A : Option Addr} {c : Nat} {l : List Txt} (h : RawsAt w A c l) (k : Kp [] w w') : RawsAt w' A c l :=
  ⟨h.le, h.top, h.few, h.short, fun i x hi => by obtain ⟨ad, hg, hat⟩ := h.at_ i x hi; exact ⟨ad, hg, k.cell hat (by simp)⟩⟩
theorem KeysAt.of {w : World} {v : Value} {ks : List Txt} (h : Own w 9 v ks.length (tstrs ks)) : ∃ A c, v = .slice A ks.length c ∧ KeysAt w A c ks := by
  obtain ⟨A, c, rfl, hs, hc, hc2, hA⟩ := OwnN.shape (s := 1) h
  refine ⟨A, c, rfl, hc, hc2, fun i x hi => ?_⟩
  obtain ⟨ad, rfl, h2⟩ := hs i (.string ⟨x.toArray⟩) (by unfold tstrs; rw [List.getElem?_map, hi]; rfl)
  obtain ⟨hb, -⟩ := hA ad rfl
  refine ⟨ad.block, by rw [← hb], ?_⟩
  rw [hb] at h2
  rcases Nat.eq_zero_or_pos i with hj0 | hj0
  · subst hj0; simpa [Addr.add] using h2
  · simpa [Addr.add, Nat.ne_of_gt hj0] using h2
/-- The keys of an object. -/
def KeysOk (l : List Txt) : Prop := (∀ x ∈ l, x.length ≤ 100 ∧ validD x = true) ∧ l.Nodup
theorem KeysOk.snoc {l : List Txt} {x : Txt} (h : KeysOk l) (hx : x.length ≤ 100 ∧ validD x = true) (hn : x ∉ l) : KeysOk (l ++ [x]) := by
  refine ⟨fun y hy => ?_, ?_⟩
  · rcases List.mem_append.1 hy with hy | hy
    · exact h.1 y hy
    · rw [List.mem_singleton.1 hy]; exact hx
  · rw [List.nodup_append]
    exact ⟨h.2, by simp, fun a ha b hb => by rw [List.mem_singleton.1 hb]; rintro rfl; exact hn ha⟩
set_option maxRecDepth 100000 in
set_option maxHeartbeats 12800000 in
theorem named4_any (w : World) (A : Option Addr) (c : Nat) (l : List Txt) (hl : RawsAt w A c l) (n : Nat) (hn : n ≤ 10) :
    Calls Tryd.prog 38 #[.slice A l.length c, .int .i64 (n : Int)] w fun e w' => ∃ v ks, e = .returned v ∧ ks.length = n ∧ KeysOk ks ∧ Own w' 9 v n (tstrs ks) ∧ New w w' v := by
  have hcap := hl.le
  have hcap2 := hl.top
  have hfew := hl.few
  have HL := hid hl
  obtain ⟨N, hN⟩ : ∃ N, N = l.length := ⟨_, rfl⟩
  rw [← hN] at hcap hfew ⊢
  have HN := hid hN
  clear hN hl
  go_enter Tryd.func38, Tryd.ntmps38
  go_wp2_with fail
  go_loopw [5, 6, 7] (fun v m i wr => ∃ (ks : List Txt) (r j : Nat), m = .string ⟨(List.replicate r 107).toArray⟩ ∧ i = .int .i64 (j : Int) ∧ ks.length ≤ n ∧ KeysOk ks ∧ Own wr 9 v ks.length (tstrs ks) ∧ New w wr v ∧
    r = 1 + (j - N) ∧ r + kCount ks r + (n - ks.length) ≤ 1 + n ∧ j ≤ N + n) (fun _ _ i _ => N + n + 2 - (RowKit.intOf i).toNat)
  case atStart =>
    refine ⟨[], 1, 0, rfl, rfl, Nat.zero_le _, ⟨by simp, by simp⟩, Own.of_cells (Cells.fresh w 9 []) (by decide), ⟨(Kp.refl _ _).alloc _, ?_⟩, by omega, by simp [kCount], by omega⟩
    intro g hg
    have hg : some w.heap.size = some g := hg
    injection hg with hg
    omega
  case round =>
    obtain ⟨ks, r, j, rfl, rfl, hkn, hko, ho, hnw, hr, hinv, hjN⟩ := hrel
    obtain ⟨A0, c0, rfl, hsp⟩ := KeysAt.of ho
    have hc0 := hsp.le
    have hc9 := hsp.top
    obtain ⟨K, hK⟩ : ∃ K, K = ks.length := ⟨_, rfl⟩
    rw [← hK] at ho hnw
    have HO := hid (And.intro ho (And.intro hnw hsp))
    have HKO := hid (And.intro hko hK)
    have HI := hid (And.intro hr hinv)
    rw [← hK] at hkn hc0 ⊢
    clear hsp ho hnw hko hr hinv hK
    by_cases hlt : K < n
    · have z1 : decide ((K : Int) < (n : Int)) = true := decide_eq_true (by omega)
      have z1n : decide (K < n) = true := decide_eq_true hlt
      have hr9 : r ≤ 11 := by have := HI.out.2; omega
      have hj9 : j ≤ 4611686018427387904 + 11 := by omega
      have hj2 : j + 1 ≤ N + n := by
        have h1 := HI.out.1
        have h2 := HI.out.2
        have h3 := HKO.out.2
        omega
      go_upto_if 22 with fail
      go_cut [6, 8, 22] (fun vm vs _ wx => ∃ (s : Txt) (r' : Nat), vm = .string ⟨(List.replicate r' 107).toArray⟩ ∧ vs = .string ⟨s.toArray⟩ ∧ wx = wr ∧ (s.length ≤ 100 ∧ validD s = true) ∧ r' = 1 + (j + 1 - N) ∧
        (s ∉ ks → r' + kCount (ks ++ [s]) r' + (n - (K + 1)) ≤ 1 + n) ∧ (s ∈ ks → r' + kCount ks r' + (n - K) ≤ 1 + n))
      case first => as_aux_lemma =>
        by_cases hjn : j < N
        · have z2 : decide ((j : Int) < (N : Int)) = true := decide_eq_true (by omega)
          have z2n : decide (j < N) = true := decide_eq_true hjn
          obtain ⟨x, hx⟩ : ∃ x, l[j]? = some x := ⟨_, List.getElem?_eq_getElem (by rw [← HN.out]; exact hjn)⟩
          obtain ⟨ad, rfl, hc⟩ := (HL.out.kept HO.out.2.1.kp).at_ j x hx
          have q := fun W => word4_any W x (HL.out.short x (List.mem_of_getElem? hx))
          have hok := wordL_ok x
          obtain ⟨s, hs⟩ : ∃ s, s = wordL x := ⟨_, rfl⟩
          simp only [← hs] at q hok
          have ji : (j : Int) < (N : Int) := by omega
          clear hx hs
          go_wp2_with fail
          (with_reducible refine (q _).mono ?_)
          rintro e w2 ⟨rfl, hw⟩
          have hw := hw.symm
          subst hw
          go_wp2_with fail
          go_meet
          have h1 := HI.out.1
          have h2 := HI.out.2
          have h3 := HKO.out.2
          have hr1 : r = 1 := by omega
          subst hr1
          exact ⟨s, 1, rfl, rfl, rfl, hok, by omega, fun _ => by have := kCount_snoc ks s 1; omega, fun _ => by omega⟩
        · have z2 : decide ((j : Int) < (N : Int)) = false := decide_eq_false (by omega)
          have z2n : decide (j < N) = false := decide_eq_false hjn
          have A1 := fun W => run_add_text (P := Tryd.prog) (List.replicate r 107) [107] (List.replicate (r + 1) 107) List.replicate_succ' (by simp; omega) W
          have hok := rep_ok r (by omega)
          have HA1 := hid A1
          obtain ⟨R, hR⟩ : ∃ R : Txt, R = List.replicate r 107 := ⟨_, rfl⟩
          obtain ⟨R2, hR2⟩ : ∃ R : Txt, R = List.replicate (r + 1) 107 := ⟨_, rfl⟩
          rw [← hR, ← hR2] at A1
          rw [← hR] at hok ⊢
          have HR := hid (And.intro hR hR2)
          clear hR hR2 HA1
          go_wp2_with fail
          go_meet
          have h1 := HI.out.1
          have h2 := HI.out.2
          have h3 := HKO.out.2
          exact ⟨R, r + 1, by rw [HR.out.2], rfl, rfl, hok, by omega, fun _ => by rw [HR.out.1, kCount_new]; have := kCount_more ks r; omega, fun hm => by rw [HR.out.1] at hm; have := kCount_met ks r hm; omega⟩
      case rest =>
        obtain ⟨s, r', rfl, rfl, hw, hok, hr', hA', hB'⟩ := hcut
        have hw := hw.symm
        subst hw
        obtain ⟨R, hR⟩ : ∃ R : Txt, R = List.replicate r' 107 := ⟨_, rfl⟩
        rw [← hR]
        have HI2 := hid (And.intro hok (And.intro hr' (And.intro hA' (And.intro hB' hR))))
        clear hok hr' hA' hB' hR
        go_wp2_with fail
        go_loopw [9, 10] (fun vb vk wx => wx = wr ∧ ∃ (b : Bool) (k : Nat), vb = .bool b ∧ vk = .int .i64 (k : Int) ∧ k ≤ K ∧ (b = true ↔ s ∈ ks.take k)) (fun _ vk _ => K - (RowKit.intOf vk).toNat)
        case atStart => exact ⟨rfl, false, 0, rfl, rfl, Nat.zero_le _, by simp⟩
        case round =>
          obtain ⟨hw, b, k, rfl, rfl, hk, hb⟩ := hrel
          subst hw
          have HB := hid hb
          clear hb
          by_cases hkl : k < K
          · obtain ⟨x, hx⟩ : ∃ x, ks[k]? = some x := ⟨_, List.getElem?_eq_getElem (by rw [← HKO.out.2]; exact hkl)⟩
            obtain ⟨g0, rfl, hc⟩ := HO.out.2.2.at_ k x hx
            have y1 : decide ((k : Int) < (K : Int)) = true := decide_eq_true (by omega)
            have y1n : decide (k < K) = true := decide_eq_true hkl
            have y1i : (k : Int) < (K : Int) := by omega
            have htk : ks.take (k + 1) = ks.take k ++ [x] := by rw [List.take_add_one, hx]; rfl
            have Htk := hid htk
            clear hx htk
            cases b with
            | true =>
              go_wp2_with fail
              go_roundw
              case rel => exact ⟨trivial, true, k + 1, rfl, by go_num, by omega, by rw [Htk.out]; have := HB.out.1 rfl; simp [this]⟩
              case measure => simp [RowKit.intOf]; omega
            | false =>
              have hns : s ∉ ks.take k := fun h => Bool.noConfusion (HB.out.2 h)
              by_cases hxs : x = s
              · subst hxs
                have Hns := hid hns
                clear hns
                go_wp2_with fail
                go_roundw
                case rel => exact ⟨trivial, true, k + 1, rfl, by go_num, by omega, by rw [Htk.out]; simp⟩
                case measure => simp [RowKit.intOf]; omega
              · have hbe : (x == s) = false := by rw [beq_eq_false_iff_ne]; exact hxs
                have Hns := hid (And.intro hns hxs)
                clear hns hxs
                go_wp2_with fail
                go_roundw
                case rel => exact ⟨trivial, false, k + 1, rfl, by go_num, by omega, by rw [Htk.out]; have h1 := Hns.out.1; have h2 := Hns.out.2; simp [h1]; exact fun h => h2 h.symm⟩
                case measure => simp [RowKit.intOf]; omega
          · have y1 : decide ((k : Int) < (K : Int)) = false := decide_eq_false (by omega)
            have y1n : decide (k < K) = false := decide_eq_false hkl
            have htk : ks.take k = ks := List.take_of_length_le (by rw [← HKO.out.2]; omega)
            have HB2 : Hid (b = true ↔ s ∈ ks) := hid (by have := HB.out; rw [htk] at this; exact this)
            clear htk hkl
            cases b with
            | true =>
              go_wp2_with fail
              go_roundw
              case rel =>
                have h3 := HKO.out.2
                refine ⟨ks, r', j + 1, by rw [HI2.out.2.2.2.2], by go_num, by omega, HKO.out.1, by rw [← h3]; exact HO.out.1, HO.out.2.1, HI2.out.2.1, ?_, by omega⟩
                rw [← h3]
                exact HI2.out.2.2.2.1 (HB2.out.1 rfl)
              case measure => simp [RowKit.intOf]; omega
            | false =>
              have ho2 := HO.out.1
              go_wp2_with (at_builtin; go_must (refine wpList_append1 rfl _ _ 27 rfl 9 (.string ⟨#[]⟩) 16 Tryd.underlying27 tinfoStr rfl _ _ _ rfl (ho2.kept ((Kp.refl _ _).alloc _)) _ 1 1 [.string ⟨s.toArray⟩] rfl (Span.of_new wr _ _ _) rfl (tone_string _) ?_ ?_ ?_))
              · omega
              · omega
              intro v1 w5 ho5 hk5 hb5
              have Hnew := hid ((HO.out.2.1.kept ((Kp.refl _ _).alloc _)).append hk5 hb5 (by simp))
              have Ho5 := hid ho5
              clear ho5 hk5 hb5 ho2
              go_wp2_with fail
              go_roundw
              case rel =>
                have h3 := HKO.out.2
                have hns : s ∉ ks := fun h => Bool.noConfusion (HB2.out.2 h)
                have hl1 : (ks ++ [s]).length = K + 1 := by rw [List.length_append, ← h3]; rfl
                refine ⟨ks ++ [s], r', j + 1, by rw [HI2.out.2.2.2.2], by go_num, by omega, HKO.out.1.snoc HI2.out.1 hns, by rw [hl1]; simpa [tstrs] using Ho5.out, Hnew.out, HI2.out.2.1, ?_, by omega⟩
                rw [hl1]
                exact HI2.out.2.2.1 hns
              case measure => simp [RowKit.intOf]; omega
    · have z1 : decide ((K : Int) < (n : Int)) = false := decide_eq_false (by omega)
      have z1n : decide (K < n) = false := decide_eq_false hlt
      have hKn : K = n := by omega
      subst hKn
      clear hlt
      go_wp2_with fail
      go_ret
      have h3 := HKO.out.2
      exact ⟨_, ks, rfl, h3.symm, HKO.out.1, HO.out.1, HO.out.2.1⟩
end Go.Proofs.YtpeldjihalldkaaDoor

/- append of a row that may be none; trees whose blocks are known; rows of trees. -/
namespace Go.Proofs.YtpeldjihalldkaaDoor
open Go Go.RowKit Go.Lib

section
variable {P : Program} {w : World}
theorem run_append_none (t ty e : TypeId) (i : TypeInfo) (ht : P.underlying t = some (.slice e)) (hi : P.info? e = some i) (b off sLen sCap c : Nat) (hroom : sLen ≤ sCap) :
    (Builtin.append_ #[t, t] ty #[.slice (some ⟨b, off, none⟩) sLen sCap, .slice none 0 c]).run P w = .ok (.slice (some ⟨b, off, none⟩) sLen sCap) w := by
  simp [Builtin.append_, run_underlying ht, sizeOf, typeInfo, hi, Builtin.lenOf, hroom, Builtin.firstCells, loadCells, Addr.add_lit, storeCells]
theorem wpList_appendR {ops : Array Oper} {rest : List Oper} {o : Oper} {a : Act} {Q : Exit → Act → World → Prop} (hgd : o.guard = none) (s x : Operand) (t : TypeId)
    (ho : o.op = .call { callee := .builtin .append, args := #[s, x], argTypes := #[t, t] })
    (e : TypeId) (z : Value) (size bytes : Nat) (ht : P.underlying t = some (.slice e)) (h2 : (P.info? e).map (fun i => (i.zero, i.size, i.bytes)) = some (some z, size, bytes)) (hz : z.cells.size = size) (hsz : 0 < size)
    (g n c0 : Nat) (xs : List Value) (hs : a.eval s = .slice (some ⟨g, 0, none⟩) n c0) (hown : OwnN w e size (.slice (some ⟨g, 0, none⟩) n c0) n xs)
    (A : Option Addr) (m c : Nat) (news : List Value) (hx : a.eval x = .slice A m c) (hr : Span w A news) (hm : news.length = m * size) (h1 : ∀ u ∈ news, u.oneCell' = true)
    (h63 : n + m ≤ 9223372036854775807) (hbytes : (n + m) * bytes ≤ 140737488355328)
    (h : ∀ g' c' w', OwnN w' e size (.slice (some ⟨g', 0, none⟩) (n + m) c') (n + m) (xs ++ news) → Kp [g] w w' → (g' = g ∨ g' = w.heap.size) → wpList P ops Q rest (a.put o.dst (.slice (some ⟨g', 0, none⟩) (n + m) c')) w') :
    wpList P ops Q (o :: rest) a w := by
  cases A with
  | some ad =>
    refine wpList_appendN hgd s x t ho e z size bytes ht h2 hz hsz _ n xs hs hown ad m c news hx hr hm h1 h63 hbytes (fun v' w' hv hk hb => ?_)
    obtain ⟨A', c', rfl, -, -, -, hA⟩ := hv.shape
    have hk : Kp [g] w w' := hk
    have key : ∃ g', A' = some ⟨g', 0, none⟩ ∧ (g' = g ∨ g' = w.heap.size) := by
      cases A' with
      | none => rcases hb with hb | hb <;> cases hb
      | some ad' =>
        obtain ⟨e1, e2⟩ := hA ad' rfl
        refine ⟨ad'.block, by rw [← e1], ?_⟩
        rw [e2] at hb
        rcases hb with hb | hb
        · injection hb with hb; exact .inl hb
        · injection hb with hb; exact .inr hb
    obtain ⟨g', rfl, hg⟩ := key
    exact h g' c' w' hv hk hg
  | none =>
    obtain ⟨i, hi, hz0, hz1, hz2⟩ := info_parts h2
    have hn : news = [] := by
      cases news with
      | nil => rfl
      | cons u r => obtain ⟨ad, hh, _⟩ := hr 0 u rfl; cases hh
    subst hn
    have hm0 : m = 0 := by
      rcases Nat.eq_zero_or_pos m with h0 | h0
      · exact h0
      · exact absurd hm (Nat.ne_of_lt (Nat.mul_pos h0 hsz))
    subst hm0
    obtain ⟨A', c', e3, -, hc, -, -⟩ := hown.shape
    injection e3 with _ _ e3
    subst e3
    have hrun := run_append_none (P := P) (w := w) t o.type e i ht hi g 0 n c0 c hc
    refine wpList_plain hgd fun K hK => ?_
    unfold Oper.wp
    simp [execOp, ho, resolve, invoke, builtin, hs, hx, hrun, Result.andThen]
    refine hK _ _ (h g c0 w (by rw [List.append_nil]; exact hown) ((Kp.refl [] w).mono (by simp)) (.inl rfl))
end
theorem infoVal : (Tryd.prog.info? 31).map (fun i => (i.zero, i.size, i.bytes)) = some (some (.agg (vC 0 0 false [] 0 [] none 0 0 none 0 0 0).toArray), 9, 120) := by kernel_rfl
/-- A tree in memory: each of its blocks is as P says. -/
inductive RepS (w : World) (P : Nat → Prop) : Vl → List Value → Prop where
  | mk (k m : Nat) (num : Option Dc) (t : Txt) (keys : List Txt) (kids : List Vl) (code : Nat) (A : Option Addr) (ck : Nat) (B : Option Addr) (cb : Nat) (ks : Nat → List Value)
      (hA : KeysAt w A ck keys) (hB : KidsAt w B cb kids.length ks) (hPA : ∀ ad, A = some ad → P ad.block) (hPB : ∀ ad, B = some ad → P ad.block)
      (hr : ∀ (i : Nat) v, kids[i]? = some v → RepS w P v (ks i)) :
      RepS w P (.mk k m num t keys kids code) (vC k m (vN num) (vD num) (vS num) t A keys.length ck B kids.length cb code)
theorem RepS.rep {w : World} {P : Nat → Prop} {v : Vl} {cs : List Value} (h : RepS w P v cs) : Rep w v cs := by
  induction h with
  | mk k m num t keys kids code A ck B cb ks hA hB hPA hPB hr ih => exact .mk k m num t keys kids code A ck B cb ks hA hB ih
theorem RepS.mono {w : World} {P Q : Nat → Prop} (hPQ : ∀ x, P x → Q x) {v : Vl} {cs : List Value} (h : RepS w P v cs) : RepS w Q v cs := by
  induction h with
  | mk k m num t keys kids code A ck B cb ks hA hB hPA hPB hr ih => exact .mk k m num t keys kids code A ck B cb ks hA hB (fun ad h => hPQ _ (hPA ad h)) (fun ad h => hPQ _ (hPB ad h)) ih
theorem RepS.keep {w w' : World} {P : Nat → Prop} {S : List Nat} (k : Kp S w w') (hS : ∀ x ∈ S, ¬ P x) {v : Vl} {cs : List Value} (h : RepS w P v cs) : RepS w' P v cs := by
  induction h with
  | mk k' m num t keys kids code A ck B cb ks hA hB hPA hPB hr ih =>
    refine .mk k' m num t keys kids code A ck B cb ks ⟨hA.le, hA.top, fun i x hi => ?_⟩ ⟨hB.le, hB.top, fun i hi => ?_⟩ hPA hPB ih
    · obtain ⟨g, hg, hc⟩ := hA.at_ i x hi
      exact ⟨g, hg, k.cell hc (fun hm => hS _ hm (hPA ⟨g, 0, none⟩ hg))⟩
    · obtain ⟨g, hg, hc⟩ := hB.at_ i hi
      exact ⟨g, hg, fun j u hj => k.cell (hc j u hj) (fun hm => hS _ hm (hPB ⟨g, 0, none⟩ hg))⟩
theorem RepS.kept {w w' : World} {P : Nat → Prop} (k : Kp [] w w') {v : Vl} {cs : List Value} (h : RepS w P v cs) : RepS w' P v cs := h.keep k (by simp)
theorem RepS.len {w : World} {P : Nat → Prop} {v : Vl} {cs : List Value} (h : RepS w P v cs) : cs.length = 9 := h.rep.len
/-- Trees in a row: their cells, one behind the other. -/
structure Trees (w : World) (P : Nat → Prop) (vs : List Vl) (css : List (List Value)) : Prop where
  len : css.length = vs.length
  rep : ∀ (i : Nat) v c, vs[i]? = some v → css[i]? = some c → RepS w P v c
theorem Trees.nine {w : World} {P : Nat → Prop} {vs : List Vl} {css : List (List Value)} (h : Trees w P vs css) : ∀ c ∈ css, c.length = 9 := by
  intro c hc
  obtain ⟨i, hi⟩ := List.getElem?_of_mem hc
  have h1 := (List.getElem?_eq_some_iff.1 hi).1
  rw [h.len] at h1
  exact (h.rep i _ c (List.getElem?_eq_getElem h1) hi).len
theorem flat_len : ∀ (css : List (List Value)), (∀ c ∈ css, c.length = 9) → css.flatten.length = css.length * 9
  | [], _ => rfl
  | c :: r, h => by
    rw [List.flatten_cons, List.length_append, h c (by simp), flat_len r (fun d hd => h d (by simp [hd])), List.length_cons]
    omega
theorem flat_at : ∀ (css : List (List Value)), (∀ c ∈ css, c.length = 9) → ∀ (i : Nat) c, css[i]? = some c → ∀ j, j < 9 → css.flatten[9 * i + j]? = c[j]?
  | [], _, _, _, h, _, _ => by cases h
  | d :: r, h, 0, c, hc, j, hj => by
    injection hc with hc
    subst hc
    rw [List.flatten_cons, List.getElem?_append_left (by have := h d (by simp); omega), Nat.mul_zero, Nat.zero_add]
  | d :: r, h, i + 1, c, hc, j, hj => by
    have hd := h d (by simp)
    rw [List.flatten_cons, List.getElem?_append_right (by omega), hd, show 9 * (i + 1) + j - 9 = 9 * i + j by omega]
    exact flat_at r (fun e he => h e (by simp [he])) i c hc j hj
theorem flat_take : ∀ (css : List (List Value)), (∀ c ∈ css, c.length = 9) → ∀ n, (css.take n).flatten = css.flatten.take (n * 9)
  | [], _, _ => by simp
  | _ :: _, _, 0 => by simp
  | c :: r, h, n + 1 => by
    have hc := h c (by simp)
    rw [List.take_succ_cons, List.flatten_cons, List.flatten_cons, flat_take r (fun d hd => h d (by simp [hd])) n, List.take_append, hc, show (n + 1) * 9 - 9 = n * 9 by omega, List.take_of_length_le (l := c) (by omega)]
theorem flat_drop : ∀ (css : List (List Value)), (∀ c ∈ css, c.length = 9) → ∀ n, (css.drop n).flatten = css.flatten.drop (n * 9)
  | [], _, _ => by simp
  | _ :: _, _, 0 => by simp
  | c :: r, h, n + 1 => by
    have hc := h c (by simp)
    rw [List.drop_succ_cons, List.flatten_cons, flat_drop r (fun d hd => h d (by simp [hd])) n, List.drop_append, hc, show (n + 1) * 9 - 9 = n * 9 by omega, List.drop_eq_nil_of_le (show c.length ≤ (n + 1) * 9 by omega), List.nil_append]
theorem Trees.take {w : World} {P : Nat → Prop} {vs : List Vl} {css : List (List Value)} (h : Trees w P vs css) (n : Nat) : Trees w P (vs.take n) (css.take n) :=
  ⟨by rw [List.length_take, List.length_take, h.len], fun i v c hv hc => by
    rw [List.getElem?_take] at hv hc
    split at hv
    · rename_i hi
      rw [if_pos hi] at hc
      exact h.rep i v c hv hc
    · cases hv⟩
theorem Trees.drop {w : World} {P : Nat → Prop} {vs : List Vl} {css : List (List Value)} (h : Trees w P vs css) (n : Nat) : Trees w P (vs.drop n) (css.drop n) :=
  ⟨by rw [List.length_drop, List.length_drop, h.len], fun i v c hv hc => by
    rw [List.getElem?_drop] at hv hc
    exact h.rep _ v c hv hc⟩
theorem Trees.snoc {w : World} {P : Nat → Prop} {vs : List Vl} {css : List (List Value)} (h : Trees w P vs css) {v : Vl} {c : List Value} (hv : RepS w P v c) : Trees w P (vs ++ [v]) (css ++ [c]) := by
  refine ⟨by rw [List.length_append, List.length_append, h.len]; rfl, fun i u d hu hd => ?_⟩
  rcases Nat.lt_or_ge i vs.length with hi | hi
  · rw [List.getElem?_append_left hi] at hu
    rw [List.getElem?_append_left (by rw [h.len]; exact hi)] at hd
    exact h.rep i u d hu hd
  · rw [List.getElem?_append_right hi] at hu
    rw [List.getElem?_append_right (by rw [h.len]; exact hi)] at hd
    rw [h.len] at hd
    rcases Nat.eq_zero_or_pos (i - vs.length) with h0 | h0
    · rw [h0] at hu hd
      injection hu with hu
      injection hd with hd
      rw [← hu, ← hd]
      exact hv
    · rw [List.getElem?_eq_none (by simp; omega)] at hu
      cases hu
theorem Trees.mono {w : World} {P Q : Nat → Prop} (hPQ : ∀ x, P x → Q x) {vs : List Vl} {css : List (List Value)} (h : Trees w P vs css) : Trees w Q vs css :=
  ⟨h.len, fun i v c hv hc => (h.rep i v c hv hc).mono hPQ⟩
theorem Trees.keep {w w' : World} {P : Nat → Prop} {S : List Nat} (k : Kp S w w') (hS : ∀ x ∈ S, ¬ P x) {vs : List Vl} {css : List (List Value)} (h : Trees w P vs css) : Trees w' P vs css :=
  ⟨h.len, fun i v c hv hc => (h.rep i v c hv hc).keep k hS⟩
/-- A row of trees that lies in a block of its own: as kids. -/
theorem Trees.kids {w : World} {P : Nat → Prop} {vs : List Vl} {css : List (List Value)} (h : Trees w P vs css) {g c : Nat} (ho : OwnN w 31 9 (.slice (some ⟨g, 0, none⟩) vs.length c) vs.length css.flatten) :
    KidsAt w (some ⟨g, 0, none⟩) c vs.length (fun i => (css[i]?).getD []) ∧ ∀ (i : Nat) v, vs[i]? = some v → RepS w P v ((css[i]?).getD []) := by
  have hn := h.nine
  obtain ⟨A, c', e, hs, h1, h2, hA⟩ := ho.shape
  injection e with e1 e2 e3
  subst e1 e3
  refine ⟨⟨h1, h2, fun i hi => ⟨g, rfl, fun j u hj => ?_⟩⟩, fun i v hv => ?_⟩
  · obtain ⟨d, hd⟩ : ∃ d, css[i]? = some d := ⟨_, List.getElem?_eq_getElem (by rw [h.len]; exact hi)⟩
    rw [hd] at hj
    have hj9 : j < 9 := by have := (List.getElem?_eq_some_iff.1 hj).1; rw [← hn d (List.mem_of_getElem? hd)]; exact this
    have hf := flat_at css hn i d hd j hj9
    obtain ⟨ad, e4, hc⟩ := hs (9 * i + j) u (by rw [hf]; exact hj)
    injection e4 with e4
    rw [← e4] at hc
    rcases Nat.eq_zero_or_pos (9 * i + j) with h0 | h0
    · rw [h0] at hc ⊢; simpa [Addr.add] using hc
    · have e5 : (⟨g, 0, none⟩ : Addr).add (9 * i + j) = ⟨g, 9 * i + j, none⟩ := by
        unfold Addr.add
        rw [if_neg (by omega)]
        simp
      rw [e5] at hc
      exact hc
  · have hi := (List.getElem?_eq_some_iff.1 hv).1
    obtain ⟨d, hd⟩ : ∃ d, css[i]? = some d := ⟨_, List.getElem?_eq_getElem (by rw [h.len]; exact hi)⟩
    rw [hd]
    exact h.rep i v d hv hd
end Go.Proofs.YtpeldjihalldkaaDoor

/- Plain laws of trees: what is shown, which look the same, where something is hidden. -/
namespace Go.Proofs.YtpeldjihalldkaaDoor
open Go Go.Lib

mutual
theorem Vl.ind {P : Vl → Prop} (h : ∀ k m num t keys kids code, (∀ v ∈ kids, P v) → P (.mk k m num t keys kids code)) : ∀ v, P v
  | .mk k m num t keys kids code => h k m num t keys kids code (Vl.inds h kids)
theorem Vl.inds {P : Vl → Prop} (h : ∀ k m num t keys kids code, (∀ v ∈ kids, P v) → P (.mk k m num t keys kids code)) : ∀ l : List Vl, ∀ v ∈ l, P v
  | [] => fun v hv => by cases hv
  | u :: r => fun v hv => by
    rcases List.mem_cons.1 hv with e | e
    · rw [e]; exact Vl.ind h u
    · exact Vl.inds h r v e
end
theorem hid_all {m : Nat} (h : m < 18446744073709551616) : hidB m 18446744073709551615 = false := by
  have h1 : m ||| 18446744073709551615 < 2 ^ 64 := Nat.or_lt_two_pow (by omega) (by decide)
  have h2 : 18446744073709551615 ≤ m ||| 18446744073709551615 := Nat.right_le_or
  have h3 : m ||| 18446744073709551615 = 18446744073709551615 := by omega
  unfold hidB
  simp [h3]
theorem hid_zero (cl : Nat) : hidB 0 cl = false := by simp [hidB]
theorem hid_sup (x y cl : Nat) : hidB (x ||| y) cl = (hidB x cl || hidB y cl) := by
  have key : (x ||| y) ||| cl = cl ↔ (x ||| cl = cl ∧ y ||| cl = cl) := by
    constructor
    · intro h
      refine ⟨Nat.eq_of_testBit_eq fun i => ?_, Nat.eq_of_testBit_eq fun i => ?_⟩
      · have := congrArg (·.testBit i) h
        simp only [Nat.testBit_or] at this ⊢
        revert this
        cases x.testBit i <;> cases y.testBit i <;> cases cl.testBit i <;> simp
      · have := congrArg (·.testBit i) h
        simp only [Nat.testBit_or] at this ⊢
        revert this
        cases x.testBit i <;> cases y.testBit i <;> cases cl.testBit i <;> simp
    · rintro ⟨h1, h2⟩
      rw [Nat.or_assoc, h2, h1]
  unfold hidB
  by_cases h1 : x ||| cl = cl <;> by_cases h2 : y ||| cl = cl <;> simp [key, h1, h2]
theorem hid_or {m a b : Nat} (h : hidB m (a ||| b) = true) : hidB m a = true := by
  unfold hidB at *
  simp only [Bool.not_eq_true', decide_eq_false_iff_not] at *
  intro e
  exact h (by rw [← Nat.or_assoc, e])
theorem hid_and {m a b : Nat} (h : hidB m a = true) : hidB m (a &&& b) = true := by
  have e : (a &&& b) ||| a = a := by
    apply Nat.eq_of_testBit_eq
    intro i
    simp only [Nat.testBit_or, Nat.testBit_and]
    cases a.testBit i <;> simp
  rw [← e] at h
  exact hid_or h
theorem kidsL_map (cl : Nat) (h : Txt) : ∀ l : List Vl, kidsL cl h l = l.map (showL cl h)
  | [] => by simp [kidsL]
  | v :: r => by unfold kidsL; rw [kidsL_map cl h r]; rfl
theorem kidsO_get (cl : Nat) (h : Txt) : ∀ (keys : List Txt) (l : List Vl) (i : Nat), (kidsO cl h keys l)[i]? = l[i]?.map fun v => quoteL (keys[i]?.getD []) ++ 58 :: showL cl h v
  | _, [], _ => by simp [kidsO]
  | keys, v :: r, 0 => by cases keys <;> simp [kidsO]
  | keys, v :: r, i + 1 => by
    unfold kidsO
    rw [List.getElem?_cons_succ, List.getElem?_cons_succ, kidsO_get cl h keys.tail r i, List.getElem?_tail]
theorem kidsO_size (cl : Nat) (h : Txt) : ∀ (keys : List Txt) (l : List Vl), (kidsO cl h keys l).length = l.length
  | _, [] => by simp [kidsO]
  | keys, v :: r => by unfold kidsO; simp [kidsO_size cl h keys.tail r]
theorem alikes_iff (cl : Nat) : ∀ l l' : List Vl, alikes cl l l' = true ↔ l.length = l'.length ∧ ∀ (i : Nat) v v', l[i]? = some v → l'[i]? = some v' → alikeL cl v v' = true
  | [], [] => by simp [alikes]
  | [], _ :: _ => by simp [alikes]
  | _ :: _, [] => by simp [alikes]
  | v :: r, v' :: r' => by
    unfold alikes
    rw [Bool.and_eq_true, alikes_iff cl r r']
    constructor
    · rintro ⟨h1, h2, h3⟩
      refine ⟨by simp [h2], fun i u u' hu hu' => ?_⟩
      cases i with
      | zero =>
        injection hu with hu
        injection hu' with hu'
        rw [← hu, ← hu']
        exact h1
      | succ i => exact h3 i u u' hu hu'
    · rintro ⟨h1, h2⟩
      exact ⟨h2 0 v v' rfl rfl, by simpa using h1, fun i u u' hu hu' => h2 (i + 1) u u' hu hu'⟩
/-- Of two that look the same: both hidden, or the same but for kids that look the same. -/
theorem alike_cases {cl k m : Nat} {num : Option Dc} {t : Txt} {keys : List Txt} {kids : List Vl} {code : Nat} {b : Vl} (h : alikeL cl (.mk k m num t keys kids code) b = true) :
    (hidB m cl = true ∧ ∃ k' m' num' t' keys' kids' code', b = .mk k' m' num' t' keys' kids' code' ∧ hidB m' cl = true) ∨
    (hidB m cl = false ∧ ∃ kids', b = .mk k m num t keys kids' code ∧ kids.length = kids'.length ∧ ∀ (i : Nat) v v', kids[i]? = some v → kids'[i]? = some v' → alikeL cl v v' = true) := by
  obtain ⟨k', m', num', t', keys', kids', code'⟩ := b
  unfold alikeL at h
  split at h
  · have h1 : hidB m cl = true ∧ hidB m' cl = true := by simpa using h
    exact .inl ⟨h1.1, _, _, _, _, _, _, _, rfl, h1.2⟩
  · rename_i hn
    simp only [Bool.and_eq_true, decide_eq_true_eq] at h
    obtain ⟨⟨rfl, rfl, rfl, rfl, rfl, rfl⟩, hk⟩ := h
    have hm : hidB m cl = false := by simpa using hn
    exact .inr ⟨hm, kids', rfl, (alikes_iff cl kids kids').1 hk⟩
theorem alike_hid {cl k m : Nat} {num : Option Dc} {t : Txt} {keys : List Txt} {kids : List Vl} {code k' m' : Nat} {num' : Option Dc} {t' : Txt} {keys' : List Txt} {kids' : List Vl} {code' : Nat} (h : hidB m cl = true) (h' : hidB m' cl = true) :
    alikeL cl (.mk k m num t keys kids code) (.mk k' m' num' t' keys' kids' code') = true := by
  unfold alikeL
  rw [h, h']
  simp
theorem alike_seen {cl k m : Nat} {num : Option Dc} {t : Txt} {keys : List Txt} {kids : List Vl} {code : Nat} {kids' : List Vl} (h : hidB m cl = false) (hl : kids.length = kids'.length)
    (hk : ∀ (i : Nat) v v', kids[i]? = some v → kids'[i]? = some v' → alikeL cl v v' = true) : alikeL cl (.mk k m num t keys kids code) (.mk k m num t keys kids' code) = true := by
  unfold alikeL
  rw [h, (alikes_iff cl kids kids').2 ⟨hl, hk⟩]
  simp
theorem at_mem {l : List Vl} {i : Nat} {v : Vl} (h : l[i]? = some v) : v ∈ l := List.mem_of_getElem? h
theorem at_some {l : List Vl} {i : Nat} (h : i < l.length) : ∃ v, l[i]? = some v := ⟨_, List.getElem?_eq_getElem h⟩
theorem at_len {l : List Vl} {i : Nat} {v : Vl} (h : l[i]? = some v) : i < l.length := (List.getElem?_eq_some_iff.1 h).1
theorem alike_refl (cl : Nat) : ∀ v, alikeL cl v v = true := by
  refine Vl.ind fun k m num t keys kids code ih => ?_
  cases h : hidB m cl
  · exact alike_seen h rfl fun i v v' hv hv' => by
      rw [hv] at hv'
      injection hv' with hv'
      rw [← hv']
      exact ih v (at_mem hv)
  · exact alike_hid h h
theorem alike_turn {cl : Nat} : ∀ a b, alikeL cl a b = true → alikeL cl b a = true := by
  refine Vl.ind fun k m num t keys kids code ih b hab => ?_
  rcases alike_cases hab with ⟨h, k', m', num', t', keys', kids', code', rfl, h'⟩ | ⟨h, kids', rfl, hl, hk⟩
  · exact alike_hid h' h
  · exact alike_seen h hl.symm fun i v v' hv hv' => ih v' (at_mem hv') v (hk i v' v hv' hv)
theorem alike_comm (cl : Nat) (a b : Vl) : alikeL cl a b = alikeL cl b a := by
  rw [Bool.eq_iff_iff]
  exact ⟨alike_turn a b, alike_turn b a⟩
theorem joinC_congr {l l' : List Txt} (h : ∀ i : Nat, l[i]? = l'[i]?) : joinC l = joinC l' := by rw [List.ext_getElem? h]
theorem alike_show (cl : Nat) (h : Txt) : ∀ a b, alikeL cl a b = true → showL cl h a = showL cl h b := by
  refine Vl.ind fun k m num t keys kids code ih b hab => ?_
  rcases alike_cases hab with ⟨hm, k', m', num', t', keys', kids', code', rfl, hm'⟩ | ⟨hm, kids', rfl, hl, hk⟩
  · unfold showL
    rw [if_pos hm, if_pos hm']
  · have e : ∀ i : Nat, kids[i]?.map (showL cl h) = kids'[i]?.map (showL cl h) := by
      intro i
      rcases Nat.lt_or_ge i kids.length with hi | hi
      · obtain ⟨v, hv⟩ := at_some hi
        obtain ⟨v', hv'⟩ := at_some (hl ▸ hi)
        rw [hv, hv']
        exact congrArg some (ih v (at_mem hv) v' (hk i v v' hv hv'))
      · rw [List.getElem?_eq_none hi, List.getElem?_eq_none (hl ▸ hi)]
    have e1 : kidsL cl h kids = kidsL cl h kids' := by
      rw [kidsL_map, kidsL_map]
      exact List.ext_getElem? fun i => by rw [List.getElem?_map, List.getElem?_map, e]
    have e2 : kidsO cl h keys kids = kidsO cl h keys kids' := List.ext_getElem? fun i => by
      have := e i
      rw [kidsO_get, kidsO_get]
      revert this
      cases kids[i]? <;> cases kids'[i]? <;> simp
    unfold showL
    rw [e1, e2]
/-- What looks the same to one who may see more looks the same to one who may see less. -/
theorem alike_less {cl more : Nat} (hs : ∀ m, hidB m more = true → hidB m cl = true) : ∀ a b, alikeL more a b = true → alikeL cl a b = true := by
  refine Vl.ind fun k m num t keys kids code ih b hab => ?_
  rcases alike_cases hab with ⟨hm, k', m', num', t', keys', kids', code', rfl, hm'⟩ | ⟨hm, kids', rfl, hl, hk⟩
  · exact alike_hid (hs _ hm) (hs _ hm')
  · cases h : hidB m cl
    · exact alike_seen h hl fun i v v' hv hv' => ih v (at_mem hv) v' (hk i v v' hv hv')
    · exact alike_hid h h
theorem joinC_cons2 (x y : Txt) (r : List Txt) : (joinC (x :: y :: r)).length = x.length + 1 + (joinC (y :: r)).length := by
  show (x ++ 44 :: joinC (y :: r)).length = _
  simp only [List.length_append, List.length_cons]
  omega
theorem joinC_le : ∀ l l' : List Txt, l.length = l'.length → (∀ (i : Nat) x y, l[i]? = some x → l'[i]? = some y → x.length ≤ y.length) → (joinC l).length ≤ (joinC l').length
  | [], [], _, _ => Nat.le_refl _
  | [], _ :: _, h, _ => by simp at h
  | _ :: _, [], h, _ => by simp at h
  | [x], [y], _, h => by simpa [joinC] using h 0 x y rfl rfl
  | [_], _ :: _ :: _, h, _ => by simp at h
  | _ :: _ :: _, [_], h, _ => by simp at h
  | x :: y :: r, x' :: y' :: r', hl, h => by
    have h1 := h 0 x x' rfl rfl
    have h2 := joinC_le (y :: r) (y' :: r') (by simpa using hl) fun i u u' hu hu' => h (i + 1) u u' hu hu'
    rw [joinC_cons2, joinC_cons2]
    omega
theorem joinC_lt : ∀ l l' : List Txt, l.length = l'.length → (∀ (i : Nat) x y, l[i]? = some x → l'[i]? = some y → x.length ≤ y.length) → (∃ (i : Nat) (x y : Txt), l[i]? = some x ∧ l'[i]? = some y ∧ x.length < y.length) → (joinC l).length < (joinC l').length
  | [], _, _, _, ⟨i, x, y, hx, _⟩ => by simp at hx
  | _ :: _, [], h, _, _ => by simp at h
  | [x], [y], _, h, ⟨i, u, v, hu, hv, hlt⟩ => by
    cases i with
    | zero =>
      injection hu with hu
      injection hv with hv
      subst hu hv
      simpa [joinC] using hlt
    | succ i => simp at hu
  | [_], _ :: _ :: _, h, _, _ => by simp at h
  | _ :: _ :: _, [_], h, _, _ => by simp at h
  | x :: y :: r, x' :: y' :: r', hl, h, ⟨i, u, v, hu, hv, hlt⟩ => by
    have h1 := h 0 x x' rfl rfl
    rw [joinC_cons2, joinC_cons2]
    cases i with
    | zero =>
      injection hu with hu
      injection hv with hv
      subst hu hv
      have h2 := joinC_le (y :: r) (y' :: r') (by simpa using hl) fun i u u' hu hu' => h (i + 1) u u' hu hu'
      omega
    | succ i =>
      have h2 := joinC_lt (y :: r) (y' :: r') (by simpa using hl) (fun i u u' hu hu' => h (i + 1) u u' hu hu') ⟨i, u, v, hu, hv, hlt⟩
      omega
theorem fine_kid {k m : Nat} {num : Option Dc} {t : Txt} {keys : List Txt} {kids : List Vl} {code : Nat} (h : FineV (.mk k m num t keys kids code)) : ∀ v ∈ kids, FineV v := by
  cases h with
  | mk _ _ _ _ _ _ _ hk hm hn hn0 ht ht0 hkl hk0 hks hkd hc hcode hc0 hc8 hmany hf =>
    intro v hv
    obtain ⟨i, hi⟩ := List.getElem?_of_mem hv
    exact hf i v hi
theorem fine_mask {k m : Nat} {num : Option Dc} {t : Txt} {keys : List Txt} {kids : List Vl} {code : Nat} (h : FineV (.mk k m num t keys kids code)) : m < 18446744073709551616 := by cases h; assumption
theorem print_sign (d : Dc) : ∃ c s, printL d = c :: s ∧ (c = 45 ∨ Dig c) := by
  obtain ⟨W, P, hW, -, hne, -, e⟩ := print_form d
  cases W with
  | nil => exact absurd rfl hne
  | cons c W =>
    cases hn : d.neg with
    | true => exact ⟨45, _, by rw [e, hn]; rfl, .inl rfl⟩
    | false => exact ⟨c, _, by rw [e, hn]; rfl, .inr (hW c (by simp))⟩
theorem atom_head {k m : Nat} {num : Option Dc} {t : Txt} {keys : List Txt} {kids : List Vl} {code : Nat} (h : FineV (.mk k m num t keys kids code)) (h6 : k ≠ 6) (h7 : k ≠ 7) :
    ∃ c s, atomL k num t code = c :: s ∧ ((k = 1 ∧ c = 110) ∨ (k = 2 ∧ c = 102) ∨ (k = 3 ∧ c = 116) ∨ (k = 4 ∧ (c = 45 ∨ Dig c)) ∨ (k = 5 ∧ c = 34) ∨ (k = 8 ∧ c = 33)) := by
  cases h with
  | mk _ _ _ _ _ _ _ hk hm hn hn0 ht ht0 hkl hk0 hks hkd hc hcode hc0 hc8 hmany hf =>
    rcases (show k = 1 ∨ k = 2 ∨ k = 3 ∨ k = 4 ∨ k = 5 ∨ k = 8 by omega) with rfl | rfl | rfl | rfl | rfl | rfl
    · exact ⟨110, _, rfl, .inl ⟨rfl, rfl⟩⟩
    · exact ⟨102, _, rfl, .inr (.inl ⟨rfl, rfl⟩)⟩
    · exact ⟨116, _, rfl, .inr (.inr (.inl ⟨rfl, rfl⟩))⟩
    · obtain ⟨d, rfl, _⟩ := hn rfl
      obtain ⟨c, s, e, hc⟩ := print_sign d
      exact ⟨c, s, e, .inr (.inr (.inr (.inl ⟨rfl, hc⟩)))⟩
    · exact ⟨34, _, rfl, .inr (.inr (.inr (.inr (.inl ⟨rfl, rfl⟩))))⟩
    · exact ⟨33, _, rfl, .inr (.inr (.inr (.inr (.inr ⟨rfl, rfl⟩))))⟩
/-- What the first byte of a text that is shown tells: the kind (9: it is hidden). -/
def clsB (c : UInt8) : Nat := if c = 110 then 1 else if c = 102 then 2 else if c = 116 then 3 else if c = 34 then 5 else if c = 33 then 8 else if c = 91 then 6 else if c = 123 then 7 else if c = 35 then 9 else if c = 44 ∨ c = 93 ∨ c = 125 ∨ c = 58 then 0 else 4
theorem cls_dig {c : UInt8} (h : Dig c) : clsB c = 4 := by
  unfold Dig at h
  have key : ∀ c : UInt8, 48 ≤ c.toNat ∧ c.toNat ≤ 57 → clsB c = 4 := by
    intro c hc
    unfold clsB
    have ne : ∀ d : UInt8, (d.toNat < 48 ∨ 57 < d.toNat) → c ≠ d := fun d hd e => by subst e; omega
    rw [if_neg (ne _ (by decide)), if_neg (ne _ (by decide)), if_neg (ne _ (by decide)), if_neg (ne _ (by decide)), if_neg (ne _ (by decide)), if_neg (ne _ (by decide)), if_neg (ne _ (by decide)), if_neg (ne _ (by decide)), if_neg]
    rintro (e | e | e | e) <;> exact ne _ (by decide) e
  exact key c h
theorem show_head (cl : Nat) {k m : Nat} {num : Option Dc} {t : Txt} {keys : List Txt} {kids : List Vl} {code : Nat} (hf : FineV (.mk k m num t keys kids code)) :
    ∃ c s, showL cl [35] (.mk k m num t keys kids code) = c :: s ∧ clsB c = if hidB m cl then 9 else k := by
  unfold showL
  cases hm : hidB m cl
  · simp only [Bool.false_eq_true, if_false]
    by_cases h7 : k = 7
    · subst h7
      exact ⟨123, _, rfl, by decide⟩
    · by_cases h6 : k = 6
      · subst h6
        exact ⟨91, _, rfl, by decide⟩
      · rw [if_neg h7, if_neg h6]
        obtain ⟨c, s, e, h⟩ := atom_head hf h6 h7
        refine ⟨c, s, e, ?_⟩
        rcases h with ⟨rfl, rfl⟩ | ⟨rfl, rfl⟩ | ⟨rfl, rfl⟩ | ⟨rfl, h⟩ | ⟨rfl, rfl⟩ | ⟨rfl, rfl⟩
        · decide
        · decide
        · decide
        · rcases h with rfl | h
          · decide
          · exact cls_dig h
        · decide
        · decide
  · exact ⟨35, [], by simp, by rw [if_pos rfl]; decide⟩
theorem show_pos (cl : Nat) {v : Vl} (hf : FineV v) : 1 ≤ (showL cl [35] v).length := by
  obtain ⟨k, m, num, t, keys, kids, code⟩ := v
  obtain ⟨c, s, e, _⟩ := show_head cl hf
  rw [e]
  simp
/-- It is the sign just if it is hidden. -/
theorem show_sign (cl : Nat) {k m : Nat} {num : Option Dc} {t : Txt} {keys : List Txt} {kids : List Vl} {code : Nat} (hf : FineV (.mk k m num t keys kids code)) : (showL cl [35] (.mk k m num t keys kids code) == [35]) = hidB m cl := by
  cases hm : hidB m cl
  · obtain ⟨c, s, e, hc⟩ := show_head cl hf
    simp only [hm] at hc
    rw [e, beq_eq_false_iff_ne]
    intro h
    injection h with h1 h2
    subst h1
    cases hf with
    | mk _ _ _ _ _ _ _ hk =>
      have : clsB 35 = 9 := by decide
      simp at hc
      omega
  · unfold showL
    rw [hm]
    rfl
theorem show_le {cl more : Nat} (hs : ∀ m, hidB m more = true → hidB m cl = true) : ∀ v, FineV v → (showL cl [35] v).length ≤ (showL more [35] v).length := by
  refine Vl.ind fun k m num t keys kids code ih hf => ?_
  cases hm : hidB m cl
  · have hm' : hidB m more = false := by
      cases h : hidB m more
      · rfl
      · rw [hs m h] at hm; cases hm
    have hk := fine_kid hf
    unfold showL
    rw [hm, hm']
    simp only [Bool.false_eq_true, if_false]
    split
    · have := joinC_le (kidsO cl [35] keys kids) (kidsO more [35] keys kids) (by rw [kidsO_size, kidsO_size]) fun i x y hx hy => by
        rw [kidsO_get] at hx hy
        obtain ⟨v, hv, rfl⟩ := Option.map_eq_some_iff.1 hx
        rw [hv] at hy
        injection hy with hy
        subst hy
        have := ih v (at_mem hv) (hk v (at_mem hv))
        simp only [List.length_append, List.length_cons]
        omega
      simp only [List.length_append, List.length_cons, List.length_nil]
      omega
    · split
      · have := joinC_le (kidsL cl [35] kids) (kidsL more [35] kids) (by rw [kidsL_map, kidsL_map, List.length_map, List.length_map]) fun i x y hx hy => by
          rw [kidsL_map, List.getElem?_map] at hx hy
          obtain ⟨v, hv, rfl⟩ := Option.map_eq_some_iff.1 hx
          rw [hv] at hy
          injection hy with hy
          subst hy
          exact ih v (at_mem hv) (hk v (at_mem hv))
        simp only [List.length_append, List.length_cons, List.length_nil]
        omega
      · exact Nat.le_refl _
  · have := show_pos more hf
    rw [show showL cl [35] (.mk k m num t keys kids code) = [35] by unfold showL; rw [hm]; rfl]
    exact this
end Go.Proofs.YtpeldjihalldkaaDoor

/- Plain laws of trees: places of what is hidden; tidy, bare; what is put in the place of a kid. -/
namespace Go.Proofs.YtpeldjihalldkaaDoor
open Go Go.Lib

/-- A step: its kind, its key, its place. -/
abbrev Stp := Nat × Txt × Nat
def stK (x : Txt) : Stp := (1, x, 0)
def stA (i : Nat) : Stp := (2, [], i)
def stp (k : Nat) (keys : List Txt) (i : Nat) : Stp := if k = 7 then stK (keys[i]?.getD []) else stA i
mutual
def holesL (cl : Nat) (at_ : List Stp) : Vl → List (List Stp)
  | .mk k m _ _ keys kids _ => if hidB m cl then [at_] else holesK cl at_ k keys 0 kids
def holesK (cl : Nat) (at_ : List Stp) (k : Nat) (keys : List Txt) (i : Nat) : List Vl → List (List Stp)
  | [] => []
  | v :: r => holesL cl (at_ ++ [stp k keys i]) v ++ holesK cl at_ k keys (i + 1) r
end
theorem holesK_mem (cl : Nat) (at_ : List Stp) (k : Nat) (keys : List Txt) : ∀ (l : List Vl) (i : Nat) (p : List Stp), p ∈ holesK cl at_ k keys i l ↔ ∃ (j : Nat) (v : Vl), l[j]? = some v ∧ p ∈ holesL cl (at_ ++ [stp k keys (i + j)]) v
  | [], i, p => by simp [holesK]
  | v :: r, i, p => by
    unfold holesK
    rw [List.mem_append, holesK_mem cl at_ k keys r (i + 1) p]
    constructor
    · rintro (h | ⟨j, u, hu, h⟩)
      · exact ⟨0, v, rfl, h⟩
      · exact ⟨j + 1, u, hu, by rw [show i + (j + 1) = i + 1 + j by omega]; exact h⟩
    · rintro ⟨j, u, hu, h⟩
      cases j with
      | zero =>
        injection hu with hu
        subst hu
        exact .inl h
      | succ j => exact .inr ⟨j, u, hu, by rw [show i + 1 + j = i + (j + 1) by omega]; exact h⟩
theorem nil_of_mem {α : Type} {l : List α} : l = [] ↔ ∀ x, x ∉ l := List.eq_nil_iff_forall_not_mem
theorem holes_full {all : Nat} (ha : ∀ m, m < 18446744073709551616 → hidB m all = false) (cl : Nat) : ∀ v, FineV v → (∀ at_, holesL cl at_ v = [] → showL cl [] v = showL all [] v) ∧
    (showL cl [] v).length ≤ (showL all [] v).length ∧ (∀ at_, holesL cl at_ v ≠ [] → (showL cl [] v).length < (showL all [] v).length) := by
  refine Vl.ind fun k m num t keys kids code ih hf => ?_
  have hk := fine_kid hf
  have hall := ha m (fine_mask hf)
  cases hm : hidB m cl
  · have e0 : ∀ at_, holesL cl at_ (.mk k m num t keys kids code) = holesK cl at_ k keys 0 kids := fun at_ => by unfold holesL; rw [hm]; rfl
    have leL : (joinC (kidsL cl [] kids)).length ≤ (joinC (kidsL all [] kids)).length := joinC_le _ _ (by rw [kidsL_map, kidsL_map, List.length_map, List.length_map]) fun i x y hx hy => by
      rw [kidsL_map, List.getElem?_map] at hx hy
      obtain ⟨v, hv, rfl⟩ := Option.map_eq_some_iff.1 hx
      rw [hv] at hy
      injection hy with hy
      subst hy
      exact (ih v (at_mem hv) (hk v (at_mem hv))).2.1
    have leO : (joinC (kidsO cl [] keys kids)).length ≤ (joinC (kidsO all [] keys kids)).length := joinC_le _ _ (by rw [kidsO_size, kidsO_size]) fun i x y hx hy => by
      rw [kidsO_get] at hx hy
      obtain ⟨v, hv, rfl⟩ := Option.map_eq_some_iff.1 hx
      rw [hv] at hy
      injection hy with hy
      subst hy
      have := (ih v (at_mem hv) (hk v (at_mem hv))).2.1
      simp only [List.length_append, List.length_cons]
      omega
    refine ⟨fun at_ h0 => ?_, ?_, fun at_ h0 => ?_⟩
    · rw [e0] at h0
      have hz : ∀ (i : Nat) v, kids[i]? = some v → showL cl [] v = showL all [] v := fun i v hv => (ih v (at_mem hv) (hk v (at_mem hv))).1 (at_ ++ [stp k keys (0 + i)]) (nil_of_mem.2 fun p hp => nil_of_mem.1 h0 p ((holesK_mem cl at_ k keys kids 0 p).2 ⟨i, v, hv, hp⟩))
      have e1 : kidsL cl [] kids = kidsL all [] kids := by
        rw [kidsL_map, kidsL_map]
        exact List.map_congr_left fun v hv => by obtain ⟨i, hi⟩ := List.getElem?_of_mem hv; exact hz i v hi
      have e2 : kidsO cl [] keys kids = kidsO all [] keys kids := List.ext_getElem? fun i => by
        rw [kidsO_get, kidsO_get]
        cases hv : kids[i]? with
        | none => rfl
        | some v => simp [hz i v hv]
      unfold showL
      rw [hm, hall, e1, e2]
    · unfold showL
      rw [hm, hall]
      simp only [Bool.false_eq_true, if_false]
      split
      · simp only [List.length_append, List.length_cons, List.length_nil]; omega
      · split
        · simp only [List.length_append, List.length_cons, List.length_nil]; omega
        · exact Nat.le_refl _
    · rw [e0] at h0
      obtain ⟨p, hp⟩ := List.exists_mem_of_ne_nil _ h0
      obtain ⟨j, v, hv, hpv⟩ := (holesK_mem cl at_ k keys kids 0 p).1 hp
      have hlt := (ih v (at_mem hv) (hk v (at_mem hv))).2.2 _ (List.ne_nil_of_mem hpv)
      have ltL := joinC_lt (kidsL cl [] kids) (kidsL all [] kids) (by rw [kidsL_map, kidsL_map, List.length_map, List.length_map]) (fun i x y hx hy => by
        rw [kidsL_map, List.getElem?_map] at hx hy
        obtain ⟨v, hv, rfl⟩ := Option.map_eq_some_iff.1 hx
        rw [hv] at hy
        injection hy with hy
        subst hy
        exact (ih v (at_mem hv) (hk v (at_mem hv))).2.1) ⟨j, _, _, by rw [kidsL_map, List.getElem?_map, hv]; rfl, by rw [kidsL_map, List.getElem?_map, hv]; rfl, hlt⟩
      have ltO := joinC_lt (kidsO cl [] keys kids) (kidsO all [] keys kids) (by rw [kidsO_size, kidsO_size]) (fun i x y hx hy => by
        rw [kidsO_get] at hx hy
        obtain ⟨v, hv, rfl⟩ := Option.map_eq_some_iff.1 hx
        rw [hv] at hy
        injection hy with hy
        subst hy
        have := (ih v (at_mem hv) (hk v (at_mem hv))).2.1
        simp only [List.length_append, List.length_cons]
        omega) ⟨j, _, _, by rw [kidsO_get, hv]; rfl, by rw [kidsO_get, hv]; rfl, by simp only [List.length_append, List.length_cons]; omega⟩
      have hkk : k = 7 ∨ k = 6 := by
        cases hf with
        | mk _ _ _ _ _ _ _ hk hm hn hn0 ht ht0 hkl hk0 hks hkd hc hcode hc0 hc8 hmany hf =>
          by_cases h6 : k = 6
          · exact .inr h6
          · by_cases h7 : k = 7
            · exact .inl h7
            · rw [hc h6 h7] at hv; simp at hv
      unfold showL
      rw [hm, hall]
      simp only [Bool.false_eq_true, if_false]
      rcases hkk with rfl | rfl
      · simp only [if_true, List.length_append, List.length_cons, List.length_nil]; omega
      · rw [if_neg (show ¬ (6 : Nat) = 7 by decide), if_neg (show ¬ (6 : Nat) = 7 by decide)]; simp only [if_true, List.length_append, List.length_cons, List.length_nil]; omega
  · have e1 : showL cl [] (.mk k m num t keys kids code) = [] := by unfold showL; rw [hm]; rfl
    have h1 : 1 ≤ (showL all [] (.mk k m num t keys kids code)).length := by
      unfold showL
      rw [hall]
      simp only [Bool.false_eq_true, if_false]
      split
      · simp
      · split
        · simp
        · rename_i h7 h6
          obtain ⟨c, s, e, _⟩ := atom_head hf h6 h7
          rw [e]
          simp
    rw [e1]
    exact ⟨fun at_ h0 => by unfold holesL at h0; rw [hm] at h0; simp at h0, Nat.zero_le _, fun _ _ => h1⟩
/-- There are no places just if all is shown. -/
theorem holes_none {all : Nat} (ha : ∀ m, m < 18446744073709551616 → hidB m all = false) (cl : Nat) {v : Vl} (hf : FineV v) (at_ : List Stp) : holesL cl at_ v = [] ↔ showL cl [] v = showL all [] v := by
  have h := holes_full ha cl v hf
  constructor
  · exact h.1 at_
  · intro e
    by_cases h0 : holesL cl at_ v = []
    · exact h0
    · have := h.2.2 at_ h0
      rw [e] at this
      exact absurd this (Nat.lt_irrefl _)
theorem holes_all {all : Nat} (ha : ∀ m, m < 18446744073709551616 → hidB m all = false) : ∀ v, FineV v → ∀ at_, holesL all at_ v = [] := by
  refine Vl.ind fun k m num t keys kids code ih hf at_ => ?_
  unfold holesL
  rw [ha m (fine_mask hf)]
  simp only [Bool.false_eq_true, if_false]
  refine nil_of_mem.2 fun p hp => ?_
  obtain ⟨j, v, hv, hpv⟩ := (holesK_mem all at_ k keys kids 0 p).1 hp
  rw [ih v (at_mem hv) (fine_kid hf v (at_mem hv))] at hpv
  cases hpv
/-- A place leads, by what is seen, to something hidden. -/
inductive Leads (cl : Nat) : Vl → List Stp → Prop where
  | here (k m : Nat) (num : Option Dc) (t : Txt) (keys : List Txt) (kids : List Vl) (code : Nat) (h : hidB m cl = true) : Leads cl (.mk k m num t keys kids code) []
  | down (k m : Nat) (num : Option Dc) (t : Txt) (keys : List Txt) (kids : List Vl) (code : Nat) (h : hidB m cl = false) (j : Nat) (v : Vl) (hv : kids[j]? = some v) (s : List Stp) (hs : Leads cl v s) : Leads cl (.mk k m num t keys kids code) (stp k keys j :: s)
theorem holes_lead (cl : Nat) : ∀ v, ∀ at_, ∀ p ∈ holesL cl at_ v, ∃ s, p = at_ ++ s ∧ Leads cl v s := by
  refine Vl.ind fun k m num t keys kids code ih at_ p hp => ?_
  unfold holesL at hp
  cases hm : hidB m cl
  · rw [hm] at hp
    simp only [Bool.false_eq_true, if_false] at hp
    obtain ⟨j, v, hv, hpv⟩ := (holesK_mem cl at_ k keys kids 0 p).1 hp
    obtain ⟨s, rfl, hs⟩ := ih v (at_mem hv) _ p hpv
    rw [Nat.zero_add]
    exact ⟨stp k keys j :: s, by simp, .down k m num t keys kids code hm j v hv s hs⟩
  · rw [hm] at hp
    simp only [if_true, List.mem_singleton] at hp
    exact ⟨[], by simp [hp], .here k m num t keys kids code hm⟩
mutual
def bareV : Vl → Vl
  | .mk k _ num t keys kids code => .mk k 0 num t keys (bares kids) code
def bares : List Vl → List Vl
  | [] => []
  | v :: r => bareV v :: bares r
end
mutual
def deepV : Vl → Nat
  | .mk _ m _ _ _ kids _ => deeps m kids
def deeps (acc : Nat) : List Vl → Nat
  | [] => acc
  | v :: r => deeps (acc ||| deepV v) r
end
def withV (v : Vl) (mask : Nat) : Vl := match v with | .mk k m num t keys kids code => .mk k (m ||| mask) num t keys kids code
mutual
def tidyV : Vl → Vl
  | .mk k m num t keys kids code => if m ≠ 0 then withV (bareV (.mk k m num t keys kids code)) (deepV (.mk k m num t keys kids code)) else .mk k m num t keys (tidys kids) code
def tidys : List Vl → List Vl
  | [] => []
  | v :: r => tidyV v :: tidys r
end
mutual
def heldV : Vl → Nat
  | .mk _ m _ _ _ kids _ => if m = 0 then 1 + helds kids else 1
def helds : List Vl → Nat
  | [] => 0
  | v :: r => heldV v + helds r
end
theorem bares_map : ∀ l, bares l = l.map bareV
  | [] => by simp [bares]
  | v :: r => by unfold bares; rw [bares_map r]; rfl
theorem tidys_map : ∀ l, tidys l = l.map tidyV
  | [] => by simp [tidys]
  | v :: r => by unfold tidys; rw [tidys_map r]; rfl
theorem helds_sum : ∀ l, helds l = (l.map heldV).sum
  | [] => by simp [helds]
  | v :: r => by unfold helds; rw [helds_sum r]; simp
theorem deeps_hid (cl : Nat) : ∀ (l : List Vl) (acc : Nat), hidB (deeps acc l) cl = (hidB acc cl || l.any fun v => hidB (deepV v) cl)
  | [], acc => by simp [deeps]
  | v :: r, acc => by
    unfold deeps
    rw [deeps_hid cl r, hid_sup]
    simp [Bool.or_assoc]
theorem deep_alike (cl : Nat) : ∀ a b, alikeL cl a b = true → hidB (deepV a) cl = hidB (deepV b) cl ∧ (hidB (deepV a) cl = false → a = b) := by
  refine Vl.ind fun k m num t keys kids code ih b hab => ?_
  rcases alike_cases hab with ⟨hm, k', m', num', t', keys', kids', code', rfl, hm'⟩ | ⟨hm, kids', rfl, hl, hk⟩
  · unfold deepV
    rw [deeps_hid, deeps_hid, hm, hm']
    simp
  · unfold deepV
    rw [deeps_hid, deeps_hid]
    have e : (kids.any fun v => hidB (deepV v) cl) = (kids'.any fun v => hidB (deepV v) cl) := by
      rw [Bool.eq_iff_iff, List.any_eq_true, List.any_eq_true]
      constructor
      · rintro ⟨v, hv, h⟩
        obtain ⟨i, hi⟩ := List.getElem?_of_mem hv
        obtain ⟨v', hv'⟩ := at_some (hl ▸ at_len hi)
        exact ⟨v', at_mem hv', by rw [← (ih v hv v' (hk i v v' hi hv')).1]; exact h⟩
      · rintro ⟨v', hv', h⟩
        obtain ⟨i, hi⟩ := List.getElem?_of_mem hv'
        obtain ⟨v, hv⟩ := at_some (hl.symm ▸ at_len hi)
        exact ⟨v, at_mem hv, by rw [(ih v (at_mem hv) v' (hk i v v' hv hi)).1]; exact h⟩
    refine ⟨by rw [e], fun h => ?_⟩
    rw [hm, Bool.false_or] at h
    have hne : ∀ v ∈ kids, hidB (deepV v) cl = false := fun v hv => by
      cases hc : hidB (deepV v) cl
      · rfl
      · rw [List.any_eq_true.2 ⟨v, hv, hc⟩] at h; cases h
    congr 1
    refine List.ext_getElem? fun i => ?_
    rcases Nat.lt_or_ge i kids.length with hi | hi
    · obtain ⟨v, hv⟩ := at_some hi
      obtain ⟨v', hv'⟩ := at_some (hl ▸ hi)
      rw [hv, hv', (ih v (at_mem hv) v' (hk i v v' hv hv')).2 (hne v (at_mem hv))]
    · rw [List.getElem?_eq_none hi, List.getElem?_eq_none (hl ▸ hi)]
/-- The mask of a value. -/
def maskV : Vl → Nat | .mk _ m _ _ _ _ _ => m
theorem deep_self (cl : Nat) (k m : Nat) (num : Option Dc) (t : Txt) (keys : List Txt) (kids : List Vl) (code : Nat) (h : hidB m cl = true) : hidB (deepV (.mk k m num t keys kids code)) cl = true := by
  unfold deepV
  rw [deeps_hid, h]
  rfl
theorem tidy_hid (cl : Nat) (v : Vl) (h : hidB (maskV v) cl = true) : hidB (maskV (tidyV v)) cl = true := by
  obtain ⟨k, m, num, t, keys, kids, code⟩ := v
  have h : hidB m cl = true := h
  have hm : m ≠ 0 := by rintro rfl; rw [hid_zero] at h; cases h
  have e : maskV (tidyV (.mk k m num t keys kids code)) = 0 ||| deepV (.mk k m num t keys kids code) := by
    unfold tidyV
    rw [if_pos hm]
    unfold bareV withV
    rfl
  rw [e, hid_sup, deep_self cl k m num t keys kids code h]
  simp
theorem tidy_alike (cl : Nat) : ∀ a b, alikeL cl a b = true → alikeL cl (tidyV a) (tidyV b) = true ∧ heldV (tidyV a) = heldV (tidyV b) := by
  have held1 : ∀ k m num t keys kids code, m ≠ 0 → heldV (.mk k m num t keys kids code) = 1 := fun k m num t keys kids code h => by
    unfold heldV
    rw [if_neg h]
  have tm : ∀ k m num t keys kids code, m ≠ 0 → tidyV (.mk k m num t keys kids code) = .mk k (0 ||| deepV (.mk k m num t keys kids code)) num t keys (bares kids) code := fun k m num t keys kids code hm => by
    unfold tidyV
    rw [if_pos hm]
    unfold bareV withV
    rfl
  have nz : ∀ k m num t keys kids code, m ≠ 0 → (0 ||| deepV (.mk k m num t keys kids code)) ≠ 0 := fun k m num t keys kids code hm h => by
    have h1 : hidB m 0 = true := by simp [hidB, hm]
    have h2 := deep_self 0 k m num t keys kids code h1
    rw [Nat.zero_or] at h
    rw [h, hid_zero] at h2
    cases h2
  refine Vl.ind fun k m num t keys kids code ih b hab => ?_
  rcases alike_cases hab with ⟨hm, k', m', num', t', keys', kids', code', rfl, hm'⟩ | ⟨hm, kids', rfl, hl, hk⟩
  · have h0 : m ≠ 0 := by rintro rfl; rw [hid_zero] at hm; cases hm
    have h0' : m' ≠ 0 := by rintro rfl; rw [hid_zero] at hm'; cases hm'
    have n1 := nz k m num t keys kids code h0
    have n2 := nz k' m' num' t' keys' kids' code' h0'
    rw [tm k m num t keys kids code h0, tm k' m' num' t' keys' kids' code' h0']
    refine ⟨alike_hid ?_ ?_, ?_⟩
    · rw [hid_sup, deep_self cl k m num t keys kids code hm]; simp
    · rw [hid_sup, deep_self cl k' m' num' t' keys' kids' code' hm']; simp
    · rw [held1 _ _ _ _ _ _ _ n1, held1 _ _ _ _ _ _ _ n2]
  · by_cases h0 : m = 0
    · subst h0
      unfold tidyV
      rw [if_neg (by simp), if_neg (by simp)]
      have hp : ∀ (i : Nat) v v', kids[i]? = some v → kids'[i]? = some v' → alikeL cl (tidyV v) (tidyV v') = true ∧ heldV (tidyV v) = heldV (tidyV v') := fun i v v' hv hv' => ih v (at_mem hv) v' (hk i v v' hv hv')
      refine ⟨alike_seen hm (by rw [tidys_map, tidys_map, List.length_map, List.length_map, hl]) fun i v v' hv hv' => ?_, ?_⟩
      · rw [tidys_map, List.getElem?_map] at hv hv'
        obtain ⟨u, hu, rfl⟩ := Option.map_eq_some_iff.1 hv
        obtain ⟨u', hu', rfl⟩ := Option.map_eq_some_iff.1 hv'
        exact (hp i u u' hu hu').1
      · unfold heldV
        rw [if_pos rfl, if_pos rfl, helds_sum, helds_sum, tidys_map, tidys_map, List.map_map, List.map_map]
        congr 2
        refine List.ext_getElem? fun i => ?_
        rw [List.getElem?_map, List.getElem?_map]
        rcases Nat.lt_or_ge i kids.length with hi | hi
        · obtain ⟨v, hv⟩ := at_some hi
          obtain ⟨v', hv'⟩ := at_some (hl ▸ hi)
          rw [hv, hv']
          exact congrArg some (hp i v v' hv hv').2
        · rw [List.getElem?_eq_none hi, List.getElem?_eq_none (hl ▸ hi)]
    · have n1 := nz k m num t keys kids code h0
      have n2 := nz k m num t keys kids' code h0
      have hd := deep_alike cl _ _ hab
      rw [tm k m num t keys kids code h0, tm k m num t keys kids' code h0]
      refine ⟨?_, by rw [held1 _ _ _ _ _ _ _ n1, held1 _ _ _ _ _ _ _ n2]⟩
      cases hb : hidB (deepV (.mk k m num t keys kids code)) cl
      · have e := hd.2 hb
        injection e with _ _ _ _ _ e _
        subst e
        exact alike_refl cl _
      · refine alike_hid ?_ ?_
        · rw [hid_sup, hb]; simp
        · rw [hid_sup, ← hd.1, hb]; simp
theorem bare_fine : ∀ v, FineV v → FineV (bareV v) := by
  refine Vl.ind fun k m num t keys kids code ih hf => ?_
  cases hf with
  | mk _ _ _ _ _ _ _ hk hm hn hn0 ht ht0 hkl hk0 hks hkd hc hcode hc0 hc8 hmany hff =>
    unfold bareV
    refine .mk k 0 num t keys (bares kids) code hk (by decide) hn hn0 ht ht0 (fun h => by rw [bares_map, List.length_map]; exact hkl h) hk0 hks hkd (fun h6 h7 => by rw [hc h6 h7]; simp [bares]) hcode hc0 hc8 (by rw [bares_map, List.length_map]; exact hmany) fun i v hv => ?_
    rw [bares_map, List.getElem?_map] at hv
    obtain ⟨u, hu, rfl⟩ := Option.map_eq_some_iff.1 hv
    exact ih u (at_mem hu) (hff i u hu)
theorem bare_show {all : Nat} (ha : ∀ m, m < 18446744073709551616 → hidB m all = false) (cl : Nat) (h h' : Txt) : ∀ v, FineV v → showL cl h (bareV v) = showL all h' v := by
  refine Vl.ind fun k m num t keys kids code ih hf => ?_
  have hk := fine_kid hf
  have e1 : kidsL cl h (bares kids) = kidsL all h' kids := by
    rw [kidsL_map, kidsL_map, bares_map, List.map_map]
    exact List.map_congr_left fun v hv => ih v hv (hk v hv)
  have e2 : kidsO cl h keys (bares kids) = kidsO all h' keys kids := List.ext_getElem? fun i => by
    rw [kidsO_get, kidsO_get, bares_map, List.getElem?_map]
    cases hv : kids[i]? with
    | none => rfl
    | some v => simp [ih v (at_mem hv) (hk v (at_mem hv))]
  unfold bareV showL
  rw [hid_zero, ha m (fine_mask hf), e1, e2]
  simp only [Bool.false_eq_true, if_false]
theorem bare_holes (cl : Nat) : ∀ v at_, holesL cl at_ (bareV v) = [] := by
  refine Vl.ind fun k m num t keys kids code ih at_ => ?_
  unfold bareV holesL
  rw [hid_zero]
  simp only [Bool.false_eq_true, if_false]
  refine nil_of_mem.2 fun p hp => ?_
  obtain ⟨j, v, hv, hpv⟩ := (holesK_mem cl at_ k keys (bares kids) 0 p).1 hp
  rw [bares_map, List.getElem?_map] at hv
  obtain ⟨u, hu, rfl⟩ := Option.map_eq_some_iff.1 hv
  rw [ih u (at_mem hu)] at hpv
  cases hpv
theorem bare_size : ∀ v, sizeV (bareV v) = sizeV v := by
  refine Vl.ind fun k m num t keys kids code ih => ?_
  have e : ∀ l : List Vl, (∀ v ∈ l, sizeV (bareV v) = sizeV v) → sizes (bares l) = sizes l := by
    intro l
    induction l with
    | nil => intro _; simp [bares]
    | cons v r ih2 =>
      intro h
      unfold bares sizes
      rw [h v (by simp), ih2 fun u hu => h u (by simp [hu])]
  unfold bareV sizeV
  rw [e kids ih]
end Go.Proofs.YtpeldjihalldkaaDoor

/- Items; rows of trees that stand alone. -/
namespace Go.Proofs.YtpeldjihalldkaaDoor
open Go Go.RowKit Go.Lib

/-- An item as it came in. -/
structure Itm where
  kind : Int
  many : Int
  mask : Nat
  num : Txt
  text : Txt
  keys : List Txt
structure ItmOk (x : Itm) : Prop where
  k1 : -9223372036854775808 ≤ x.kind
  k2 : x.kind ≤ 9223372036854775807
  m1 : -9223372036854775808 ≤ x.many
  m2 : x.many ≤ 9223372036854775807
  mask : x.mask < 18446744073709551616
  num : x.num.length ≤ 9223372036854775807
  text : x.text.length ≤ 9223372036854775807
def ItmAt (w : World) (P : Addr) (x : Itm) : Prop :=
  ∃ B nb, w.cell? P = some (.int .i64 x.kind) ∧ w.cell? ⟨P.block, P.off + 1, none⟩ = some (.int .i64 x.many) ∧ w.cell? ⟨P.block, P.off + 2, none⟩ = some (.int .u64 (x.mask : Int)) ∧ w.cell? ⟨P.block, P.off + 3, none⟩ = some (.string ⟨x.num.toArray⟩) ∧
    w.cell? ⟨P.block, P.off + 4, none⟩ = some (.string ⟨x.text.toArray⟩) ∧ w.cell? ⟨P.block, P.off + 5, none⟩ = some (.slice B x.keys.length nb) ∧ RawsAt w B nb x.keys
structure ItemsAt (w : World) (A : Option Addr) (c : Nat) (l : List Itm) : Prop where
  le : l.length ≤ c
  top : c ≤ 9223372036854775807
  ok : ∀ x ∈ l, ItmOk x
  at_ : ∀ (i : Nat) x, l[i]? = some x → ∃ ad, A = some ad ∧ ItmAt w (ad.add (i * 6)) x
theorem ItmAt.kept {w w' : World} {P : Addr} {x : Itm} (h : ItmAt w P x) (k : Kp [] w w') : ItmAt w' P x := by
  obtain ⟨B, nb, h0, h1, h2, h3, h4, h5, h6⟩ := h
  exact ⟨B, nb, k.cell h0 (by simp), k.cell h1 (by simp), k.cell h2 (by simp), k.cell h3 (by simp), k.cell h4 (by simp), k.cell h5 (by simp), h6.kept k⟩
theorem ItemsAt.kept {w w' : World} {A : Option Addr} {c : Nat} {l : List Itm} (h : ItemsAt w A c l) (k : Kp [] w w') : ItemsAt w' A c l :=
  ⟨h.le, h.top, h.ok, fun i x hi => by obtain ⟨ad, e, hx⟩ := h.at_ i x hi; exact ⟨ad, e, hx.kept k⟩⟩
theorem and7i (x : Int) : ∃ k : Nat, bits .and .i64 x 7 = (k : Int) ∧ k < 8 := by
  have h : bits .and .i64 x 7 = x % 8 := by
    have h7 : (BitVec.ofInt 64 7).toNat = 2 ^ 3 - 1 := by decide
    have key : (BitVec.ofInt 64 x &&& BitVec.ofInt 64 7).toNat = (x % ((2 ^ 64 : Nat) : Int)).toNat % 2 ^ 3 := by
      rw [BitVec.toNat_and, BitVec.toNat_ofInt, h7, Nat.and_two_pow_sub_one_eq_mod]
    show IntKind.i64.wrap ((BitVec.ofInt 64 x &&& BitVec.ofInt 64 7).toNat : Nat) = x % 8
    rw [key, IntKind.wrap_i64]
    omega
  exact ⟨(x % 8).toNat, by rw [h]; omega, by omega⟩
theorem sizes_append : ∀ a b : List Vl, sizes (a ++ b) = sizes a + sizes b
  | [], b => by simp [sizes]
  | v :: r, b => by
    simp only [List.cons_append, sizes, sizes_append r b]
    omega
/-- The world in the midst: rows of trees that stand alone. -/
structure Alone (w1 w : World) (va : Value) (vs : List Vl) (css : List (List Value)) (g c : Nat) (j : Nat) : Prop where
  v : va = .slice (some ⟨g, 0, none⟩) vs.length c
  own : OwnN w 31 9 va vs.length css.flatten
  old : w1.heap.size ≤ g
  lt : g < w.heap.size
  trees : Trees w (fun x => w1.heap.size ≤ x ∧ x < w.heap.size ∧ x ≠ g) vs css
  fine : ∀ v ∈ vs, FineV v
  size : sizes vs ≤ j
  many : vs.length ≤ j
  kp : Kp [] w1 w
theorem Alone.later {w1 w w' : World} {va : Value} {vs : List Vl} {css : List (List Value)} {g c j : Nat} (h : Alone w1 w va vs css g c j) (k : Kp [] w w') : Alone w1 w' va vs css g c j :=
  ⟨h.v, h.own.kept k, h.old, Nat.lt_of_lt_of_le h.lt k.size, (h.trees.keep k (by simp)).mono fun x hx => ⟨hx.1, Nat.lt_of_lt_of_le hx.2.1 k.size, hx.2.2⟩, h.fine, h.size, h.many, h.kp.nil k⟩
theorem Alone.snoc {w1 wx : World} {va : Value} {vs : List Vl} {css : List (List Value)} {g c i j : Nat} (h : Alone w1 wx va vs css g c i) {v : Vl} {cs : List Value} (hv : RepS wx (fun x => w1.heap.size ≤ x ∧ x < wx.heap.size ∧ x ≠ g) v cs)
    (hf : FineV v) (hs : sizes vs + sizeV v ≤ j + 1) (hm : vs.length ≤ j) {wy w' : World} {g' c' : Nat} (ky : Kp [] wx wy) (ho : OwnN w' 31 9 (.slice (some ⟨g', 0, none⟩) (vs.length + 1) c') (vs.length + 1) (css.flatten ++ cs))
    (k : Kp [g] wy w') (hg : g' = g ∨ g' = wy.heap.size) : Alone w1 w' (.slice (some ⟨g', 0, none⟩) (vs.length + 1) c') (vs ++ [v]) (css ++ [cs]) g' c' (j + 1) := by
  have hl : (vs ++ [v]).length = vs.length + 1 := by simp
  have hfl : (css ++ [cs]).flatten = css.flatten ++ cs := by simp
  have hold := h.old
  have hlt := h.lt
  have hk := ky.size
  have hk2 := k.size
  have ht : Trees w' (fun x => w1.heap.size ≤ x ∧ x < wx.heap.size ∧ x ≠ g) (vs ++ [v]) (css ++ [cs]) := ((h.trees.snoc hv).keep ky (by simp)).keep k (by simp)
  have ho1 : w1.heap.size ≤ g' := by rcases hg with rfl | rfl <;> omega
  have ho2 : ∀ x, (w1.heap.size ≤ x ∧ x < wx.heap.size ∧ x ≠ g) → w1.heap.size ≤ x ∧ x < w'.heap.size ∧ x ≠ g' := by
    intro x hx
    rcases hg with rfl | rfl
    · exact ⟨hx.1, by omega, hx.2.2⟩
    · exact ⟨hx.1, by omega, by omega⟩
  have ho3 : ∀ u ∈ vs ++ [v], FineV u := fun u hu => by
    rcases List.mem_append.1 hu with hu | hu
    · exact h.fine u hu
    · rw [List.mem_singleton.1 hu]; exact hf
  have ho4 : sizes (vs ++ [v]) ≤ j + 1 := by
    have : sizes [v] = sizeV v := by simp [sizes]
    rw [sizes_append, this]
    exact hs
  exact ⟨by rw [hl], by rw [hl, hfl]; exact ho, ho1, ho.lt g' rfl, ht.mono ho2, ho3, ho4, by rw [hl]; omega, (h.kp.nil ky).fresh k h.old⟩
theorem sizes_part (vs : List Vl) (n : Nat) : sizes (vs.take n) + sizes (vs.drop n) = sizes vs := by rw [← sizes_append, List.take_append_drop]
theorem Alone.part {w1 wr w2 w4 : World} {va : Value} {vs : List Vl} {css : List (List Value)} {g c j : Nat} (h : Alone w1 wr va vs css g c j) {f g1 c1 g4 c4 vb : Nat} (hf : f ≤ vs.length) (k2 : Kp [] wr w2)
    (o1 : OwnN w2 31 9 (.slice (some ⟨g1, 0, none⟩) (vs.length - f) c1) (vs.length - f) (css.drop f).flatten) (hg1 : wr.heap.size ≤ g1) (hvb : g1 ≠ vb ∧ wr.heap.size ≤ vb)
    (k4 : Kp [vb] w2 w4) (o4 : OwnN w4 31 9 (.slice (some ⟨g4, 0, none⟩) f c4) f (css.take f).flatten) (hg4 : w2.heap.size ≤ g4) :
    Alone w1 w4 (.slice (some ⟨g4, 0, none⟩) f c4) (vs.take f) (css.take f) g4 c4 j ∧
      (∃ ks, KidsAt w4 (some ⟨g1, 0, none⟩) c1 (vs.length - f) ks ∧ ∀ (i : Nat) v, (vs.drop f)[i]? = some v → RepS w4 (fun x => w1.heap.size ≤ x ∧ x < w4.heap.size ∧ x ≠ g4) v (ks i)) ∧
      (w1.heap.size ≤ g1 ∧ g1 < w4.heap.size ∧ g1 ≠ g4) := by
  have hl : (vs.take f).length = f := by rw [List.length_take]; omega
  have hd : (vs.drop f).length = vs.length - f := by rw [List.length_drop]
  have hg1lt := o1.lt g1 rfl
  have hg4lt := o4.lt g4 rfl
  have s2 := k2.size
  have s4 := k4.size
  have hold := h.old
  have hlt := h.lt
  have hw1 := h.kp.size
  have hP : ∀ x, (w1.heap.size ≤ x ∧ x < wr.heap.size ∧ x ≠ g) → w1.heap.size ≤ x ∧ x < w4.heap.size ∧ x ≠ g4 := fun x hx => ⟨hx.1, by omega, by omega⟩
  have ht2 : Trees w2 (fun x => w1.heap.size ≤ x ∧ x < wr.heap.size ∧ x ≠ g) vs css := h.trees.keep k2 (by simp)
  have ht4 : Trees w4 (fun x => w1.heap.size ≤ x ∧ x < wr.heap.size ∧ x ≠ g) vs css := ht2.keep k4 (fun x hx hp => by rw [List.mem_singleton.1 hx] at hp; omega)
  have sz := h.size
  have szp := sizes_part vs f
  refine ⟨⟨by rw [hl], by rw [hl]; exact o4, by omega, hg4lt, (ht4.take f).mono hP, fun v hv => h.fine v (List.mem_of_mem_take hv), by omega, by rw [hl]; have := h.many; omega, ?_⟩, ?_, by omega, by omega, by omega⟩
  · exact ((h.kp.nil k2).fresh k4 (by omega))
  · rw [← hd] at o1
    have hk := (ht2.drop f).kids o1
    rw [hd] at hk
    refine ⟨fun i => ((css.drop f)[i]?).getD [], ⟨hk.1.le, hk.1.top, fun i hi => ?_⟩, fun i v hv => ((hk.2 i v hv).keep k4 (fun x hx hp => by rw [List.mem_singleton.1 hx] at hp; omega)).mono hP⟩
    obtain ⟨gg, e, hc⟩ := hk.1.at_ i hi
    refine ⟨gg, e, fun jj u hu => k4.cell (hc jj u hu) ?_⟩
    injection e with e
    injection e with e
    rw [← e, List.mem_singleton]
    exact hvb.1
theorem Span.cutN {w : World} {A : Option Addr} {xs : List Value} (h : Span w A xs) (k s : Nat) {cap : Nat} (hc : xs.length ≤ cap * s) : Span w (cutA A k cap s) (xs.drop (k * s)) := fun j u hj => by
  rw [List.getElem?_drop] at hj
  obtain ⟨ad, rfl, hcell⟩ := h _ u hj
  have hlt : k * s + j < xs.length := (List.getElem?_eq_some_iff.1 hj).1
  unfold cutA
  rw [if_neg (fun e => by subst e; omega)]
  exact ⟨ad.add (k * s), rfl, by rw [add_add]; exact hcell⟩
theorem own_empty (w : World) {g : Nat} (hg : g = w.heap.size) : OwnN (w.alloc (.cells #[] 31)) 31 9 (.slice (some ⟨g, 0, none⟩) 0 0) 0 [] := by
  subst hg
  exact OwnN.of_cells (n := 0) (Cells.fresh w 31 []) rfl (by decide)
theorem Span.of_newAt (w : World) (t : TypeId) (fr : Nat × Nat) (cs : List Value) {g : Nat} (hg : g = w.heap.size) : Span (w.alloc (.cells cs.toArray t fr)) (some ⟨g, 0, none⟩) cs := by
  subst hg
  exact Span.of_new w t fr cs
/-- A list, or an object. -/
theorem many_rep {w : World} {P : Nat → Prop} (k m : Nat) (keys : List Txt) (kids : List Vl) (A : Option Addr) (ck : Nat) (g1 c1 : Nat) (ks : Nat → List Value) (hA : KeysAt w A ck keys) (hPA : ∀ ad, A = some ad → P ad.block)
    (hB : KidsAt w (some ⟨g1, 0, none⟩) c1 kids.length ks) (hP : P g1) (hr : ∀ (i : Nat) v, kids[i]? = some v → RepS w P v (ks i)) :
    RepS w P (.mk k m none [] keys kids 0) (vC k m false [] 0 [] A keys.length ck (some ⟨g1, 0, none⟩) kids.length c1 0) :=
  .mk k m none [] keys kids 0 A ck _ c1 ks hA hB hPA (fun ad e => by injection e with e; subst e; exact hP) hr
theorem rep_one {w : World} {P : Nat → Prop} {v : Vl} {cs : List Value} (h : RepS w P v cs) : ∀ u ∈ cs, u.oneCell' = true := by
  cases h with
  | mk k m num t keys kids code A ck B cb ks hA hB hPA hPB hr =>
    intro u hu
    simp only [vC, List.mem_cons, List.not_mem_nil, or_false] at hu
    rcases hu with rfl | rfl | rfl | rfl | rfl | rfl | rfl | rfl | rfl <;> rfl
theorem trees_one {w : World} {P : Nat → Prop} {vs : List Vl} {css : List (List Value)} (h : Trees w P vs css) : ∀ u ∈ css.flatten, u.oneCell' = true := by
  intro u hu
  obtain ⟨c, hc, hu⟩ := List.mem_flatten.1 hu
  obtain ⟨i, hi⟩ := List.getElem?_of_mem hc
  have h1 := (List.getElem?_eq_some_iff.1 hi).1
  rw [h.len] at h1
  exact rep_one (h.rep i _ c (List.getElem?_eq_getElem h1) hi) u hu
theorem flat_one {w : World} {P : Nat → Prop} {vs : List Vl} {css : List (List Value)} (h : Trees w P vs css) (f : Nat) : ∀ u ∈ (css.drop f).flatten, u.oneCell' = true := trees_one (h.drop f)
theorem flat_one2 {w : World} {P : Nat → Prop} {vs : List Vl} {css : List (List Value)} (h : Trees w P vs css) (f : Nat) : ∀ u ∈ (css.take f).flatten, u.oneCell' = true := trees_one (h.take f)
end Go.Proofs.YtpeldjihalldkaaDoor

