/- LexPlaces, walked: tokens stand at rising places within the text; each begins there with its own first byte. -/
import Derived.Test.YtgjffkblhhkjmaaDoorLShown
import Derived.BigQuiet
namespace Go.Proofs.YtgjffkblhhkjmaaDoor
open Go Go.RowKit Go.Lib

theorem toks_at : ∀ (l : List Tk) (i : Nat) (t : Tk), l[i]? = some t → ∀ k, k < 6 → (toksC l)[6 * i + k]? = (tkC t)[k]?
  | [], _, _, h, _, _ => by cases h
  | u :: r, 0, t, h, k, hk => by
    injection h with h
    subst h
    have hl : (tkC u).length = 6 := rfl
    show (tkC u ++ toksC r)[6 * 0 + k]? = _
    rw [List.getElem?_append_left (by omega), Nat.mul_zero, Nat.zero_add]
  | u :: r, i + 1, t, h, k, hk => by
    have hl : (tkC u).length = 6 := rfl
    show (tkC u ++ toksC r)[6 * (i + 1) + k]? = _
    rw [List.getElem?_append_right (by omega), hl, show 6 * (i + 1) + k - 6 = 6 * i + k by omega]
    exact toks_at r i t h k hk
theorem toks_ne {l : List Tk} {i : Nat} {t : Tk} (h : l[i]? = some t) : toksC l ≠ [] := by
  intro e
  match l, h, e with
  | a :: r, _, e => cases e
theorem head_byte {x : Txt} {c : UInt8} (h : x.head? = some c) : ∃ h1 : 0 < x.length, (x[0]'h1) = c := by
  match x, h with
  | a :: r, h => injection h with h; exact ⟨by simp, h⟩
theorem txt_back (s : ByteArray) : (⟨s.data.toList.toArray⟩ : ByteArray) = s := by rw [Array.toArray_toList]
/-- A row of tokens that lies at a block's beginning. -/
def TkAt (w : World) (g : Nat) (l : List Tk) : Prop := ∀ (i : Nat) t, l[i]? = some t → ∀ k v, (tkC t)[k]? = some v → w.cell? ⟨g, 6 * i + k, none⟩ = some v
theorem TkAt.of {w : World} {g : Nat} {l : List Tk} (h : ∀ (j : Nat) u, (toksC l)[j]? = some u → w.cell? ⟨g, j, none⟩ = some u) : TkAt w g l := fun i t hi k v hk => by
  refine h _ v ?_
  have hk6 : k < 6 := by
    have := (List.getElem?_eq_some_iff.1 hk).1
    exact this
  rw [toks_at l i t hi k hk6]
  exact hk
theorem TkAt.kept {w w' : World} {g : Nat} {l : List Tk} (h : TkAt w g l) (k : Kp [] w w') : TkAt w' g l := fun i t hi j v hj => k.cell (h i t hi j v hj) (by simp)
theorem places_at {S : Txt} : ∀ {lo : Nat} {l : List Tk}, PlT S lo l → ∀ (i : Nat) t, l[i]? = some t →
    lo ≤ t.pos ∧ t.pos < S.length ∧ (∃ n, tokL (S.drop t.pos) = some (t.kind, t.text, t.num, n)) ∧ ∀ u, 0 < i → l[i - 1]? = some u → u.pos < t.pos
  | _, [], _, _, _, h => by cases h
  | lo, a :: r, hp, 0, t, h => by
    injection h with h
    subst h
    exact ⟨hp.1, hp.2.1, hp.2.2.1, fun u h0 => absurd h0 (Nat.lt_irrefl _)⟩
  | lo, a :: r, hp, i + 1, t, h => by
    obtain ⟨h1, h2, h3, h4⟩ := places_at hp.2.2.2 i t h
    refine ⟨Nat.le_trans hp.1 (by omega), h2, h3, fun u _ hu => ?_⟩
    match i, hu with
    | 0, hu =>
      injection hu with hu
      rw [← hu]
      omega
    | i + 1, hu => exact h4 u (by omega) hu
theorem all_places {S : Txt} {l : List Tk} (h : allL S = (0, l)) : PlT S 0 l ∧ l.length ≤ 600 := by
  unfold allL at h
  split at h
  · cases h
  · cases hl : lexGo (S.length + 1) S 0 with
    | none => rw [hl] at h; cases h
    | some m =>
      rw [hl] at h
      dsimp only at h
      split at h
      · cases h
      · injection h with _ h
        subst h
        exact ⟨(lex_places _ S S 0 m hl rfl (Nat.zero_le _)).1, by omega⟩
theorem all_err {S : Txt} (h : (allL S).1 ≠ 0) : (allL S).2 = [] := by
  revert h
  unfold allL
  split
  · intro _; rfl
  · split
    · intro _; rfl
    · split
      · intro _; rfl
      · intro h; exact absurd rfl h
set_option maxRecDepth 100000 in
set_option maxHeartbeats 12800000 in
theorem lplaces_any (w : World) (hT : Tabs w) (s : Txt) (hs : s.length ≤ 9223372036854775807) :
    Calls Tryd.prog 9 #[.string ⟨s.toArray⟩] w fun e w' => e = .returned (.bool true) ∧ Kp [] w w' := by
  have qh := shown10_any w hT
  have qf := fun W => few10_any W s hs
  have HT := hid hT
  have hS9 := few21_len s
  obtain ⟨S, hS⟩ : ∃ S, S = few21 s := ⟨_, rfl⟩
  rw [← hS] at hS9
  simp only [← hS] at qf
  have qa := fun W (k : Kp [] w W) => all_any W S (by omega) (HT.out.kept k)
  have hSz : (⟨S.toArray⟩ : ByteArray).size = S.length := size_mk _
  clear hS hT
  unfold AllPost at qa
  by_cases h0 : (allL S).1 = 0
  · obtain ⟨l, hl⟩ : ∃ l, allL S = (0, l) := ⟨(allL S).2, by rw [← h0]⟩
    obtain ⟨hp, hl9⟩ := all_places hl
    have HP := hid (places_at hp)
    rw [hl] at qa
    clear h0 hl hp
    go_enter Tryd.func9, Tryd.ntmps9
    go_wp2_with fail
    refine qh.mono ?_
    rintro e w1 ⟨rfl, k1⟩
    have HK := hid k1
    have qa2 := qa w1 k1
    clear k1 qa
    go_wp2_with fail
    (with_reducible refine (qf _).mono ?_)
    rintro e w2 ⟨rfl, hw2⟩
    have hw2 := hw2.symm
    subst hw2
    go_wp2_with fail
    (with_reducible refine qa2.mono ?_)
    rintro e w2 ⟨v, rfl, ho, k2⟩
    obtain ⟨A, c, rfl, hsp, hc, hc2, hA⟩ := ho.shape
    have HA : Hid (∀ i t, l[i]? = some t → ∃ g, A = some ⟨g, 0, none⟩ ∧ TkAt w2 g l) := hid fun i t hi => by
      obtain ⟨g, c', hv, _, _, hcell⟩ := own_at ho (toks_ne hi)
      injection hv with hv
      exact ⟨g, hv, TkAt.of hcell⟩
    have HK2 := hid (HK.out.nil k2)
    clear k2 ho hsp hA qa2 HK
    go_wp2_with fail
    go_loopw [6] (fun vi wr => ∃ i : Nat, vi = .int .i64 (i : Int) ∧ i ≤ l.length ∧ Kp [] w2 wr) (fun vi _ => l.length - (intOf vi).toNat)
    case atStart => exact ⟨0, rfl, Nat.zero_le _, Kp.refl _ _⟩
    case round =>
      obtain ⟨i, rfl, hi, hk⟩ := hrel
      by_cases hlt : i < l.length
      · obtain ⟨t, ht⟩ : ∃ t, l[i]? = some t := ⟨_, List.getElem?_eq_getElem hlt⟩
        obtain ⟨g, rfl, hat⟩ := HA.out i t ht
        have hat := hat.kept hk
        obtain ⟨_, p1, ⟨n, p2⟩, p3⟩ := HP.out i t ht
        obtain ⟨k, x, d, p⟩ := t
        dsimp only at p1 p2
        have a0 := hat i _ ht 0 _ rfl
        have a1 := hat i _ ht 1 _ rfl
        have a2 := hat i _ ht 2 _ rfl
        have a3 := hat i _ ht 3 _ rfl
        have a4 := hat i _ ht 4 _ rfl
        have a5 := hat i _ ht 5 _ rfl
        dsimp only at a0 a1 a2 a3 a4 a5
        simp only [Nat.add_zero] at a0 a1 a2 a3 a4 a5
        have HAT := hid hat
        have HK := hid hk
        have e6 : i * 6 = 6 * i := Nat.mul_comm _ _
        clear hat hk
        go_wp2_with fail
        have hcf := Cells.fresh wr 49 [.int .i64 (k : Int), .int .i64 (p : Int), .string ⟨x.toArray⟩, .bool (tN d), .string ⟨(tL d).toArray⟩, .int .i64 (tS d)]
        have hkf : Kp [] wr _ := (Kp.refl _ _).alloc (.cells #[.int .i64 (k : Int), .int .i64 (p : Int), .string ⟨x.toArray⟩, .bool (tN d), .string ⟨(tL d).toArray⟩, .int .i64 (tS d)] 49)
        clear a0 a1 a2 a3 a4 a5
        obtain ⟨W, hW⟩ : ∃ W, W = wr.alloc (.cells #[.int .i64 (k : Int), .int .i64 (p : Int), .string ⟨x.toArray⟩, .bool (tN d), .string ⟨(tL d).toArray⟩, .int .i64 (tS d)] 49) := ⟨_, rfl⟩
        obtain ⟨B, hB⟩ : ∃ B, B = wr.heap.size := ⟨_, rfl⟩
        have hcf : Cells W B 49 [.int .i64 (k : Int), .int .i64 (p : Int), .string ⟨x.toArray⟩, .bool (tN d), .string ⟨(tL d).toArray⟩, .int .i64 (tS d)] := by rw [hW, hB]; exact hcf
        have hkf : Kp [] wr W := by rw [hW]; exact hkf
        simp only [← hW]
        rw [← hB]
        clear hW
        have HK3 := hid (HK.out.nil hkf)
        have HAT3 := hid (HAT.out.kept hkf)
        have b0 := hcf.cell 0
        have b1 := hcf.cell 1
        have b2 := hcf.cell 2
        have b3 := hcf.cell 3
        have b4 := hcf.cell 4
        have b5 := hcf.cell 5
        simp only [List.getElem?_cons_zero, List.getElem?_cons_succ] at b0 b1 b2 b3 b4 b5
        have P2 := hid p2
        have P3 := hid p3
        have HI := hid hi
        have t1 : decide ((p : Int) < 0) = false := decide_eq_false (by omega)
        have t2 : decide ((S.length : Int) ≤ (p : Int)) = false := decide_eq_false (by omega)
        have t2n : decide (S.length ≤ p) = false := decide_eq_false (by omega)
        clear hcf hkf HK HAT hB p2 p3 hi HP
        by_cases hi0 : i = 0
        · have t3 : decide ((0 : Int) < (i : Int)) = false := decide_eq_false (by omega)
          have t3n : decide (0 < i) = false := decide_eq_false (by omega)
          have Hi0 := hid hi0
          clear hi0
          go_quiet (fail)
          generalize nq = n1 at *
          obtain ⟨cb, tl, hsd, hform⟩ := tok_form P2.out
          obtain ⟨mb, hmb⟩ : ∃ mb, mb = (S[p]'p1).toNat := ⟨_, rfl⟩
          have i0 := cbyte_in S p mb p1 hmb
          have hmb9 : mb < 256 := by rw [hmb]; exact UInt8.toNat_lt _
          have p1i : (p : Int) < (S.length : Int) := by omega
          have hcm : cb.toNat = mb := by
            rw [List.drop_eq_getElem_cons p1] at hsd
            injection hsd with hsd _
            rw [hmb, hsd]
          have HKr := HK3
          clear hsd hmb
          rcases hform with ⟨rfl, hn, hx, rfl⟩ | ⟨rfl, hx, hn, rfl⟩ | ⟨rfl, hx, -, rfl⟩ | ⟨rfl, hx, -, -, rfl⟩ | ⟨rfl, hx, -, -, rfl⟩ | ⟨rfl, hx, rfl, e, rfl, -, he⟩ | ⟨rfl, -, hx0, hx, hx2, rfl⟩
          · have hx24 := (name_all hn).2.2
            obtain ⟨hx1, hx0⟩ := head_byte hx
            have i1 := cbyte_in x 0 mb hx1 (by rw [← hcm, hx0])
            have hxz : (⟨x.toArray⟩ : ByteArray).size = x.length := size_mk _
            have z1 : decide ((0 : Int) < (x.length : Int)) = true := decide_eq_true (by omega)
            have z2 : decide ((x.length : Int) ≤ 24) = true := decide_eq_true (by omega)
            have z1n : decide (0 < x.length) = true := decide_eq_true hx1
            have z2n : decide (x.length ≤ 24) = true := decide_eq_true hx24
            replace b0 : W.cell? ⟨B, 0, none⟩ = some (.int .i64 1) := b0
            clear hx hn hcm hx0
            replace b3 : W.cell? ⟨B, 3, none⟩ = some (.bool false) := b3
            replace b4 : W.cell? ⟨B, 4, none⟩ = some (.string ⟨#[]⟩) := b4
            replace b5 : W.cell? ⟨B, 5, none⟩ = some (.int .i64 0) := b5
            go_wp2_with fail
            go_roundw
            case rel => exact ⟨i + 1, by go_num, by omega, (HKr.out.drewN _)⟩
            case measure => simp [intOf]; omega
          · have hx1 : 0 < x.length := by obtain ⟨a, b, e, _⟩ := name_cons hn; rw [e]; simp
            have hm0 : mb = 36 := by rw [← hcm, hx]; rfl
            have hxz : (⟨x.toArray⟩ : ByteArray).size = x.length := size_mk _
            have z1 : decide ((0 : Int) < (x.length : Int)) = true := decide_eq_true (by omega)
            have z1n : decide (0 < x.length) = true := decide_eq_true hx1
            replace b0 : W.cell? ⟨B, 0, none⟩ = some (.int .i64 2) := b0
            subst hm0
            clear hx hn hcm
            replace b3 : W.cell? ⟨B, 3, none⟩ = some (.bool false) := b3
            replace b4 : W.cell? ⟨B, 4, none⟩ = some (.string ⟨#[]⟩) := b4
            replace b5 : W.cell? ⟨B, 5, none⟩ = some (.int .i64 0) := b5
            go_wp2_with fail
            go_roundw
            case rel => exact ⟨i + 1, by go_num, by omega, (HKr.out.drewN _)⟩
            case measure => simp [intOf]; omega
          · have hm0 : mb = 46 := by rw [← hcm, hx]; rfl
            replace b0 : W.cell? ⟨B, 0, none⟩ = some (.int .i64 3) := b0
            subst hm0
            clear hx hcm
            replace b3 : W.cell? ⟨B, 3, none⟩ = some (.bool false) := b3
            replace b4 : W.cell? ⟨B, 4, none⟩ = some (.string ⟨#[]⟩) := b4
            replace b5 : W.cell? ⟨B, 5, none⟩ = some (.int .i64 0) := b5
            go_wp2_with fail
            go_roundw
            case rel => exact ⟨i + 1, by go_num, by omega, (HKr.out.drewN _)⟩
            case measure => simp [intOf]; omega
          · have hm0 : mb = 46 := by rw [← hcm, hx]; rfl
            replace b0 : W.cell? ⟨B, 0, none⟩ = some (.int .i64 3) := b0
            subst hm0
            clear hx hcm
            replace b3 : W.cell? ⟨B, 3, none⟩ = some (.bool false) := b3
            replace b4 : W.cell? ⟨B, 4, none⟩ = some (.string ⟨#[]⟩) := b4
            replace b5 : W.cell? ⟨B, 5, none⟩ = some (.int .i64 0) := b5
            go_wp2_with fail
            go_roundw
            case rel => exact ⟨i + 1, by go_num, by omega, (HKr.out.drewN _)⟩
            case measure => simp [intOf]; omega
          · have hm0 : mb = 34 := by rw [← hcm, hx]; rfl
            replace b0 : W.cell? ⟨B, 0, none⟩ = some (.int .i64 5) := b0
            subst hm0
            clear hx hcm
            replace b3 : W.cell? ⟨B, 3, none⟩ = some (.bool false) := b3
            replace b4 : W.cell? ⟨B, 4, none⟩ = some (.string ⟨#[]⟩) := b4
            replace b5 : W.cell? ⟨B, 5, none⟩ = some (.int .i64 0) := b5
            go_wp2_with fail
            go_roundw
            case rel => exact ⟨i + 1, by go_num, by omega, (HKr.out.drewN _)⟩
            case measure => simp [intOf]; omega
          · have hdg : 48 ≤ mb ∧ mb ≤ 57 := by rw [← hcm]; exact (isDig_iff cb).1 hx
            replace b0 : W.cell? ⟨B, 0, none⟩ = some (.int .i64 4) := b0
            replace b2 : W.cell? ⟨B, 2, none⟩ = some (.string ⟨#[]⟩) := b2
            replace b3 : W.cell? ⟨B, 3, none⟩ = some (.bool false) := by rw [b3]; show some (Value.bool e.neg) = _; rw [he]
            have z1 : decide ((48 : Int) ≤ (mb : Int)) = true := decide_eq_true (by omega)
            have z2 : decide ((mb : Int) ≤ 57) = true := decide_eq_true (by omega)
            have z1n : decide (48 ≤ mb) = true := decide_eq_true hdg.1
            have z2n : decide (mb ≤ 57) = true := decide_eq_true hdg.2
            clear hx hcm he
            go_wp2_with fail
            go_roundw
            case rel => exact ⟨i + 1, by go_num, by omega, (HKr.out.drewN _)⟩
            case measure => simp [intOf]; omega
          · obtain ⟨hx1, hx0'⟩ := head_byte hx
            have i1 := cbyte_in x 0 mb hx1 (by rw [← hcm, hx0'])
            have hxz : (⟨x.toArray⟩ : ByteArray).size = x.length := size_mk _
            have z1 : decide ((0 : Int) < (x.length : Int)) = true := decide_eq_true (by omega)
            have z2 : decide ((x.length : Int) ≤ 2) = true := decide_eq_true (by omega)
            have z1n : decide (0 < x.length) = true := decide_eq_true hx1
            have z2n : decide (x.length ≤ 2) = true := decide_eq_true hx2
            replace b0 : W.cell? ⟨B, 0, none⟩ = some (.int .i64 6) := b0
            clear hx hx0 hcm hx0'
            replace b3 : W.cell? ⟨B, 3, none⟩ = some (.bool false) := b3
            replace b4 : W.cell? ⟨B, 4, none⟩ = some (.string ⟨#[]⟩) := b4
            replace b5 : W.cell? ⟨B, 5, none⟩ = some (.int .i64 0) := b5
            go_wp2_with fail
            go_roundw
            case rel => exact ⟨i + 1, by go_num, by omega, (HKr.out.drewN _)⟩
            case measure => simp [intOf]; omega
        · obtain ⟨m, hm⟩ : ∃ m : Nat, i = m + 1 := ⟨i - 1, by omega⟩
          obtain ⟨u, hu⟩ : ∃ u, l[m]? = some u := ⟨_, List.getElem?_eq_getElem (by omega)⟩
          have hup := P3.out u (by omega) (by rw [hm]; exact hu)
          have y1 := HAT3.out m u hu 1 _ rfl
          have t3 : decide ((0 : Int) < (i : Int)) = true := decide_eq_true (by omega)
          have t3n : decide (0 < i) = true := decide_eq_true (by omega)
          have t4 : decide ((p : Int) ≤ (u.pos : Int)) = false := decide_eq_false (by omega)
          have t4n : decide (p ≤ u.pos) = false := decide_eq_false (by omega)
          have em : (i : Int) - 1 = (m : Int) := by omega
          have e6m : m * 6 = 6 * m := Nat.mul_comm _ _
          have Hm := hid hm
          have hml : m < l.length := by omega
          clear hm hu hup
          go_quiet (fail)
          generalize nq = n1 at *
          obtain ⟨cb, tl, hsd, hform⟩ := tok_form P2.out
          obtain ⟨mb, hmb⟩ : ∃ mb, mb = (S[p]'p1).toNat := ⟨_, rfl⟩
          have i0 := cbyte_in S p mb p1 hmb
          have hmb9 : mb < 256 := by rw [hmb]; exact UInt8.toNat_lt _
          have p1i : (p : Int) < (S.length : Int) := by omega
          have hcm : cb.toNat = mb := by
            rw [List.drop_eq_getElem_cons p1] at hsd
            injection hsd with hsd _
            rw [hmb, hsd]
          have HKr := HK3
          clear hsd hmb
          rcases hform with ⟨rfl, hn, hx, rfl⟩ | ⟨rfl, hx, hn, rfl⟩ | ⟨rfl, hx, -, rfl⟩ | ⟨rfl, hx, -, -, rfl⟩ | ⟨rfl, hx, -, -, rfl⟩ | ⟨rfl, hx, rfl, e, rfl, -, he⟩ | ⟨rfl, -, hx0, hx, hx2, rfl⟩
          · have hx24 := (name_all hn).2.2
            obtain ⟨hx1, hx0⟩ := head_byte hx
            have i1 := cbyte_in x 0 mb hx1 (by rw [← hcm, hx0])
            have hxz : (⟨x.toArray⟩ : ByteArray).size = x.length := size_mk _
            have z1 : decide ((0 : Int) < (x.length : Int)) = true := decide_eq_true (by omega)
            have z2 : decide ((x.length : Int) ≤ 24) = true := decide_eq_true (by omega)
            have z1n : decide (0 < x.length) = true := decide_eq_true hx1
            have z2n : decide (x.length ≤ 24) = true := decide_eq_true hx24
            replace b0 : W.cell? ⟨B, 0, none⟩ = some (.int .i64 1) := b0
            clear hx hn hcm hx0
            replace b3 : W.cell? ⟨B, 3, none⟩ = some (.bool false) := b3
            replace b4 : W.cell? ⟨B, 4, none⟩ = some (.string ⟨#[]⟩) := b4
            replace b5 : W.cell? ⟨B, 5, none⟩ = some (.int .i64 0) := b5
            go_wp2_with fail
            go_roundw
            case rel => exact ⟨i + 1, by go_num, by omega, (HKr.out.drewN _)⟩
            case measure => simp [intOf]; omega
          · have hx1 : 0 < x.length := by obtain ⟨a, b, e, _⟩ := name_cons hn; rw [e]; simp
            have hm0 : mb = 36 := by rw [← hcm, hx]; rfl
            have hxz : (⟨x.toArray⟩ : ByteArray).size = x.length := size_mk _
            have z1 : decide ((0 : Int) < (x.length : Int)) = true := decide_eq_true (by omega)
            have z1n : decide (0 < x.length) = true := decide_eq_true hx1
            replace b0 : W.cell? ⟨B, 0, none⟩ = some (.int .i64 2) := b0
            subst hm0
            clear hx hn hcm
            replace b3 : W.cell? ⟨B, 3, none⟩ = some (.bool false) := b3
            replace b4 : W.cell? ⟨B, 4, none⟩ = some (.string ⟨#[]⟩) := b4
            replace b5 : W.cell? ⟨B, 5, none⟩ = some (.int .i64 0) := b5
            go_wp2_with fail
            go_roundw
            case rel => exact ⟨i + 1, by go_num, by omega, (HKr.out.drewN _)⟩
            case measure => simp [intOf]; omega
          · have hm0 : mb = 46 := by rw [← hcm, hx]; rfl
            replace b0 : W.cell? ⟨B, 0, none⟩ = some (.int .i64 3) := b0
            subst hm0
            clear hx hcm
            replace b3 : W.cell? ⟨B, 3, none⟩ = some (.bool false) := b3
            replace b4 : W.cell? ⟨B, 4, none⟩ = some (.string ⟨#[]⟩) := b4
            replace b5 : W.cell? ⟨B, 5, none⟩ = some (.int .i64 0) := b5
            go_wp2_with fail
            go_roundw
            case rel => exact ⟨i + 1, by go_num, by omega, (HKr.out.drewN _)⟩
            case measure => simp [intOf]; omega
          · have hm0 : mb = 46 := by rw [← hcm, hx]; rfl
            replace b0 : W.cell? ⟨B, 0, none⟩ = some (.int .i64 3) := b0
            subst hm0
            clear hx hcm
            replace b3 : W.cell? ⟨B, 3, none⟩ = some (.bool false) := b3
            replace b4 : W.cell? ⟨B, 4, none⟩ = some (.string ⟨#[]⟩) := b4
            replace b5 : W.cell? ⟨B, 5, none⟩ = some (.int .i64 0) := b5
            go_wp2_with fail
            go_roundw
            case rel => exact ⟨i + 1, by go_num, by omega, (HKr.out.drewN _)⟩
            case measure => simp [intOf]; omega
          · have hm0 : mb = 34 := by rw [← hcm, hx]; rfl
            replace b0 : W.cell? ⟨B, 0, none⟩ = some (.int .i64 5) := b0
            subst hm0
            clear hx hcm
            replace b3 : W.cell? ⟨B, 3, none⟩ = some (.bool false) := b3
            replace b4 : W.cell? ⟨B, 4, none⟩ = some (.string ⟨#[]⟩) := b4
            replace b5 : W.cell? ⟨B, 5, none⟩ = some (.int .i64 0) := b5
            go_wp2_with fail
            go_roundw
            case rel => exact ⟨i + 1, by go_num, by omega, (HKr.out.drewN _)⟩
            case measure => simp [intOf]; omega
          · have hdg : 48 ≤ mb ∧ mb ≤ 57 := by rw [← hcm]; exact (isDig_iff cb).1 hx
            replace b0 : W.cell? ⟨B, 0, none⟩ = some (.int .i64 4) := b0
            replace b2 : W.cell? ⟨B, 2, none⟩ = some (.string ⟨#[]⟩) := b2
            replace b3 : W.cell? ⟨B, 3, none⟩ = some (.bool false) := by rw [b3]; show some (Value.bool e.neg) = _; rw [he]
            have z1 : decide ((48 : Int) ≤ (mb : Int)) = true := decide_eq_true (by omega)
            have z2 : decide ((mb : Int) ≤ 57) = true := decide_eq_true (by omega)
            have z1n : decide (48 ≤ mb) = true := decide_eq_true hdg.1
            have z2n : decide (mb ≤ 57) = true := decide_eq_true hdg.2
            clear hx hcm he
            go_wp2_with fail
            go_roundw
            case rel => exact ⟨i + 1, by go_num, by omega, (HKr.out.drewN _)⟩
            case measure => simp [intOf]; omega
          · obtain ⟨hx1, hx0'⟩ := head_byte hx
            have i1 := cbyte_in x 0 mb hx1 (by rw [← hcm, hx0'])
            have hxz : (⟨x.toArray⟩ : ByteArray).size = x.length := size_mk _
            have z1 : decide ((0 : Int) < (x.length : Int)) = true := decide_eq_true (by omega)
            have z2 : decide ((x.length : Int) ≤ 2) = true := decide_eq_true (by omega)
            have z1n : decide (0 < x.length) = true := decide_eq_true hx1
            have z2n : decide (x.length ≤ 2) = true := decide_eq_true hx2
            replace b0 : W.cell? ⟨B, 0, none⟩ = some (.int .i64 6) := b0
            clear hx hx0 hcm hx0'
            replace b3 : W.cell? ⟨B, 3, none⟩ = some (.bool false) := b3
            replace b4 : W.cell? ⟨B, 4, none⟩ = some (.string ⟨#[]⟩) := b4
            replace b5 : W.cell? ⟨B, 5, none⟩ = some (.int .i64 0) := b5
            go_wp2_with fail
            go_roundw
            case rel => exact ⟨i + 1, by go_num, by omega, (HKr.out.drewN _)⟩
            case measure => simp [intOf]; omega
      · have hil : i = l.length := by omega
        have Hil := hid hil
        have c1 : ((l.length : Int) < (l.length : Int)) = False := by simp
        have z1 : decide ((i : Int) < (l.length : Int)) = false := decide_eq_false (by omega)
        have z1n : decide (i < l.length) = false := decide_eq_false (by omega)
        have z2 : decide ((l.length : Int) ≤ 600) = true := decide_eq_true (by omega)
        have z2n : decide (l.length ≤ 600) = true := decide_eq_true (by omega)
        have HKe := hid (HK2.out.nil hk)
        clear hk hil hlt hi HA HP
        go_wp2_with fail
        go_ret
        exact ⟨rfl, HKe.out⟩
  · have he := all_err h0
    obtain ⟨er, her⟩ : ∃ x, x = (allL S).1 := ⟨_, rfl⟩
    rw [he] at qa
    simp only [← her] at qa
    have be : ((er : Int) == 0) = false := by rw [beq_eq_false_iff_ne]; omega
    have ben : (er == 0) = false := by rw [beq_eq_false_iff_ne]; omega
    clear he her h0
    go_enter Tryd.func9, Tryd.ntmps9
    go_wp2_with fail
    refine qh.mono ?_
    rintro e w1 ⟨rfl, k1⟩
    have HK := hid k1
    have qa2 := qa w1 k1
    clear k1 qa
    go_wp2_with fail
    (with_reducible refine (qf _).mono ?_)
    rintro e w2 ⟨rfl, hw2⟩
    have hw2 := hw2.symm
    subst hw2
    go_wp2_with fail
    (with_reducible refine qa2.mono ?_)
    rintro e w2 ⟨v, rfl, ho, k2⟩
    obtain ⟨A, c, rfl, -⟩ := ho.shape
    have HK2 := hid (HK.out.nil k2)
    clear k2 ho qa2 HK
    go_wp2_with fail
    go_ret
    exact ⟨rfl, HK2.out⟩
theorem lplaces_card (W : World) (tabs : Tabs W) (s : ByteArray) (ws : s.size ≤ maxLen) :
    Calls Tryd.prog 9 #[.string s] W fun e w' => e = .returned (.bool true) ∧ Kp [] W w' := by
  have h := lplaces_any W tabs s.data.toList (by unfold maxLen at ws; exact ws)
  simp only [txt_back] at h
  exact h
end Go.Proofs.YtgjffkblhhkjmaaDoor
