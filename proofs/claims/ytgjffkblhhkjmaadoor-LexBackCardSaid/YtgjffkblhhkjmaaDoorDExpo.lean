/- exponent of layer 1. -/
import Derived.Test.YtgjffkblhhkjmaaDoorDLead
import Derived.Lib.OthersKept
namespace Go.Proofs.YtgjffkblhhkjmaaDoor
open Go Go.RowKit Go.Lib

def ExpoPost (w : World) (o : Option Int) (e : Ending) (w' : World) : Prop := e = .returned (.tuple #[.int .i64 (o.getD 0), .bool o.isSome]) ∧ Kp [] w w'
theorem expo_some {w w' : World} (k : Kp [] w w') {o : Option Int} {x : Int} (h : o = some x) : ExpoPost w o (.returned (.tuple #[.int .i64 x, .bool true])) w' := by subst h; exact ⟨rfl, k⟩
theorem expo_none {w w' : World} (k : Kp [] w w') {o : Option Int} (h : o = none) : ExpoPost w o (.returned (.tuple #[.int .i64 0, .bool false])) w' := by subst h; exact ⟨rfl, k⟩
theorem pre_one (l : List UInt8) (c : UInt8) : Lib.hasPrefix l [c] = (match l with | [] => false | d :: _ => c == d) := by
  cases l with
  | nil => rfl
  | cons d t => simp [Lib.hasPrefix, List.isPrefixOf]
theorem expoS_bad {u : List UInt8} (h : rest u ≠ [] ∨ (lead u).length < 1 ∨ 2 < (lead u).length) : expoS u = none := if_pos h
theorem expoS_ok {u : List UInt8} (h : ¬ (rest u ≠ [] ∨ (lead u).length < 1 ∨ 2 < (lead u).length)) : expoS u = some (val (lead u) : Int) := if_neg h
theorem decode_dig {D : List UInt8} (hD : Digs D) {pos : Nat} (h : pos < D.length) : Utf8.decode ⟨D.toArray⟩ pos = (D[pos].toNat, 1) ∧ 48 ≤ D[pos].toNat ∧ D[pos].toNat ≤ 57 := by
  have hd := hD _ (List.getElem_mem h)
  have e := decodeL_drop ⟨D.toArray⟩ pos
  have e2 : (⟨D.toArray⟩ : ByteArray).data.toList = D := rfl
  rw [e2, List.drop_eq_getElem_cons h] at e
  unfold Dig at hd
  rw [← e, decodeL_ascii _ _ (by omega)]
  exact ⟨rfl, hd⟩
theorem expo_head {c : UInt8} (h : c.toNat = 101 ∨ c.toNat = 69) : ¬ (c ≠ 101 ∧ c ≠ 69) := by
  rintro ⟨h1, h2⟩
  rcases h with h | h
  · exact h1 (UInt8.toNat_inj.1 h)
  · exact h2 (UInt8.toNat_inj.1 h)
theorem expo_minus {c : UInt8} (h : c.toNat = 101 ∨ c.toNat = 69) (u : List UInt8) : expoL (c :: 45 :: u) = (expoS u).map (fun x => -x) := if_neg (expo_head h)
theorem expo_plus {c : UInt8} (h : c.toNat = 101 ∨ c.toNat = 69) (u : List UInt8) : expoL (c :: 43 :: u) = (expoS u).map (fun x => x) := by
  have e : expoL (c :: 43 :: u) = expoS u := if_neg (expo_head h)
  rw [e]
  cases expoS u <;> rfl
theorem expo_else {c : UInt8} (h : c.toNat = 101 ∨ c.toNat = 69) (t : List UInt8) (h1 : ∀ u, t ≠ 45 :: u) (h2 : ∀ u, t ≠ 43 :: u) : expoL (c :: t) = (expoS t).map (fun x => x) := by
  have e : expoL (c :: t) = expoS t := by
    unfold expoL
    simp only
    rw [if_neg (expo_head h)]
  rw [e]
  cases expoS t <;> rfl
theorem pre_no {t : List UInt8} {c : UInt8} (h : ∀ u, t ≠ c :: u) : Lib.hasPrefix t [c] = false := by
  rw [pre_one]
  cases t with
  | nil => rfl
  | cons d u =>
    show (c == d) = false
    rw [beq_eq_false_iff_ne]
    intro e
    exact h u (by rw [e])
theorem head_none {c : UInt8} {t : List UInt8} (h : c.toNat ≠ 101 ∧ c.toNat ≠ 69) : expoL (c :: t) = none := if_pos ⟨fun e => h.1 (by rw [e]; rfl), fun e => h.2 (by rw [e]; rfl)⟩
set_option maxRecDepth 100000 in
set_option maxHeartbeats 12800000 in
theorem expo_any (w : World) (L : List UInt8) (hs : L.length ≤ 1000000) : Calls Tryd.prog 77 #[.string ⟨L.toArray⟩] w (ExpoPost w (expoL L)) := by
  obtain ⟨O, hO⟩ : ∃ O, O = expoL L := ⟨_, rfl⟩
  rw [← hO]
  rcases L with _ | ⟨c, t⟩
  · have HO : Hid (O = some 0) := hid hO
    clear hO
    go_enter Tryd.func77, Tryd.ntmps77
    go_wp2_with fail
    go_ret2
    exact expo_some (Kp.refl _ _) HO.out
  have hsz : (⟨(c :: t).toArray⟩ : ByteArray).size = t.length + 1 := size_mk _
  obtain ⟨m, hm⟩ : ∃ m, m = c.toNat := ⟨_, rfl⟩
  have hm2 : m < 256 := by rw [hm]; exact c.toNat_lt
  have hget0 : ∀ G : ByteArray, G = ⟨(c :: t).toArray⟩ → ∀ h : 0 < G.size, (G[0]'h).toNat = m := by
    rintro G rfl h
    rw [hm]
    rfl
  have hget := hget0 _ rfl
  by_cases h0 : m ≠ 101 ∧ m ≠ 69
  · have HO : Hid (O = none) := by
      rw [hO]
      exact hid (head_none (by rw [← hm]; exact h0))
    have b1 : ((m : Int) != 101) = true := by rw [bne_iff_ne]; omega
    have b2 : ((m : Int) != 69) = true := by rw [bne_iff_ne]; omega
    clear hO h0 hm hget0
    go_enter Tryd.func77, Tryd.ntmps77
    go_wp2_with fail
    go_ret2
    exact expo_none (Kp.refl _ _) HO.out
  clear hget
  have hh : c.toNat = 101 ∨ c.toNat = 69 := by rw [← hm]; omega
  have HO := hid hO
  have hx1 := extract_mk (c :: t) 1 (t.length + 1)
  have hx1b : ((c :: t).take (t.length + 1)).drop 1 = t := by rw [List.take_of_length_le (by simp)]; rfl
  rw [hx1b] at hx1
  have ht : t.length ≤ 1000000 := by simp at hs; omega
  have hp1 : ∀ W, Calls Tryd.prog 53 #[.string ⟨t.toArray⟩, .string ⟨#[45]⟩] W fun e w' => e = .returned (.bool (Lib.hasPrefix t [45])) ∧ w' = W := fun W => Tryd.strings_HasPrefix ⟨t.toArray⟩ ⟨#[45]⟩ W
  have hp2 : ∀ W, Calls Tryd.prog 53 #[.string ⟨t.toArray⟩, .string ⟨#[43]⟩] W fun e w' => e = .returned (.bool (Lib.hasPrefix t [43])) ∧ w' = W := fun W => Tryd.strings_HasPrefix ⟨t.toArray⟩ ⟨#[43]⟩ W
  obtain ⟨F, hF⟩ : ∃ F : ByteArray, F = ⟨(c :: t).toArray⟩ := ⟨_, rfl⟩
  have hFe : F.toList.isEmpty = false := by rw [hF, ByteArray.toList_eq]; rfl
  have hFn : F.toList ≠ [] := by rw [hF, ByteArray.toList_eq]; simp
  rw [← hF] at hsz hx1 ⊢
  have hget := hget0 F hF
  have i0 : (1 : Int) ≤ (t.length : Int) + 1 := by omega
  have Hh := hid hh
  clear hx1b hO hs hF hh hget0
  rcases (show m = 101 ∨ m = 69 from by omega) with h | h
  all_goals
    subst h
    clear h0 hm
    rcases (show (∃ U, t = 45 :: U) ∨ (∃ U, t = 43 :: U) ∨ ((∀ U, t ≠ 45 :: U) ∧ ∀ U, t ≠ 43 :: U) from by
      by_cases h1 : ∃ U, t = 45 :: U
      · exact .inl h1
      · by_cases h2 : ∃ U, t = 43 :: U
        · exact .inr (.inl h2)
        · exact .inr (.inr ⟨fun U h => h1 ⟨U, h⟩, fun U h => h2 ⟨U, h⟩⟩)) with ⟨U, rfl⟩ | ⟨U, rfl⟩ | ⟨h1, h2⟩
    · have hG := HO.out.trans (expo_minus Hh.out U)
      have hq : Lib.hasPrefix (45 :: U) [45] = true := by simp [Lib.hasPrefix, List.isPrefixOf]
      simp only [hq] at hp1
      have hx2 := extract_mk (45 :: U) 1 (U.length + 1)
      have hx2b : ((45 :: U).take (U.length + 1)).drop 1 = U := by rw [List.take_of_length_le (by simp)]; rfl
      rw [hx2b] at hx2
      have hs2 : (⟨(45 :: U).toArray⟩ : ByteArray).size = U.length + 1 := size_mk _
      have hU : U.length ≤ 1000000 := by simp at ht; omega
      obtain ⟨T, hT⟩ : ∃ T : ByteArray, T = ⟨(45 :: U).toArray⟩ := ⟨_, rfl⟩
      have hl45 : (List.length (45 :: U)) = U.length + 1 := rfl
      rw [hl45] at hsz hx1 i0
      rw [← hT] at hx1 hx2 hs2
      simp only [← hT] at hp1 hp2
      have i1 : (1 : Int) ≤ (U.length : Int) + 1 := by omega
      have i2 : (1 : Int) ≤ (U.length : Int) + 1 + 1 := by omega
      clear hq hx2b hT hl45 ht
      have cl := fun W => leading_any W U hU
      have hdl := digs_lead U
      have hbad := fun h => expoS_bad (u := U) h
      have hok := fun h => expoS_ok (u := U) h
      obtain ⟨S, hS⟩ : ∃ S, S = expoS U := ⟨_, rfl⟩
      rw [← hS] at hG
      simp only [← hS] at hbad hok
      obtain ⟨D, hD⟩ : ∃ D, D = lead U := ⟨_, rfl⟩
      obtain ⟨E, hE⟩ : ∃ E, E = rest U := ⟨_, rfl⟩
      rw [← hD] at hdl
      simp only [← hD, ← hE] at cl hbad hok
      clear hS hD hE
      have hDs : (⟨D.toArray⟩ : ByteArray).size = D.length := size_mk _
      have HG := hid hG
      have Hbad := hid hbad
      have Hok := hid hok
      have Hdl := hid hdl
      clear hG hbad hok hdl HO Hh
      go_enter Tryd.func77, Tryd.ntmps77
      go_wp2_with fail
      refine (hp1 _).mono ?_
      rintro e w1 ⟨rfl, rfl⟩
      go_wp2_with fail
      refine (cl _).mono ?_
      rintro e w2 ⟨rfl, k2⟩
      have Hk2 := hid k2
      clear k2 cl
      rcases (show E ≠ [] ∨ (E = [] ∧ D.length < 1) ∨ (E = [] ∧ 1 ≤ D.length ∧ 2 < D.length) ∨ (E = [] ∧ 1 ≤ D.length ∧ D.length ≤ 2) from by
        by_cases h : E = []
        · rcases (show D.length < 1 ∨ (1 ≤ D.length ∧ 2 < D.length) ∨ (1 ≤ D.length ∧ D.length ≤ 2) from by omega) with h1 | h1 | h1
          · exact .inr (.inl ⟨h, h1⟩)
          · exact .inr (.inr (.inl ⟨h, h1⟩))
          · exact .inr (.inr (.inr ⟨h, h1⟩))
        · exact .inl h) with h | ⟨h, h1⟩ | ⟨h, h1, h2⟩ | ⟨h, h1, h2⟩
      · have HN : Hid (O = none) := by rw [HG.out, Hbad.out (.inl h)]; exact hid rfl
        have hEe : E.isEmpty = false := by cases E with | nil => exact absurd rfl h | cons _ _ => rfl
        go_wp2_with fail
        go_ret2
        exact expo_none Hk2.out HN.out
      · have HN : Hid (O = none) := by rw [HG.out, Hbad.out (.inr (.inl h1))]; exact hid rfl
        subst h
        have b1 : decide ((D.length : Int) < 1) = true := decide_eq_true (by omega)
        have b1b : D.length = 0 := by omega
        go_wp2_with fail
        go_ret2
        exact expo_none Hk2.out HN.out
      · have HN : Hid (O = none) := by rw [HG.out, Hbad.out (.inr (.inr h2))]; exact hid rfl
        subst h
        have b1 : decide ((D.length : Int) < 1) = false := decide_eq_false (by omega)
        have b2 : decide ((2 : Int) < (D.length : Int)) = true := decide_eq_true (by omega)
        go_wp2_with fail
        go_ret2
        exact expo_none Hk2.out HN.out
      · have HS : Hid (S = some (val D : Int)) := hid (Hok.out (by rintro (h3 | h3 | h3); exact h3 h; omega; omega))
        subst h
        have b1 : decide ((D.length : Int) < 1) = false := decide_eq_false (by omega)
        have b2 : decide ((2 : Int) < (D.length : Int)) = false := decide_eq_false (by omega)
        have hv := val_lt _ Hdl.out
        have hv2 : 10 ^ D.length ≤ 10 ^ 2 := Nat.pow_le_pow_right (by decide) h2
        have hv3 : val D < 100 := by omega
        clear hv hv2
        go_wp2_with fail
        go_loopw [7] (fun v wr => ∃ pos : Nat, wr.heap[w2.heap.size]? = some (.stringIter ⟨D.toArray⟩ pos) ∧ Below w2.heap.size w2 wr ∧ v = .int .i64 ((val (D.take pos) : Nat) : Int) ∧ pos ≤ D.length) (fun _ wr => D.length - wr.iterPos w2.heap.size)
        case atStart => exact ⟨0, World.iter_heap w2 _ 0, (Below.refl _ w2).alloc (Nat.le_refl _) _, rfl, Nat.zero_le _⟩
        case round =>
          obtain ⟨pos, hit, hbl, rfl, hpos⟩ := hrel
          by_cases hp : pos < D.length
          · obtain ⟨d1, d2, d3⟩ := decode_dig Hdl.out hp
            have hnx : ∀ ty, (Instr.next (.pointer (some ⟨w2.heap.size, 0, none⟩)) true ty).run Tryd.prog wr = _ := fun ty => Lib.run_next_any_at wr w2.heap.size ⟨D.toArray⟩ pos ty hit (by rw [hDs]; exact hp)
            rw [d1] at hnx
            have hvs := val_snoc (D.take pos) D[pos]
            rw [List.take_append_getElem hp] at hvs
            have hvl := val_lt _ (Hdl.out.take pos)
            have hvl2 : (D.take pos).length ≤ 1 := by rw [List.length_take]; omega
            have hvl3 : 10 ^ (D.take pos).length ≤ 10 ^ 1 := Nat.pow_le_pow_right (by decide) hvl2
            obtain ⟨x, hx⟩ : ∃ x, x = val (D.take pos) := ⟨_, rfl⟩
            obtain ⟨y, hy⟩ : ∃ y, y = D[pos].toNat := ⟨_, rfl⟩
            rw [← hx, ← hy] at hvs
            rw [← hx] at hvl ⊢
            rw [← hy] at hnx d2 d3
            have hx9 : x < 10 := by omega
            have hh1 := Lib.iterAt_heap wr w2.heap.size ⟨D.toArray⟩ pos (pos + 1) hit
            have hh2 := Lib.below_iterAt hbl (Nat.le_refl _) ⟨D.toArray⟩ (pos + 1)
            obtain ⟨W3, hW3⟩ : ∃ W3, W3 = wr.iterAt w2.heap.size ⟨D.toArray⟩ (pos + 1) := ⟨_, rfl⟩
            simp only [← hW3] at hnx hh1 hh2
            have HH := hid (And.intro hh1 (And.intro hh2 (And.intro hvs hit)))
            clear hh1 hh2 hvs hx hy hvl hvl2 hvl3 hit hbl d1 hW3
            go_wp2_with fail
            go_roundw
            case rel => exact ⟨pos + 1, HH.out.1, HH.out.2.1, by rw [HH.out.2.2.1]; go_num, by omega⟩
            case measure =>
              simp only [World.iterPos, HH.out.1, HH.out.2.2.2]
              omega
          · have hnx : ∀ ty, (Instr.next (.pointer (some ⟨w2.heap.size, 0, none⟩)) true ty).run Tryd.prog wr = _ := fun ty => Lib.run_next_end_at wr w2.heap.size ⟨D.toArray⟩ pos ty hit (by rw [hDs]; exact hp)
            have htk : D.take pos = D := List.take_of_length_le (by omega)
            rw [htk]
            have HB := hid (Hk2.out.nil (Kp.of_below hbl))
            clear hit hbl htk
            go_wp2_with fail
            go_ret2
            exact expo_some HB.out (by rw [HG.out, HS.out]; rfl)
    · have hG := HO.out.trans (expo_plus Hh.out U)
      have hq0 : Lib.hasPrefix (43 :: U) [45] = false := by rw [pre_one]; rfl
      simp only [hq0] at hp1
      have hq : Lib.hasPrefix (43 :: U) [43] = true := by simp [Lib.hasPrefix, List.isPrefixOf]
      simp only [hq] at hp2
      have hx2 := extract_mk (43 :: U) 1 (U.length + 1)
      have hx2b : ((43 :: U).take (U.length + 1)).drop 1 = U := by rw [List.take_of_length_le (by simp)]; rfl
      rw [hx2b] at hx2
      have hs2 : (⟨(43 :: U).toArray⟩ : ByteArray).size = U.length + 1 := size_mk _
      have hU : U.length ≤ 1000000 := by simp at ht; omega
      obtain ⟨T, hT⟩ : ∃ T : ByteArray, T = ⟨(43 :: U).toArray⟩ := ⟨_, rfl⟩
      have hl45 : (List.length (43 :: U)) = U.length + 1 := rfl
      rw [hl45] at hsz hx1 i0
      rw [← hT] at hx1 hx2 hs2
      simp only [← hT] at hp1 hp2
      have i1 : (1 : Int) ≤ (U.length : Int) + 1 := by omega
      have i2 : (1 : Int) ≤ (U.length : Int) + 1 + 1 := by omega
      clear hq hq0 hx2b hT hl45 ht
      have cl := fun W => leading_any W U hU
      have hdl := digs_lead U
      have hbad := fun h => expoS_bad (u := U) h
      have hok := fun h => expoS_ok (u := U) h
      obtain ⟨S, hS⟩ : ∃ S, S = expoS U := ⟨_, rfl⟩
      rw [← hS] at hG
      simp only [← hS] at hbad hok
      obtain ⟨D, hD⟩ : ∃ D, D = lead U := ⟨_, rfl⟩
      obtain ⟨E, hE⟩ : ∃ E, E = rest U := ⟨_, rfl⟩
      rw [← hD] at hdl
      simp only [← hD, ← hE] at cl hbad hok
      clear hS hD hE
      have hDs : (⟨D.toArray⟩ : ByteArray).size = D.length := size_mk _
      have HG := hid hG
      have Hbad := hid hbad
      have Hok := hid hok
      have Hdl := hid hdl
      clear hG hbad hok hdl HO Hh
      go_enter Tryd.func77, Tryd.ntmps77
      go_wp2_with fail
      refine (hp1 _).mono ?_
      rintro e w1 ⟨rfl, rfl⟩
      go_wp2_with fail
      refine (hp2 _).mono ?_
      rintro e w1 ⟨rfl, rfl⟩
      go_wp2_with fail
      refine (cl _).mono ?_
      rintro e w2 ⟨rfl, k2⟩
      have Hk2 := hid k2
      clear k2 cl
      rcases (show E ≠ [] ∨ (E = [] ∧ D.length < 1) ∨ (E = [] ∧ 1 ≤ D.length ∧ 2 < D.length) ∨ (E = [] ∧ 1 ≤ D.length ∧ D.length ≤ 2) from by
        by_cases h : E = []
        · rcases (show D.length < 1 ∨ (1 ≤ D.length ∧ 2 < D.length) ∨ (1 ≤ D.length ∧ D.length ≤ 2) from by omega) with h1 | h1 | h1
          · exact .inr (.inl ⟨h, h1⟩)
          · exact .inr (.inr (.inl ⟨h, h1⟩))
          · exact .inr (.inr (.inr ⟨h, h1⟩))
        · exact .inl h) with h | ⟨h, h1⟩ | ⟨h, h1, h2⟩ | ⟨h, h1, h2⟩
      · have HN : Hid (O = none) := by rw [HG.out, Hbad.out (.inl h)]; exact hid rfl
        have hEe : E.isEmpty = false := by cases E with | nil => exact absurd rfl h | cons _ _ => rfl
        go_wp2_with fail
        go_ret2
        exact expo_none Hk2.out HN.out
      · have HN : Hid (O = none) := by rw [HG.out, Hbad.out (.inr (.inl h1))]; exact hid rfl
        subst h
        have b1 : decide ((D.length : Int) < 1) = true := decide_eq_true (by omega)
        have b1b : D.length = 0 := by omega
        go_wp2_with fail
        go_ret2
        exact expo_none Hk2.out HN.out
      · have HN : Hid (O = none) := by rw [HG.out, Hbad.out (.inr (.inr h2))]; exact hid rfl
        subst h
        have b1 : decide ((D.length : Int) < 1) = false := decide_eq_false (by omega)
        have b2 : decide ((2 : Int) < (D.length : Int)) = true := decide_eq_true (by omega)
        go_wp2_with fail
        go_ret2
        exact expo_none Hk2.out HN.out
      · have HS : Hid (S = some (val D : Int)) := hid (Hok.out (by rintro (h3 | h3 | h3); exact h3 h; omega; omega))
        subst h
        have b1 : decide ((D.length : Int) < 1) = false := decide_eq_false (by omega)
        have b2 : decide ((2 : Int) < (D.length : Int)) = false := decide_eq_false (by omega)
        have hv := val_lt _ Hdl.out
        have hv2 : 10 ^ D.length ≤ 10 ^ 2 := Nat.pow_le_pow_right (by decide) h2
        have hv3 : val D < 100 := by omega
        clear hv hv2
        go_wp2_with fail
        go_loopw [7] (fun v wr => ∃ pos : Nat, wr.heap[w2.heap.size]? = some (.stringIter ⟨D.toArray⟩ pos) ∧ Below w2.heap.size w2 wr ∧ v = .int .i64 ((val (D.take pos) : Nat) : Int) ∧ pos ≤ D.length) (fun _ wr => D.length - wr.iterPos w2.heap.size)
        case atStart => exact ⟨0, World.iter_heap w2 _ 0, (Below.refl _ w2).alloc (Nat.le_refl _) _, rfl, Nat.zero_le _⟩
        case round =>
          obtain ⟨pos, hit, hbl, rfl, hpos⟩ := hrel
          by_cases hp : pos < D.length
          · obtain ⟨d1, d2, d3⟩ := decode_dig Hdl.out hp
            have hnx : ∀ ty, (Instr.next (.pointer (some ⟨w2.heap.size, 0, none⟩)) true ty).run Tryd.prog wr = _ := fun ty => Lib.run_next_any_at wr w2.heap.size ⟨D.toArray⟩ pos ty hit (by rw [hDs]; exact hp)
            rw [d1] at hnx
            have hvs := val_snoc (D.take pos) D[pos]
            rw [List.take_append_getElem hp] at hvs
            have hvl := val_lt _ (Hdl.out.take pos)
            have hvl2 : (D.take pos).length ≤ 1 := by rw [List.length_take]; omega
            have hvl3 : 10 ^ (D.take pos).length ≤ 10 ^ 1 := Nat.pow_le_pow_right (by decide) hvl2
            obtain ⟨x, hx⟩ : ∃ x, x = val (D.take pos) := ⟨_, rfl⟩
            obtain ⟨y, hy⟩ : ∃ y, y = D[pos].toNat := ⟨_, rfl⟩
            rw [← hx, ← hy] at hvs
            rw [← hx] at hvl ⊢
            rw [← hy] at hnx d2 d3
            have hx9 : x < 10 := by omega
            have hh1 := Lib.iterAt_heap wr w2.heap.size ⟨D.toArray⟩ pos (pos + 1) hit
            have hh2 := Lib.below_iterAt hbl (Nat.le_refl _) ⟨D.toArray⟩ (pos + 1)
            obtain ⟨W3, hW3⟩ : ∃ W3, W3 = wr.iterAt w2.heap.size ⟨D.toArray⟩ (pos + 1) := ⟨_, rfl⟩
            simp only [← hW3] at hnx hh1 hh2
            have HH := hid (And.intro hh1 (And.intro hh2 (And.intro hvs hit)))
            clear hh1 hh2 hvs hx hy hvl hvl2 hvl3 hit hbl d1 hW3
            go_wp2_with fail
            go_roundw
            case rel => exact ⟨pos + 1, HH.out.1, HH.out.2.1, by rw [HH.out.2.2.1]; go_num, by omega⟩
            case measure =>
              simp only [World.iterPos, HH.out.1, HH.out.2.2.2]
              omega
          · have hnx : ∀ ty, (Instr.next (.pointer (some ⟨w2.heap.size, 0, none⟩)) true ty).run Tryd.prog wr = _ := fun ty => Lib.run_next_end_at wr w2.heap.size ⟨D.toArray⟩ pos ty hit (by rw [hDs]; exact hp)
            have htk : D.take pos = D := List.take_of_length_le (by omega)
            rw [htk]
            have HB := hid (Hk2.out.nil (Kp.of_below hbl))
            clear hit hbl htk
            go_wp2_with fail
            go_ret2
            exact expo_some HB.out (by rw [HG.out, HS.out]; rfl)
    · have hG := HO.out.trans (expo_else Hh.out t h1 h2)
      have hq0 := pre_no h1
      simp only [hq0] at hp1
      have hq := pre_no h2
      simp only [hq] at hp2
      have hU : t.length ≤ 1000000 := ht
      obtain ⟨U, hUt⟩ : ∃ U, U = t := ⟨_, rfl⟩
      obtain ⟨T, hT⟩ : ∃ T : ByteArray, T = ⟨t.toArray⟩ := ⟨_, rfl⟩
      rw [← hT] at hx1
      simp only [← hT] at hp1 hp2
      clear hq hq0 h1 h2 ht
      have cl := fun W => leading_any W t hU
      rw [← hT] at cl
      have HT := hid hT
      clear hT
      have hdl := digs_lead t
      have hbad := fun h => expoS_bad (u := t) h
      have hok := fun h => expoS_ok (u := t) h
      obtain ⟨S, hS⟩ : ∃ S, S = expoS t := ⟨_, rfl⟩
      rw [← hS] at hG
      simp only [← hS] at hbad hok
      obtain ⟨D, hD⟩ : ∃ D, D = lead t := ⟨_, rfl⟩
      obtain ⟨E, hE⟩ : ∃ E, E = rest t := ⟨_, rfl⟩
      rw [← hD] at hdl
      simp only [← hD, ← hE] at cl hbad hok
      clear hS hD hE
      have hDs : (⟨D.toArray⟩ : ByteArray).size = D.length := size_mk _
      have HG := hid hG
      have Hbad := hid hbad
      have Hok := hid hok
      have Hdl := hid hdl
      clear hG hbad hok hdl HO Hh
      go_enter Tryd.func77, Tryd.ntmps77
      go_wp2_with fail
      refine (hp1 _).mono ?_
      rintro e w1 ⟨rfl, rfl⟩
      go_wp2_with fail
      refine (hp2 _).mono ?_
      rintro e w1 ⟨rfl, rfl⟩
      go_wp2_with fail
      refine (cl _).mono ?_
      rintro e w2 ⟨rfl, k2⟩
      have Hk2 := hid k2
      clear k2 cl
      rcases (show E ≠ [] ∨ (E = [] ∧ D.length < 1) ∨ (E = [] ∧ 1 ≤ D.length ∧ 2 < D.length) ∨ (E = [] ∧ 1 ≤ D.length ∧ D.length ≤ 2) from by
        by_cases h : E = []
        · rcases (show D.length < 1 ∨ (1 ≤ D.length ∧ 2 < D.length) ∨ (1 ≤ D.length ∧ D.length ≤ 2) from by omega) with h1 | h1 | h1
          · exact .inr (.inl ⟨h, h1⟩)
          · exact .inr (.inr (.inl ⟨h, h1⟩))
          · exact .inr (.inr (.inr ⟨h, h1⟩))
        · exact .inl h) with h | ⟨h, h1⟩ | ⟨h, h1, h2⟩ | ⟨h, h1, h2⟩
      · have HN : Hid (O = none) := by rw [HG.out, Hbad.out (.inl h)]; exact hid rfl
        have hEe : E.isEmpty = false := by cases E with | nil => exact absurd rfl h | cons _ _ => rfl
        go_wp2_with fail
        go_ret2
        exact expo_none Hk2.out HN.out
      · have HN : Hid (O = none) := by rw [HG.out, Hbad.out (.inr (.inl h1))]; exact hid rfl
        subst h
        have b1 : decide ((D.length : Int) < 1) = true := decide_eq_true (by omega)
        have b1b : D.length = 0 := by omega
        go_wp2_with fail
        go_ret2
        exact expo_none Hk2.out HN.out
      · have HN : Hid (O = none) := by rw [HG.out, Hbad.out (.inr (.inr h2))]; exact hid rfl
        subst h
        have b1 : decide ((D.length : Int) < 1) = false := decide_eq_false (by omega)
        have b2 : decide ((2 : Int) < (D.length : Int)) = true := decide_eq_true (by omega)
        go_wp2_with fail
        go_ret2
        exact expo_none Hk2.out HN.out
      · have HS : Hid (S = some (val D : Int)) := hid (Hok.out (by rintro (h3 | h3 | h3); exact h3 h; omega; omega))
        subst h
        have b1 : decide ((D.length : Int) < 1) = false := decide_eq_false (by omega)
        have b2 : decide ((2 : Int) < (D.length : Int)) = false := decide_eq_false (by omega)
        have hv := val_lt _ Hdl.out
        have hv2 : 10 ^ D.length ≤ 10 ^ 2 := Nat.pow_le_pow_right (by decide) h2
        have hv3 : val D < 100 := by omega
        clear hv hv2
        go_wp2_with fail
        go_loopw [7] (fun v wr => ∃ pos : Nat, wr.heap[w2.heap.size]? = some (.stringIter ⟨D.toArray⟩ pos) ∧ Below w2.heap.size w2 wr ∧ v = .int .i64 ((val (D.take pos) : Nat) : Int) ∧ pos ≤ D.length) (fun _ wr => D.length - wr.iterPos w2.heap.size)
        case atStart => exact ⟨0, World.iter_heap w2 _ 0, (Below.refl _ w2).alloc (Nat.le_refl _) _, rfl, Nat.zero_le _⟩
        case round =>
          obtain ⟨pos, hit, hbl, rfl, hpos⟩ := hrel
          by_cases hp : pos < D.length
          · obtain ⟨d1, d2, d3⟩ := decode_dig Hdl.out hp
            have hnx : ∀ ty, (Instr.next (.pointer (some ⟨w2.heap.size, 0, none⟩)) true ty).run Tryd.prog wr = _ := fun ty => Lib.run_next_any_at wr w2.heap.size ⟨D.toArray⟩ pos ty hit (by rw [hDs]; exact hp)
            rw [d1] at hnx
            have hvs := val_snoc (D.take pos) D[pos]
            rw [List.take_append_getElem hp] at hvs
            have hvl := val_lt _ (Hdl.out.take pos)
            have hvl2 : (D.take pos).length ≤ 1 := by rw [List.length_take]; omega
            have hvl3 : 10 ^ (D.take pos).length ≤ 10 ^ 1 := Nat.pow_le_pow_right (by decide) hvl2
            obtain ⟨x, hx⟩ : ∃ x, x = val (D.take pos) := ⟨_, rfl⟩
            obtain ⟨y, hy⟩ : ∃ y, y = D[pos].toNat := ⟨_, rfl⟩
            rw [← hx, ← hy] at hvs
            rw [← hx] at hvl ⊢
            rw [← hy] at hnx d2 d3
            have hx9 : x < 10 := by omega
            have hh1 := Lib.iterAt_heap wr w2.heap.size ⟨D.toArray⟩ pos (pos + 1) hit
            have hh2 := Lib.below_iterAt hbl (Nat.le_refl _) ⟨D.toArray⟩ (pos + 1)
            obtain ⟨W3, hW3⟩ : ∃ W3, W3 = wr.iterAt w2.heap.size ⟨D.toArray⟩ (pos + 1) := ⟨_, rfl⟩
            simp only [← hW3] at hnx hh1 hh2
            have HH := hid (And.intro hh1 (And.intro hh2 (And.intro hvs hit)))
            clear hh1 hh2 hvs hx hy hvl hvl2 hvl3 hit hbl d1 hW3
            go_wp2_with fail
            go_roundw
            case rel => exact ⟨pos + 1, HH.out.1, HH.out.2.1, by rw [HH.out.2.2.1]; go_num, by omega⟩
            case measure =>
              simp only [World.iterPos, HH.out.1, HH.out.2.2.2]
              omega
          · have hnx : ∀ ty, (Instr.next (.pointer (some ⟨w2.heap.size, 0, none⟩)) true ty).run Tryd.prog wr = _ := fun ty => Lib.run_next_end_at wr w2.heap.size ⟨D.toArray⟩ pos ty hit (by rw [hDs]; exact hp)
            have htk : D.take pos = D := List.take_of_length_le (by omega)
            rw [htk]
            have HB := hid (Hk2.out.nil (Kp.of_below hbl))
            clear hit hbl htk
            go_wp2_with fail
            go_ret2
            exact expo_some HB.out (by rw [HG.out, HS.out]; rfl)
end Go.Proofs.YtgjffkblhhkjmaaDoor
