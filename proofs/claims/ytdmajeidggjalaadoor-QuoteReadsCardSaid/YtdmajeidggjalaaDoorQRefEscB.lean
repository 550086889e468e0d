/- The document's answer for layer 3: what stands behind a backslash. -/
import Derived.Test.YtdmajeidggjalaaDoorQRefEsc
import Derived.Test.YtdmajeidggjalaaDoorQUnquote
import Derived.Deep.Cut
namespace Go.Proofs.YtdmajeidggjalaaDoor
open Go Go.RowKit

def rescV (o : Option (Nat × Nat)) : Value := match o with | none => .tuple #[.string ⟨#[]⟩, .int .i64 0] | some (r, n) => .tuple #[.string ⟨(Lib.encodeRune (r : Int)).toArray⟩, .int .i64 ((n : Int) - 1)]
theorem esc_simple {c : UInt8} {t : List UInt8} {r : Nat} (h : simpleE c = some r) : escL (92 :: c :: t) = some (r, 2) := by simp only [escL, h]
theorem esc_unit {t : List UInt8} : escL (92 :: 117 :: t) = match four t with
    | none => none
    | some x => if x / 1024 = 55 then none else if x / 1024 ≠ 54 then some (x, 6) else match unitL (t.drop 4) with
      | some y => if y / 1024 = 55 then some (65536 + (x % 1024) * 1024 + y % 1024, 12) else none
      | none => none := by
  have e : simpleE 117 = none := by decide
  have e2 : unitL (92 :: 117 :: t) = four t := by simp only [unitL]; rw [if_pos ⟨trivial, trivial⟩]
  simp only [escL, e, e2, List.drop_succ_cons]
  cases four t with
  | none => rfl
  | some x => simp only; split <;> try rfl
theorem esc_other {c : UInt8} {t : List UInt8} (h : simpleE c = none) (h2 : c ≠ 117) : escL (92 :: c :: t) = none := by
  have e2 : unitL (92 :: c :: t) = none := by simp only [unitL]; rw [if_neg (fun h => h2 h.2)]
  simp only [escL, h, e2]
theorem esc_end : escL [92] = none := rfl
theorem simple_none {c : UInt8} (h : c.toNat ≠ 34 ∧ c.toNat ≠ 92 ∧ c.toNat ≠ 47 ∧ c.toNat ≠ 98 ∧ c.toNat ≠ 102 ∧ c.toNat ≠ 110 ∧ c.toNat ≠ 114 ∧ c.toNat ≠ 116) : simpleE c = none := by
  unfold simpleE
  rw [if_neg (ne8 h.1), if_neg (ne8 h.2.1), if_neg (ne8 h.2.2.1), if_neg (ne8 h.2.2.2.1), if_neg (ne8 h.2.2.2.2.1), if_neg (ne8 h.2.2.2.2.2.1), if_neg (ne8 h.2.2.2.2.2.2.1), if_neg (ne8 h.2.2.2.2.2.2.2)]
def REscPost (w : World) (l : List UInt8) (e : Ending) (w' : World) : Prop := e = .returned (rescV (escL (92 :: l))) ∧ Kp [] w w'
set_option maxRecDepth 100000 in
set_option maxHeartbeats 6400000 in
theorem resc_any (w : World) (s : ByteArray) (p : Nat) (hs : s.size ≤ 100000000) (hp : p ≤ 100000001) : Calls Tryd.prog 27 #[.string s, .int .i64 (p : Int)] w (REscPost w (s.data.toList.drop p)) := by
  have f1 := fun W => rfour_any W s (p + 1) hs (by omega)
  have f7 := fun W => rfour_any W s (p + 7) hs (by omega)
  obtain ⟨L, hL⟩ : ∃ L, L = s.data.toList := ⟨_, rfl⟩
  have hlen : L.length = s.size := by rw [hL, Array.length_toList]; rfl
  have hget : ∀ (i : Nat) (h : i < s.size), s[i]'h = L[i]'(by omega) := fun i h => by subst hL; rfl
  rw [← hL]
  simp only [← hL] at f1 f7
  have HL := hid hL
  clear hL
  have Hget := hid hget
  clear hget
  by_cases hlt : p < s.size
  rotate_left
  · have he : L.drop p = [] := List.drop_eq_nil_of_le (by omega)
    rw [he]
    clear he f1 f7
    go_enter Tryd.func27, Tryd.ntmps27
    go_wp2_with fail
    go_ret2
    exact ⟨rfl, Kp.refl _ _⟩
  have hcons : L.drop p = L[p]'(by omega) :: L.drop (p + 1) := List.drop_eq_getElem_cons (by omega)
  have hg := Hget.out p hlt
  obtain ⟨c, hc⟩ : ∃ c, c = L[p]'(by omega) := ⟨_, rfl⟩
  rw [← hc] at hcons hg
  rw [hcons]
  unfold REscPost
  obtain ⟨m, hm⟩ : ∃ m, m = c.toNat := ⟨_, rfl⟩
  have hm2 : m < 256 := by rw [hm]; exact c.toNat_lt
  have hgm : ∀ h : p < s.size, (s[p]'h).toNat = m := fun h => by rw [hg, hm]
  have hex : s.extract p (p + 1) = ⟨[c].toArray⟩ := by
    rw [extract_list, ← HL.out, List.drop_take, hcons, Nat.add_sub_cancel_left]
    rfl
  have Hm := hid hm
  have hdr : (L.drop (p + 1)).drop 4 = L.drop (p + 5) := by rw [List.drop_drop]
  have Hdr := hid hdr
  clear hcons hc hg hm hdr
  rcases (show m = 34 ∨ m = 92 ∨ m = 47 ∨ m = 98 ∨ m = 102 ∨ m = 110 ∨ m = 114 ∨ m = 116 ∨ m = 117 ∨ (m ≠ 34 ∧ m ≠ 92 ∧ m ≠ 47 ∧ m ≠ 98 ∧ m ≠ 102 ∧ m ≠ 110 ∧ m ≠ 114 ∧ m ≠ 116 ∧ m ≠ 117) from by omega) with h | h | h | h | h | h | h | h | h | ⟨n1, n2, n3, n4, n5, n6, n7, n8, n9⟩
  · subst h
    have hcc : c = 34 := of8 Hm.out.symm
    have he : escL (92 :: c :: L.drop (p + 1)) = some (34, 2) := esc_simple (by rw [hcc]; rfl)
    rw [he]
    have HX : Hid ((⟨[c].toArray⟩ : ByteArray) = ⟨#[34]⟩) := by rw [hcc]; exact hid rfl
    clear hcc he f1 f7
    go_enter Tryd.func27, Tryd.ntmps27
    go_wp2_with fail
    go_ret2
    exact ⟨by rw [HX.out]; rfl, Kp.refl _ _⟩
  · subst h
    have hcc : c = 92 := of8 Hm.out.symm
    have he : escL (92 :: c :: L.drop (p + 1)) = some (92, 2) := esc_simple (by rw [hcc]; rfl)
    rw [he]
    have HX : Hid ((⟨[c].toArray⟩ : ByteArray) = ⟨#[92]⟩) := by rw [hcc]; exact hid rfl
    clear hcc he f1 f7
    go_enter Tryd.func27, Tryd.ntmps27
    go_wp2_with fail
    go_ret2
    exact ⟨by rw [HX.out]; rfl, Kp.refl _ _⟩
  · subst h
    have hcc : c = 47 := of8 Hm.out.symm
    have he : escL (92 :: c :: L.drop (p + 1)) = some (47, 2) := esc_simple (by rw [hcc]; rfl)
    rw [he]
    have HX : Hid ((⟨[c].toArray⟩ : ByteArray) = ⟨#[47]⟩) := by rw [hcc]; exact hid rfl
    clear hcc he f1 f7
    go_enter Tryd.func27, Tryd.ntmps27
    go_wp2_with fail
    go_ret2
    exact ⟨by rw [HX.out]; rfl, Kp.refl _ _⟩
  · subst h
    have hcc : c = 98 := of8 Hm.out.symm
    have he : escL (92 :: c :: L.drop (p + 1)) = some (8, 2) := esc_simple (by rw [hcc]; rfl)
    rw [he]
    have HX : Hid ((⟨[c].toArray⟩ : ByteArray) = ⟨#[98]⟩) := by rw [hcc]; exact hid rfl
    clear hcc he f1 f7
    go_enter Tryd.func27, Tryd.ntmps27
    go_wp2_with fail
    go_ret2
    exact ⟨rfl, Kp.refl _ _⟩
  · subst h
    have hcc : c = 102 := of8 Hm.out.symm
    have he : escL (92 :: c :: L.drop (p + 1)) = some (12, 2) := esc_simple (by rw [hcc]; rfl)
    rw [he]
    have HX : Hid ((⟨[c].toArray⟩ : ByteArray) = ⟨#[102]⟩) := by rw [hcc]; exact hid rfl
    clear hcc he f1 f7
    go_enter Tryd.func27, Tryd.ntmps27
    go_wp2_with fail
    go_ret2
    exact ⟨rfl, Kp.refl _ _⟩
  · subst h
    have hcc : c = 110 := of8 Hm.out.symm
    have he : escL (92 :: c :: L.drop (p + 1)) = some (10, 2) := esc_simple (by rw [hcc]; rfl)
    rw [he]
    have HX : Hid ((⟨[c].toArray⟩ : ByteArray) = ⟨#[110]⟩) := by rw [hcc]; exact hid rfl
    clear hcc he f1 f7
    go_enter Tryd.func27, Tryd.ntmps27
    go_wp2_with fail
    go_ret2
    exact ⟨rfl, Kp.refl _ _⟩
  · subst h
    have hcc : c = 114 := of8 Hm.out.symm
    have he : escL (92 :: c :: L.drop (p + 1)) = some (13, 2) := esc_simple (by rw [hcc]; rfl)
    rw [he]
    have HX : Hid ((⟨[c].toArray⟩ : ByteArray) = ⟨#[114]⟩) := by rw [hcc]; exact hid rfl
    clear hcc he f1 f7
    go_enter Tryd.func27, Tryd.ntmps27
    go_wp2_with fail
    go_ret2
    exact ⟨rfl, Kp.refl _ _⟩
  · subst h
    have hcc : c = 116 := of8 Hm.out.symm
    have he : escL (92 :: c :: L.drop (p + 1)) = some (9, 2) := esc_simple (by rw [hcc]; rfl)
    rw [he]
    have HX : Hid ((⟨[c].toArray⟩ : ByteArray) = ⟨#[116]⟩) := by rw [hcc]; exact hid rfl
    clear hcc he f1 f7
    go_enter Tryd.func27, Tryd.ntmps27
    go_wp2_with fail
    go_ret2
    exact ⟨rfl, Kp.refl _ _⟩
  · subst h
    have hcc : c = 117 := of8 Hm.out.symm
    rw [hcc]
    rw [show escL (92 :: 117 :: L.drop (p + 1)) = _ from esc_unit, Hdr.out]
    clear hcc hex
    cases hx : four (L.drop (p + 1)) with
    | none =>
      rw [hx] at f1
      clear hx f7
      have f11 := fun W => f1 W
      clear f1
      simp only [fourV] at f11
      go_enter Tryd.func27, Tryd.ntmps27
      go_wp2_with fail
      refine (f11 _).mono ?_
      rintro e w1 ⟨rfl, rfl⟩
      go_wp2_with fail
      go_ret2
      exact ⟨rfl, Kp.refl _ _⟩
    | some x =>
      have hx6 := (four_lt hx).1
      rw [hx] at f1
      clear hx
      simp only [fourV] at f1
      simp only
      obtain ⟨X, hX⟩ : ∃ X : Int, X = (x : Int) := ⟨_, rfl⟩
      simp only [← hX] at f1
      have HX := hid hX
      rcases (show x / 1024 = 55 ∨ (x / 1024 ≠ 55 ∧ x / 1024 ≠ 54) ∨ x / 1024 = 54 from by omega) with h | ⟨h, h4⟩ | h
      · rw [if_pos h]
        have c1 : (56320 : Int) ≤ X := by omega
        have c2 : X < 57344 := by omega
        have tx0 : decide (X < 0) = false := decide_eq_false (by omega)
        have tx1 : decide ((56320 : Int) ≤ X) = true := decide_eq_true (by omega)
        have tx2 : decide (X < 57344) = true := decide_eq_true (by omega)
        have tx3 : decide (X < 55296) = false := decide_eq_false (by omega)
        have tx4 : decide ((57344 : Int) ≤ X) = false := decide_eq_false (by omega)
        have tx5 : decide (X < 56320) = false := decide_eq_false (by omega)
        clear h hx6 f7 hX
        go_enter Tryd.func27, Tryd.ntmps27
        go_wp2_with fail
        refine (f1 _).mono ?_
        rintro e w1 ⟨rfl, rfl⟩
        go_wp2_with fail
        go_ret2
        exact ⟨rfl, Kp.refl _ _⟩
      · rw [if_neg h, if_pos h4]
        have cw := fun W => rwrite_any W x (by omega)
        simp only [← hX] at cw
        rcases (show x < 55296 ∨ 57344 ≤ x from by omega) with h5 | h5
        · have c1 : X < 55296 := by omega
          have c2 : (0 : Int) ≤ X := by omega
          have tx0 : decide (X < 0) = false := decide_eq_false (by omega)
          have tx1 : decide ((56320 : Int) ≤ X) = false := decide_eq_false (by omega)
          have tx2 : decide (X < 57344) = true := decide_eq_true (by omega)
          have tx3 : decide (X < 55296) = true := decide_eq_true (by omega)
          have tx4 : decide ((57344 : Int) ≤ X) = false := decide_eq_false (by omega)
          have tx5 : decide (X < 56320) = true := decide_eq_true (by omega)
          clear h h4 h5 hx6 f7 hX
          go_enter Tryd.func27, Tryd.ntmps27
          go_wp2_with fail
          refine (f1 _).mono ?_
          rintro e w1 ⟨rfl, rfl⟩
          go_wp2_with fail
          refine (cw _).mono ?_
          rintro e w2 ⟨rfl, k2⟩
          go_wp2_with fail
          go_ret2
          exact ⟨by rw [HX.out]; rfl, k2⟩
        · have c1 : X < 65536 := by omega
          have c2 : (57344 : Int) ≤ X := by omega
          have tx0 : decide (X < 0) = false := decide_eq_false (by omega)
          have tx1 : decide ((56320 : Int) ≤ X) = true := decide_eq_true (by omega)
          have tx2 : decide (X < 57344) = false := decide_eq_false (by omega)
          have tx3 : decide (X < 55296) = false := decide_eq_false (by omega)
          have tx4 : decide ((57344 : Int) ≤ X) = true := decide_eq_true (by omega)
          have tx5 : decide (X < 56320) = false := decide_eq_false (by omega)
          clear h h4 h5 hx6 f7 hX
          go_enter Tryd.func27, Tryd.ntmps27
          go_wp2_with fail
          refine (f1 _).mono ?_
          rintro e w1 ⟨rfl, rfl⟩
          go_wp2_with fail
          refine (cw _).mono ?_
          rintro e w2 ⟨rfl, k2⟩
          go_wp2_with fail
          go_ret2
          exact ⟨by rw [HX.out]; rfl, k2⟩
      · rw [if_neg (by omega), if_neg (by omega)]
        have c1 : (55296 : Int) ≤ X := by omega
        have c2 : X < 56320 := by omega
        have tx0 : decide (X < 0) = false := decide_eq_false (by omega)
        have tx1 : decide ((56320 : Int) ≤ X) = false := decide_eq_false (by omega)
        have tx2 : decide (X < 57344) = true := decide_eq_true (by omega)
        have tx3 : decide (X < 55296) = false := decide_eq_false (by omega)
        have tx4 : decide ((57344 : Int) ≤ X) = false := decide_eq_false (by omega)
        have tx5 : decide (X < 56320) = true := decide_eq_true (by omega)
        clear hx6
        by_cases h7 : s.size < p + 7
        · have hu : unitL (L.drop (p + 5)) = none := by
            rcases hd : L.drop (p + 5) with _ | ⟨a, _ | ⟨b, t⟩⟩
            · rfl
            · rfl
            · have h8 := congrArg List.length hd
              rw [List.length_drop] at h8
              simp only [List.length_cons] at h8
              omega
          rw [hu]
          clear hu f7 h hX
          go_enter Tryd.func27, Tryd.ntmps27
          go_wp2_with fail
          refine (f1 _).mono ?_
          rintro e w1 ⟨rfl, rfl⟩
          go_wp2_with fail
          go_ret2
          exact ⟨rfl, Kp.refl _ _⟩
        · have q5 : L.drop (p + 5) = L[p + 5]'(by omega) :: L[p + 6]'(by omega) :: L.drop (p + 7) := by
            rw [List.drop_eq_getElem_cons (i := p + 5) (by omega), List.drop_eq_getElem_cons (i := p + 5 + 1) (by omega)]
          have g5 := Hget.out (p + 5) (by omega)
          have g6 := Hget.out (p + 6) (by omega)
          obtain ⟨a, ha⟩ : ∃ a, a = L[p + 5]'(by omega) := ⟨_, rfl⟩
          obtain ⟨b, hb⟩ : ∃ b, b = L[p + 6]'(by omega) := ⟨_, rfl⟩
          rw [← ha, ← hb] at q5
          rw [← ha] at g5
          rw [← hb] at g6
          rw [q5]
          obtain ⟨M, hM⟩ : ∃ M, M = a.toNat := ⟨_, rfl⟩
          obtain ⟨K, hK⟩ : ∃ K, K = b.toNat := ⟨_, rfl⟩
          have gm5 : ∀ h : p + 5 < s.size, (s[p + 5]'h).toNat = M := fun h => by rw [g5, hM]
          have gm6 : ∀ h : p + 6 < s.size, (s[p + 6]'h).toNat = K := fun h => by rw [g6, hK]
          have hM2 : M < 256 := by rw [hM]; exact a.toNat_lt
          have hK2 : K < 256 := by rw [hK]; exact b.toNat_lt
          have HMK := hid (And.intro hM hK)
          clear q5 ha hb g5 g6 hM hK
          by_cases hab : M = 92 ∧ K = 117
          rotate_left
          · have hu : unitL (a :: b :: L.drop (p + 7)) = none := by
              simp only [unitL]
              rw [if_neg]
              rintro ⟨rfl, rfl⟩
              exact hab ⟨HMK.out.1, HMK.out.2⟩
            rw [hu]
            clear hu f7
            rcases (show M ≠ 92 ∨ (M = 92 ∧ K ≠ 117) from by omega) with h8 | ⟨h8, h9⟩
            · have bb : ((M : Int) == 92) = false := by rw [beq_eq_false_iff_ne]; omega
              clear hab h8 h hX
              go_enter Tryd.func27, Tryd.ntmps27
              go_wp2_with fail
              refine (f1 _).mono ?_
              rintro e w1 ⟨rfl, rfl⟩
              go_wp2_with fail
              go_ret2
              exact ⟨rfl, Kp.refl _ _⟩
            · have bb : ((K : Int) == 117) = false := by rw [beq_eq_false_iff_ne]; omega
              subst h8
              clear hab h9 h hX
              go_enter Tryd.func27, Tryd.ntmps27
              go_wp2_with fail
              refine (f1 _).mono ?_
              rintro e w1 ⟨rfl, rfl⟩
              go_wp2_with fail
              go_ret2
              exact ⟨rfl, Kp.refl _ _⟩
          · obtain ⟨h8, h9⟩ := hab
            have hu : unitL (a :: b :: L.drop (p + 7)) = four (L.drop (p + 7)) := by
              simp only [unitL]
              rw [if_pos ⟨of8 (by rw [← HMK.out.1, h8]; rfl), of8 (by rw [← HMK.out.2, h9]; rfl)⟩]
            rw [hu]
            subst h8 h9
            clear hu
            cases hy : four (L.drop (p + 7)) with
            | none =>
              rw [hy] at f7
              clear hy h hX
              simp only [fourV] at f7
              go_enter Tryd.func27, Tryd.ntmps27
              go_wp2_with fail
              refine (f1 _).mono ?_
              rintro e w1 ⟨rfl, rfl⟩
              go_wp2_with fail
              refine (f7 _).mono ?_
              rintro e w2 ⟨rfl, rfl⟩
              go_wp2_with fail
              go_ret2
              exact ⟨rfl, Kp.refl _ _⟩
            | some y =>
              have hy6 := (four_lt hy).1
              rw [hy] at f7
              clear hy
              simp only [fourV] at f7
              simp only
              obtain ⟨Y, hY⟩ : ∃ Y : Int, Y = (y : Int) := ⟨_, rfl⟩
              simp only [← hY] at f7
              by_cases hy5 : y / 1024 = 55
              · rw [if_pos hy5]
                obtain ⟨r, hr⟩ : ∃ r, r = 65536 + x % 1024 * 1024 + y % 1024 := ⟨_, rfl⟩
                rw [← hr]
                have cw := fun W => rwrite_any W r (by omega)
                have er : 65536 + 1024 * (X - 55296) + Y - 56320 = (r : Int) := by omega
                have d1 : (56320 : Int) ≤ Y := by omega
                have d2 : Y < 57344 := by omega
                have ty0 : decide (Y < 0) = false := decide_eq_false (by omega)
                have ty1 : decide ((56320 : Int) ≤ Y) = true := decide_eq_true (by omega)
                have ty2 : decide (Y < 57344) = true := decide_eq_true (by omega)
                have ty3 : decide (Y < 55296) = false := decide_eq_false (by omega)
                have ty4 : decide ((57344 : Int) ≤ Y) = false := decide_eq_false (by omega)
                have ty5 : decide (Y < 56320) = false := decide_eq_false (by omega)
                clear h hy5 hy6 hr hX hY
                go_enter Tryd.func27, Tryd.ntmps27
                go_wp2_with fail
                refine (f1 _).mono ?_
                rintro e w1 ⟨rfl, rfl⟩
                go_wp2_with fail
                refine (f7 _).mono ?_
                rintro e w2 ⟨rfl, rfl⟩
                go_wp2_with fail
                refine (cw _).mono ?_
                rintro e w3 ⟨rfl, k3⟩
                go_wp2_with fail
                go_ret2
                exact ⟨rfl, k3⟩
              · rw [if_neg hy5]
                rcases (show y < 56320 ∨ 57344 ≤ y from by omega) with h5 | h5
                · have d2 : Y < 56320 := by omega
                  have t1 : decide (Y < 56320) = true := decide_eq_true (by omega)
                  clear h hy5 hy6 h5 hX hY
                  go_enter Tryd.func27, Tryd.ntmps27
                  go_wp2_with fail
                  refine (f1 _).mono ?_
                  rintro e w1 ⟨rfl, rfl⟩
                  go_wp2_with fail
                  refine (f7 _).mono ?_
                  rintro e w2 ⟨rfl, rfl⟩
                  go_wp2_with fail
                  go_ret2
                  exact ⟨rfl, Kp.refl _ _⟩
                · have d2 : (57344 : Int) ≤ Y := by omega
                  have t1 : decide (Y < 56320) = false := decide_eq_false (by omega)
                  have t2 : decide ((57344 : Int) ≤ Y) = true := decide_eq_true (by omega)
                  clear h hy5 hy6 h5 hX hY
                  go_enter Tryd.func27, Tryd.ntmps27
                  go_wp2_with fail
                  refine (f1 _).mono ?_
                  rintro e w1 ⟨rfl, rfl⟩
                  go_wp2_with fail
                  refine (f7 _).mono ?_
                  rintro e w2 ⟨rfl, rfl⟩
                  go_wp2_with fail
                  go_ret2
                  exact ⟨rfl, Kp.refl _ _⟩
  · have he : escL (92 :: c :: L.drop (p + 1)) = none := esc_other (simple_none (by rw [← Hm.out]; exact ⟨n1, n2, n3, n4, n5, n6, n7, n8⟩)) (ne8 (by rw [← Hm.out]; exact n9))
    rw [he]
    have e34 : ((m : Int) == 34) = false := by rw [beq_eq_false_iff_ne]; omega
    have e92 : ((m : Int) == 92) = false := by rw [beq_eq_false_iff_ne]; omega
    have e47 : ((m : Int) == 47) = false := by rw [beq_eq_false_iff_ne]; omega
    have e98 : ((m : Int) == 98) = false := by rw [beq_eq_false_iff_ne]; omega
    have e102 : ((m : Int) == 102) = false := by rw [beq_eq_false_iff_ne]; omega
    have e110 : ((m : Int) == 110) = false := by rw [beq_eq_false_iff_ne]; omega
    have e114 : ((m : Int) == 114) = false := by rw [beq_eq_false_iff_ne]; omega
    have e116 : ((m : Int) == 116) = false := by rw [beq_eq_false_iff_ne]; omega
    have e117 : ((m : Int) == 117) = false := by rw [beq_eq_false_iff_ne]; omega
    clear he f1 f7 n1 n2 n3 n4 n5 n6 n7 n8 n9 hex
    go_enter Tryd.func27, Tryd.ntmps27
    go_wp2_with fail
    go_ret2
    exact ⟨rfl, Kp.refl _ _⟩
end Go.Proofs.YtdmajeidggjalaaDoor
