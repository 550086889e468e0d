/- The document's answer for layer 2: zeros, wide, nought, first, step, long. -/
import Derived.Test.YtampgimmodomoaaDoorDRPlus
import Derived.Test.YtampgimmodomoaaDoorDPlain
namespace Go.Proofs.YtampgimmodomoaaDoor
open Go Go.RowKit Go.Lib

theorem one_char (m : Nat) (c : UInt8) (hm : m = c.toNat) (W : World) : (convert 32 9 (.slice (some ⟨W.heap.size, 0, none⟩) 1 1)).run Tryd.prog (W.alloc (.cells #[.int .u8 (m : Int)] 5)) = .ok (.string ⟨#[c]⟩) (W.alloc (.cells #[.int .u8 (m : Int)] 5)) := by
  subst hm
  exact run_text (P := Tryd.prog) (src := 32) (e := 5) (dst := 9) (l := [c]) Tryd.underlying32 Tryd.underlying5 Tryd.underlying9 (Span.of_new _ _ _ _) 1 1 rfl
theorem qzeros_any (w : World) (n : Nat) (hn : n ≤ 1000000) : Calls Tryd.prog 80 #[.int .i64 (n : Int)] w fun e w' => e = .returned (.string ⟨(List.replicate n 48).toArray⟩) ∧ w' = w := by
  go_enter Tryd.func80, Tryd.ntmps80
  go_wp2_with fail
  go_loopw [3, 4] (fun vs vi wr => wr = w ∧ ∃ i : Nat, vs = .string ⟨(List.replicate i 48).toArray⟩ ∧ vi = .int .i64 (i : Int) ∧ i ≤ n) (fun _ vi _ => n - (intOf vi).toNat)
  case atStart => exact ⟨rfl, 0, rfl, rfl, Nat.zero_le _⟩
  case round =>
    obtain ⟨hwr, i, rfl, rfl, hi⟩ := hrel
    have hwr2 := hwr.symm
    subst hwr2
    by_cases hlt : i < n
    · have ha : ∀ X, (Op.stringOp .add ⟨(List.replicate i 48).toArray⟩ ⟨#[48]⟩).run Tryd.prog X = .ok (.string ⟨(List.replicate (i + 1) 48).toArray⟩) X := fun X => run_add_text (P := Tryd.prog) (List.replicate i 48) [48] (List.replicate (i + 1) 48) (by rw [List.replicate_succ']) (by simp; omega) X
      obtain ⟨R, hR⟩ : ∃ R : List UInt8, R = List.replicate i 48 := ⟨_, rfl⟩
      obtain ⟨R2, hR2⟩ : ∃ R2 : List UInt8, R2 = List.replicate (i + 1) 48 := ⟨_, rfl⟩
      simp only [← hR, ← hR2] at ha ⊢
      have H2 := hid hR2
      clear hR hR2
      go_wp2_with fail
      go_roundw
      case rel => exact ⟨trivial, i + 1, by rw [H2.out], by go_num, by omega⟩
      case measure => simp [intOf]; omega
    · have e : i = n := by omega
      subst e
      go_wp2_with fail
      go_ret
      exact ⟨rfl, rfl⟩
theorem qwide_any (w : World) (D : List UInt8) (n : Nat) (hD : D.length ≤ n) (hn : n ≤ 1000000) : Calls Tryd.prog 79 #[.string ⟨D.toArray⟩, .int .i64 (n : Int)] w fun e w' => e = .returned (.string ⟨(List.replicate (n - D.length) 48 ++ D).toArray⟩) ∧ w' = w := by
  have hDs : (⟨D.toArray⟩ : ByteArray).size = D.length := size_mk _
  obtain ⟨k, hk⟩ : ∃ k, k = n - D.length := ⟨_, rfl⟩
  rw [← hk]
  have w1 : IntKind.i64.wrap ((n : Int) - (D.length : Int)) = (k : Int) := by rw [IntWalk.i64_in _ (by omega)]; omega
  have qz := fun W => qzeros_any W k (by omega)
  have hadd := fun W => run_add_text (P := Tryd.prog) (List.replicate k 48) D (List.replicate k 48 ++ D) rfl (by rw [List.length_replicate]; omega) W
  obtain ⟨Z, hZ⟩ : ∃ Z : List UInt8, Z = List.replicate k 48 := ⟨_, rfl⟩
  simp only [← hZ] at qz hadd ⊢
  obtain ⟨R, hR⟩ : ∃ R : List UInt8, R = Z ++ D := ⟨_, rfl⟩
  simp only [← hR] at hadd ⊢
  clear hk hZ hR
  go_enter Tryd.func79, Tryd.ntmps79
  go_wp2_with fail
  (with_reducible refine (qz _).mono ?_)
  rintro e w1 ⟨rfl, rfl⟩
  clear qz
  go_wp2_with fail
  go_ret
  exact ⟨rfl, rfl⟩
theorem wide_digN {D : List UInt8} (hD : Digs D) {T : Nat} (h : D.length ≤ T) : List.replicate (T - D.length) 48 ++ D = digN T (val D) := by
  have := digN_val T (List.replicate (T - D.length) 48 ++ D) ((Digs.zeros _).append hD) (by simp; omega)
  rw [val_pad] at this
  exact this.symm
theorem dw_step {L : List UInt8} {i : Nat} (h : i < L.length) (h48 : L[i].toNat = 48) : (L.drop i).dropWhile (· == 48) = (L.drop (i + 1)).dropWhile (· == 48) := by
  rw [List.drop_eq_getElem_cons h, byte_48 h48]
  rfl
theorem dw_stop {L : List UInt8} {i : Nat} (h : i < L.length) (h48 : L[i].toNat ≠ 48) : (L.drop i).dropWhile (· == 48) = L.drop i := by
  rw [List.drop_eq_getElem_cons h, drop_stop _ h48]
set_option maxRecDepth 100000 in
theorem qnought_any (w : World) (L : List UInt8) (hL : Digs L) (hl : L.length ≤ 1000000) : Calls Tryd.prog 76 #[.string ⟨L.toArray⟩] w fun e w' => e = .returned (.bool (decide (val L = 0))) ∧ w' = w := by
  have hLs : (⟨L.toArray⟩ : ByteArray).size = L.length := size_mk _
  have hdz := dropZeros L hL
  obtain ⟨bo, hbo⟩ : ∃ bo, bo = decide (val L = 0) := ⟨_, rfl⟩
  rw [← hbo]
  have HB := hid (And.intro (show val L = 0 → bo = true from fun h => by rw [hbo, decide_eq_true h]) (show val L ≠ 0 → bo = false from fun h => by rw [hbo, decide_eq_false h]))
  have Hd := hid (And.intro hL hdz)
  clear hbo hL hdz
  go_enter Tryd.func76, Tryd.ntmps76
  go_wp2_with fail
  go_loopw [3] (fun v wr => wr = w ∧ ∃ i : Nat, v = .int .i64 (i : Int) ∧ i ≤ L.length ∧ L.dropWhile (· == 48) = (L.drop i).dropWhile (· == 48)) (fun v _ => L.length - (intOf v).toNat)
  case atStart => exact ⟨rfl, 0, rfl, Nat.zero_le _, by rw [List.drop_zero]⟩
  case round =>
    obtain ⟨hwr, i, rfl, hi, hdw⟩ := hrel
    have hwr2 := hwr.symm
    subst hwr2
    by_cases hlt : i < L.length
    · obtain ⟨m, hm⟩ : ∃ m, m = L[i].toNat := ⟨_, rfl⟩
      have ig := byte_at L i m hlt hm
      have m9 : m < 256 := by rw [hm]; exact UInt8.toNat_lt _
      have i0 : (i : Int) < (L.length : Int) := by omega
      by_cases h48 : m = 48
      · have HS := hid (hdw.trans (dw_step hlt (by rw [← hm]; exact h48)))
        have b1 : ((m : Int) != 48) = false := by rw [h48]; rfl
        clear hdw hm
        go_wp2_with fail
        go_roundw
        case rel => exact ⟨trivial, i + 1, by go_num, by omega, HS.out⟩
        case measure => simp [intOf]; omega
      · have b1 : ((m : Int) != 48) = true := by rw [bne_iff_ne]; omega
        have hv : val L ≠ 0 := by
          intro e
          have h1 := hdw.trans (dw_stop hlt (by rw [← hm]; exact h48))
          rw [Hd.out.2, e] at h1
          have h2 := congrArg List.length h1
          rw [List.length_drop] at h2
          have h3 : (dstr 0).length = 0 := rfl
          omega
        have HS := hid hv
        clear hdw hm hv h48
        go_wp2_with fail
        go_ret
        exact ⟨by rw [HB.out.2 HS.out]; rfl, rfl⟩
    · have hv : val L = 0 := by
        rw [List.drop_of_length_le (by omega), Hd.out.2] at hdw
        exact dstr_nil.1 hdw
      have HS := hid hv
      clear hdw hv
      go_wp2_with fail
      go_ret
      exact ⟨by rw [HB.out.1 HS.out]; rfl, rfl⟩
set_option maxRecDepth 100000 in
theorem qfirst_any (w : World) (L : List UInt8) (hL : Digs L) (hl : L.length ≤ 1000000) : Calls Tryd.prog 77 #[.string ⟨L.toArray⟩] w fun e w' => e = .returned (.int .i64 ((L.length - (dstr (val L)).length : Nat) : Int)) ∧ w' = w := by
  have hLs : (⟨L.toArray⟩ : ByteArray).size = L.length := size_mk _
  have hdz := dropZeros L hL
  obtain ⟨f, hf⟩ : ∃ f, f = L.length - (dstr (val L)).length := ⟨_, rfl⟩
  rw [← hf]
  have Hd := hid (And.intro hL (And.intro hdz hf))
  clear hf hL hdz
  go_enter Tryd.func77, Tryd.ntmps77
  go_wp2_with fail
  go_loopw [3] (fun v wr => wr = w ∧ ∃ i : Nat, v = .int .i64 (i : Int) ∧ i ≤ L.length ∧ L.dropWhile (· == 48) = (L.drop i).dropWhile (· == 48)) (fun v _ => L.length - (intOf v).toNat)
  case atStart => exact ⟨rfl, 0, rfl, Nat.zero_le _, by rw [List.drop_zero]⟩
  case round =>
    obtain ⟨hwr, i, rfl, hi, hdw⟩ := hrel
    have hwr2 := hwr.symm
    subst hwr2
    by_cases hlt : i < L.length
    · obtain ⟨m, hm⟩ : ∃ m, m = L[i].toNat := ⟨_, rfl⟩
      have ig := byte_at L i m hlt hm
      have m9 : m < 256 := by rw [hm]; exact UInt8.toNat_lt _
      have i0 : (i : Int) < (L.length : Int) := by omega
      by_cases h48 : m = 48
      · have HS := hid (hdw.trans (dw_step hlt (by rw [← hm]; exact h48)))
        have b1 : ((m : Int) != 48) = false := by rw [h48]; rfl
        clear hdw hm
        go_wp2_with fail
        go_roundw
        case rel => exact ⟨trivial, i + 1, by go_num, by omega, HS.out⟩
        case measure => simp [intOf]; omega
      · have b1 : ((m : Int) != 48) = true := by rw [bne_iff_ne]; omega
        have hv : f = i := by
          have h1 := hdw.trans (dw_stop hlt (by rw [← hm]; exact h48))
          rw [Hd.out.2.1] at h1
          have h2 := congrArg List.length h1
          rw [List.length_drop] at h2
          rw [Hd.out.2.2, h2]
          omega
        have HS := hid hv
        clear hdw hm hv h48
        go_wp2_with fail
        go_ret
        exact ⟨by rw [HS.out]; rfl, rfl⟩
    · have hv : f = L.length := by
        rw [List.drop_of_length_le (by omega), Hd.out.2.1] at hdw
        rw [Hd.out.2.2, hdw]
        rfl
      have HS := hid hv
      clear hdw hv
      go_wp2_with fail
      go_ret
      exact ⟨by rw [HS.out]; rfl, rfl⟩
/-- A row that is too long begins with a nought. -/
theorem head_nought {Q : List UInt8} (hQ : Digs Q) {T : Nat} (hv : val Q < 10 ^ T) (hl : T < Q.length) : Digs (Q.drop 1) ∧ val (Q.drop 1) = val Q := by
  cases Q with
  | nil => simp at hl
  | cons c t =>
    have hc := hQ c (by simp)
    unfold Dig at hc
    have h1 := val_cons c t
    have h2 : 10 ^ T ≤ 10 ^ t.length := Nat.pow_le_pow_right (by decide) (by simp at hl; omega)
    have h3 : c.toNat - 48 = 0 := by
      rcases Nat.eq_zero_or_pos (c.toNat - 48) with h | h
      · exact h
      · have : 1 * 10 ^ t.length ≤ (c.toNat - 48) * 10 ^ t.length := Nat.mul_le_mul_right _ h
        omega
    rw [h3, Nat.zero_mul, Nat.zero_add] at h1
    exact ⟨fun x hx => hQ x (by simp at hx; simp [hx]), h1.symm⟩
def StepPost (w : World) (T y X : Nat) (e : Ending) (w' : World) : Prop := e = .returned (.tuple #[.int .u8 ((48 + X / y : Nat) : Int), .string ⟨(digN T (X % y)).toArray⟩]) ∧ Kp [] w w'
set_option maxRecDepth 100000 in
set_option maxHeartbeats 6400000 in
theorem qstep_any (w : World) (R B : List UInt8) (c : UInt8) (hR : Digs R) (hB : Digs B) (hc : Dig c) (lR : R.length ≤ 10000) (lB : B.length ≤ 10000) (hx : val R < val B) :
    Calls Tryd.prog 78 #[.string ⟨R.toArray⟩, .int .u8 (c.toNat : Int), .string ⟨B.toArray⟩] w (StepPost w (B.length + 1) (val B) (val R * 10 + (c.toNat - 48))) := by
  have hRs : (⟨R.toArray⟩ : ByteArray).size = R.length := size_mk _
  have hBs : (⟨B.toArray⟩ : ByteArray).size = B.length := size_mk _
  obtain ⟨T, hT⟩ : ∃ T, T = B.length + 1 := ⟨_, rfl⟩
  obtain ⟨y, hy⟩ : ∃ y, y = val B := ⟨_, rfl⟩
  have hv := val_snoc R c
  obtain ⟨X, hX⟩ : ∃ X, X = val R * 10 + (c.toNat - 48) := ⟨_, rfl⟩
  rw [← hX] at hv ⊢
  rw [← hy] at hx ⊢
  rw [← hT]
  have hyB := val_lt B hB
  rw [← hy] at hyB
  have hc2 := hc
  unfold Dig at hc2
  have hp : 10 ^ T = 10 ^ B.length * 10 := by rw [hT, Nat.pow_succ]
  have hXT : X < 10 ^ T := by rw [hX, hp]; omega
  have hX10 : X < 10 * y := by omega
  have hyT : y < 10 ^ T := by rw [hp]; omega
  have dQ : Digs (R ++ [c]) := hR.append (fun d hd => by rw [List.mem_singleton.1 hd]; exact hc)
  have w1 : IntKind.i64.wrap ((B.length : Int) + 1) = (T : Int) := by rw [IntWalk.i64_in _ (by omega)]; omega
  have hadd := fun W => run_add_text (P := Tryd.prog) R [c] (R ++ [c]) rfl (by simp; omega) W
  obtain ⟨m, hm⟩ : ∃ m, m = c.toNat := ⟨_, rfl⟩
  have htx := fun W => one_char m c hm W
  rw [← hm] at hc2 ⊢
  have qb := fun W => qwide_any W B T (by omega) (by omega)
  rw [wide_digN hB (by omega), ← hy] at qb
  obtain ⟨Q0, hQ0⟩ : ∃ Q, Q = R ++ [c] := ⟨_, rfl⟩
  have lQ0 : Q0.length ≤ 10001 := by rw [hQ0, List.length_append]; simp; omega
  simp only [← hQ0] at hadd hv dQ
  have HX := hid (And.intro hXT (And.intro hX10 (And.intro hyT (And.intro hv (And.intro dQ lQ0)))))
  have Hqb := hid qb
  have HT9 : T ≤ 10001 := by omega
  clear hT hy hX hx hyB hp hXT hX10 hyT dQ hm hQ0 lQ0 hv hc hR hB qb
  go_enter Tryd.func78, Tryd.ntmps78
  go_wp2_with fail
  obtain ⟨W1, hW1⟩ : ∃ W1, W1 = w.alloc (.cells #[.int .u8 (m : Int)] 5) := ⟨_, rfl⟩
  have hK1 : Kp [] w W1 := by rw [hW1]; exact (Kp.refl _ _).alloc _
  rw [← hW1]
  have HK1 := hid hK1
  clear hW1 hK1 hadd htx
  go_loopw [0] (fun v wr => wr = W1 ∧ ∃ Q : List UInt8, v = .string ⟨Q.toArray⟩ ∧ Digs Q ∧ val Q = X ∧ Q.length ≤ 10001) (fun v _ => strLen v)
  case atStart => exact ⟨rfl, Q0, rfl, HX.out.2.2.2.2.1, HX.out.2.2.2.1, HX.out.2.2.2.2.2⟩
  case round =>
    obtain ⟨rfl, Q, rfl, dQ, vQ, lQ⟩ := hrel
    have hQs : (⟨Q.toArray⟩ : ByteArray).size = Q.length := size_mk _
    by_cases hlt : T < Q.length
    · obtain ⟨d2, v2⟩ := head_nought dQ (by rw [vQ]; exact HX.out.1) hlt
      have hx1 := extract_mk Q 1 Q.length
      rw [List.take_length] at hx1
      have hl2 : (Q.drop 1).length = Q.length - 1 := List.length_drop
      obtain ⟨Q2, hQ2⟩ : ∃ Q2, Q2 = Q.drop 1 := ⟨_, rfl⟩
      rw [← hQ2] at hx1 d2 v2 hl2
      have hQs2 : (⟨Q2.toArray⟩ : ByteArray).size = Q2.length := size_mk _
      have HQ := hid (And.intro d2 (And.intro (v2.trans vQ) hl2))
      have i1 : (1 : Int) ≤ (Q.length : Int) := by omega
      clear d2 v2 hQ2 dQ vQ hl2
      go_wp2_with fail
      go_roundw
      case rel => exact ⟨trivial, Q2, rfl, HQ.out.1, HQ.out.2.1, by have := HQ.out.2.2; omega⟩
      case measure => have := HQ.out.2.2; simp only [strLen, hQs2, hQs]; omega
    · have qr := fun W => qwide_any W Q T (by omega) (by omega)
      rw [wide_digN dQ (by omega), vQ] at qr
      have b1 : decide (T < Q.length) = false := decide_eq_false hlt
      have qb := Hqb.out
      clear dQ vQ hlt
      go_wp2_with fail
      (with_reducible refine (qr _).mono ?_)
      rintro e w2 ⟨rfl, rfl⟩
      clear qr
      go_wp2_with fail
      (with_reducible refine (qb _).mono ?_)
      rintro e w3 ⟨rfl, rfl⟩
      clear qb b1
      go_wp2_with fail
      have HK3 := hid HK1.out
      go_loopw [0, 9] (fun v0 v9 wr => Kp [] w wr ∧ ∃ q : Nat, v9 = .int .u8 ((48 + q : Nat) : Int) ∧ v0 = .string ⟨(digN T (X - q * y)).toArray⟩ ∧ q ≤ 9 ∧ q * y ≤ X) (fun _ v9 _ => (58 - intOf v9).toNat)
      case atStart => exact ⟨HK3.out, 0, rfl, by rw [Nat.zero_mul, Nat.sub_zero], Nat.zero_le _, by omega⟩
      case round =>
        obtain ⟨kr, q, rfl, rfl, hq9, hqy⟩ := hrel
        have hle := HX.out.1
        have hless := less_val (digN T (X - q * y)) (digN T y) (digs_digN _ _) (digs_digN _ _) (by rw [length_digN, length_digN])
        rw [val_digN, val_digN, Nat.mod_eq_of_lt (show X - q * y < 10 ^ T by omega), Nat.mod_eq_of_lt HX.out.2.2.1] at hless
        have qm := fun h W => rminus_any W (digN T (X - q * y)) (digN T y) (digs_digN _ _) (digs_digN _ _) (by rw [length_digN, length_digN]) (by rw [length_digN]; omega) h
        rw [val_digN, val_digN, Nat.mod_eq_of_lt (show X - q * y < 10 ^ T by omega), Nat.mod_eq_of_lt HX.out.2.2.1, length_digN] at qm
        by_cases hgo : y ≤ X - q * y
        · have h10 := HX.out.2.1
          have e1 : (q + 1) * y = q * y + y := by rw [Nat.add_mul, Nat.one_mul]
          have hq8 : q + 1 ≤ 9 := by
            rcases Nat.lt_or_ge 9 (q + 1) with h | h
            · exfalso
              have : 10 * y ≤ (q + 1) * y := Nat.mul_le_mul_right _ h
              omega
            · exact h
          have qm1 := qm hgo
          rw [show X - q * y - y = X - (q + 1) * y by omega] at qm1
          rw [decide_eq_false (by omega)] at hless
          have HQ := hid (And.intro hq8 (show (q + 1) * y ≤ X by omega))
          have u3 : IntKind.u8.wrap (48 + (q : Int) + 1) = 48 + (q : Int) + 1 := IntWalk.u8_in _ (by omega)
          have HR := hid kr
          obtain ⟨L1, hL1⟩ : ∃ L, L = digN T (X - q * y) := ⟨_, rfl⟩
          obtain ⟨L2, hL2⟩ : ∃ L, L = digN T y := ⟨_, rfl⟩
          obtain ⟨L3, hL3⟩ : ∃ L, L = digN T (X - (q + 1) * y) := ⟨_, rfl⟩
          simp only [← hL1, ← hL2, ← hL3] at hless qm1 ⊢
          have H3 := hid hL3
          clear qm hgo h10 e1 hq8 kr hL1 hL2 hL3 hle hqy
          go_wp2_with fail
          (with_reducible refine (qm1 _).mono ?_)
          rintro e w4 ⟨rfl, k4⟩
          have HK4 := hid (HR.out.nil k4)
          clear k4 qm1
          go_wp2_with fail
          go_roundw
          case rel => exact ⟨HK4.out, q + 1, by go_num, by rw [H3.out], HQ.out.1, HQ.out.2⟩
          case measure => simp [intOf]; omega
        · have hy0 : 0 < y := by omega
          have hdiv : X / y = q := by
            refine Nat.div_eq_of_lt_le hqy ?_
            rw [Nat.add_mul, Nat.one_mul]
            omega
          have hmod : X % y = X - q * y := by
            have := Nat.div_add_mod X y
            rw [hdiv, Nat.mul_comm] at this
            omega
          rw [decide_eq_true (by omega)] at hless
          rw [← hmod] at hless ⊢
          have HF := hid (And.intro hdiv kr)
          obtain ⟨L1, hL1⟩ : ∃ L, L = digN T (X % y) := ⟨_, rfl⟩
          obtain ⟨L2, hL2⟩ : ∃ L, L = digN T y := ⟨_, rfl⟩
          simp only [← hL1, ← hL2] at hless ⊢
          have H1 := hid hL1
          clear qm hgo hy0 hdiv hmod kr hL1 hL2 hle hqy
          go_wp2_with fail
          go_ret2
          exact ⟨by rw [HF.out.1, ← H1.out]; rfl, HF.out.2⟩
/-- The whole quotient's digits, and what is left. -/
def LongPost (w : World) (D : List UInt8) (T y : Nat) (e : Ending) (w' : World) : Prop := ∃ (O R : List UInt8) (x : Nat), e = .returned (.tuple #[.string ⟨O.toArray⟩, .string ⟨R.toArray⟩]) ∧ LongI y D O x ∧ Digs R ∧ val R = x ∧ R.length ≤ T ∧ Kp [] w w'
set_option maxRecDepth 100000 in
set_option maxHeartbeats 6400000 in
theorem qlong_any (w : World) (D B : List UInt8) (hD : Digs D) (hB : Digs B) (lD : D.length ≤ 9000) (lB : B.length ≤ 9000) (hy : 0 < val B) :
    Calls Tryd.prog 75 #[.string ⟨D.toArray⟩, .string ⟨B.toArray⟩] w (LongPost w D (B.length + 1) (val B)) := by
  have hDs : (⟨D.toArray⟩ : ByteArray).size = D.length := size_mk _
  have qs := fun W R c hR hc lR hx => qstep_any W R B c hR hB hc lR (by omega) hx
  obtain ⟨y, hyD⟩ : ∃ y, y = val B := ⟨_, rfl⟩
  obtain ⟨T, hT⟩ : ∃ T, T = B.length + 1 := ⟨_, rfl⟩
  rw [← hyD] at hy qs
  rw [← hT] at qs
  rw [← hyD, ← hT]
  have hyT : y ≤ 10 ^ T := by
    have h := val_lt B hB
    rw [← hyD] at h
    have h2 : 10 ^ B.length ≤ 10 ^ T := Nat.pow_le_pow_right (by decide) (by omega)
    omega
  have HD := hid (And.intro hD (And.intro hy hyT))
  have Hqs := hid qs
  have T9 : T ≤ 9001 := by omega
  have T1 : 1 ≤ T := by omega
  clear hyD hT hD hB qs hy hyT
  go_enter Tryd.func75, Tryd.ntmps75
  go_wp2_with fail
  go_loopw [6, 7, 8] (fun v6 v7 v8 wr => Kp [] w wr ∧ ∃ (i : Nat) (O R : List UInt8) (x : Nat), v8 = .int .i64 (i : Int) ∧ v6 = .string ⟨O.toArray⟩ ∧ v7 = .string ⟨R.toArray⟩ ∧ i ≤ D.length ∧ LongI y (D.take i) O x ∧ Digs R ∧ val R = x ∧ R.length ≤ T) (fun _ _ v8 _ => D.length - (intOf v8).toNat)
  case atStart => exact ⟨Kp.refl _ _, 0, [], [48], 0, rfl, rfl, rfl, Nat.zero_le _, LongI.start HD.out.2.1, by decide, rfl, T1⟩
  case round =>
    obtain ⟨kr, i, O, R, x, rfl, rfl, rfl, hi, hL, dR, vR, lR⟩ := hrel
    by_cases hlt : i < D.length
    · have hcd : Dig D[i] := HD.out.1 _ (List.getElem_mem hlt)
      have htk := List.take_append_getElem hlt
      obtain ⟨c, hc⟩ : ∃ c, c = D[i] := ⟨_, rfl⟩
      obtain ⟨m, hm⟩ : ∃ m, m = c.toNat := ⟨_, rfl⟩
      have ig := byte_at D i m hlt (by rw [hm, hc])
      rw [← hc] at htk hcd
      have hcd2 := hcd
      unfold Dig at hcd2
      rw [← hm] at hcd2
      obtain ⟨hL2, hq9, hlt10⟩ := hL.next hcd
      rw [htk] at hL2
      have q := fun W => Hqs.out W R c dR hcd (by omega) (by rw [vR]; exact hL.2.2.2)
      unfold StepPost at q
      rw [vR, ← hm] at q
      rw [← hm] at hL2 hq9
      obtain ⟨X, hX⟩ : ∃ X, X = x * 10 + (m - 48) := ⟨_, rfl⟩
      simp only [← hX] at q hL2 hq9
      obtain ⟨qd, hqd⟩ : ∃ qd, qd = X / y := ⟨_, rfl⟩
      rw [← hqd] at hL2 hq9
      simp only [← hqd] at q
      have hOl : O.length ≤ 9000 := by have := hL.2.1; rw [List.length_take] at this; omega
      have hxT : X % y < 10 ^ T := Nat.lt_of_lt_of_le hL2.2.2.2 HD.out.2.2
      have hvx : val (digN T (X % y)) = X % y := by rw [val_digN, Nat.mod_eq_of_lt hxT]
      obtain ⟨R2, hR2⟩ : ∃ R2, R2 = digN T (X % y) := ⟨_, rfl⟩
      have dR2 : Digs R2 := by rw [hR2]; exact digs_digN _ _
      have lR2 : R2.length = T := by rw [hR2]; exact length_digN _ _
      rw [← hR2] at hvx
      simp only [← hR2] at q
      have htx := fun W => one_less qd (by omega) W
      have hadd := fun W => run_add_text (P := Tryd.prog) O [dg qd] (O ++ [dg qd]) rfl (by simp; omega) W
      have HQ := hid (And.intro hL2 (And.intro dR2 (And.intro lR2 (And.intro hvx kr))))
      have i0 : (i : Int) < (D.length : Int) := by omega
      obtain ⟨O2, hO2⟩ : ∃ O2, O2 = O ++ [dg qd] := ⟨_, rfl⟩
      simp only [← hO2] at hadd HQ
      clear hL2 dR2 lR2 hvx hxT hR2 hqd hX hL dR vR lR kr hcd hcd2 hlt10 htk hc hm hOl hO2
      go_wp2_with fail
      (with_reducible refine (q _).mono ?_)
      rintro e w2 ⟨rfl, k2⟩
      have HK2 := hid (HQ.out.2.2.2.2.nil k2)
      clear k2 q
      go_wp2_with fail
      go_roundw
      case rel => exact ⟨HK2.out.alloc _, i + 1, O2, R2, X % y, by go_num, rfl, rfl, by omega, HQ.out.1, HQ.out.2.1, HQ.out.2.2.2.1, by rw [HQ.out.2.2.1]; exact Nat.le_refl _⟩
      case measure => simp [intOf]; omega
    · rw [List.take_of_length_le (by omega)] at hL
      have HF := hid (And.intro hL (And.intro dR (And.intro vR (And.intro lR kr))))
      clear hL dR vR lR kr
      go_wp2_with fail
      go_ret2
      exact ⟨O, R, x, rfl, HF.out⟩
end Go.Proofs.YtampgimmodomoaaDoor
