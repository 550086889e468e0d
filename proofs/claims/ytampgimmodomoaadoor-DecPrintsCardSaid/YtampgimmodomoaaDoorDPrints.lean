/- DecPrints: the form of a printed decimal; an exponent behind it. -/
import Derived.Test.YtampgimmodomoaaDoorDSym
import Derived.Test.YtampgimmodomoaaDoorDPointLaw
import Derived.Test.YtampgimmodomoaaDoorDMore
import Derived.IntWalk
import Derived.Deep.Cut
namespace Go.Proofs.YtampgimmodomoaaDoor
open Go Go.RowKit Go.Lib

theorem parse_sym {l : List UInt8} (hl : l.length ≤ 100000) {O : Option Dc} (h : parseL l = some O) : Gives 20 #[.string ⟨l.toArray⟩] O := fun W => (parse_any W l hl).mono fun e w' ⟨h1, h2⟩ => ⟨by rw [h1, h]; exact congrArg Ending.returned (resV_is O), h2⟩
theorem dg_val (u : Nat) (hu : u < 10) : Value.int .u8 (48 + (u : Int)) = u8 (dg u) := by
  unfold u8
  rw [dg_toNat]
  congr 1
  omega
theorem one_less (u : Nat) (hu : u < 10) (W : World) : (convert 32 9 (.slice (some ⟨W.heap.size, 0, none⟩) 1 1)).run Tryd.prog (W.alloc (.cells #[.int .u8 (48 + (u : Int))] 5)) = .ok (.string ⟨#[dg u]⟩) (W.alloc (.cells #[.int .u8 (48 + (u : Int))] 5)) := by
  rw [dg_val u hu]
  exact run_text (P := Tryd.prog) (src := 32) (e := 5) (dst := 9) (l := [dg u]) Tryd.underlying32 Tryd.underlying5 Tryd.underlying9 (Span.of_new _ _ _ _) 1 1 rfl
theorem byte_at (L : List UInt8) (k m : Nat) (hk : k < L.length) (hm : m = (L[k]'hk).toNat) : ∀ g : k < (⟨L.toArray⟩ : ByteArray).size, ((⟨L.toArray⟩ : ByteArray)[k]'g).toNat = m := fun g => by rw [hm]; rfl
theorem pt_step {L : List UInt8} {k : Nat} (hk : k < L.length) : ptL L (k + 1) = if (L[k]'hk).toNat = 46 then (k : Int) else ptL L k := by
  show (if L[k]? = some 46 then (k : Int) else ptL L k) = _
  rw [List.getElem?_eq_getElem hk]
  by_cases h : (L[k]'hk).toNat = 46
  · rw [if_pos h, if_pos (by rw [show L[k]'hk = 46 from UInt8.toNat_inj.1 h])]
  · rw [if_neg h, if_neg (fun e => h (by rw [Option.some.inj e]; rfl))]
theorem pt_lo (L : List UInt8) : ∀ k, -1 ≤ ptL L k ∧ ptL L k ≤ k
  | 0 => ⟨Int.le_refl _, by show (-1 : Int) ≤ _; omega⟩
  | k + 1 => by
    have := pt_lo L k
    unfold ptL
    split <;> omega
theorem print_scale {d : Dc} (hs : d.s ≠ 0) : 0 ≤ ((printL d).length : Int) - 1 - d.s := by
  have h1 := pt_print d
  rw [if_neg hs] at h1
  have h2 := pt_lo (printL d) (printL d).length
  have h3 : ptL (printL d) (printL d).length ≠ -1 := fun h => by
    obtain ⟨W, P, hW, hP, hne, hl, e⟩ := print_form d
    have hlen : (printL d).length = (if d.neg = true then [45] else ([] : List UInt8)).length + (W.length + (if P = [] then [] else 46 :: P : List UInt8).length) := by rw [e]; simp only [List.length_append]
    have hP0 : P ≠ [] := fun h => hs (by rw [← hl, h]; rfl)
    rw [if_neg hP0, List.length_cons] at hlen
    omega
  omega
theorem tens_none {d : Dc} {i : Nat} (h : tens d i = none) : ∀ k, tens d (i + k) = none
  | 0 => h
  | k + 1 => by
    show (tens d (i + k)).bind _ = none
    rw [tens_none h k]
    rfl
theorem tens_ok {d : Dc} (hd : Ok d) {i : Nat} {y : Dc} (h : tens d i = some y) : Ok y := by
  rw [tens_norm hd] at h
  exact (normZ_ok h).1
set_option maxRecDepth 100000 in
set_option maxHeartbeats 6400000 in
theorem prints_no (w : World) (n : Nat) (r : RawD) (hr : r.ok) (hm : mayL r.neg r.l r.s = false) :
    Calls Tryd.prog 4 #[.agg #[.bool r.neg, .string ⟨r.l.toArray⟩, .int .i64 r.s], .int .u8 (n : Int)] w (YesPost w) := by
  have hsh := fun W => shown_any W
  have hmay := fun W => may_not hr hm W
  clear hr hm
  have HC := hid (Cells.fresh w 23 [.bool r.neg, .string ⟨r.l.toArray⟩, .int .i64 r.s])
  have HK := hid ((Kp.refl [] w).alloc (.cells #[.bool r.neg, .string ⟨r.l.toArray⟩, .int .i64 r.s] 23))
  go_enter Tryd.func4, Tryd.ntmps4
  go_wp2_with fail
  refine (hsh _).mono ?_
  rintro e w1 ⟨rfl, k1⟩
  have C := HC.out.keep k1 (by simp)
  have z0 : _ = some (Value.bool r.neg) := C.cell 0
  have z1 : _ = some (Value.string ⟨r.l.toArray⟩) := C.cell 1
  have z2 : _ = some (Value.int .i64 r.s) := C.cell 2
  go_wp2_with fail
  refine (hmay _).mono ?_
  rintro e w2 ⟨rfl, k2⟩
  go_wp2_with fail
  go_ret
  exact ⟨rfl, ((HK.out.nil k1).nil k2)⟩
set_option maxRecDepth 100000 in
set_option maxHeartbeats 12800000 in
theorem prints_yes (w : World) (n : Nat) (hn : n < 256) (d : Dc) (hd : Ok d) :
    Calls Tryd.prog 4 #[.agg #[.bool d.neg, .string ⟨(dtxt d.n).toArray⟩, .int .i64 (d.s : Int)], .int .u8 (n : Int)] w (YesPost w) := by
  have hsh := fun W => shown_any W
  have hmay := fun W => may_ok hd W
  have hpr := fun W => print_ok hd W
  obtain ⟨K, hK⟩ : ∃ K, K = n % 10 := ⟨_, rfl⟩
  have hK10 : K < 10 := by omega
  have hKi : (n : Int) % 10 = (K : Int) := by omega
  clear hK
  have hpa := parse_sym (l := printL d ++ [101, UInt8.ofNat (48 + K)]) (by have := print_len hd; rw [List.length_append]; simp; omega) (parse_expo hd K hK10)
  have hdg : UInt8.ofNat (48 + K) = dg K := by unfold dg; rw [Nat.mod_eq_of_lt hK10]
  rw [hdg] at hpa
  have hpt := pt_print d
  have hsc := print_scale (d := d)
  obtain ⟨c0, t0, hL0, hc0⟩ := print_head d
  have hln := print_len hd
  have hlx := pt_lo (printL d)
  have hps := fun k (hk : k < (printL d).length) => pt_step hk
  have hs60 : d.s ≤ 60 := hd.2.1
  generalize printL d = L at hpr hpa hpt hsc hL0 hln hlx hps
  have hsz : (⟨L.toArray⟩ : ByteArray).size = L.length := size_mk L
  have hL1 : 0 < L.length := by rw [hL0]; simp
  have i0 : ∀ g : 0 < (⟨L.toArray⟩ : ByteArray).size, ((⟨L.toArray⟩ : ByteArray)[0]'g).toNat = c0.toNat := fun g => by subst hL0; rfl
  have hc9 : c0.toNat < 256 := c0.toNat_lt
  have hcn : d.neg = true → c0.toNat = 45 := fun h => by rw [hc0.2 h]; rfl
  have hcm : d.neg = false → c0.toNat ≠ 45 := fun h h2 => by have := hc0.1 (UInt8.toNat_inj.1 h2); rw [h] at this; cases this
  obtain ⟨m0, hm0⟩ : ∃ m, m = c0.toNat := ⟨_, rfl⟩
  simp only [← hm0] at i0 hc9 hcn hcm
  have HH := hid (And.intro hm0 (And.intro hL0 hc0))
  clear hm0 hL0 hc0
  have hmul := fun y hy => mul_sym (a := y) (b := ⟨false, 10, 0⟩) hy (ok_i64 (n := 10) (by decide))
  have d10 : dtxt (10 : Nat) = [49, 48] := by kernel_rfl
  simp only [d10] at hmul
  clear d10
  have H0 := hid (And.intro hmul hd)
  have H1 := hid (And.intro hpt (And.intro hsc (And.intro hlx hps)))
  have H2 := hid hpa
  have H3 := hid i0
  have H4 := hid (And.intro hcn hcm)
  clear hmul hd hpt hsc hlx hps hpa i0 hcn hcm hdg
  have HC := hid (Cells.fresh w 23 [.bool d.neg, .string ⟨(dtxt d.n).toArray⟩, .int .i64 (d.s : Int)])
  have HK := hid ((Kp.refl [] w).alloc (.cells #[.bool d.neg, .string ⟨(dtxt d.n).toArray⟩, .int .i64 (d.s : Int)] 23))
  have HKi := hid hKi
  clear hKi
  go_enter Tryd.func4, Tryd.ntmps4
  go_wp2_with fail
  refine (hsh _).mono ?_
  rintro e w1 ⟨rfl, k1⟩
  have C := HC.out.keep k1 (by simp)
  have z0 : _ = some (Value.bool d.neg) := C.cell 0
  have z1 : _ = some (Value.string ⟨(dtxt d.n).toArray⟩) := C.cell 1
  have z2 : _ = some (Value.int .i64 (d.s : Int)) := C.cell 2
  clear C
  go_wp2_with fail
  refine (hmay _).mono ?_
  rintro e w2 ⟨rfl, k2⟩
  replace z0 := k2.cell z0 (by simp)
  replace z1 := k2.cell z1 (by simp)
  replace z2 := k2.cell z2 (by simp)
  go_wp2_with fail
  refine (hpr _).mono ?_
  rintro e w3 ⟨rfl, k3⟩
  replace z0 := k3.cell z0 (by simp)
  replace z1 := k3.cell z1 (by simp)
  replace z2 := k3.cell z2 (by simp)
  clear hsh hmay hpr
  go_wp2_with fail
  go_loopw [7, 8] (fun vp vi wr => wr = w3 ∧ ∃ k : Nat, vp = .int .i64 (ptL L k) ∧ vi = .int .i64 (k : Int) ∧ k ≤ L.length) (fun _ vi _ => L.length - (intOf vi).toNat)
  case atStart => exact ⟨rfl, 0, rfl, rfl, Nat.zero_le _⟩
  case round =>
    obtain ⟨hwr, k, rfl, rfl, hk⟩ := hrel
    have hwr2 := hwr.symm
    subst hwr2
    by_cases hlt : k < L.length
    · obtain ⟨m, hm⟩ : ∃ m, m = (L[k]'hlt).toNat := ⟨_, rfl⟩
      have ik := byte_at L k m hlt hm
      have hst := H1.out.2.2.2 k hlt
      rw [← hm] at hst
      have hm9 : m < 256 := by rw [hm]; exact UInt8.toNat_lt _
      clear hm
      obtain ⟨P, hP⟩ : ∃ P, P = ptL L k := ⟨_, rfl⟩
      rw [← hP] at hst ⊢
      have HP := hid hP
      clear hP
      by_cases h46 : m = 46
      · rw [if_pos h46] at hst
        subst h46
        have Hst := hid hst
        clear hst
        go_wp2_with fail
        go_roundw
        case rel => exact ⟨trivial, k + 1, by rw [Hst.out], by go_num, by omega⟩
        case measure => simp [intOf]; omega
      · rw [if_neg h46] at hst
        have Hst := hid hst
        have b1 : ((m : Int) == 46) = false := by rw [beq_eq_false_iff_ne]; omega
        clear hst
        go_wp2_with fail
        go_roundw
        case rel => exact ⟨trivial, k + 1, by rw [Hst.out], by go_num, by omega⟩
        case measure => simp [intOf]; omega
    · have hkl : k = L.length := by omega
      obtain ⟨hpt, hsc, hlx, -⟩ := H1.out
      rw [← hkl] at hpt
      obtain ⟨P, hP⟩ : ∃ P, P = ptL L k := ⟨_, rfl⟩
      rw [← hP] at hpt ⊢
      have Hkl := hid hkl
      clear hP hlx hkl
      have HPt := hid hpt
      clear hpt
      have Hsc := hid hsc
      clear hsc
      go_upto_region 11 with fail
      go_cut [65] (fun v wx => v = .bool false ∧ Kp [] w3 wx)
      case first =>
        have hi1 := H3.out
        have hL64 : (L.length : Int) ≤ 63 := by omega
        have hpos : (0 : Int) < (L.length : Int) := by omega
        have bl0 : ((L.length : Int) == 0) = false := by rw [beq_eq_false_iff_ne]; omega
        rcases (show d.neg = false ∨ d.neg = true by cases d.neg <;> simp) with hng | hng
        · have hm := H4.out.2 hng
          have b1 : ((m0 : Int) == 45) = false := by rw [beq_eq_false_iff_ne]; omega
          rw [hng] at z0
          clear hng
          by_cases hs : d.s = 0
          · have hPv := HPt.out
            rw [if_pos hs] at hPv
            have hsi : (d.s : Int) = 0 := by omega
            rw [hsi] at z2
            have b2 : decide (P < 0) = true := decide_eq_true (by omega)
            have b4 : decide (0 ≤ P) = false := decide_eq_false (by omega)
            clear hPv hs hsi
            refine lin_start (fun w' => w'.cell? ⟨w.heap.size, 0, none⟩ = some (Value.bool false) ∧ w'.cell? ⟨w.heap.size, 2, none⟩ = some (Value.int .i64 0)) ((Stays.cell _ _).and ((Stays.cell _ _))) (by kernel_rfl) ⟨z0, z2⟩ (fun hSS hS => ?_)
            refine lin_val (i := 0) (v := ?_) rfl (by kernel_rfl) (by kernel_rfl) (by kernel_rfl) (fun _ _ _ h => h) hSS hS rfl (fun w hSw => ?_) ?_
            rotate_left
            · obtain ⟨q0, q1⟩ := hSw; go_simp; first | done | with_reducible rfl
            simp only [Act.put, List.setIfInBounds_toArray, List.set_cons_zero, List.set_cons_succ]
            refine lin_val (i := 1) (v := ?_) rfl (by kernel_rfl) (by kernel_rfl) (by kernel_rfl) (fun _ _ _ h => h) hSS hS rfl (fun w hSw => ?_) ?_
            rotate_left
            · obtain ⟨q0, q1⟩ := hSw; go_simp; first | done | with_reducible rfl
            simp only [Act.put, List.setIfInBounds_toArray, List.set_cons_zero, List.set_cons_succ]
            refine lin_val (i := 2) (v := ?_) rfl (by kernel_rfl) (by kernel_rfl) (by kernel_rfl) (fun _ _ _ h => h) hSS hS rfl (fun w hSw => ?_) ?_
            rotate_left
            · obtain ⟨q0, q1⟩ := hSw; go_simp; first | done | with_reducible rfl
            simp only [Act.put, List.setIfInBounds_toArray, List.set_cons_zero, List.set_cons_succ]
            refine lin_val (i := 3) (v := ?_) rfl (by kernel_rfl) (by kernel_rfl) (by kernel_rfl) (fun _ _ _ h => h) hSS hS rfl (fun w hSw => ?_) ?_
            rotate_left
            · obtain ⟨q0, q1⟩ := hSw; go_simp; first | done | with_reducible rfl
            simp only [Act.put, List.setIfInBounds_toArray, List.set_cons_zero, List.set_cons_succ]
            refine lin_val (i := 4) (v := ?_) rfl (by kernel_rfl) (by kernel_rfl) (by kernel_rfl) (fun _ _ _ h => h) hSS hS rfl (fun w hSw => ?_) ?_
            rotate_left
            · obtain ⟨q0, q1⟩ := hSw; go_simp; first | done | with_reducible rfl
            simp only [Act.put, List.setIfInBounds_toArray, List.set_cons_zero, List.set_cons_succ]
            refine lin_val (i := 5) (v := ?_) rfl (by kernel_rfl) (by kernel_rfl) (by kernel_rfl) (fun _ _ _ h => h) hSS hS rfl (fun w hSw => ?_) ?_
            rotate_left
            · obtain ⟨q0, q1⟩ := hSw; go_simp; first | done | with_reducible rfl
            simp only [Act.put, List.setIfInBounds_toArray, List.set_cons_zero, List.set_cons_succ]
            refine lin_val (i := 6) (v := ?_) rfl (by kernel_rfl) (by kernel_rfl) (by kernel_rfl) (fun _ _ _ h => h) hSS hS rfl (fun w hSw => ?_) ?_
            rotate_left
            · obtain ⟨q0, q1⟩ := hSw; go_simp; first | done | with_reducible rfl
            simp only [Act.put, List.setIfInBounds_toArray, List.set_cons_zero, List.set_cons_succ]
            refine lin_val (i := 7) (v := ?_) rfl (by kernel_rfl) (by kernel_rfl) (by kernel_rfl) (fun _ _ _ h => h) hSS hS rfl (fun w hSw => ?_) ?_
            rotate_left
            · obtain ⟨q0, q1⟩ := hSw; go_simp; first | done | with_reducible rfl
            simp only [Act.put, List.setIfInBounds_toArray, List.set_cons_zero, List.set_cons_succ]
            refine lin_val (i := 8) (v := ?_) rfl (by kernel_rfl) (by kernel_rfl) (by kernel_rfl) (fun _ _ _ h => h) hSS hS rfl (fun w hSw => ?_) ?_
            rotate_left
            · obtain ⟨q0, q1⟩ := hSw; go_simp; first | done | with_reducible rfl
            simp only [Act.put, List.setIfInBounds_toArray, List.set_cons_zero, List.set_cons_succ]
            refine lin_val (i := 9) (v := ?_) rfl (by kernel_rfl) (by kernel_rfl) (by kernel_rfl) (fun _ _ _ h => h) hSS hS rfl (fun w hSw => ?_) ?_
            rotate_left
            · obtain ⟨q0, q1⟩ := hSw; go_simp; first | done | with_reducible rfl
            simp only [Act.put, List.setIfInBounds_toArray, List.set_cons_zero, List.set_cons_succ]
            refine lin_val (i := 10) (v := ?_) rfl (by kernel_rfl) (by kernel_rfl) (by kernel_rfl) (fun _ _ _ h => h) hSS hS rfl (fun w hSw => ?_) ?_
            rotate_left
            · obtain ⟨q0, q1⟩ := hSw; go_simp; first | done | with_reducible rfl
            simp only [Act.put, List.setIfInBounds_toArray, List.set_cons_zero, List.set_cons_succ]
            refine lin_val (i := 11) (v := ?_) rfl (by kernel_rfl) (by kernel_rfl) (by kernel_rfl) (fun _ _ _ h => h) hSS hS rfl (fun w hSw => ?_) ?_
            rotate_left
            · obtain ⟨q0, q1⟩ := hSw; go_simp; first | done | with_reducible rfl
            simp only [Act.put, List.setIfInBounds_toArray, List.set_cons_zero, List.set_cons_succ]
            refine lin_val (i := 12) (v := ?_) rfl (by kernel_rfl) (by kernel_rfl) (by kernel_rfl) (fun _ _ _ h => h) hSS hS rfl (fun w hSw => ?_) ?_
            rotate_left
            · obtain ⟨q0, q1⟩ := hSw; go_simp; first | done | with_reducible rfl
            simp only [Act.put, List.setIfInBounds_toArray, List.set_cons_zero, List.set_cons_succ]
            refine lin_val (i := 13) (v := ?_) rfl (by kernel_rfl) (by kernel_rfl) (by kernel_rfl) (fun _ _ _ h => h) hSS hS rfl (fun w hSw => ?_) ?_
            rotate_left
            · obtain ⟨q0, q1⟩ := hSw; go_simp; first | done | with_reducible rfl
            simp only [Act.put, List.setIfInBounds_toArray, List.set_cons_zero, List.set_cons_succ]
            refine lin_val (i := 14) (v := ?_) rfl (by kernel_rfl) (by kernel_rfl) (by kernel_rfl) (fun _ _ _ h => h) hSS hS rfl (fun w hSw => ?_) ?_
            rotate_left
            · obtain ⟨q0, q1⟩ := hSw; go_simp; first | done | with_reducible rfl
            simp only [Act.put, List.setIfInBounds_toArray, List.set_cons_zero, List.set_cons_succ]
            refine lin_val (i := 15) (v := ?_) rfl (by kernel_rfl) (by kernel_rfl) (by kernel_rfl) (fun _ _ _ h => h) hSS hS rfl (fun w hSw => ?_) ?_
            rotate_left
            · obtain ⟨q0, q1⟩ := hSw; go_simp; first | done | with_reducible rfl
            simp only [Act.put, List.setIfInBounds_toArray, List.set_cons_zero, List.set_cons_succ]
            refine lin_val (i := 16) (v := ?_) rfl (by kernel_rfl) (by kernel_rfl) (by kernel_rfl) (fun _ _ _ h => h) hSS hS rfl (fun w hSw => ?_) ?_
            rotate_left
            · obtain ⟨q0, q1⟩ := hSw; go_simp; first | done | with_reducible rfl
            simp only [Act.put, List.setIfInBounds_toArray, List.set_cons_zero, List.set_cons_succ]
            refine lin_val (i := 17) (v := ?_) rfl (by kernel_rfl) (by kernel_rfl) (by kernel_rfl) (fun _ _ _ h => h) hSS hS rfl (fun w hSw => ?_) ?_
            rotate_left
            · obtain ⟨q0, q1⟩ := hSw; go_simp; first | done | with_reducible rfl
            simp only [Act.put, List.setIfInBounds_toArray, List.set_cons_zero, List.set_cons_succ]
            refine lin_val (i := 18) (v := ?_) rfl (by kernel_rfl) (by kernel_rfl) (by kernel_rfl) (fun _ _ _ h => h) hSS hS rfl (fun w hSw => ?_) ?_
            rotate_left
            · obtain ⟨q0, q1⟩ := hSw; go_simp; first | done | with_reducible rfl
            simp only [Act.put, List.setIfInBounds_toArray, List.set_cons_zero, List.set_cons_succ]
            refine lin_val (i := 19) (v := ?_) rfl (by kernel_rfl) (by kernel_rfl) (by kernel_rfl) (fun _ _ _ h => h) hSS hS rfl (fun w hSw => ?_) ?_
            rotate_left
            · obtain ⟨q0, q1⟩ := hSw; go_simp; first | done | with_reducible rfl
            simp only [Act.put, List.setIfInBounds_toArray, List.set_cons_zero, List.set_cons_succ]
            refine lin_val (i := 20) (v := ?_) rfl (by kernel_rfl) (by kernel_rfl) (by kernel_rfl) (fun _ _ _ h => h) hSS hS rfl (fun w hSw => ?_) ?_
            rotate_left
            · obtain ⟨q0, q1⟩ := hSw; go_simp; first | done | with_reducible rfl
            simp only [Act.put, List.setIfInBounds_toArray, List.set_cons_zero, List.set_cons_succ]
            refine lin_val (i := 21) (v := ?_) rfl (by kernel_rfl) (by kernel_rfl) (by kernel_rfl) (fun _ _ _ h => h) hSS hS rfl (fun w hSw => ?_) ?_
            rotate_left
            · obtain ⟨q0, q1⟩ := hSw; go_simp; first | done | with_reducible rfl
            simp only [Act.put, List.setIfInBounds_toArray, List.set_cons_zero, List.set_cons_succ]
            refine lin_val (i := 22) (v := ?_) rfl (by kernel_rfl) (by kernel_rfl) (by kernel_rfl) (fun _ _ _ h => h) hSS hS rfl (fun w hSw => ?_) ?_
            rotate_left
            · obtain ⟨q0, q1⟩ := hSw; go_simp; first | done | with_reducible rfl
            simp only [Act.put, List.setIfInBounds_toArray, List.set_cons_zero, List.set_cons_succ]
            refine lin_not (i := 23) rfl (by kernel_rfl) (by kernel_rfl) (by kernel_rfl) (fun _ _ _ h => h) hSS hS rfl ?_
            simp only [Act.put, List.setIfInBounds_toArray, List.set_cons_zero, List.set_cons_succ]
            refine lin_not (i := 24) rfl (by kernel_rfl) (by kernel_rfl) (by kernel_rfl) (fun _ _ _ h => h) hSS hS rfl ?_
            simp only [Act.put, List.setIfInBounds_toArray, List.set_cons_zero, List.set_cons_succ]
            refine lin_not (i := 25) rfl (by kernel_rfl) (by kernel_rfl) (by kernel_rfl) (fun _ _ _ h => h) hSS hS rfl ?_
            simp only [Act.put, List.setIfInBounds_toArray, List.set_cons_zero, List.set_cons_succ]
            refine lin_not (i := 26) rfl (by kernel_rfl) (by kernel_rfl) (by kernel_rfl) (fun _ _ _ h => h) hSS hS rfl ?_
            simp only [Act.put, List.setIfInBounds_toArray, List.set_cons_zero, List.set_cons_succ]
            refine lin_not (i := 27) rfl (by kernel_rfl) (by kernel_rfl) (by kernel_rfl) (fun _ _ _ h => h) hSS hS rfl ?_
            simp only [Act.put, List.setIfInBounds_toArray, List.set_cons_zero, List.set_cons_succ]
            refine lin_not (i := 28) rfl (by kernel_rfl) (by kernel_rfl) (by kernel_rfl) (fun _ _ _ h => h) hSS hS rfl ?_
            simp only [Act.put, List.setIfInBounds_toArray, List.set_cons_zero, List.set_cons_succ]
            refine lin_not (i := 29) rfl (by kernel_rfl) (by kernel_rfl) (by kernel_rfl) (fun _ _ _ h => h) hSS hS rfl ?_
            simp only [Act.put, List.setIfInBounds_toArray, List.set_cons_zero, List.set_cons_succ]
            refine lin_not (i := 30) rfl (by kernel_rfl) (by kernel_rfl) (by kernel_rfl) (fun _ _ _ h => h) hSS hS rfl ?_
            simp only [Act.put, List.setIfInBounds_toArray, List.set_cons_zero, List.set_cons_succ]
            refine lin_val (i := 31) (v := ?_) rfl (by kernel_rfl) (by kernel_rfl) (by kernel_rfl) (fun _ _ _ h => h) hSS hS rfl (fun w hSw => ?_) ?_
            rotate_left
            · obtain ⟨q0, q1⟩ := hSw; go_simp; first | done | with_reducible rfl
            simp only [Act.put, List.setIfInBounds_toArray, List.set_cons_zero, List.set_cons_succ]
            refine lin_val (i := 32) (v := ?_) rfl (by kernel_rfl) (by kernel_rfl) (by kernel_rfl) (fun _ _ _ h => h) hSS hS rfl (fun w hSw => ?_) ?_
            rotate_left
            · obtain ⟨q0, q1⟩ := hSw; go_simp; first | done | with_reducible rfl
            simp only [Act.put, List.setIfInBounds_toArray, List.set_cons_zero, List.set_cons_succ]
            refine lin_done (by kernel_rfl) (fun wq kq => ?_) _
            clear hS hSS
            go_wp2_with fail
            go_meet
            exact ⟨rfl, (Kp.refl [] w3).drew.nil kq⟩
          · have hPv := HPt.out
            rw [if_neg hs] at hPv
            have hP0 := Hsc.out hs
            have hkl := Hkl.out
            have hP1 : 0 ≤ P := by omega
            have hP2 : P ≤ 63 := by omega
            have b2 : decide (P < 0) = false := decide_eq_false (by omega)
            have b3 : ((d.s : Int) == 0) = false := by rw [beq_eq_false_iff_ne]; omega
            have b4 : decide (0 ≤ P) = true := decide_eq_true (by omega)
            obtain ⟨q, hq⟩ : ∃ q : Int, q = (L.length : Int) - P := ⟨_, rfl⟩
            have w1 : IntKind.i64.wrap ((L.length : Int) - P) = q := by rw [hq]; exact IntWalk.i64_in _ (by omega)
            have w2 : IntKind.i64.wrap (q - 1) = (d.s : Int) := by rw [IntWalk.i64_in _ (by omega)]; omega
            have b5 : decide (0 < P) = decide (0 < P) := rfl
            clear hq hPv hP0 hkl hs b5
            refine lin_start (fun w' => w'.cell? ⟨w.heap.size, 0, none⟩ = some (Value.bool false) ∧ w'.cell? ⟨w.heap.size, 2, none⟩ = some (Value.int .i64 (d.s : Int))) ((Stays.cell _ _).and ((Stays.cell _ _))) (by kernel_rfl) ⟨z0, z2⟩ (fun hSS hS => ?_)
            refine lin_val (i := 0) (v := ?_) rfl (by kernel_rfl) (by kernel_rfl) (by kernel_rfl) (fun _ _ _ h => h) hSS hS rfl (fun w hSw => ?_) ?_
            rotate_left
            · obtain ⟨q0, q1⟩ := hSw; go_simp; first | done | with_reducible rfl
            simp only [Act.put, List.setIfInBounds_toArray, List.set_cons_zero, List.set_cons_succ]
            refine lin_val (i := 1) (v := ?_) rfl (by kernel_rfl) (by kernel_rfl) (by kernel_rfl) (fun _ _ _ h => h) hSS hS rfl (fun w hSw => ?_) ?_
            rotate_left
            · obtain ⟨q0, q1⟩ := hSw; go_simp; first | done | with_reducible rfl
            simp only [Act.put, List.setIfInBounds_toArray, List.set_cons_zero, List.set_cons_succ]
            refine lin_val (i := 2) (v := ?_) rfl (by kernel_rfl) (by kernel_rfl) (by kernel_rfl) (fun _ _ _ h => h) hSS hS rfl (fun w hSw => ?_) ?_
            rotate_left
            · obtain ⟨q0, q1⟩ := hSw; go_simp; first | done | with_reducible rfl
            simp only [Act.put, List.setIfInBounds_toArray, List.set_cons_zero, List.set_cons_succ]
            refine lin_val (i := 3) (v := ?_) rfl (by kernel_rfl) (by kernel_rfl) (by kernel_rfl) (fun _ _ _ h => h) hSS hS rfl (fun w hSw => ?_) ?_
            rotate_left
            · obtain ⟨q0, q1⟩ := hSw; go_simp; first | done | with_reducible rfl
            simp only [Act.put, List.setIfInBounds_toArray, List.set_cons_zero, List.set_cons_succ]
            refine lin_val (i := 4) (v := ?_) rfl (by kernel_rfl) (by kernel_rfl) (by kernel_rfl) (fun _ _ _ h => h) hSS hS rfl (fun w hSw => ?_) ?_
            rotate_left
            · obtain ⟨q0, q1⟩ := hSw; go_simp; first | done | with_reducible rfl
            simp only [Act.put, List.setIfInBounds_toArray, List.set_cons_zero, List.set_cons_succ]
            refine lin_val (i := 5) (v := ?_) rfl (by kernel_rfl) (by kernel_rfl) (by kernel_rfl) (fun _ _ _ h => h) hSS hS rfl (fun w hSw => ?_) ?_
            rotate_left
            · obtain ⟨q0, q1⟩ := hSw; go_simp; first | done | with_reducible rfl
            simp only [Act.put, List.setIfInBounds_toArray, List.set_cons_zero, List.set_cons_succ]
            refine lin_val (i := 6) (v := ?_) rfl (by kernel_rfl) (by kernel_rfl) (by kernel_rfl) (fun _ _ _ h => h) hSS hS rfl (fun w hSw => ?_) ?_
            rotate_left
            · obtain ⟨q0, q1⟩ := hSw; go_simp; first | done | with_reducible rfl
            simp only [Act.put, List.setIfInBounds_toArray, List.set_cons_zero, List.set_cons_succ]
            refine lin_val (i := 7) (v := ?_) rfl (by kernel_rfl) (by kernel_rfl) (by kernel_rfl) (fun _ _ _ h => h) hSS hS rfl (fun w hSw => ?_) ?_
            rotate_left
            · obtain ⟨q0, q1⟩ := hSw; go_simp; first | done | with_reducible rfl
            simp only [Act.put, List.setIfInBounds_toArray, List.set_cons_zero, List.set_cons_succ]
            refine lin_val (i := 8) (v := ?_) rfl (by kernel_rfl) (by kernel_rfl) (by kernel_rfl) (fun _ _ _ h => h) hSS hS rfl (fun w hSw => ?_) ?_
            rotate_left
            · obtain ⟨q0, q1⟩ := hSw; go_simp; first | done | with_reducible rfl
            simp only [Act.put, List.setIfInBounds_toArray, List.set_cons_zero, List.set_cons_succ]
            refine lin_val (i := 9) (v := ?_) rfl (by kernel_rfl) (by kernel_rfl) (by kernel_rfl) (fun _ _ _ h => h) hSS hS rfl (fun w hSw => ?_) ?_
            rotate_left
            · obtain ⟨q0, q1⟩ := hSw; go_simp; first | done | with_reducible rfl
            simp only [Act.put, List.setIfInBounds_toArray, List.set_cons_zero, List.set_cons_succ]
            refine lin_val (i := 10) (v := ?_) rfl (by kernel_rfl) (by kernel_rfl) (by kernel_rfl) (fun _ _ _ h => h) hSS hS rfl (fun w hSw => ?_) ?_
            rotate_left
            · obtain ⟨q0, q1⟩ := hSw; go_simp; first | done | with_reducible rfl
            simp only [Act.put, List.setIfInBounds_toArray, List.set_cons_zero, List.set_cons_succ]
            refine lin_val (i := 11) (v := ?_) rfl (by kernel_rfl) (by kernel_rfl) (by kernel_rfl) (fun _ _ _ h => h) hSS hS rfl (fun w hSw => ?_) ?_
            rotate_left
            · obtain ⟨q0, q1⟩ := hSw; go_simp; first | done | with_reducible rfl
            simp only [Act.put, List.setIfInBounds_toArray, List.set_cons_zero, List.set_cons_succ]
            refine lin_val (i := 12) (v := ?_) rfl (by kernel_rfl) (by kernel_rfl) (by kernel_rfl) (fun _ _ _ h => h) hSS hS rfl (fun w hSw => ?_) ?_
            rotate_left
            · obtain ⟨q0, q1⟩ := hSw; go_simp; first | done | with_reducible rfl
            simp only [Act.put, List.setIfInBounds_toArray, List.set_cons_zero, List.set_cons_succ]
            refine lin_val (i := 13) (v := ?_) rfl (by kernel_rfl) (by kernel_rfl) (by kernel_rfl) (fun _ _ _ h => h) hSS hS rfl (fun w hSw => ?_) ?_
            rotate_left
            · obtain ⟨q0, q1⟩ := hSw; go_simp; first | done | with_reducible rfl
            simp only [Act.put, List.setIfInBounds_toArray, List.set_cons_zero, List.set_cons_succ]
            refine lin_val (i := 14) (v := ?_) rfl (by kernel_rfl) (by kernel_rfl) (by kernel_rfl) (fun _ _ _ h => h) hSS hS rfl (fun w hSw => ?_) ?_
            rotate_left
            · obtain ⟨q0, q1⟩ := hSw; go_simp; first | done | with_reducible rfl
            simp only [Act.put, List.setIfInBounds_toArray, List.set_cons_zero, List.set_cons_succ]
            refine lin_val (i := 15) (v := ?_) rfl (by kernel_rfl) (by kernel_rfl) (by kernel_rfl) (fun _ _ _ h => h) hSS hS rfl (fun w hSw => ?_) ?_
            rotate_left
            · obtain ⟨q0, q1⟩ := hSw; go_simp; first | done | with_reducible rfl
            simp only [Act.put, List.setIfInBounds_toArray, List.set_cons_zero, List.set_cons_succ]
            refine lin_val (i := 16) (v := ?_) rfl (by kernel_rfl) (by kernel_rfl) (by kernel_rfl) (fun _ _ _ h => h) hSS hS rfl (fun w hSw => ?_) ?_
            rotate_left
            · obtain ⟨q0, q1⟩ := hSw; go_simp; first | done | with_reducible rfl
            simp only [Act.put, List.setIfInBounds_toArray, List.set_cons_zero, List.set_cons_succ]
            refine lin_val (i := 17) (v := ?_) rfl (by kernel_rfl) (by kernel_rfl) (by kernel_rfl) (fun _ _ _ h => h) hSS hS rfl (fun w hSw => ?_) ?_
            rotate_left
            · obtain ⟨q0, q1⟩ := hSw; go_simp; first | done | with_reducible rfl
            simp only [Act.put, List.setIfInBounds_toArray, List.set_cons_zero, List.set_cons_succ]
            refine lin_val (i := 18) (v := ?_) rfl (by kernel_rfl) (by kernel_rfl) (by kernel_rfl) (fun _ _ _ h => h) hSS hS rfl (fun w hSw => ?_) ?_
            rotate_left
            · obtain ⟨q0, q1⟩ := hSw; go_simp; first | done | with_reducible rfl
            simp only [Act.put, List.setIfInBounds_toArray, List.set_cons_zero, List.set_cons_succ]
            refine lin_val (i := 19) (v := ?_) rfl (by kernel_rfl) (by kernel_rfl) (by kernel_rfl) (fun _ _ _ h => h) hSS hS rfl (fun w hSw => ?_) ?_
            rotate_left
            · obtain ⟨q0, q1⟩ := hSw; go_simp; first | done | with_reducible rfl
            simp only [Act.put, List.setIfInBounds_toArray, List.set_cons_zero, List.set_cons_succ]
            refine lin_val (i := 20) (v := ?_) rfl (by kernel_rfl) (by kernel_rfl) (by kernel_rfl) (fun _ _ _ h => h) hSS hS rfl (fun w hSw => ?_) ?_
            rotate_left
            · obtain ⟨q0, q1⟩ := hSw; go_simp; first | done | with_reducible rfl
            simp only [Act.put, List.setIfInBounds_toArray, List.set_cons_zero, List.set_cons_succ]
            refine lin_val (i := 21) (v := ?_) rfl (by kernel_rfl) (by kernel_rfl) (by kernel_rfl) (fun _ _ _ h => h) hSS hS rfl (fun w hSw => ?_) ?_
            rotate_left
            · obtain ⟨q0, q1⟩ := hSw; go_simp; first | done | with_reducible rfl
            simp only [Act.put, List.setIfInBounds_toArray, List.set_cons_zero, List.set_cons_succ]
            refine lin_val (i := 22) (v := ?_) rfl (by kernel_rfl) (by kernel_rfl) (by kernel_rfl) (fun _ _ _ h => h) hSS hS rfl (fun w hSw => ?_) ?_
            rotate_left
            · obtain ⟨q0, q1⟩ := hSw; go_simp; first | done | with_reducible rfl
            simp only [Act.put, List.setIfInBounds_toArray, List.set_cons_zero, List.set_cons_succ]
            refine lin_val (i := 23) (v := ?_) rfl (by kernel_rfl) (by kernel_rfl) (by kernel_rfl) (fun _ _ _ h => h) hSS hS rfl (fun w hSw => ?_) ?_
            rotate_left
            · obtain ⟨q0, q1⟩ := hSw; go_simp; first | done | with_reducible rfl
            simp only [Act.put, List.setIfInBounds_toArray, List.set_cons_zero, List.set_cons_succ]
            refine lin_val (i := 24) (v := ?_) rfl (by kernel_rfl) (by kernel_rfl) (by kernel_rfl) (fun _ _ _ h => h) hSS hS rfl (fun w hSw => ?_) ?_
            rotate_left
            · obtain ⟨q0, q1⟩ := hSw; go_simp; first | done | with_reducible rfl
            simp only [Act.put, List.setIfInBounds_toArray, List.set_cons_zero, List.set_cons_succ]
            refine lin_val (i := 25) (v := ?_) rfl (by kernel_rfl) (by kernel_rfl) (by kernel_rfl) (fun _ _ _ h => h) hSS hS rfl (fun w hSw => ?_) ?_
            rotate_left
            · obtain ⟨q0, q1⟩ := hSw; go_simp; first | done | with_reducible rfl
            simp only [Act.put, List.setIfInBounds_toArray, List.set_cons_zero, List.set_cons_succ]
            refine lin_val (i := 26) (v := ?_) rfl (by kernel_rfl) (by kernel_rfl) (by kernel_rfl) (fun _ _ _ h => h) hSS hS rfl (fun w hSw => ?_) ?_
            rotate_left
            · obtain ⟨q0, q1⟩ := hSw; go_simp; first | done | with_reducible rfl
            simp only [Act.put, List.setIfInBounds_toArray, List.set_cons_zero, List.set_cons_succ]
            refine lin_val (i := 27) (v := ?_) rfl (by kernel_rfl) (by kernel_rfl) (by kernel_rfl) (fun _ _ _ h => h) hSS hS rfl (fun w hSw => ?_) ?_
            rotate_left
            · obtain ⟨q0, q1⟩ := hSw; go_simp; first | done | with_reducible rfl
            simp only [Act.put, List.setIfInBounds_toArray, List.set_cons_zero, List.set_cons_succ]
            refine lin_val (i := 28) (v := ?_) rfl (by kernel_rfl) (by kernel_rfl) (by kernel_rfl) (fun _ _ _ h => h) hSS hS rfl (fun w hSw => ?_) ?_
            rotate_left
            · obtain ⟨q0, q1⟩ := hSw; go_simp; first | done | with_reducible rfl
            simp only [Act.put, List.setIfInBounds_toArray, List.set_cons_zero, List.set_cons_succ]
            refine lin_val (i := 29) (v := ?_) rfl (by kernel_rfl) (by kernel_rfl) (by kernel_rfl) (fun _ _ _ h => h) hSS hS rfl (fun w hSw => ?_) ?_
            rotate_left
            · obtain ⟨q0, q1⟩ := hSw; go_simp; first | done | with_reducible rfl
            simp only [Act.put, List.setIfInBounds_toArray, List.set_cons_zero, List.set_cons_succ]
            refine lin_val (i := 30) (v := ?_) rfl (by kernel_rfl) (by kernel_rfl) (by kernel_rfl) (fun _ _ _ h => h) hSS hS rfl (fun w hSw => ?_) ?_
            rotate_left
            · obtain ⟨q0, q1⟩ := hSw; go_simp; first | done | with_reducible rfl
            simp only [Act.put, List.setIfInBounds_toArray, List.set_cons_zero, List.set_cons_succ]
            refine lin_val (i := 31) (v := ?_) rfl (by kernel_rfl) (by kernel_rfl) (by kernel_rfl) (fun _ _ _ h => h) hSS hS rfl (fun w hSw => ?_) ?_
            rotate_left
            · obtain ⟨q0, q1⟩ := hSw; go_simp; first | done | with_reducible rfl
            simp only [Act.put, List.setIfInBounds_toArray, List.set_cons_zero, List.set_cons_succ]
            refine lin_val (i := 32) (v := ?_) rfl (by kernel_rfl) (by kernel_rfl) (by kernel_rfl) (fun _ _ _ h => h) hSS hS rfl (fun w hSw => ?_) ?_
            rotate_left
            · obtain ⟨q0, q1⟩ := hSw; go_simp; first | done | with_reducible rfl
            simp only [Act.put, List.setIfInBounds_toArray, List.set_cons_zero, List.set_cons_succ]
            refine lin_done (by kernel_rfl) (fun wq kq => ?_) _
            clear hS hSS
            go_wp2_with fail
            go_meet
            exact ⟨rfl, (Kp.refl [] w3).drew.nil kq⟩
        · have hm := H4.out.1 hng
          subst hm
          rw [hng] at z0
          clear hng
          by_cases hs : d.s = 0
          · have hPv := HPt.out
            rw [if_pos hs] at hPv
            have hsi : (d.s : Int) = 0 := by omega
            rw [hsi] at z2
            have b2 : decide (P < 0) = true := decide_eq_true (by omega)
            have b4 : decide (0 ≤ P) = false := decide_eq_false (by omega)
            clear hPv hs hsi
            refine lin_start (fun w' => w'.cell? ⟨w.heap.size, 0, none⟩ = some (Value.bool true) ∧ w'.cell? ⟨w.heap.size, 2, none⟩ = some (Value.int .i64 0)) ((Stays.cell _ _).and ((Stays.cell _ _))) (by kernel_rfl) ⟨z0, z2⟩ (fun hSS hS => ?_)
            refine lin_val (i := 0) (v := ?_) rfl (by kernel_rfl) (by kernel_rfl) (by kernel_rfl) (fun _ _ _ h => h) hSS hS rfl (fun w hSw => ?_) ?_
            rotate_left
            · obtain ⟨q0, q1⟩ := hSw; go_simp; first | done | with_reducible rfl
            simp only [Act.put, List.setIfInBounds_toArray, List.set_cons_zero, List.set_cons_succ]
            refine lin_val (i := 1) (v := ?_) rfl (by kernel_rfl) (by kernel_rfl) (by kernel_rfl) (fun _ _ _ h => h) hSS hS rfl (fun w hSw => ?_) ?_
            rotate_left
            · obtain ⟨q0, q1⟩ := hSw; go_simp; first | done | with_reducible rfl
            simp only [Act.put, List.setIfInBounds_toArray, List.set_cons_zero, List.set_cons_succ]
            refine lin_val (i := 2) (v := ?_) rfl (by kernel_rfl) (by kernel_rfl) (by kernel_rfl) (fun _ _ _ h => h) hSS hS rfl (fun w hSw => ?_) ?_
            rotate_left
            · obtain ⟨q0, q1⟩ := hSw; go_simp; first | done | with_reducible rfl
            simp only [Act.put, List.setIfInBounds_toArray, List.set_cons_zero, List.set_cons_succ]
            refine lin_val (i := 3) (v := ?_) rfl (by kernel_rfl) (by kernel_rfl) (by kernel_rfl) (fun _ _ _ h => h) hSS hS rfl (fun w hSw => ?_) ?_
            rotate_left
            · obtain ⟨q0, q1⟩ := hSw; go_simp; first | done | with_reducible rfl
            simp only [Act.put, List.setIfInBounds_toArray, List.set_cons_zero, List.set_cons_succ]
            refine lin_val (i := 4) (v := ?_) rfl (by kernel_rfl) (by kernel_rfl) (by kernel_rfl) (fun _ _ _ h => h) hSS hS rfl (fun w hSw => ?_) ?_
            rotate_left
            · obtain ⟨q0, q1⟩ := hSw; go_simp; first | done | with_reducible rfl
            simp only [Act.put, List.setIfInBounds_toArray, List.set_cons_zero, List.set_cons_succ]
            refine lin_val (i := 5) (v := ?_) rfl (by kernel_rfl) (by kernel_rfl) (by kernel_rfl) (fun _ _ _ h => h) hSS hS rfl (fun w hSw => ?_) ?_
            rotate_left
            · obtain ⟨q0, q1⟩ := hSw; go_simp; first | done | with_reducible rfl
            simp only [Act.put, List.setIfInBounds_toArray, List.set_cons_zero, List.set_cons_succ]
            refine lin_val (i := 6) (v := ?_) rfl (by kernel_rfl) (by kernel_rfl) (by kernel_rfl) (fun _ _ _ h => h) hSS hS rfl (fun w hSw => ?_) ?_
            rotate_left
            · obtain ⟨q0, q1⟩ := hSw; go_simp; first | done | with_reducible rfl
            simp only [Act.put, List.setIfInBounds_toArray, List.set_cons_zero, List.set_cons_succ]
            refine lin_val (i := 7) (v := ?_) rfl (by kernel_rfl) (by kernel_rfl) (by kernel_rfl) (fun _ _ _ h => h) hSS hS rfl (fun w hSw => ?_) ?_
            rotate_left
            · obtain ⟨q0, q1⟩ := hSw; go_simp; first | done | with_reducible rfl
            simp only [Act.put, List.setIfInBounds_toArray, List.set_cons_zero, List.set_cons_succ]
            refine lin_val (i := 8) (v := ?_) rfl (by kernel_rfl) (by kernel_rfl) (by kernel_rfl) (fun _ _ _ h => h) hSS hS rfl (fun w hSw => ?_) ?_
            rotate_left
            · obtain ⟨q0, q1⟩ := hSw; go_simp; first | done | with_reducible rfl
            simp only [Act.put, List.setIfInBounds_toArray, List.set_cons_zero, List.set_cons_succ]
            refine lin_val (i := 9) (v := ?_) rfl (by kernel_rfl) (by kernel_rfl) (by kernel_rfl) (fun _ _ _ h => h) hSS hS rfl (fun w hSw => ?_) ?_
            rotate_left
            · obtain ⟨q0, q1⟩ := hSw; go_simp; first | done | with_reducible rfl
            simp only [Act.put, List.setIfInBounds_toArray, List.set_cons_zero, List.set_cons_succ]
            refine lin_val (i := 10) (v := ?_) rfl (by kernel_rfl) (by kernel_rfl) (by kernel_rfl) (fun _ _ _ h => h) hSS hS rfl (fun w hSw => ?_) ?_
            rotate_left
            · obtain ⟨q0, q1⟩ := hSw; go_simp; first | done | with_reducible rfl
            simp only [Act.put, List.setIfInBounds_toArray, List.set_cons_zero, List.set_cons_succ]
            refine lin_val (i := 11) (v := ?_) rfl (by kernel_rfl) (by kernel_rfl) (by kernel_rfl) (fun _ _ _ h => h) hSS hS rfl (fun w hSw => ?_) ?_
            rotate_left
            · obtain ⟨q0, q1⟩ := hSw; go_simp; first | done | with_reducible rfl
            simp only [Act.put, List.setIfInBounds_toArray, List.set_cons_zero, List.set_cons_succ]
            refine lin_val (i := 12) (v := ?_) rfl (by kernel_rfl) (by kernel_rfl) (by kernel_rfl) (fun _ _ _ h => h) hSS hS rfl (fun w hSw => ?_) ?_
            rotate_left
            · obtain ⟨q0, q1⟩ := hSw; go_simp; first | done | with_reducible rfl
            simp only [Act.put, List.setIfInBounds_toArray, List.set_cons_zero, List.set_cons_succ]
            refine lin_val (i := 13) (v := ?_) rfl (by kernel_rfl) (by kernel_rfl) (by kernel_rfl) (fun _ _ _ h => h) hSS hS rfl (fun w hSw => ?_) ?_
            rotate_left
            · obtain ⟨q0, q1⟩ := hSw; go_simp; first | done | with_reducible rfl
            simp only [Act.put, List.setIfInBounds_toArray, List.set_cons_zero, List.set_cons_succ]
            refine lin_val (i := 14) (v := ?_) rfl (by kernel_rfl) (by kernel_rfl) (by kernel_rfl) (fun _ _ _ h => h) hSS hS rfl (fun w hSw => ?_) ?_
            rotate_left
            · obtain ⟨q0, q1⟩ := hSw; go_simp; first | done | with_reducible rfl
            simp only [Act.put, List.setIfInBounds_toArray, List.set_cons_zero, List.set_cons_succ]
            refine lin_val (i := 15) (v := ?_) rfl (by kernel_rfl) (by kernel_rfl) (by kernel_rfl) (fun _ _ _ h => h) hSS hS rfl (fun w hSw => ?_) ?_
            rotate_left
            · obtain ⟨q0, q1⟩ := hSw; go_simp; first | done | with_reducible rfl
            simp only [Act.put, List.setIfInBounds_toArray, List.set_cons_zero, List.set_cons_succ]
            refine lin_val (i := 16) (v := ?_) rfl (by kernel_rfl) (by kernel_rfl) (by kernel_rfl) (fun _ _ _ h => h) hSS hS rfl (fun w hSw => ?_) ?_
            rotate_left
            · obtain ⟨q0, q1⟩ := hSw; go_simp; first | done | with_reducible rfl
            simp only [Act.put, List.setIfInBounds_toArray, List.set_cons_zero, List.set_cons_succ]
            refine lin_val (i := 17) (v := ?_) rfl (by kernel_rfl) (by kernel_rfl) (by kernel_rfl) (fun _ _ _ h => h) hSS hS rfl (fun w hSw => ?_) ?_
            rotate_left
            · obtain ⟨q0, q1⟩ := hSw; go_simp; first | done | with_reducible rfl
            simp only [Act.put, List.setIfInBounds_toArray, List.set_cons_zero, List.set_cons_succ]
            refine lin_val (i := 18) (v := ?_) rfl (by kernel_rfl) (by kernel_rfl) (by kernel_rfl) (fun _ _ _ h => h) hSS hS rfl (fun w hSw => ?_) ?_
            rotate_left
            · obtain ⟨q0, q1⟩ := hSw; go_simp; first | done | with_reducible rfl
            simp only [Act.put, List.setIfInBounds_toArray, List.set_cons_zero, List.set_cons_succ]
            refine lin_val (i := 19) (v := ?_) rfl (by kernel_rfl) (by kernel_rfl) (by kernel_rfl) (fun _ _ _ h => h) hSS hS rfl (fun w hSw => ?_) ?_
            rotate_left
            · obtain ⟨q0, q1⟩ := hSw; go_simp; first | done | with_reducible rfl
            simp only [Act.put, List.setIfInBounds_toArray, List.set_cons_zero, List.set_cons_succ]
            refine lin_val (i := 20) (v := ?_) rfl (by kernel_rfl) (by kernel_rfl) (by kernel_rfl) (fun _ _ _ h => h) hSS hS rfl (fun w hSw => ?_) ?_
            rotate_left
            · obtain ⟨q0, q1⟩ := hSw; go_simp; first | done | with_reducible rfl
            simp only [Act.put, List.setIfInBounds_toArray, List.set_cons_zero, List.set_cons_succ]
            refine lin_val (i := 21) (v := ?_) rfl (by kernel_rfl) (by kernel_rfl) (by kernel_rfl) (fun _ _ _ h => h) hSS hS rfl (fun w hSw => ?_) ?_
            rotate_left
            · obtain ⟨q0, q1⟩ := hSw; go_simp; first | done | with_reducible rfl
            simp only [Act.put, List.setIfInBounds_toArray, List.set_cons_zero, List.set_cons_succ]
            refine lin_val (i := 22) (v := ?_) rfl (by kernel_rfl) (by kernel_rfl) (by kernel_rfl) (fun _ _ _ h => h) hSS hS rfl (fun w hSw => ?_) ?_
            rotate_left
            · obtain ⟨q0, q1⟩ := hSw; go_simp; first | done | with_reducible rfl
            simp only [Act.put, List.setIfInBounds_toArray, List.set_cons_zero, List.set_cons_succ]
            refine lin_not (i := 23) rfl (by kernel_rfl) (by kernel_rfl) (by kernel_rfl) (fun _ _ _ h => h) hSS hS rfl ?_
            simp only [Act.put, List.setIfInBounds_toArray, List.set_cons_zero, List.set_cons_succ]
            refine lin_not (i := 24) rfl (by kernel_rfl) (by kernel_rfl) (by kernel_rfl) (fun _ _ _ h => h) hSS hS rfl ?_
            simp only [Act.put, List.setIfInBounds_toArray, List.set_cons_zero, List.set_cons_succ]
            refine lin_not (i := 25) rfl (by kernel_rfl) (by kernel_rfl) (by kernel_rfl) (fun _ _ _ h => h) hSS hS rfl ?_
            simp only [Act.put, List.setIfInBounds_toArray, List.set_cons_zero, List.set_cons_succ]
            refine lin_not (i := 26) rfl (by kernel_rfl) (by kernel_rfl) (by kernel_rfl) (fun _ _ _ h => h) hSS hS rfl ?_
            simp only [Act.put, List.setIfInBounds_toArray, List.set_cons_zero, List.set_cons_succ]
            refine lin_not (i := 27) rfl (by kernel_rfl) (by kernel_rfl) (by kernel_rfl) (fun _ _ _ h => h) hSS hS rfl ?_
            simp only [Act.put, List.setIfInBounds_toArray, List.set_cons_zero, List.set_cons_succ]
            refine lin_not (i := 28) rfl (by kernel_rfl) (by kernel_rfl) (by kernel_rfl) (fun _ _ _ h => h) hSS hS rfl ?_
            simp only [Act.put, List.setIfInBounds_toArray, List.set_cons_zero, List.set_cons_succ]
            refine lin_not (i := 29) rfl (by kernel_rfl) (by kernel_rfl) (by kernel_rfl) (fun _ _ _ h => h) hSS hS rfl ?_
            simp only [Act.put, List.setIfInBounds_toArray, List.set_cons_zero, List.set_cons_succ]
            refine lin_not (i := 30) rfl (by kernel_rfl) (by kernel_rfl) (by kernel_rfl) (fun _ _ _ h => h) hSS hS rfl ?_
            simp only [Act.put, List.setIfInBounds_toArray, List.set_cons_zero, List.set_cons_succ]
            refine lin_val (i := 31) (v := ?_) rfl (by kernel_rfl) (by kernel_rfl) (by kernel_rfl) (fun _ _ _ h => h) hSS hS rfl (fun w hSw => ?_) ?_
            rotate_left
            · obtain ⟨q0, q1⟩ := hSw; go_simp; first | done | with_reducible rfl
            simp only [Act.put, List.setIfInBounds_toArray, List.set_cons_zero, List.set_cons_succ]
            refine lin_val (i := 32) (v := ?_) rfl (by kernel_rfl) (by kernel_rfl) (by kernel_rfl) (fun _ _ _ h => h) hSS hS rfl (fun w hSw => ?_) ?_
            rotate_left
            · obtain ⟨q0, q1⟩ := hSw; go_simp; first | done | with_reducible rfl
            simp only [Act.put, List.setIfInBounds_toArray, List.set_cons_zero, List.set_cons_succ]
            refine lin_done (by kernel_rfl) (fun wq kq => ?_) _
            clear hS hSS
            go_wp2_with fail
            go_meet
            exact ⟨rfl, (Kp.refl [] w3).drew.nil kq⟩
          · have hPv := HPt.out
            rw [if_neg hs] at hPv
            have hP0 := Hsc.out hs
            have hkl := Hkl.out
            have hP1 : 0 ≤ P := by omega
            have hP2 : P ≤ 63 := by omega
            have b2 : decide (P < 0) = false := decide_eq_false (by omega)
            have b3 : ((d.s : Int) == 0) = false := by rw [beq_eq_false_iff_ne]; omega
            have b4 : decide (0 ≤ P) = true := decide_eq_true (by omega)
            obtain ⟨q, hq⟩ : ∃ q : Int, q = (L.length : Int) - P := ⟨_, rfl⟩
            have w1 : IntKind.i64.wrap ((L.length : Int) - P) = q := by rw [hq]; exact IntWalk.i64_in _ (by omega)
            have w2 : IntKind.i64.wrap (q - 1) = (d.s : Int) := by rw [IntWalk.i64_in _ (by omega)]; omega
            have b5 : decide (0 < P) = decide (0 < P) := rfl
            clear hq hPv hP0 hkl hs b5
            refine lin_start (fun w' => w'.cell? ⟨w.heap.size, 0, none⟩ = some (Value.bool true) ∧ w'.cell? ⟨w.heap.size, 2, none⟩ = some (Value.int .i64 (d.s : Int))) ((Stays.cell _ _).and ((Stays.cell _ _))) (by kernel_rfl) ⟨z0, z2⟩ (fun hSS hS => ?_)
            refine lin_val (i := 0) (v := ?_) rfl (by kernel_rfl) (by kernel_rfl) (by kernel_rfl) (fun _ _ _ h => h) hSS hS rfl (fun w hSw => ?_) ?_
            rotate_left
            · obtain ⟨q0, q1⟩ := hSw; go_simp; first | done | with_reducible rfl
            simp only [Act.put, List.setIfInBounds_toArray, List.set_cons_zero, List.set_cons_succ]
            refine lin_val (i := 1) (v := ?_) rfl (by kernel_rfl) (by kernel_rfl) (by kernel_rfl) (fun _ _ _ h => h) hSS hS rfl (fun w hSw => ?_) ?_
            rotate_left
            · obtain ⟨q0, q1⟩ := hSw; go_simp; first | done | with_reducible rfl
            simp only [Act.put, List.setIfInBounds_toArray, List.set_cons_zero, List.set_cons_succ]
            refine lin_val (i := 2) (v := ?_) rfl (by kernel_rfl) (by kernel_rfl) (by kernel_rfl) (fun _ _ _ h => h) hSS hS rfl (fun w hSw => ?_) ?_
            rotate_left
            · obtain ⟨q0, q1⟩ := hSw; go_simp; first | done | with_reducible rfl
            simp only [Act.put, List.setIfInBounds_toArray, List.set_cons_zero, List.set_cons_succ]
            refine lin_val (i := 3) (v := ?_) rfl (by kernel_rfl) (by kernel_rfl) (by kernel_rfl) (fun _ _ _ h => h) hSS hS rfl (fun w hSw => ?_) ?_
            rotate_left
            · obtain ⟨q0, q1⟩ := hSw; go_simp; first | done | with_reducible rfl
            simp only [Act.put, List.setIfInBounds_toArray, List.set_cons_zero, List.set_cons_succ]
            refine lin_val (i := 4) (v := ?_) rfl (by kernel_rfl) (by kernel_rfl) (by kernel_rfl) (fun _ _ _ h => h) hSS hS rfl (fun w hSw => ?_) ?_
            rotate_left
            · obtain ⟨q0, q1⟩ := hSw; go_simp; first | done | with_reducible rfl
            simp only [Act.put, List.setIfInBounds_toArray, List.set_cons_zero, List.set_cons_succ]
            refine lin_val (i := 5) (v := ?_) rfl (by kernel_rfl) (by kernel_rfl) (by kernel_rfl) (fun _ _ _ h => h) hSS hS rfl (fun w hSw => ?_) ?_
            rotate_left
            · obtain ⟨q0, q1⟩ := hSw; go_simp; first | done | with_reducible rfl
            simp only [Act.put, List.setIfInBounds_toArray, List.set_cons_zero, List.set_cons_succ]
            refine lin_val (i := 6) (v := ?_) rfl (by kernel_rfl) (by kernel_rfl) (by kernel_rfl) (fun _ _ _ h => h) hSS hS rfl (fun w hSw => ?_) ?_
            rotate_left
            · obtain ⟨q0, q1⟩ := hSw; go_simp; first | done | with_reducible rfl
            simp only [Act.put, List.setIfInBounds_toArray, List.set_cons_zero, List.set_cons_succ]
            refine lin_val (i := 7) (v := ?_) rfl (by kernel_rfl) (by kernel_rfl) (by kernel_rfl) (fun _ _ _ h => h) hSS hS rfl (fun w hSw => ?_) ?_
            rotate_left
            · obtain ⟨q0, q1⟩ := hSw; go_simp; first | done | with_reducible rfl
            simp only [Act.put, List.setIfInBounds_toArray, List.set_cons_zero, List.set_cons_succ]
            refine lin_val (i := 8) (v := ?_) rfl (by kernel_rfl) (by kernel_rfl) (by kernel_rfl) (fun _ _ _ h => h) hSS hS rfl (fun w hSw => ?_) ?_
            rotate_left
            · obtain ⟨q0, q1⟩ := hSw; go_simp; first | done | with_reducible rfl
            simp only [Act.put, List.setIfInBounds_toArray, List.set_cons_zero, List.set_cons_succ]
            refine lin_val (i := 9) (v := ?_) rfl (by kernel_rfl) (by kernel_rfl) (by kernel_rfl) (fun _ _ _ h => h) hSS hS rfl (fun w hSw => ?_) ?_
            rotate_left
            · obtain ⟨q0, q1⟩ := hSw; go_simp; first | done | with_reducible rfl
            simp only [Act.put, List.setIfInBounds_toArray, List.set_cons_zero, List.set_cons_succ]
            refine lin_val (i := 10) (v := ?_) rfl (by kernel_rfl) (by kernel_rfl) (by kernel_rfl) (fun _ _ _ h => h) hSS hS rfl (fun w hSw => ?_) ?_
            rotate_left
            · obtain ⟨q0, q1⟩ := hSw; go_simp; first | done | with_reducible rfl
            simp only [Act.put, List.setIfInBounds_toArray, List.set_cons_zero, List.set_cons_succ]
            refine lin_val (i := 11) (v := ?_) rfl (by kernel_rfl) (by kernel_rfl) (by kernel_rfl) (fun _ _ _ h => h) hSS hS rfl (fun w hSw => ?_) ?_
            rotate_left
            · obtain ⟨q0, q1⟩ := hSw; go_simp; first | done | with_reducible rfl
            simp only [Act.put, List.setIfInBounds_toArray, List.set_cons_zero, List.set_cons_succ]
            refine lin_val (i := 12) (v := ?_) rfl (by kernel_rfl) (by kernel_rfl) (by kernel_rfl) (fun _ _ _ h => h) hSS hS rfl (fun w hSw => ?_) ?_
            rotate_left
            · obtain ⟨q0, q1⟩ := hSw; go_simp; first | done | with_reducible rfl
            simp only [Act.put, List.setIfInBounds_toArray, List.set_cons_zero, List.set_cons_succ]
            refine lin_val (i := 13) (v := ?_) rfl (by kernel_rfl) (by kernel_rfl) (by kernel_rfl) (fun _ _ _ h => h) hSS hS rfl (fun w hSw => ?_) ?_
            rotate_left
            · obtain ⟨q0, q1⟩ := hSw; go_simp; first | done | with_reducible rfl
            simp only [Act.put, List.setIfInBounds_toArray, List.set_cons_zero, List.set_cons_succ]
            refine lin_val (i := 14) (v := ?_) rfl (by kernel_rfl) (by kernel_rfl) (by kernel_rfl) (fun _ _ _ h => h) hSS hS rfl (fun w hSw => ?_) ?_
            rotate_left
            · obtain ⟨q0, q1⟩ := hSw; go_simp; first | done | with_reducible rfl
            simp only [Act.put, List.setIfInBounds_toArray, List.set_cons_zero, List.set_cons_succ]
            refine lin_val (i := 15) (v := ?_) rfl (by kernel_rfl) (by kernel_rfl) (by kernel_rfl) (fun _ _ _ h => h) hSS hS rfl (fun w hSw => ?_) ?_
            rotate_left
            · obtain ⟨q0, q1⟩ := hSw; go_simp; first | done | with_reducible rfl
            simp only [Act.put, List.setIfInBounds_toArray, List.set_cons_zero, List.set_cons_succ]
            refine lin_val (i := 16) (v := ?_) rfl (by kernel_rfl) (by kernel_rfl) (by kernel_rfl) (fun _ _ _ h => h) hSS hS rfl (fun w hSw => ?_) ?_
            rotate_left
            · obtain ⟨q0, q1⟩ := hSw; go_simp; first | done | with_reducible rfl
            simp only [Act.put, List.setIfInBounds_toArray, List.set_cons_zero, List.set_cons_succ]
            refine lin_val (i := 17) (v := ?_) rfl (by kernel_rfl) (by kernel_rfl) (by kernel_rfl) (fun _ _ _ h => h) hSS hS rfl (fun w hSw => ?_) ?_
            rotate_left
            · obtain ⟨q0, q1⟩ := hSw; go_simp; first | done | with_reducible rfl
            simp only [Act.put, List.setIfInBounds_toArray, List.set_cons_zero, List.set_cons_succ]
            refine lin_val (i := 18) (v := ?_) rfl (by kernel_rfl) (by kernel_rfl) (by kernel_rfl) (fun _ _ _ h => h) hSS hS rfl (fun w hSw => ?_) ?_
            rotate_left
            · obtain ⟨q0, q1⟩ := hSw; go_simp; first | done | with_reducible rfl
            simp only [Act.put, List.setIfInBounds_toArray, List.set_cons_zero, List.set_cons_succ]
            refine lin_val (i := 19) (v := ?_) rfl (by kernel_rfl) (by kernel_rfl) (by kernel_rfl) (fun _ _ _ h => h) hSS hS rfl (fun w hSw => ?_) ?_
            rotate_left
            · obtain ⟨q0, q1⟩ := hSw; go_simp; first | done | with_reducible rfl
            simp only [Act.put, List.setIfInBounds_toArray, List.set_cons_zero, List.set_cons_succ]
            refine lin_val (i := 20) (v := ?_) rfl (by kernel_rfl) (by kernel_rfl) (by kernel_rfl) (fun _ _ _ h => h) hSS hS rfl (fun w hSw => ?_) ?_
            rotate_left
            · obtain ⟨q0, q1⟩ := hSw; go_simp; first | done | with_reducible rfl
            simp only [Act.put, List.setIfInBounds_toArray, List.set_cons_zero, List.set_cons_succ]
            refine lin_val (i := 21) (v := ?_) rfl (by kernel_rfl) (by kernel_rfl) (by kernel_rfl) (fun _ _ _ h => h) hSS hS rfl (fun w hSw => ?_) ?_
            rotate_left
            · obtain ⟨q0, q1⟩ := hSw; go_simp; first | done | with_reducible rfl
            simp only [Act.put, List.setIfInBounds_toArray, List.set_cons_zero, List.set_cons_succ]
            refine lin_val (i := 22) (v := ?_) rfl (by kernel_rfl) (by kernel_rfl) (by kernel_rfl) (fun _ _ _ h => h) hSS hS rfl (fun w hSw => ?_) ?_
            rotate_left
            · obtain ⟨q0, q1⟩ := hSw; go_simp; first | done | with_reducible rfl
            simp only [Act.put, List.setIfInBounds_toArray, List.set_cons_zero, List.set_cons_succ]
            refine lin_val (i := 23) (v := ?_) rfl (by kernel_rfl) (by kernel_rfl) (by kernel_rfl) (fun _ _ _ h => h) hSS hS rfl (fun w hSw => ?_) ?_
            rotate_left
            · obtain ⟨q0, q1⟩ := hSw; go_simp; first | done | with_reducible rfl
            simp only [Act.put, List.setIfInBounds_toArray, List.set_cons_zero, List.set_cons_succ]
            refine lin_val (i := 24) (v := ?_) rfl (by kernel_rfl) (by kernel_rfl) (by kernel_rfl) (fun _ _ _ h => h) hSS hS rfl (fun w hSw => ?_) ?_
            rotate_left
            · obtain ⟨q0, q1⟩ := hSw; go_simp; first | done | with_reducible rfl
            simp only [Act.put, List.setIfInBounds_toArray, List.set_cons_zero, List.set_cons_succ]
            refine lin_val (i := 25) (v := ?_) rfl (by kernel_rfl) (by kernel_rfl) (by kernel_rfl) (fun _ _ _ h => h) hSS hS rfl (fun w hSw => ?_) ?_
            rotate_left
            · obtain ⟨q0, q1⟩ := hSw; go_simp; first | done | with_reducible rfl
            simp only [Act.put, List.setIfInBounds_toArray, List.set_cons_zero, List.set_cons_succ]
            refine lin_val (i := 26) (v := ?_) rfl (by kernel_rfl) (by kernel_rfl) (by kernel_rfl) (fun _ _ _ h => h) hSS hS rfl (fun w hSw => ?_) ?_
            rotate_left
            · obtain ⟨q0, q1⟩ := hSw; go_simp; first | done | with_reducible rfl
            simp only [Act.put, List.setIfInBounds_toArray, List.set_cons_zero, List.set_cons_succ]
            refine lin_val (i := 27) (v := ?_) rfl (by kernel_rfl) (by kernel_rfl) (by kernel_rfl) (fun _ _ _ h => h) hSS hS rfl (fun w hSw => ?_) ?_
            rotate_left
            · obtain ⟨q0, q1⟩ := hSw; go_simp; first | done | with_reducible rfl
            simp only [Act.put, List.setIfInBounds_toArray, List.set_cons_zero, List.set_cons_succ]
            refine lin_val (i := 28) (v := ?_) rfl (by kernel_rfl) (by kernel_rfl) (by kernel_rfl) (fun _ _ _ h => h) hSS hS rfl (fun w hSw => ?_) ?_
            rotate_left
            · obtain ⟨q0, q1⟩ := hSw; go_simp; first | done | with_reducible rfl
            simp only [Act.put, List.setIfInBounds_toArray, List.set_cons_zero, List.set_cons_succ]
            refine lin_val (i := 29) (v := ?_) rfl (by kernel_rfl) (by kernel_rfl) (by kernel_rfl) (fun _ _ _ h => h) hSS hS rfl (fun w hSw => ?_) ?_
            rotate_left
            · obtain ⟨q0, q1⟩ := hSw; go_simp; first | done | with_reducible rfl
            simp only [Act.put, List.setIfInBounds_toArray, List.set_cons_zero, List.set_cons_succ]
            refine lin_val (i := 30) (v := ?_) rfl (by kernel_rfl) (by kernel_rfl) (by kernel_rfl) (fun _ _ _ h => h) hSS hS rfl (fun w hSw => ?_) ?_
            rotate_left
            · obtain ⟨q0, q1⟩ := hSw; go_simp; first | done | with_reducible rfl
            simp only [Act.put, List.setIfInBounds_toArray, List.set_cons_zero, List.set_cons_succ]
            refine lin_val (i := 31) (v := ?_) rfl (by kernel_rfl) (by kernel_rfl) (by kernel_rfl) (fun _ _ _ h => h) hSS hS rfl (fun w hSw => ?_) ?_
            rotate_left
            · obtain ⟨q0, q1⟩ := hSw; go_simp; first | done | with_reducible rfl
            simp only [Act.put, List.setIfInBounds_toArray, List.set_cons_zero, List.set_cons_succ]
            refine lin_val (i := 32) (v := ?_) rfl (by kernel_rfl) (by kernel_rfl) (by kernel_rfl) (fun _ _ _ h => h) hSS hS rfl (fun w hSw => ?_) ?_
            rotate_left
            · obtain ⟨q0, q1⟩ := hSw; go_simp; first | done | with_reducible rfl
            simp only [Act.put, List.setIfInBounds_toArray, List.set_cons_zero, List.set_cons_succ]
            refine lin_done (by kernel_rfl) (fun wq kq => ?_) _
            clear hS hSS
            go_wp2_with fail
            go_meet
            exact ⟨rfl, (Kp.refl [] w3).drew.nil kq⟩
      case rest =>
        obtain ⟨rfl, hkq⟩ := hcut
        replace z0 := hkq.cell z0 (by simp)
        replace z1 := hkq.cell z1 (by simp)
        replace z2 := hkq.cell z2 (by simp)
        have HKK := hid (((HK.out.nil k1).nil k2).nil k3 |>.nil hkq)
        clear k1 k2 k3 hkq hlt hk
        have hKi := HKi.out
        have a1 := fun W => run_add_text (P := Tryd.prog) L [101] (L ++ [101]) rfl (by simp; omega) W
        have a2 := fun W => run_add_text (P := Tryd.prog) (L ++ [101]) [dg K] (L ++ [101, dg K]) (by simp) (by simp; omega) W
        have htx := fun W => one_less K hK10 W
        have hpa := H2.out
        obtain ⟨L1, hL1⟩ : ∃ L1, L1 = L ++ [101] := ⟨_, rfl⟩
        obtain ⟨L2, hL2⟩ : ∃ L2, L2 = L ++ [101, dg K] := ⟨_, rfl⟩
        simp only [← hL1, ← hL2] at a1 a2 hpa
        clear hL1 hL2
        obtain ⟨T, hT⟩ : ∃ T, T = tens d K := ⟨_, rfl⟩
        simp only [← hT] at hpa
        have HT := hid hT
        clear hT
        go_wp2_with fail
        have kb := (Kp.refl [] wc).alloc (.cells #[.int .u8 (48 + (K : Int))] 5)
        replace z0 := kb.cell z0 (by simp)
        replace z1 := kb.cell z1 (by simp)
        replace z2 := kb.cell z2 (by simp)
        skip
        refine (hpa _).mono ?_
        rintro e w4 ⟨rfl, k4⟩
        obtain ⟨K4, x0, x1, x2⟩ := k4.loc (.bool (oN T)) (.string ⟨(oL T).toArray⟩) (.int .i64 (oS T))
        replace z0 := K4.cell z0 (by simp)
        replace z1 := K4.cell z1 (by simp)
        replace z2 := K4.cell z2 (by simp)
        clear hpa a1 a2 htx hKi
        go_wp2_with fail
        have hX : Cells ((w4.alloc (.cells #[.bool (oN T), .string ⟨(oL T).toArray⟩, .int .i64 (oS T)] 23)).alloc (.cells #[.bool d.neg, .string ⟨(dtxt d.n).toArray⟩, .int .i64 (d.s : Int)] 23)) w4.heap.size 23 [.bool (oN T), .string ⟨(oL T).toArray⟩, .int .i64 (oS T)] := (Cells.fresh w4 23 [.bool (oN T), .string ⟨(oL T).toArray⟩, .int .i64 (oS T)]).alloc _
        have hY : Cells ((w4.alloc (.cells #[.bool (oN T), .string ⟨(oL T).toArray⟩, .int .i64 (oS T)] 23)).alloc (.cells #[.bool d.neg, .string ⟨(dtxt d.n).toArray⟩, .int .i64 (d.s : Int)] 23)) (w4.heap.size + 1) 23 [.bool d.neg, .string ⟨(dtxt d.n).toArray⟩, .int .i64 (d.s : Int)] := by have := Cells.fresh (w4.alloc (.cells #[.bool (oN T), .string ⟨(oL T).toArray⟩, .int .i64 (oS T)] 23)) 23 [.bool d.neg, .string ⟨(dtxt d.n).toArray⟩, .int .i64 (d.s : Int)]; simpa using this
        have hW : Kp [] w ((w4.alloc (.cells #[.bool (oN T), .string ⟨(oL T).toArray⟩, .int .i64 (oS T)] 23)).alloc (.cells #[.bool d.neg, .string ⟨(dtxt d.n).toArray⟩, .int .i64 (d.s : Int)] 23)) := ((HKK.out.nil kb).nil K4).alloc _
        have hlt5 : w.heap.size ≤ w4.heap.size := (((HKK.out.nil kb).nil k4)).size
        obtain ⟨WL, hWL⟩ : ∃ WL, WL = ((w4.alloc (.cells #[.bool (oN T), .string ⟨(oL T).toArray⟩, .int .i64 (oS T)] 23)).alloc (.cells #[.bool d.neg, .string ⟨(dtxt d.n).toArray⟩, .int .i64 (d.s : Int)] 23)) := ⟨_, rfl⟩
        simp only [← hWL] at hX hY hW ⊢
        have HX := hid hX
        have HY := hid hY
        have HW := hid hW
        clear hWL hX hY hW z0 z1 z2 x0 x1 x2 k4 K4 kb
        go_loopw [13, 14] (fun vg vi wr => Kp [w4.heap.size + 1] WL wr ∧ ∃ i : Nat, vi = .int .i64 (i : Int) ∧ i ≤ K ∧ vg = .int .i64 (oE (tens d i)) ∧ Cells wr (w4.heap.size + 1) 23 [.bool (oN (tens d i)), .string ⟨(oL (tens d i)).toArray⟩, .int .i64 (oS (tens d i))]) (fun _ vi _ => K - (intOf vi).toNat)
        case atStart => exact ⟨Kp.refl _ _, 0, rfl, Nat.zero_le _, rfl, HY.out⟩
        case round =>
          obtain ⟨hkp, i, rfl, hi, rfl, hc⟩ := hrel
          have Hk := hid (HW.out.fresh hkp (by omega))
          have cX := HX.out.keep hkp (by simp)
          have Hc := hid hc
          have Hkp := hid hkp
          have hte := tens_none (d := d) (i := i)
          have hto := fun y => tens_ok H0.out.2 (i := i) (y := y)
          have hsu : tens d (i + 1) = (tens d i).bind fun x => mulD x (intD 10) := rfl
          obtain ⟨O, hO⟩ : ∃ O, O = tens d i := ⟨_, rfl⟩
          rw [← hO] at hc hte hto hsu ⊢
          have HO := hid hO
          clear hO hkp
          rcases none_or O with ho | ⟨y, ho⟩
          · have hTn : T = none := by rw [HT.out]; have := hte ho (K - i); rwa [show i + (K - i) = K by omega] at this
            obtain ⟨ea, eb, ec⟩ := none_err ho
            obtain ⟨-, -, tc⟩ := none_err hTn
            have t3 : (oE T == 3) = true := by rw [tc]; rfl
            clear ec tc hte hto hsu ho hTn
            by_cases hik : i < K
            all_goals
              go_wp2_with fail
              go_ret
              exact ⟨rfl, Hk.out⟩
          · obtain ⟨ea, eb, ec⟩ := some_err ho
            have hO0 := ec
            have hso := hid (some_of ho)
            by_cases hik : i < K
            · have hmu := H0.out.1 y (hto y ho)
              obtain ⟨en, el, es⟩ := hso.out
              rw [ho] at hsu
              simp only [en, el, es] at hmu
              have hsu2 : tens d (i + 1) = mulD y ⟨false, 10, 0⟩ := hsu
              rw [← hsu2] at hmu
              obtain ⟨O2, hO2⟩ : ∃ O2, O2 = tens d (i + 1) := ⟨_, rfl⟩
              rw [← hO2] at hmu
              have HO2 := hid hO2
              clear hO2 hsu hsu2 en el es hto hte ho
              have y0 : _ = some (Value.bool (oN O)) := hc.cell 0
              have y1 : _ = some (Value.string ⟨(oL O).toArray⟩) := hc.cell 1
              have y2 : _ = some (Value.int .i64 (oS O)) := hc.cell 2
              clear cX hc ec
              go_wp2_with fail
              refine (hmu _).mono ?_
              rintro e w5 ⟨rfl, k5⟩
              have cY := Hc.out.keep k5 (by simp)
              have f0 := cY.free 0
              have f1 := cY.free 1
              have f2 := cY.free 2
              replace y0 := k5.cell y0 (by simp)
              replace y1 := k5.cell y1 (by simp)
              replace y2 := k5.cell y2 (by simp)
              have HcY := hid (((cY.put 0 (.bool (oN O2))).put 1 (.string ⟨(oL O2).toArray⟩)).put 2 (.int .i64 (oS O2)))
              have HKC := hid (Hkp.out.nil k5)
              clear cY k5 hmu
              go_wp2_with fail
              go_roundw
              case rel => exact ⟨((HKC.out.setCell (p := ⟨w4.heap.size + 1, 0, none⟩) (fun _ => by simp) _).setCell (p := ⟨w4.heap.size + 1, 1, none⟩) (fun _ => by simp) _).setCell (p := ⟨w4.heap.size + 1, 2, none⟩) (fun _ => by simp) _, i + 1, by go_num, by omega, by rw [← HO2.out], by rw [← HO2.out]; exact HcY.out⟩
              case measure => simp [intOf]; omega
            · have hiK : i = K := by omega
              have hTO : T = O := by rw [HT.out, HO.out, hiK]
              subst hTO
              clear hte hto hsu
              have y0 : _ = some (Value.bool (oN T)) := hc.cell 0
              have y1 : _ = some (Value.string ⟨(oL T).toArray⟩) := hc.cell 1
              have y2 : _ = some (Value.int .i64 (oS T)) := hc.cell 2
              have x0 : _ = some (Value.bool (oN T)) := cX.cell 0
              have x1 : _ = some (Value.string ⟨(oL T).toArray⟩) := cX.cell 1
              have x2 : _ = some (Value.int .i64 (oS T)) := cX.cell 2
              clear cX hc ec hiK ho hO0
              go_wp2_with fail
              go_ret
              exact ⟨rfl, Hk.out⟩
theorem prints_any (w : World) (r : RawD) (hr : r.ok) (n : Int) (hn : 0 ≤ n ∧ n ≤ 255) :
    Calls Tryd.prog 4 #[.agg #[.bool r.neg, .string ⟨r.l.toArray⟩, .int .i64 r.s], .int .u8 n] w (YesPost w) := by
  obtain ⟨k, rfl⟩ : ∃ k : Nat, n = (k : Int) := ⟨n.toNat, by omega⟩
  cases hm : mayL r.neg r.l r.s with
  | false => exact prints_no w k r hr hm
  | true =>
    obtain ⟨d, hd, rfl⟩ := RawD.is hm
    exact prints_yes w k (by omega) d hd
theorem prints_card (W : World) (_ : Tabs W) (b : Bool) (l : List UInt8) (z : Int) (hl : l.length ≤ 9223372036854775807) (h1 : -9223372036854775808 ≤ z) (h2 : z ≤ 9223372036854775807) (n : Int) (hn : 0 ≤ n ∧ n ≤ 255) :
    Calls Tryd.prog 4 #[.agg #[.bool b, .string ⟨l.toArray⟩, .int .i64 z], .int .u8 n] W (YesPost W) := prints_any W ⟨b, l, z⟩ ⟨hl, h1, h2⟩ n hn
end Go.Proofs.YtampgimmodomoaaDoor
