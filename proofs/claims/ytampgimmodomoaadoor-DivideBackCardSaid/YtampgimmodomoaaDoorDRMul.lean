/- The document's answer for layer 1: products. -/
import Derived.Test.YtampgimmodomoaaDoorDRAdd
import Derived.Test.YtampgimmodomoaaDoorDSym
import Derived.Test.YtampgimmodomoaaDoorDVals
namespace Go.Proofs.YtampgimmodomoaaDoor
open Go Go.RowKit Go.Lib

def i64s (l : List Nat) : List Value := l.map fun x : Nat => .int .i64 (x : Int)
theorem i64s_set (l : List Nat) (p x : Nat) : i64s (l.set p x) = (i64s l).set p (.int .i64 (x : Int)) := by simp [i64s, List.map_set]
theorem i64s_get (l : List Nat) (p : Nat) (h : p < l.length) : (i64s l)[p]? = some (.int .i64 (l[p] : Int)) := by simp [i64s, h]
theorem zeros_i64s (n : Nat) : List.replicate n (Value.int .i64 0) = i64s (List.replicate n 0) := by simp [i64s]
theorem infoInt : (Tryd.prog.info? 3).map (fun i => (i.zero, i.size, i.bytes)) = some (some (.int .i64 0), 1, 8) := by kernel_rfl
theorem set_mid (n j : Nat) (c : UInt8) (s : List UInt8) (hj : j < n) : (List.replicate (n - j) 0 ++ s).set (n - 1 - j) c = List.replicate (n - (j + 1)) 0 ++ c :: s := by
  have e : n - j = (n - (j + 1)) + 1 := by omega
  have e2 : n - 1 - j = n - (j + 1) := by omega
  rw [e, e2, List.replicate_succ', List.append_assoc, List.set_append_right _ _ (by simp)]
  simp
theorem Room.far {g : Nat} {w w' : World} {S : List Nat} (h : Room g w) (k : Kp S w w') (hg : g ∉ S) : Room g w' := by
  obtain ⟨cs, h1, h2⟩ := h
  exact ⟨cs, h1.keep k hg, h2⟩
set_option maxRecDepth 100000 in
set_option maxHeartbeats 12800000 in
theorem rmul_any (w : World) (a b : Dc) (ha : Ok a) (hb : Ok b) :
    Calls Tryd.prog 28 #[.agg #[.bool a.neg, .string ⟨(dtxt a.n).toArray⟩, .int .i64 (a.s : Int)], .agg #[.bool b.neg, .string ⟨(dtxt b.n).toArray⟩, .int .i64 (b.s : Int)]] w (DecPost w (mulD a b)) := by
  have hcode := mul_code a b
  have la := length_dtxt_le (k := 60) ha.1 (by decide)
  have lb := length_dtxt_le (k := 60) hb.1 (by decide)
  have hsa := ha.2.1
  have hsb := hb.2.1
  have dA := digs_dtxt a.n
  have dB := digs_dtxt b.n
  rw [← val_dtxt a.n, ← val_dtxt b.n] at hcode
  obtain ⟨O, hO⟩ : ∃ O, O = mulD a b := ⟨_, rfl⟩
  rw [← hO] at hcode ⊢
  rw [val_dtxt, val_dtxt] at hcode
  have va := val_dtxt a.n
  have vb := val_dtxt b.n
  obtain ⟨A, hA⟩ : ∃ A, A = dtxt a.n := ⟨_, rfl⟩
  obtain ⟨B, hB⟩ : ∃ B, B = dtxt b.n := ⟨_, rfl⟩
  rw [← hA] at la dA va ⊢
  rw [← hB] at lb dB vb ⊢
  rw [← va, ← vb] at hcode
  obtain ⟨n1, hn1⟩ : ∃ n1, n1 = a.neg := ⟨_, rfl⟩
  obtain ⟨n2, hn2⟩ : ∃ n2, n2 = b.neg := ⟨_, rfl⟩
  obtain ⟨s1, hs1⟩ : ∃ s1, s1 = a.s := ⟨_, rfl⟩
  obtain ⟨s2, hs2⟩ : ∃ s2, s2 = b.s := ⟨_, rfl⟩
  simp only [← hn1, ← hn2, ← hs1, ← hs2] at hcode hsa hsb ⊢
  clear hO hA hB hn1 hn2 hs1 hs2 va vb ha hb
  have hne : (n1 != n2) = (!(n1 == n2)) := by cases n1 <;> cases n2 <;> rfl
  rw [hne] at hcode
  clear hne
  have hza : (⟨A.toArray⟩ : ByteArray).size = A.length := size_mk A
  have hzb : (⟨B.toArray⟩ : ByteArray).size = B.length := size_mk B
  obtain ⟨n, hn⟩ : ∃ n, n = A.length + B.length := ⟨_, rfl⟩
  have hni : (A.length : Int) + (B.length : Int) = (n : Int) := by omega
  have hn9 : n ≤ 120 := by omega
  have hcA := (((Cells.fresh w 23 [.bool n1, .string ⟨A.toArray⟩, .int .i64 (s1 : Int)]).alloc (.cells #[.bool n2, .string ⟨B.toArray⟩, .int .i64 (s2 : Int)] 23)).alloc (.cells #[.bool false, .string ⟨#[]⟩, .int .i64 0] 23))
  have hcB : Cells (((w.alloc (.cells #[.bool n1, .string ⟨A.toArray⟩, .int .i64 (s1 : Int)] 23)).alloc (.cells #[.bool n2, .string ⟨B.toArray⟩, .int .i64 (s2 : Int)] 23)).alloc (.cells #[.bool false, .string ⟨#[]⟩, .int .i64 0] 23)) (w.heap.size + 1) 23 [.bool n2, .string ⟨B.toArray⟩, .int .i64 (s2 : Int)] := by
    have := (Cells.fresh (w.alloc (.cells #[.bool n1, .string ⟨A.toArray⟩, .int .i64 (s1 : Int)] 23)) 23 [.bool n2, .string ⟨B.toArray⟩, .int .i64 (s2 : Int)]).alloc (.cells #[.bool false, .string ⟨#[]⟩, .int .i64 0] 23)
    simpa using this
  have hR := (three_fresh w n1 n2 (.string ⟨A.toArray⟩) (.int .i64 (s1 : Int)) (.string ⟨B.toArray⟩) (.int .i64 (s2 : Int)) (.bool false) (.string ⟨#[]⟩) (.int .i64 0)).2
  have hKw : Kp [] w (((w.alloc (.cells #[.bool n1, .string ⟨A.toArray⟩, .int .i64 (s1 : Int)] 23)).alloc (.cells #[.bool n2, .string ⟨B.toArray⟩, .int .i64 (s2 : Int)] 23)).alloc (.cells #[.bool false, .string ⟨#[]⟩, .int .i64 0] 23)) := (((Kp.refl [] w).alloc _).alloc _).alloc _
  have HcA := hid hcA
  have HcB := hid hcB
  have HR := hid hR
  have HKw := hid hKw
  have HD := hid (And.intro hcode (And.intro dA dB))
  have Hn := hid hn
  clear hcA hcB hR hKw hcode dA dB hn
  go_enter Tryd.func28, Tryd.ntmps28
  go_wp2_with (at_make; go_must (refine wpList_make1 rfl _ _ 70 rfl 3 (.int .i64 0) 8 Tryd.underlying70 infoInt rfl .i64 .i64 (n : Int) (n : Int) n rfl rfl rfl rfl (by omega) (by omega) ?_))
  intro w1 Z hZ hg hk
  have hrow : Cells w1 (w.heap.size + 1 + 1 + 1) 3 (i64s (List.replicate n 0)) := by
    rw [← zeros_i64s, ← hZ.out]
    exact hg
  have Hrow := hid hrow
  have HA1 := hid (HcA.out.keep hk (by simp))
  have HB1 := hid (HcB.out.keep hk (by simp))
  have HR1 := hid (HR.out.kept hk)
  have HK1 := hid (HKw.out.nil hk)
  have hlt1 : w.heap.size + 1 + 1 + 1 < w1.heap.size := hrow.lt
  clear hrow hZ hg hk HcA HcB HR HKw
  have za := HA1.out.cell 1
  have zb := HB1.out.cell 1
  simp only [List.getElem?_cons_zero, List.getElem?_cons_succ] at za zb
  go_wp2_with fail
  go_loopw [8] (fun vi wr => Kp [w.heap.size + 1 + 1 + 1] w1 wr ∧ ∃ (i : Nat) (row : List Nat), vi = .int .i64 (i : Int) ∧ i ≤ A.length ∧ MulR A B row i 0 ∧ Cells wr (w.heap.size + 1 + 1 + 1) 3 (i64s row)) (fun vi _ => A.length - (intOf vi).toNat)
  case atStart => exact ⟨Kp.refl _ _, 0, _, rfl, Nat.zero_le _, MulR.start A B, by rw [← Hn.out]; exact Hrow.out⟩
  case round =>
    clear za zb
    obtain ⟨hkp, i, row, rfl, hi, hM, hc⟩ := hrel
    have za := (HA1.out.keep hkp (by simp <;> omega)).cell 1
    have zb := (HB1.out.keep hkp (by simp <;> omega)).cell 1
    simp only [List.getElem?_cons_zero, List.getElem?_cons_succ] at za zb
    by_cases hlt : i < A.length
    · have HM := hid (And.intro hM (And.intro hkp hc))
      have hkp9 := hkp.size
      clear hM hkp hc
      go_upto_region 7 with fail
      go_loopw [9] (fun vk w2 => Kp [w.heap.size + 1 + 1 + 1] w1 w2 ∧ ∃ (k : Nat) (row : List Nat), vk = .int .i64 (k : Int) ∧ k ≤ B.length ∧ MulR A B row i k ∧ Cells w2 (w.heap.size + 1 + 1 + 1) 3 (i64s row)) (fun vk _ => B.length - (intOf vk).toNat)
      case atStart => exact ⟨HM.out.2.1, 0, row, rfl, Nat.zero_le _, HM.out.1, HM.out.2.2⟩
      case round =>
        clear za zb
        obtain ⟨hkp, k, row, rfl, hk, hM, hc⟩ := hrel
        have za := (HA1.out.keep hkp (by simp <;> omega)).cell 1
        have zb := (HB1.out.keep hkp (by simp <;> omega)).cell 1
        simp only [List.getElem?_cons_zero, List.getElem?_cons_succ] at za zb
        by_cases hlt2 : k < B.length
        · have hlen : row.length = n := by rw [hM.1]; exact Hn.out.symm
          have hp : i + k + 1 < row.length := by have := Hn.out; omega
          have hp2 : i + k + 1 < n := by omega
          have hnx := hM.next HD.out.2.1 HD.out.2.2 hlt hlt2 hp
          have hr9 := hM.2.1 _ (List.getElem_mem hp)
          have zr := hc.cell (i + k + 1)
          rw [i64s_get row _ hp] at zr
          obtain ⟨p, hpp⟩ : ∃ p, p = (A[i]'hlt).toNat := ⟨_, rfl⟩
          obtain ⟨q, hqq⟩ : ∃ q, q = (B[k]'hlt2).toNat := ⟨_, rfl⟩
          have ia := byte_at A i p hlt hpp
          have ib := byte_at B k q hlt2 hqq
          have da : 48 ≤ p ∧ p ≤ 57 := by rw [hpp]; exact HD.out.2.1 _ (List.getElem_mem hlt)
          have db : 48 ≤ q ∧ q ≤ 57 := by rw [hqq]; exact HD.out.2.2 _ (List.getElem_mem hlt2)
          rw [← hpp, ← hqq] at hnx
          obtain ⟨r, hr⟩ : ∃ r, r = row[i + k + 1]'hp := ⟨_, rfl⟩
          rw [← hr] at hnx hr9 zr
          have hr10 : r ≤ 1000000 := by
            have : i * B.length ≤ 60 * 60 := Nat.mul_le_mul (by omega) (by omega)
            omega
          obtain ⟨x, hx⟩ : ∃ x, x = p - 48 := ⟨_, rfl⟩
          obtain ⟨y, hy⟩ : ∃ y, y = q - 48 := ⟨_, rfl⟩
          rw [← hx, ← hy] at hnx
          have hxy : x * y ≤ 9 * 9 := Nat.mul_le_mul (by omega) (by omega)
          obtain ⟨m, hm⟩ : ∃ m, m = x * y := ⟨_, rfl⟩
          rw [← hm] at hnx hxy
          obtain ⟨t, ht⟩ : ∃ t, t = r + m := ⟨_, rfl⟩
          rw [← ht] at hnx
          have hmi : (x : Int) * (y : Int) = (m : Int) := by rw [hm]; exact (Int.natCast_mul x y).symm
          have u1 : IntKind.u8.wrap ((p : Int) - 48) = (x : Int) := by rw [show (p : Int) - 48 = x by omega]; exact IntWalk.u8_in _ (by omega)
          have u2 : IntKind.u8.wrap ((q : Int) - 48) = (y : Int) := by rw [show (q : Int) - 48 = y by omega]; exact IntWalk.u8_in _ (by omega)
          have u3 : IntKind.i64.wrap ((x : Int) * (y : Int)) = (m : Int) := by rw [hmi]; exact IntWalk.i64_in _ (by omega)
          have u4 : IntKind.i64.wrap ((r : Int) + (m : Int)) = (t : Int) := by rw [show (r : Int) + m = t by omega]; exact IntWalk.i64_in _ (by omega)
          have u6 : IntKind.i64.wrap (x : Int) = (x : Int) := IntWalk.i64_in _ (by omega)
          have u7 : IntKind.i64.wrap (y : Int) = (y : Int) := IntWalk.i64_in _ (by omega)
          have b1 : x ≤ 9 := by omega
          have b2 : y ≤ 9 := by omega
          have u5 : (n : Int) - 1 - ((A.length : Int) - 1 - i) - ((B.length : Int) - 1 - k) = ((i + k + 1 : Nat) : Int) := by have := Hn.out; omega
          have HcR := hid hc
          have HN := hid (And.intro hnx hkp)
          have z1 : (0 : Int) ≤ (i : Int) + (k : Int) + 1 := by omega
          have z2 : (i : Int) + (k : Int) + 1 < (n : Int) := by omega
          have z3 : ((i : Int) + (k : Int) + 1).toNat = i + k + 1 := by omega
          clear hnx hkp hc hM hpp hqq hr hx hy hm ht hmi hp hr9 hxy hlen
          have i1 : (0 : Int) ≤ (i : Int) := by omega
          have i2 : (i : Int) < (A.length : Int) := by omega
          have k1 : (0 : Int) ≤ (k : Int) := by omega
          have k2 : (k : Int) < (B.length : Int) := by omega
          go_wp2_with fail
          refine lin_start (fun w' => w'.cell? ⟨w.heap.size, 1, none⟩ = some (Value.string ⟨A.toArray⟩) ∧ w'.cell? ⟨w.heap.size + 1, 1, none⟩ = some (Value.string ⟨B.toArray⟩) ∧ w'.cell? ⟨w.heap.size + 1 + 1 + 1, i + k + 1, none⟩ = some (Value.int .i64 (r : Int))) ((Stays.cell _ _).and ((Stays.cell _ _).and ((Stays.cell _ _)))) (by kernel_rfl) ⟨za, zb, zr⟩ (fun hSS hS => ?_)
          refine lin_val (i := 0) (v := ?_) rfl (by kernel_rfl) (by kernel_rfl) (by kernel_rfl) (fun _ _ _ h => h) hSS hS rfl (fun w hSw => ?_) ?_
          rotate_left
          · obtain ⟨q0, q1, q2⟩ := hSw; go_simp; first | done | with_reducible rfl
          simp only [Act.put, List.setIfInBounds_toArray, List.set_cons_zero, List.set_cons_succ]
          refine lin_val (i := 1) (v := ?_) rfl (by kernel_rfl) (by kernel_rfl) (by kernel_rfl) (fun _ _ _ h => h) hSS hS rfl (fun w hSw => ?_) ?_
          rotate_left
          · obtain ⟨q0, q1, q2⟩ := hSw; go_simp; first | done | with_reducible rfl
          simp only [Act.put, List.setIfInBounds_toArray, List.set_cons_zero, List.set_cons_succ]
          refine lin_val (i := 2) (v := ?_) rfl (by kernel_rfl) (by kernel_rfl) (by kernel_rfl) (fun _ _ _ h => h) hSS hS rfl (fun w hSw => ?_) ?_
          rotate_left
          · obtain ⟨q0, q1, q2⟩ := hSw; go_simp; first | done | with_reducible rfl
          simp only [Act.put, List.setIfInBounds_toArray, List.set_cons_zero, List.set_cons_succ]
          refine lin_val (i := 3) (v := ?_) rfl (by kernel_rfl) (by kernel_rfl) (by kernel_rfl) (fun _ _ _ h => h) hSS hS rfl (fun w hSw => ?_) ?_
          rotate_left
          · obtain ⟨q0, q1, q2⟩ := hSw; go_simp; first | done | with_reducible rfl
          simp only [Act.put, List.setIfInBounds_toArray, List.set_cons_zero, List.set_cons_succ]
          refine lin_val (i := 4) (v := ?_) rfl (by kernel_rfl) (by kernel_rfl) (by kernel_rfl) (fun _ _ _ h => h) hSS hS rfl (fun w hSw => ?_) ?_
          rotate_left
          · obtain ⟨q0, q1, q2⟩ := hSw; go_simp; first | done | with_reducible rfl
          simp only [Act.put, List.setIfInBounds_toArray, List.set_cons_zero, List.set_cons_succ]
          refine lin_val (i := 5) (v := ?_) rfl (by kernel_rfl) (by kernel_rfl) (by kernel_rfl) (fun _ _ _ h => h) hSS hS rfl (fun w hSw => ?_) ?_
          rotate_left
          · obtain ⟨q0, q1, q2⟩ := hSw; go_simp; first | done | with_reducible rfl
          simp only [Act.put, List.setIfInBounds_toArray, List.set_cons_zero, List.set_cons_succ]
          refine lin_val (i := 6) (v := ?_) rfl (by kernel_rfl) (by kernel_rfl) (by kernel_rfl) (fun _ _ _ h => h) hSS hS rfl (fun w hSw => ?_) ?_
          rotate_left
          · obtain ⟨q0, q1, q2⟩ := hSw; go_simp; first | done | with_reducible rfl
          simp only [Act.put, List.setIfInBounds_toArray, List.set_cons_zero, List.set_cons_succ]
          refine lin_val (i := 7) (v := ?_) rfl (by kernel_rfl) (by kernel_rfl) (by kernel_rfl) (fun _ _ _ h => h) hSS hS rfl (fun w hSw => ?_) ?_
          rotate_left
          · obtain ⟨q0, q1, q2⟩ := hSw; go_simp; first | done | with_reducible rfl
          simp only [Act.put, List.setIfInBounds_toArray, List.set_cons_zero, List.set_cons_succ]
          refine lin_val (i := 8) (v := ?_) rfl (by kernel_rfl) (by kernel_rfl) (by kernel_rfl) (fun _ _ _ h => h) hSS hS rfl (fun w hSw => ?_) ?_
          rotate_left
          · obtain ⟨q0, q1, q2⟩ := hSw; go_simp; first | done | with_reducible rfl
          simp only [Act.put, List.setIfInBounds_toArray, List.set_cons_zero, List.set_cons_succ]
          refine lin_val (i := 9) (v := ?_) rfl (by kernel_rfl) (by kernel_rfl) (by kernel_rfl) (fun _ _ _ h => h) hSS hS rfl (fun w hSw => ?_) ?_
          rotate_left
          · obtain ⟨q0, q1, q2⟩ := hSw; go_simp; first | done | with_reducible rfl
          simp only [Act.put, List.setIfInBounds_toArray, List.set_cons_zero, List.set_cons_succ]
          refine lin_val (i := 10) (v := ?_) rfl (by kernel_rfl) (by kernel_rfl) (by kernel_rfl) (fun _ _ _ h => h) hSS hS rfl (fun w hSw => ?_) ?_
          rotate_left
          · obtain ⟨q0, q1, q2⟩ := hSw; go_simp; first | done | with_reducible rfl
          simp only [Act.put, List.setIfInBounds_toArray, List.set_cons_zero, List.set_cons_succ]
          refine lin_val (i := 11) (v := ?_) rfl (by kernel_rfl) (by kernel_rfl) (by kernel_rfl) (fun _ _ _ h => h) hSS hS rfl (fun w hSw => ?_) ?_
          rotate_left
          · obtain ⟨q0, q1, q2⟩ := hSw; go_simp; first | done | with_reducible rfl
          simp only [Act.put, List.setIfInBounds_toArray, List.set_cons_zero, List.set_cons_succ]
          refine lin_val (i := 12) (v := ?_) rfl (by kernel_rfl) (by kernel_rfl) (by kernel_rfl) (fun _ _ _ h => h) hSS hS rfl (fun w hSw => ?_) ?_
          rotate_left
          · obtain ⟨q0, q1, q2⟩ := hSw; go_simp; first | done | with_reducible rfl
          simp only [Act.put, List.setIfInBounds_toArray, List.set_cons_zero, List.set_cons_succ]
          refine lin_val (i := 13) (v := ?_) rfl (by kernel_rfl) (by kernel_rfl) (by kernel_rfl) (fun _ _ _ h => h) hSS hS rfl (fun w hSw => ?_) ?_
          rotate_left
          · obtain ⟨q0, q1, q2⟩ := hSw; go_simp; first | done | with_reducible rfl
          simp only [Act.put, List.setIfInBounds_toArray, List.set_cons_zero, List.set_cons_succ]
          refine lin_val (i := 14) (v := ?_) rfl (by kernel_rfl) (by kernel_rfl) (by kernel_rfl) (fun _ _ _ h => h) hSS hS rfl (fun w hSw => ?_) ?_
          rotate_left
          · obtain ⟨q0, q1, q2⟩ := hSw; go_simp; first | done | with_reducible rfl
          simp only [Act.put, List.setIfInBounds_toArray, List.set_cons_zero, List.set_cons_succ]
          refine lin_val (i := 15) (v := ?_) rfl (by kernel_rfl) (by kernel_rfl) (by kernel_rfl) (fun _ _ _ h => h) hSS hS rfl (fun w hSw => ?_) ?_
          rotate_left
          · obtain ⟨q0, q1, q2⟩ := hSw; go_simp; first | done | with_reducible rfl
          simp only [Act.put, List.setIfInBounds_toArray, List.set_cons_zero, List.set_cons_succ]
          refine lin_val (i := 16) (v := ?_) rfl (by kernel_rfl) (by kernel_rfl) (by kernel_rfl) (fun _ _ _ h => h) hSS hS rfl (fun w hSw => ?_) ?_
          rotate_left
          · obtain ⟨q0, q1, q2⟩ := hSw; go_simp; first | done | with_reducible rfl
          simp only [Act.put, List.setIfInBounds_toArray, List.set_cons_zero, List.set_cons_succ]
          refine lin_val (i := 17) (v := ?_) rfl (by kernel_rfl) (by kernel_rfl) (by kernel_rfl) (fun _ _ _ h => h) hSS hS rfl (fun w hSw => ?_) ?_
          rotate_left
          · obtain ⟨q0, q1, q2⟩ := hSw; go_simp; first | done | with_reducible rfl
          simp only [Act.put, List.setIfInBounds_toArray, List.set_cons_zero, List.set_cons_succ]
          refine lin_val (i := 18) (v := ?_) rfl (by kernel_rfl) (by kernel_rfl) (by kernel_rfl) (fun _ _ _ h => h) hSS hS rfl (fun w hSw => ?_) ?_
          rotate_left
          · obtain ⟨q0, q1, q2⟩ := hSw; go_simp; first | done | with_reducible rfl
          simp only [Act.put, List.setIfInBounds_toArray, List.set_cons_zero, List.set_cons_succ]
          refine lin_val (i := 19) (v := ?_) rfl (by kernel_rfl) (by kernel_rfl) (by kernel_rfl) (fun _ _ _ h => h) hSS hS rfl (fun w hSw => ?_) ?_
          rotate_left
          · obtain ⟨q0, q1, q2⟩ := hSw; go_simp; first | done | with_reducible rfl
          simp only [Act.put, List.setIfInBounds_toArray, List.set_cons_zero, List.set_cons_succ]
          refine lin_val (i := 20) (v := ?_) rfl (by kernel_rfl) (by kernel_rfl) (by kernel_rfl) (fun _ _ _ h => h) hSS hS rfl (fun w hSw => ?_) ?_
          rotate_left
          · obtain ⟨q0, q1, q2⟩ := hSw; go_simp; first | done | with_reducible rfl
          simp only [Act.put, List.setIfInBounds_toArray, List.set_cons_zero, List.set_cons_succ]
          refine lin_last (i := 21) (by kernel_rfl) rfl (by kernel_rfl) (fun wb kb K hK => ?_)
          have fr := (HcR.out.keep ((Kp.refl [] _).drew.nil kb) (by simp)).free (i + k + 1)
          have cr := kb.cell hS.2.2 (by simp)
          go_simp
          refine hK.out _ _ ?_
          clear hK K
          have HC9 := hid ((HcR.out.keep ((Kp.refl [] _).drew.nil kb) (by simp)).put (i + k + 1) (.int .i64 (t : Int)))
          have HK9 := hid ((HN.out.2.drew).nil kb)
          clear hS hSS kb fr cr u1 u2 u3 u4 u5 u6 u7 za zb zr ia ib z3
          go_wp2_with fail
          go_roundw
          case rel => exact ⟨HK9.out.setCell (p := ⟨w.heap.size + 1 + 1 + 1, i + k + 1, none⟩) (fun _ => by simp) _, k + 1, _, by go_num, by omega, HN.out.1, by rw [i64s_set]; exact HC9.out⟩
          case measure => simp [intOf]; omega
        · have hkB : k = B.length := by omega
          rw [hkB] at hM
          have HF := hid (And.intro (hM.row hlt) (And.intro hkp hc))
          clear hM hkp hc
          go_wp2_with fail
          go_roundw
          case rel => exact ⟨HF.out.2.1, i + 1, row, by go_num, by omega, HF.out.1, HF.out.2.2⟩
          case measure => simp [intOf]; omega
    · have hiA : i = A.length := by omega
      obtain ⟨wo, rfl⟩ : ∃ wo : World, wo = wr := ⟨_, rfl⟩
      rw [hiA] at hM
      have hrx : ∀ x ∈ row, x ≤ 300000 := fun x hx => by
        have h1 := hM.2.1 x hx
        have : A.length * B.length ≤ 60 * 60 := Nat.mul_le_mul la lb
        omega
      obtain ⟨hm1, hm2⟩ := hM.done
      have hrn : row.length = n := hm1.trans Hn.out.symm
      have hlt10 : nval row < 10 ^ row.length := by
        rw [hm2, hm1, Nat.pow_add]
        exact Nat.mul_lt_mul'' (val_lt A HD.out.2.1) (val_lt B HD.out.2.2)
      have HM := hid (And.intro hm2 (And.intro hlt10 (And.intro hrn hrx)))
      have HKP := hid hkp
      have HCR := hid hc
      have hsz9 := hkp.size
      clear hM hkp hc hm1 hm2 hrn hlt10 hrx hiA
      go_wp2_with (at_make; go_must (refine wpList_make1 rfl _ _ 32 rfl 5 (.int .u8 0) 1 Tryd.underlying32 infoByte rfl .i64 .i64 (n : Int) (n : Int) n rfl rfl rfl rfl (by omega) (by omega) ?_))
      intro w3 Z hZ hg hk3
      have hout : Cells w3 wo.heap.size 5 (u8s (List.replicate (n - 0) 0 ++ [])) := by
        rw [List.append_nil, Nat.sub_zero, ← zeros_u8s, ← hZ.out]
        exact hg
      have HO3 := hid hout
      have HA3 := hid ((HA1.out.keep HKP.out (by simp <;> omega)).keep hk3 (by simp))
      have HB3 := hid ((HB1.out.keep HKP.out (by simp <;> omega)).keep hk3 (by simp))
      have HR3 := hid (Room.far HR1.out (HKP.out) (by simp) |>.kept hk3)
      have HC3 := hid (HCR.out.keep hk3 (by simp))
      have HK3 := hid ((HK1.out.fresh HKP.out (by omega)).nil hk3)
      have hl9 : wo.heap.size < w3.heap.size := hout.lt
      clear hout hZ hg hk3 za zb HA1 HB1 HR1 HCR HK1 HKP Hrow
      go_wp2_with fail
      go_loopw [12, 13] (fun vc vi w4 => Kp [wo.heap.size] w3 w4 ∧ ∃ (s : List UInt8) (c j : Nat), vc = .int .i64 (c : Int) ∧ vi = .int .i64 ((n : Int) - 1 - j) ∧ CarryR row s c j ∧ c ≤ 1000000 ∧ Cells w4 wo.heap.size 5 (u8s (List.replicate (n - j) 0 ++ s))) (fun _ vi _ => (intOf vi + 1).toNat)
      case atStart => exact ⟨Kp.refl _ _, [], 0, 0, rfl, by go_num, CarryR.start row, by omega, HO3.out⟩
      case round =>
        obtain ⟨hkp, s, c, j, rfl, rfl, hI, hc9, hc⟩ := hrel
        have hsz := hkp.size
        have cR := HC3.out.keep hkp (by simp; omega)
        by_cases hj : j < n
        · have hlr : row.length = n := HM.out.2.2.1
          obtain ⟨p, hp⟩ : ∃ p, p = n - 1 - j := ⟨_, rfl⟩
          have hpr : p < row.length := by omega
          have zr := cR.cell p
          rw [i64s_get row _ hpr] at zr
          obtain ⟨x, hx⟩ : ∃ x, x = row[p]'hpr + c := ⟨_, rfl⟩
          have hx9 := HM.out.2.2.2 _ (List.getElem_mem hpr)
          have hnx := hI.next (by omega) (n := x) (by rw [hx]; congr 1; simp only [hp, hlr])
          obtain ⟨r, hr⟩ : ∃ r, r = row[p]'hpr := ⟨_, rfl⟩
          rw [← hr] at zr hx hx9
          have hx2 : (r : Int) + (c : Int) = (x : Int) := by omega
          have u1 : IntKind.i64.wrap ((r : Int) + (c : Int)) = (x : Int) := by rw [hx2]; exact IntWalk.i64_in _ (by omega)
          have hx10 : x ≤ 1300000 := by omega
          have e1 : (n : Int) - 1 - j = (p : Int) := by omega
          have hput := hc.put p (u8 (dg x))
          have hset : (List.replicate (n - j) (0 : UInt8) ++ s).set p (dg x) = List.replicate (n - (j + 1)) 0 ++ dg x :: s := by rw [hp]; exact set_mid n j (dg x) s hj
          rw [← u8s_set, hset] at hput
          have fr := hc.free p
          have hpn : p < n := by omega
          have hpl : p < (List.replicate (n - j) (0 : UInt8) ++ s).length := by simp; omega
          obtain ⟨u, hcl⟩ : ∃ u, wr.cell? ⟨wo.heap.size, p, none⟩ = some u := ⟨_, by rw [hc.cell p, u8s_get _ p hpl]⟩
          have hdv := fun h : x < 2000000 => dg_val x
          have HN := hid (And.intro hnx (And.intro hput (And.intro hkp e1)))
          rw [e1]
          clear hnx hput hset hkp hI hx hr hp e1 cR hc hdv
          go_wp2_with fail
          rw [dg_val]
          go_roundw
          case rel => exact ⟨HN.out.2.2.1.setCell (p := ⟨wo.heap.size, p, none⟩) (fun _ => by simp) _, dg x :: s, x / 10, j + 1, by go_num, by rw [← HN.out.2.2.2]; go_num, HN.out.1, by omega, HN.out.2.1⟩
          case measure => simp [intOf]
        · have hj0 := hI.1
          have hjn : j = n := by have := HM.out.2.2.1; omega
          have hlr : row.length = n := HM.out.2.2.1
          rw [hjn] at hI hc
          rw [← hlr] at hI
          obtain ⟨hd1, hd2⟩ := hI.done HM.out.2.1
          have hsl : s.length = n := hI.2.1.trans hlr
          rw [Nat.sub_self] at hc
          have hsp : Span wr (some ⟨wo.heap.size, 0, none⟩) (u8s s) := Span.of_cells hc
          have htx := run_text (P := Tryd.prog) (src := 32) (e := 5) (dst := 9) Tryd.underlying32 Tryd.underlying5 Tryd.underlying9 hsp n n hsl
          have hnm : ∀ W, Calls Tryd.prog 62 #[.bool (!(n1 == n2)), .string ⟨s.toArray⟩, .int .i64 ((s1 + s2 : Nat) : Int)] W fun e w' => e = .returned (.tuple #[.agg #[.bool (oN O), .string ⟨(oL O).toArray⟩, .int .i64 (oS O)], .int .i64 (oE O)]) ∧ Kp [] W w' := fun W =>
            (rnorm_any W (!(n1 == n2)) s hd1 (by omega) (s1 + s2) (by omega)).mono fun e w' ⟨h1, h2⟩ => ⟨by rw [h1, hd2, HM.out.1, ← HD.out.1, resV_is], h2⟩
          have e2 : ((s1 + s2 : Nat) : Int) = (s1 : Int) + (s2 : Int) := by omega
          rw [e2] at hnm
          have cA := HA3.out.keep hkp (by simp; omega)
          have cB := HB3.out.keep hkp (by simp; omega)
          have a0 := cA.cell 0
          have a2 := cA.cell 2
          have b0 := cB.cell 0
          have b2 := cB.cell 2
          simp only [List.getElem?_cons_zero, List.getElem?_cons_succ] at a0 a2 b0 b2
          have HRR := hid (Room.far HR3.out hkp (by simp; omega))
          have HKK := hid (HK3.out.fresh hkp (by omega))
          clear hI hc hsp hd1 hd2 hsl hlr hjn e2 cA cB cR hkp hj0
          go_wp2_with fail
          (with_reducible refine (hnm _).mono ?_)
          rintro e w5 ⟨rfl, k5⟩
          obtain ⟨x0, x1, x2, c0, c1, c2, f0, f1, f2⟩ := (HRR.out.kept k5).cells
          have HK5 := hid (HKK.out.nil k5)
          clear k5 hnm
          go_wp2_with fail
          exact bodyPost_ret (v := .tuple #[.agg #[.bool (oN O), .string ⟨(oL O).toArray⟩, .int .i64 (oS O)], .int .i64 (oE O)]) (by simp [results, Tryd.results28, go_sem, c0, c1, c2]) rfl ⟨by rw [resV_is], kp_room2 HK5.out _ _ _⟩
end Go.Proofs.YtampgimmodomoaaDoor
