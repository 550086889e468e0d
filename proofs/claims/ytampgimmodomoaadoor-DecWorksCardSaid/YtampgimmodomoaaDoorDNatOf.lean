/- natOf and digits of layer 1. -/
import Derived.Test.YtampgimmodomoaaDoorDVal
import Derived.Test.YtampgimmodomoaaDoorDBytes
import Derived.Test.YtampgimmodomoaaDoorWide
import Derived.Test.YtampgimmodomoaaDoorText
namespace Go.Proofs.YtampgimmodomoaaDoor
open Go Go.RowKit

/-- Limbs that a call has made. -/
def NatPost (w : World) (n : Nat) (e : Ending) (w' : World) : Prop := ∃ A c, e = .returned (.slice A (limLen n) c) ∧ NatA w' A c n ∧ Kp [] w w'
/-- Own of limbs. -/
def OwnL (w : World) (v : Value) (l : List Nat) : Prop := Own w 73 v l.length (u64s l)
theorem OwnL.shape {w : World} {v : Value} {l : List Nat} (h : OwnL w v l) : ∃ A c, v = .slice A l.length c ∧ LimA w A c l := by
  obtain ⟨A, c, rfl, h2, h3, h4, _⟩ := OwnN.shape (s := 1) h
  exact ⟨A, c, rfl, h2, h3, h4⟩
theorem step_digit {C : List UInt8} (hC : Digs C) {j : Nat} (h : j < C.length) (h9 : C.length ≤ 9) : val (C.take j) < 100000000 ∧ val (C.take (j + 1)) = val (C.take j) * 10 + (C[j].toNat - 48) ∧ 48 ≤ C[j].toNat ∧ C[j].toNat ≤ 57 := by
  have h1 := val_lt _ (hC.take j)
  have h2 : (C.take j).length ≤ 8 := by rw [List.length_take]; omega
  have h3 := hC _ (List.getElem_mem h)
  refine ⟨Nat.lt_of_lt_of_le h1 (Nat.pow_le_pow_right (by decide) h2), ?_, h3⟩
  rw [← List.take_append_getElem h, val_snoc]
set_option maxRecDepth 100000 in
set_option maxHeartbeats 3200000 in
theorem natOf_any (w : World) (l : List UInt8) (hl : Digs l) (hs : l.length ≤ 100000) : Calls Tryd.prog 53 #[.string ⟨l.toArray⟩] w (NatPost w (val l)) := by
  have hsz : (⟨l.toArray⟩ : ByteArray).size = l.length := size_mk l
  have hI := NatI.start l
  have Hl := hid hl
  have HI := hid hI
  clear hl hI
  go_enter Tryd.func53, Tryd.ntmps53
  go_wp2_with fail
  go_loopw [3, 4] (fun v va wr => New w wr v ∧ ∃ (t : Int) (out : List Nat), va = .int .i64 t ∧ -9 ≤ t ∧ t ≤ l.length ∧ NatI l out t.toNat ∧ OwnL wr v out ∧ out.length * 9 + t ≤ l.length) (fun _ va _ => (intOf va).toNat)
  case atStart => exact ⟨New.nil (Kp.refl _ _), l.length, [], rfl, by omega, by omega, HI.out, Own.nil _ _, by simp⟩
  case round =>
    obtain ⟨hn, t, out, rfl, ht, htl, hI, ho, hout⟩ := hrel
    by_cases hpos : 0 < t
    · obtain ⟨e, rfl⟩ : ∃ e : Nat, t = (e : Int) := ⟨t.toNat, by omega⟩
      rw [Int.toNat_natCast] at hI
      have hnext := hI.next Hl.out
      obtain ⟨q, hq⟩ : ∃ q, q = e - 9 := ⟨_, rfl⟩
      obtain ⟨C, hC⟩ : ∃ C, C = (l.take e).drop q := ⟨_, rfl⟩
      rw [← hq, ← hC] at hnext
      have hCl : C.length = e - q := by rw [hC, List.length_drop, List.length_take]; omega
      have hCd : Digs C := by rw [hC]; exact (Hl.out.take e).drop q
      have hx := extract_mk l q e
      rw [← hC] at hx
      have hmx : max 0 ((e : Int) - 9) = (q : Int) := by omega
      have hq1 : q ≤ e := by omega
      have hq2 : e ≤ l.length := by omega
      obtain ⟨m, hm⟩ : ∃ m, m = C.length := ⟨_, rfl⟩
      have hm9 : m ≤ 9 := by omega
      have hcv := fun W => conv_bytes W C m hm
      have Hnext := hid hnext
      have HC := hid hCd
      have Hm := hid hm
      have Hq := hid (And.intro hq hout)
      have hlt : val C < 1000000000 := by
        have h1 := val_lt _ hCd
        exact Nat.lt_of_lt_of_le h1 (show 10 ^ C.length ≤ 10 ^ 9 from Nat.pow_le_pow_right (by decide) (by omega))
      have Hlt := hid hlt
      have HI2 := hid hI
      clear hnext hC hCl hCd hq hm hI hout hlt htl ht
      have hb0 : decide (0 < e) = true := decide_eq_true (by omega)
      go_upto_region 7 with fail
      obtain ⟨W1, hW1⟩ : ∃ W1, W1 = Lib.bytesWorld wr 5 ⟨C.toArray⟩ := ⟨_, rfl⟩
      have kb : Kp [] wr W1 := by rw [hW1]; exact kp_bytes _ _
      have cb : ∀ j (h : j < C.length), W1.cell? ⟨wr.heap.size, j, none⟩ = some (.int .u8 (C[j].toNat : Int)) := fun j h => by rw [hW1]; exact bytes_cell wr C j h
      rw [← hW1]
      generalize grownCap wr m 0 5 = CAP
      have Hn := hid (hn.kept kb)
      have Ho := hid (ho.kept kb)
      have Cb := hid cb
      clear hW1 kb cb hn ho hcv hx hmx
      go_loopw [22, 5] (fun vj vx w1 => w1 = W1 ∧ ∃ j : Nat, vj = .int .i64 (j : Int) ∧ j ≤ m ∧ vx = .int .u64 ((val (C.take j) : Nat) : Int)) (fun vj _ _ => m - (intOf vj).toNat)
      case atStart => exact ⟨rfl, 0, rfl, by omega, rfl⟩
      case round =>
        obtain ⟨hwr, j, rfl, hj, rfl⟩ := hrel
        have hwr2 := hwr.symm
        subst hwr2
        by_cases hlt : j < m
        · obtain ⟨s1, s2, s3, s4⟩ := step_digit HC.out (j := j) (by rw [← Hm.out]; exact hlt) (by rw [← Hm.out]; exact hm9)
          have hcell := Cb.out j (by rw [← Hm.out]; exact hlt)
          obtain ⟨c, hc⟩ : ∃ c, c = (C[j]'(by rw [← Hm.out]; exact hlt)).toNat := ⟨_, rfl⟩
          obtain ⟨x, hx⟩ : ∃ x, x = val (C.take j) := ⟨_, rfl⟩
          rw [← hx] at s1 s2 ⊢
          rw [← hc] at s2 s3 s4 hcell
          have S2 := hid s2
          clear s2 hc hx
          go_wp2_with fail
          go_roundw
          case rel => exact ⟨trivial, j + 1, by go_num, by omega, by rw [S2.out]; go_num⟩
          case measure => simp [intOf]; omega
        · have hjm : j = C.length := by rw [← Hm.out]; omega
          rw [hjm, List.take_length]
          have hjm2 : C.length = m := Hm.out.symm
          rw [hjm2]
          clear hjm hjm2 hlt hj
          obtain ⟨x, hx⟩ : ∃ x, x = val C := ⟨_, rfl⟩
          rw [← hx]
          rw [← hx] at Hnext
          clear hx
          go_wp2_with (at_builtin; go_must (refine wpList_append1 rfl _ _ 59 rfl 73 (.int .u64 0) 8 Tryd.underlying59 infoU64 rfl _ _ _ rfl (Ho.out.kept ((Kp.refl _ _).alloc _)) _ 1 1 [.int .u64 (x : Int)] rfl (Span.of_new _ _ _ _) rfl (u64s_one [x]) ?_ ?_ ?_))
          · have := Hq.out.2; omega
          · have := Hq.out.2; omega
          intro v1 w1 ho1 hk1 hb1
          go_wp2_with fail
          go_roundw
          case rel =>
            have h9 := Hq.out
            refine ⟨(Hn.out.kept ((Kp.refl _ _).alloc _)).append hk1 hb1 (by simp), (e : Int) - 9, out ++ [x], by go_num, by omega, by omega, ?_, ?_, by rw [List.length_append]; simp only [List.length_singleton]; omega⟩
            · have e9 : ((e : Int) - 9).toNat = q := by omega
              rw [e9]
              exact Hnext.out
            · unfold OwnL
              rw [u64s_append, List.length_append]
              exact ho1
          case measure => simp [intOf]; omega
    · have e0 : t.toNat = 0 := by omega
      rw [e0] at hI
      have hd := hI.done
      have hlim := hI.1
      obtain ⟨A, c, rfl, hL⟩ := ho.shape
      have HF := hid (And.intro hd hn.kp)
      have hb0 : decide (0 < t) = false := decide_eq_false hpos
      clear hd hn hI ho e0
      go_wp2_with fail
      refine (trim_any _ A c out _ rfl hL hlim).mono ?_
      rintro e w2 ⟨rfl, hN, rfl⟩
      have HN := hid hN
      clear hL hlim hN
      go_wp2_with fail
      go_ret
      rw [HF.out.1] at HN
      exact ⟨A, c, by rw [HF.out.1]; rfl, HN.out, HF.out.2⟩
end Go.Proofs.YtampgimmodomoaaDoor
