/- times of layer 1. -/
import Derived.Test.YtampgimmodomoaaDoorDNatOf
import Derived.BigQuiet
import Derived.Deep.QuietTactic
namespace Go.Proofs.YtampgimmodomoaaDoor
open Go Go.RowKit

theorem u64s_set (l : List Nat) (p : Nat) (x : Nat) : u64s (l.set p x) = (u64s l).set p (u64 x) := by simp [u64s, List.map_set]
theorem zeros_u64s (n : Nat) : List.replicate n (Value.int .u64 0) = u64s (List.replicate n 0) := by simp [u64s, u64]
set_option maxRecDepth 100000 in
set_option maxHeartbeats 6400000 in
theorem times_any (w : World) (A B : Option Addr) (c d : Nat) (l m : List Nat) (n k : Nat) (hn : n = l.length) (hk : k = m.length) (hA : LimA w A c l) (hB : LimA w B d m) (hl : Lims l) (hm : Lims m) (h1 : l.length ≤ 10000) (h2 : m.length ≤ 10000) :
    Calls Tryd.prog 54 #[.slice A n c, .slice B k d] w (NatPost w (lval l * lval m)) := by
  have hAc := hA.2.1
  have HA := hid hA
  have HB := hid hB
  have Hl := hid hl
  have Hm := hid hm
  have hn9 : n ≤ 10000 := by omega
  have hk9 : k ≤ 10000 := by omega
  have hnc : n ≤ c := by omega
  have hT0 := TimesI.start l m
  rw [← hn, ← hk] at hT0
  obtain ⟨T, hT⟩ : ∃ T, T = n + k + 1 := ⟨_, rfl⟩
  rw [← hT] at hT0
  have hTi : (n : Int) + (k : Int) + 1 = (T : Int) := by omega
  have hT9 : T ≤ 20001 := by omega
  have Hn := hid (And.intro hn (And.intro hk (And.intro hT hT0)))
  clear hA hB hl hm hn hk h1 h2 hAc hT hT0
  go_enter Tryd.func54, Tryd.ntmps54
  go_wp2_with (at_make; go_must (refine wpList_make1 rfl _ _ 59 rfl 73 (.int .u64 0) 8 Tryd.underlying59 infoU64 rfl .i64 .i64 (T : Int) (T : Int) T rfl rfl rfl rfl (by omega) (by omega) ?_))
  intro w1 Z hZ hg hkp
  have hc0 : Cells w1 w.heap.size 73 (u64s (List.replicate T 0)) := by rw [← zeros_u64s, ← hZ.out]; exact hg
  have Hc0 := hid (And.intro hc0 hkp)
  clear hc0 hkp hg hZ
  go_wp2_with fail
  go_loopw [20] (fun vi wr => Kp [] w wr ∧ ∃ (i : Nat) (out : List Nat), vi = .int .i64 (i : Int) ∧ i ≤ n ∧ TimesI l m out i ∧ Cells wr w.heap.size 73 (u64s out)) (fun vi _ => n - (intOf vi).toNat)
  case atStart => exact ⟨Hc0.out.2, 0, _, rfl, by omega, Hn.out.2.2.2, Hc0.out.1⟩
  case round =>
    obtain ⟨hkp, i, out0, rfl, hi, hI, hc⟩ := hrel
    by_cases hlt : i < n
    · obtain ⟨ad, hAe, hcell⟩ := (HA.out.kept hkp).get (j := i) (by rw [← Hn.out.1]; exact hlt)
      rw [lim_get (by rw [← Hn.out.1]; exact hlt)] at hcell
      have hxl : lim l i < 1000000000 := lim_lt Hl.out i
      have hR0 := RowI.start hI.2.1 m (lim l i) i
      have hout0 : out0.length = T := by rw [hI.1, ← Hn.out.1, ← Hn.out.2.1]; exact Hn.out.2.2.1.symm
      obtain ⟨x, hx⟩ : ∃ x, x = lim l i := ⟨_, rfl⟩
      rw [← hx] at hcell hxl hR0
      have Hx := hid (And.intro hx (And.intro hI hout0))
      have HR0 := hid (And.intro hR0 (And.intro hkp hc))
      subst hAe
      clear hx hkp hc hR0 hI hout0
      go_upto_region 7 with fail
      go_loopw [28, 8] (fun vj vc w1 => Kp [] w w1 ∧ ∃ (j q : Nat) (out : List Nat), vj = .int .i64 (j : Int) ∧ j ≤ k + 1 ∧ vc = .int .u64 (q : Int) ∧ RowI m out0 out x i q j ∧ (j = k + 1 → q = 0) ∧ Cells w1 w.heap.size 73 (u64s out)) (fun vj _ _ => k + 1 - (intOf vj).toNat)
      case atStart => exact ⟨HR0.out.2.1, 0, 0, out0, rfl, by omega, rfl, HR0.out.1, fun h => by omega, HR0.out.2.2⟩
      case round =>
        obtain ⟨hkp, j, q, out, rfl, hj, rfl, hR, hq0, hc⟩ := hrel
        by_cases hlt2 : j < k + 1
        · have cb := fun W (hW : LimA W B d m) => limb_any W B d m k Hn.out.2.1 hW j
          have lb : lim m j < 1000000000 := lim_lt Hm.out j
          obtain ⟨y, hy⟩ : ∃ y, y = lim out (i + j) + x * lim m j + q := ⟨_, rfl⟩
          have hij : i + j < T := by have := Hn.out.2.2.1; omega
          obtain ⟨hnext, hyl⟩ := hR.next Hm.out hxl (by rw [Hx.out.2.2]; exact hij) hy
          have hlast : j + 1 = k + 1 → y / Bs = 0 := fun h => by
            have hjk : j = k := by omega
            rw [hjk, Hn.out.2.1] at hR hy
            exact row_carry Hx.out.2.1 hR hy
          have hol : lim out (i + j) < 1000000000 := lim_lt hR.2.1 _
          have hql : q < 1000000000 := hR.2.2.1
          have holn : out.length = T := by rw [hR.1]; exact Hx.out.2.2
          have hcell := hc.cell (i + j)
          have hcv : (u64s out)[i + j]? = some (.int .u64 (lim out (i + j) : Int)) := by
            rw [← lim_get (by omega)]
            simp [u64s, u64, holn, hij]
          rw [hcv] at hcell
          have hfree := hc.free (i + j)
          obtain ⟨o, ho⟩ : ∃ o, o = lim out (i + j) := ⟨_, rfl⟩
          obtain ⟨b, hb⟩ : ∃ b, b = lim m j := ⟨_, rfl⟩
          simp only [← hb] at cb
          rw [← ho, ← hb] at hy
          rw [← ho] at hcell hol
          rw [← hb] at lb
          have hmul : x * b ≤ 999999999 * 999999999 := Nat.mul_le_mul (by omega) (by omega)
          obtain ⟨p, hp⟩ : ∃ p, p = x * b := ⟨_, rfl⟩
          rw [← hp] at hy hmul
          have hp2 : (x : Int) * (b : Int) = (p : Int) := by rw [hp]; exact (Int.natCast_mul x b).symm
          obtain ⟨r, hr⟩ : ∃ r, r = y % Bs := ⟨_, rfl⟩
          obtain ⟨u, hu⟩ : ∃ u, u = y / Bs := ⟨_, rfl⟩
          rw [← hr, ← hu] at hnext
          rw [← hu] at hlast
          unfold Bs at hr hu
          have hput := hc.put (i + j) (.int .u64 (r : Int))
          have hnew : (u64s out).set (i + j) (.int .u64 (r : Int)) = u64s (out.set (i + j) r) := by rw [u64s_set]; rfl
          rw [hnew] at hput
          have w1 : IntKind.u64.wrap ((x : Int) * (b : Int)) = (p : Int) := by rw [hp2]; exact IntWalk.u64_in _ (by omega)
          obtain ⟨s1, hs1⟩ : ∃ s1, s1 = o + p := ⟨_, rfl⟩
          have w2 : IntKind.u64.wrap ((o : Int) + (p : Int)) = (s1 : Int) := by rw [IntWalk.u64_in _ (by omega)]; omega
          have w3 : IntKind.u64.wrap ((s1 : Int) + (q : Int)) = (y : Int) := by rw [IntWalk.u64_in _ (by omega)]; omega
          have hr2 : (y : Int) % 1000000000 = (r : Int) := by omega
          have hu2 : (y : Int) / 1000000000 = (u : Int) := by omega
          obtain ⟨z, hz⟩ : ∃ z, z = i + j := ⟨_, rfl⟩
          rw [← hz] at hput hnext hcell hfree hij
          have wz : IntKind.i64.wrap ((i : Int) + (j : Int)) = (z : Int) := by rw [IntWalk.i64_in _ (by omega)]; omega
          have hz2 : (i : Int) + (j : Int) = (z : Int) := by omega
          have z1 : (0 : Int) ≤ (z : Int) := by omega
          have z2 : (z : Int) < (T : Int) := by omega
          have hyb : y ≤ 1000000000000000000 := by omega
          have hjk2 : decide ((j : Int) < (k : Int) + 1) = true := decide_eq_true (by omega)
          have Hnext := hid (And.intro hnext (And.intro hlast hput))
          have Hk := hid hkp
          clear hnext hlast hput hnew hkp hc hcv hR hq0 hol hql holn ho hb hy hp hr hu hs1 hz hmul hp2 hyl lb
          go_wp2_with fail
          go_quiet ((go_at_call 96; exact Calls.quiet_of_same (cb _ (HB.out.kept (Hk.out.drewN _)))))
          clear w1 w2 w3 wz
          go_wp2_with fail
          go_roundw
          case rel => exact ⟨(Hk.out.drewN _).setCell (p := ⟨w.heap.size, z, none⟩) (fun h => by simp at h) _, j + 1, u, out.set z r, by go_num, by omega, rfl, Hnext.out.1, Hnext.out.2.1, Hnext.out.2.2⟩
          case measure => simp [intOf]; omega
        · have hjk : j = k + 1 := by omega
          have hq := hq0 hjk
          subst hq
          rw [hjk] at hR
          rw [Hn.out.2.1] at hR
          have hN : TimesI l m out (i + 1) := Hx.out.2.1.next (by rw [← Hx.out.1]; exact hR) rfl
          have HF := hid (And.intro hN (And.intro hkp hc))
          subst hjk
          clear hN hkp hc hR hq0
          go_wp2_with fail
          go_roundw
          case rel => exact ⟨HF.out.2.1, i + 1, out, by go_num, by omega, HF.out.1, HF.out.2.2⟩
          case measure => simp [intOf]; omega
    · obtain ⟨hd1, hd2⟩ := hI.done (by have := Hn.out.1; omega)
      have hlen : out0.length = T := by rw [hI.1, ← Hn.out.1, ← Hn.out.2.1]; exact Hn.out.2.2.1.symm
      have hL : LimA wr (some ⟨w.heap.size, 0, none⟩) T out0 := ⟨Span.of_cells hc, by omega, by omega⟩
      have Hd := hid (And.intro hd1 (And.intro hd2 hlen))
      have Hk := hid hkp
      clear hI hd1 hd2 hlen hkp hc
      go_wp2_with fail
      refine (trim_any _ _ T out0 T Hd.out.2.2.symm hL Hd.out.1).mono ?_
      rintro e w2 ⟨rfl, hN, rfl⟩
      have HN := hid hN
      clear hL hN
      go_wp2_with fail
      go_ret
      rw [Hd.out.2.1] at HN
      exact ⟨_, T, by rw [Hd.out.2.1]; rfl, HN.out, Hk.out⟩
end Go.Proofs.YtampgimmodomoaaDoor
