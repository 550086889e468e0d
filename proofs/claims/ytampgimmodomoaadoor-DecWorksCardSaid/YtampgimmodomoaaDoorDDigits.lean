/- digits of layer 1. -/
import Derived.Test.YtampgimmodomoaaDoorDNatOf
namespace Go.Proofs.YtampgimmodomoaaDoor
open Go Go.RowKit

theorem infoByte : (Tryd.prog.info? 5).map (fun i => (i.zero, i.size, i.bytes)) = some (some (.int .u8 0), 1, 1) := by kernel_rfl
theorem u8s_set (l : List UInt8) (p : Nat) (c : UInt8) : u8s (l.set p c) = (u8s l).set p (u8 c) := by simp [u8s, List.map_set]
theorem zeros_u8s (n : Nat) : List.replicate n (Value.int .u8 0) = u8s (List.replicate n 0) := by simp [u8s, u8]
set_option maxRecDepth 100000 in
set_option maxHeartbeats 3200000 in
theorem digits_any (w : World) (A : Option Addr) (c : Nat) (l : List Nat) (n : Nat) (hn : n = l.length) (h : LimA w A c l) (hl : Lims l) (hs : l.length ≤ 10000) :
    Calls Tryd.prog 55 #[.slice A n c] w fun e w' => e = .returned (.string ⟨(digN (l.length * 9) (lval l)).toArray⟩) ∧ Kp [] w w' := by
  have H := hid h
  have Hl := hid hl
  have h2 := h.2.1
  clear h hl
  obtain ⟨N, hN⟩ : ∃ N, N = lval l := ⟨_, rfl⟩
  rw [← hN]
  have HN := hid hN
  clear hN
  rw [← hn]
  rw [← hn] at hs h2
  have Hn := hid hn
  clear hn
  obtain ⟨T, hT⟩ : ∃ T, T = n * 9 := ⟨_, rfl⟩
  have hTi : (n : Int) * 9 = (T : Int) := by omega
  have hT9 : T ≤ 90000 := by omega
  rw [← hT]
  have HT := hid hT
  clear hT
  go_enter Tryd.func55, Tryd.ntmps55
  go_wp2_with (refine wpList_make1 rfl _ _ 32 rfl 5 (.int .u8 0) 1 Tryd.underlying32 infoByte rfl .i64 .i64 (T : Int) (T : Int) T rfl rfl rfl rfl (by omega) (by omega) ?_)
  intro w1 Z hZ hg hk
  have hc0 : Cells w1 w.heap.size 5 (u8s (outD T 0 N)) := by rw [outD_zero, ← zeros_u8s, ← hZ.out]; exact hg
  have Hc0 := hid (And.intro hc0 hk)
  clear hc0 hk hg hZ
  go_wp2_with fail
  go_loopw [13] (fun vi wr => Kp [] w wr ∧ ∃ i : Nat, vi = .int .i64 (i : Int) ∧ i ≤ n ∧ Cells wr w.heap.size 5 (u8s (outD T (i * 9) N))) (fun vi _ => n - (intOf vi).toNat)
  case atStart => exact ⟨Hc0.out.2, 0, rfl, by omega, by rw [Nat.zero_mul]; exact Hc0.out.1⟩
  case round =>
    obtain ⟨hk, i, rfl, hi, hc⟩ := hrel
    by_cases hlt : i < n
    · obtain ⟨ad, hA, hcell⟩ := (H.out.kept hk).get (j := i) (by rw [← Hn.out]; exact hlt)
      rw [lim_get (by rw [← Hn.out]; exact hlt)] at hcell
      have hxl : lim l i < 1000000000 := lim_lt Hl.out i
      obtain ⟨x, hx⟩ : ∃ x, x = lim l i := ⟨_, rfl⟩
      rw [← hx] at hcell hxl
      have Hx := hid hx
      have Hk := hid hk
      have Hc := hid hc
      subst hA
      clear hx hk hc
      go_upto_region 6 with fail
      go_loopw [18, 5] (fun vj vx w1 => Kp [] w w1 ∧ ∃ k : Nat, vj = .int .i64 (k : Int) ∧ k ≤ 9 ∧ vx = .int .u64 ((lim l i / 10 ^ k : Nat) : Int) ∧ Cells w1 w.heap.size 5 (u8s (outD T (i * 9 + k) N))) (fun vj _ _ => 9 - (intOf vj).toNat)
      case atStart => exact ⟨Hk.out, 0, rfl, by omega, by rw [← Hx.out]; simp, by rw [Nat.add_zero]; exact Hc.out⟩
      case round =>
        obtain ⟨hk1, k, rfl, hk9, rfl, hc1⟩ := hrel
        by_cases hltk : k < 9
        · have hdl := digN_limb l Hl.out i k hltk
          rw [← HN.out] at hdl
          have hi9 : i * 9 + k < T := by have := HT.out; omega
          have hset := outD_set (T := T) N hi9
          obtain ⟨p, hp⟩ : ∃ p, p = T - 1 - (i * 9 + k) := ⟨_, rfl⟩
          rw [← hp] at hset
          have hpi : (T : Int) - 1 - (i : Int) * 9 - (k : Int) = (p : Int) := by omega
          have hpT : p < T := by omega
          have hlen := length_outD (T := T) (j := i * 9 + k) N (by omega)
          obtain ⟨y, hy⟩ : ∃ y, y = lim l i / 10 ^ k := ⟨_, rfl⟩
          rw [← hy] at hdl
          have hyl : y < 1000000000 := by rw [hy, ← Hx.out]; exact Nat.lt_of_le_of_lt (Nat.div_le_self _ _) hxl
          have hy2 : lim l i / 10 ^ (k + 1) = y / 10 := by rw [hy, Nat.pow_succ, Nat.div_div_eq_div_mul]
          rw [← hy]
          have hput := hc1.put p (.int .u8 (48 + (y : Int) % 10))
          have hnew : (u8s (outD T (i * 9 + k) N)).set p (.int .u8 (48 + (y : Int) % 10)) = u8s (outD T (i * 9 + k + 1) N) := by
            rw [← hset, u8s_set]
            congr 1
            unfold u8
            rw [dg_toNat, hdl]
            congr 1
          rw [hnew] at hput
          have hcp := hc1.cell p
          obtain ⟨old, hold⟩ : ∃ u, (u8s (outD T (i * 9 + k) N))[p]? = some u := ⟨_, List.getElem?_eq_getElem (by rw [length_u8s, hlen]; exact hpT)⟩
          rw [hold] at hcp
          have hfp := hc1.free p
          have hk2 := hk1.setCell (p := ⟨w.heap.size, p, none⟩) (fun h => by simp at h) (.int .u8 (48 + (y : Int) % 10))
          have HP := hid (And.intro hput (And.intro hk2 hy2))
          clear hput hk2 hy2 hnew hset hdl hy hp hlen hc1 hk1 hold
          go_wp2_with fail
          go_roundw
          case rel => exact ⟨HP.out.2.1, k + 1, by go_num, by omega, by rw [HP.out.2.2]; go_num, HP.out.1⟩
          case measure => simp [intOf]; omega
        · have hk99 : k = 9 := by omega
          subst hk99
          have Hc1 := hid (And.intro hc1 hk1)
          clear hc1 hk1
          obtain ⟨y, hy⟩ : ∃ y, y = lim l i / 10 ^ 9 := ⟨_, rfl⟩
          rw [← hy]
          clear hy
          go_wp2_with fail
          go_roundw
          case rel => exact ⟨Hc1.out.2, i + 1, by go_num, by omega, by rw [Nat.add_mul]; exact Hc1.out.1⟩
          case measure => simp [intOf]; omega
    · have hin : i = n := by omega
      subst hin
      have hT2 : i * 9 = T := HT.out.symm
      rw [hT2, outD_all] at hc
      have htx := run_text (P := Tryd.prog) (src := 32) (e := 5) (dst := 9) Tryd.underlying32 Tryd.underlying5 Tryd.underlying9 (Span.of_cells hc) T T (length_digN T N)
      have Hk := hid hk
      clear hk hc hT2
      go_wp2_with fail
      go_ret
      exact ⟨rfl, Hk.out⟩
end Go.Proofs.YtampgimmodomoaaDoor
