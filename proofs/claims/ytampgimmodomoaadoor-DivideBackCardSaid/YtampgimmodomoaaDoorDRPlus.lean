/- The document's answer for layer 1: sums and differences of digits. -/
import Derived.Test.YtampgimmodomoaaDoorDRNorm
import Derived.Test.YtampgimmodomoaaDoorDPlain
import Derived.BigQuiet
import Derived.Deep.QuietTactic
namespace Go.Proofs.YtampgimmodomoaaDoor
open Go Go.RowKit

theorem dg_val (u : Nat) : Value.int .u8 (48 + (u : Int) % 10) = u8 (dg u) := by
  unfold u8
  rw [dg_toNat]
  congr 1
/-- A digit as a text of its own. -/
theorem one_text (u : Nat) (W : World) : (convert 32 9 (.slice (some ⟨W.heap.size, 0, none⟩) 1 1)).run Tryd.prog (W.alloc (.cells #[.int .u8 (48 + (u : Int) % 10)] 5)) = .ok (.string ⟨#[dg u]⟩) (W.alloc (.cells #[.int .u8 (48 + (u : Int) % 10)] 5)) := by
  rw [dg_val]
  exact run_text (P := Tryd.prog) (src := 32) (e := 5) (dst := 9) (l := [dg u]) Tryd.underlying32 Tryd.underlying5 Tryd.underlying9 (Span.of_new _ _ _ _) 1 1 rfl
theorem one_less (u : Nat) (hu : u < 10) (W : World) : (convert 32 9 (.slice (some ⟨W.heap.size, 0, none⟩) 1 1)).run Tryd.prog (W.alloc (.cells #[.int .u8 (48 + (u : Int))] 5)) = .ok (.string ⟨#[dg u]⟩) (W.alloc (.cells #[.int .u8 (48 + (u : Int))] 5)) := by
  have h := one_text u W
  rw [show (u : Int) % 10 = u by omega] at h
  exact h
theorem dig_put (u : Nat) (s : List UInt8) (hs : s.length ≤ 1000000) (W : World) : (Op.stringOp .add ⟨#[dg u]⟩ ⟨s.toArray⟩).run Tryd.prog W = .ok (.string ⟨(dg u :: s).toArray⟩) W :=
  run_add_text (P := Tryd.prog) [dg u] s (dg u :: s) rfl (by simp; omega) W
theorem byte_at (L : List UInt8) (k m : Nat) (hk : k < L.length) (hm : m = (L[k]'hk).toNat) : ∀ g : k < (⟨L.toArray⟩ : ByteArray).size, ((⟨L.toArray⟩ : ByteArray)[k]'g).toNat = m := fun g => by rw [hm]; rfl
set_option maxRecDepth 100000 in
set_option maxHeartbeats 3200000 in
theorem rplus_any (w : World) (x y : List UInt8) (hx : Digs x) (hy : Digs y) (hl : x.length = y.length) (hs : x.length ≤ 100000) :
    Calls Tryd.prog 63 #[.string ⟨x.toArray⟩, .string ⟨y.toArray⟩] w fun e w' => e = .returned (.string ⟨(digN (x.length + 1) (val x + val y)).toArray⟩) ∧ Kp [] w w' := by
  have hsx : (⟨x.toArray⟩ : ByteArray).size = x.length := size_mk x
  have hsy : (⟨y.toArray⟩ : ByteArray).size = x.length := by rw [size_mk y, hl]
  have Hx := hid (And.intro hx (And.intro hy hl))
  clear hx hy hl
  go_enter Tryd.func63, Tryd.ntmps63
  go_wp2_with fail
  go_loopw [5, 6, 7] (fun vs vc vi wr => Kp [] w wr ∧ ∃ (s : List UInt8) (c j : Nat), vs = .string ⟨s.toArray⟩ ∧ vc = .int .i64 (c : Int) ∧ vi = .int .i64 ((x.length : Int) - 1 - j) ∧ PlusR x y s c j) (fun _ _ vi _ => (intOf vi + 1).toNat)
  case atStart => exact ⟨Kp.refl _ _, [], 0, 0, rfl, rfl, by go_num, PlusR.start x y Hx.out.2.2⟩
  case round =>
    obtain ⟨kr, s, c, j, rfl, rfl, rfl, hI⟩ := hrel
    have HI := hid hI
    obtain ⟨g0, g1, -, g3, -⟩ := hI
    by_cases hj : j < x.length
    · obtain ⟨k, hk⟩ : ∃ k, k = x.length - 1 - j := ⟨_, rfl⟩
      have hkx : k < x.length := by omega
      have hky : k < y.length := by rw [← Hx.out.2.2]; exact hkx
      obtain ⟨a, ha⟩ : ∃ a, a = (x[k]'hkx).toNat := ⟨_, rfl⟩
      obtain ⟨b, hb⟩ : ∃ b, b = (y[k]'hky).toNat := ⟨_, rfl⟩
      have ia := byte_at x k a hkx ha
      have ib := byte_at y k b hky hb
      have da : 48 ≤ a ∧ a ≤ 57 := by rw [ha]; exact Hx.out.1 _ (List.getElem_mem hkx)
      have db : 48 ≤ b ∧ b ≤ 57 := by rw [hb]; exact Hx.out.2.1 _ (List.getElem_mem hky)
      obtain ⟨n, hn⟩ : ∃ n, n = (a - 48) + (b - 48) + c := ⟨_, rfl⟩
      have hnext := HI.out.next Hx.out.1 Hx.out.2.1 Hx.out.2.2 hj (n := n) (by subst hk; rw [hn, ha, hb])
      obtain ⟨p, hp⟩ : ∃ p, p = a - 48 := ⟨_, rfl⟩
      obtain ⟨q, hq⟩ : ∃ q, q = b - 48 := ⟨_, rfl⟩
      have u1 : IntKind.u8.wrap ((a : Int) - 48) = (p : Int) := by rw [show (a : Int) - 48 = p by omega]; exact IntWalk.u8_in _ (by omega)
      have u2 : IntKind.u8.wrap ((b : Int) - 48) = (q : Int) := by rw [show (b : Int) - 48 = q by omega]; exact IntWalk.u8_in _ (by omega)
      obtain ⟨r, hr⟩ : ∃ r, r = p + q := ⟨_, rfl⟩
      have s1 : IntKind.i64.wrap ((p : Int) + (q : Int)) = (r : Int) := by rw [show (p : Int) + q = r by omega]; exact IntWalk.i64_in _ (by omega)
      have s2 : IntKind.i64.wrap ((r : Int) + (c : Int)) = (n : Int) := by rw [show (r : Int) + c = n by omega]; exact IntWalk.i64_in _ (by omega)
      have p9 : p ≤ 9 := by omega
      have q9 : q ≤ 9 := by omega
      have r9 : r ≤ 18 := by omega
      have n9 : n ≤ 19 := by omega
      have htx := fun W => one_text n W
      have hput := fun W => dig_put n s (by omega) W
      have ek : ((x.length : Int) - 1 - j).toNat = k := by omega
      have e1 : (x.length : Int) - 1 - j = (k : Int) := by omega
      have HN := hid (And.intro hnext e1)
      rw [e1]
      clear hnext hk ha hb hn hp hq hr e1 ek hj
      go_wp2_with fail
      go_quiet (fail)
      have kr1 := kr.drewN nq
      generalize wr.drewN nq = W1 at kr1 ⊢
      go_wp2_with fail
      go_roundw
      case rel => exact ⟨kr1.alloc _, dg n :: s, n / 10, j + 1, rfl, by go_num, by rw [← HN.out.2]; go_num, HN.out.1⟩
      case measure => simp [intOf]
    · have hjx : j = x.length := by omega
      subst hjx
      have HD := hid HI.out.done
      have htx := fun W => one_less c (by omega) W
      have hput := fun W => dig_put c s (by omega) W
      clear hj
      go_wp2_with fail
      go_ret
      exact ⟨by rw [← HD.out]; rfl, kr.alloc _⟩
set_option maxRecDepth 100000 in
set_option maxHeartbeats 3200000 in
theorem rminus_any (w : World) (x y : List UInt8) (hx : Digs x) (hy : Digs y) (hl : x.length = y.length) (hs : x.length ≤ 100000) (hle : val y ≤ val x) :
    Calls Tryd.prog 64 #[.string ⟨x.toArray⟩, .string ⟨y.toArray⟩] w fun e w' => e = .returned (.string ⟨(digN x.length (val x - val y)).toArray⟩) ∧ Kp [] w w' := by
  have hsx : (⟨x.toArray⟩ : ByteArray).size = x.length := size_mk x
  have hsy : (⟨y.toArray⟩ : ByteArray).size = x.length := by rw [size_mk y, hl]
  have Hx := hid (And.intro hx (And.intro hy (And.intro hl hle)))
  clear hx hy hl hle
  go_enter Tryd.func64, Tryd.ntmps64
  go_wp2_with fail
  go_loopw [5, 6, 7] (fun vs vc vi wr => Kp [] w wr ∧ ∃ (s : List UInt8) (c j : Nat), vs = .string ⟨s.toArray⟩ ∧ vc = .int .i64 (c : Int) ∧ vi = .int .i64 ((x.length : Int) - 1 - j) ∧ MinusR x y s c j) (fun _ _ vi _ => (intOf vi + 1).toNat)
  case atStart => exact ⟨Kp.refl _ _, [], 0, 0, rfl, rfl, by go_num, MinusR.start x y Hx.out.2.2.1⟩
  case round =>
    obtain ⟨kr, s, c, j, rfl, rfl, rfl, hI⟩ := hrel
    have HI := hid hI
    obtain ⟨g0, g1, -, g3, -⟩ := hI
    by_cases hj : j < x.length
    · obtain ⟨k, hk⟩ : ∃ k, k = x.length - 1 - j := ⟨_, rfl⟩
      have hkx : k < x.length := by omega
      have hky : k < y.length := by rw [← Hx.out.2.2.1]; exact hkx
      obtain ⟨a, ha⟩ : ∃ a, a = (x[k]'hkx).toNat := ⟨_, rfl⟩
      obtain ⟨b, hb⟩ : ∃ b, b = (y[k]'hky).toNat := ⟨_, rfl⟩
      have ia := byte_at x k a hkx ha
      have ib := byte_at y k b hky hb
      have da : 48 ≤ a ∧ a ≤ 57 := by rw [ha]; exact Hx.out.1 _ (List.getElem_mem hkx)
      have db : 48 ≤ b ∧ b ≤ 57 := by rw [hb]; exact Hx.out.2.1 _ (List.getElem_mem hky)
      have hnext := fun n b2 (h1 : b2 ≤ 1) (h2 : n < 10) (h3 : n + b + c = a + 10 * b2) => HI.out.next Hx.out.1 Hx.out.2.1 Hx.out.2.2.1 hj (n := n) (b2 := b2) h1 h2 (by subst hk; rw [← ha, ← hb]; exact h3)
      obtain ⟨r, hr⟩ : ∃ r : Int, r = (a : Int) - b := ⟨_, rfl⟩
      obtain ⟨z, hz⟩ : ∃ z : Int, z = r - c := ⟨_, rfl⟩
      have s1 : IntKind.i64.wrap ((a : Int) - (b : Int)) = r := by rw [hr]; exact IntWalk.i64_in _ (by omega)
      have s2 : IntKind.i64.wrap (r - (c : Int)) = z := by rw [hz]; exact IntWalk.i64_in _ (by omega)
      have r9 : -9 ≤ r ∧ r ≤ 9 := by omega
      have z9 : -10 ≤ z ∧ z ≤ 9 := by omega
      have hsum : z + b + c = a := by omega
      have e1 : (x.length : Int) - 1 - j = (k : Int) := by omega
      have HE := hid e1
      rw [e1]
      by_cases hz0 : z < 0
      · obtain ⟨n, hn⟩ : ∃ n : Nat, (n : Int) = z + 10 := ⟨(z + 10).toNat, by omega⟩
        have hN := hnext n 1 (by omega) (by omega) (by omega)
        have htx := fun W => one_less n (by omega) W
        have hput := fun W => dig_put n s (by omega) W
        rw [hn] at htx
        have HN := hid hN
        clear hnext hk ha hb hr e1 hj hz hN hsum hn
        go_wp2_with fail
        go_quiet (fail)
        have kr1 := kr.drewN nq
        generalize wr.drewN nq = W1 at kr1 ⊢
        go_wp2_with fail
        go_roundw
        case rel => exact ⟨kr1.alloc _, dg n :: s, 1, j + 1, rfl, rfl, by rw [← HE.out]; go_num, HN.out⟩
        case measure => simp [intOf]
      · obtain ⟨n, hn⟩ : ∃ n : Nat, z = (n : Int) := ⟨z.toNat, by omega⟩
        have hN := hnext n 0 (by omega) (by omega) (by omega)
        have htx := fun W => one_less n (by omega) W
        have hput := fun W => dig_put n s (by omega) W
        have HN := hid hN
        rw [hn] at s2
        have n9 : n ≤ 9 := by omega
        clear hnext hk ha hb hr e1 hj hz hN hsum hz0 z9 hn
        go_wp2_with fail
        go_quiet (fail)
        have kr1 := kr.drewN nq
        generalize wr.drewN nq = W1 at kr1 ⊢
        go_wp2_with fail
        go_roundw
        case rel => exact ⟨kr1.alloc _, dg n :: s, 0, j + 1, rfl, rfl, by rw [← HE.out]; go_num, HN.out⟩
        case measure => simp [intOf]
    · have hjx : j = x.length := by omega
      subst hjx
      have HD := hid (HI.out.done Hx.out.2.2.2)
      clear hj
      go_wp2_with fail
      go_ret
      exact ⟨by rw [← HD.out]; rfl, kr⟩
end Go.Proofs.YtampgimmodomoaaDoor
