/- plus and minus of layer 1. -/
import Derived.Test.YtampgimmodomoaaDoorDNatOf
import Derived.BigQuiet
import Derived.Deep.QuietTactic
namespace Go.Proofs.YtampgimmodomoaaDoor
open Go Go.RowKit

theorem ownL_snoc {w : World} {v : Value} {l : List Nat} {x n : Nat} (hn : l.length = n) (h : Own w 73 v (n + 1) (u64s l ++ [.int .u64 (x : Int)])) : OwnL w v (l ++ [x]) := by
  subst hn
  unfold OwnL
  rw [u64s_append, List.length_append]
  exact h
set_option maxRecDepth 100000 in
set_option maxHeartbeats 3200000 in
theorem plus_any (w : World) (A B : Option Addr) (c d : Nat) (l m : List Nat) (n k : Nat) (hn : n = l.length) (hk : k = m.length) (hA : LimA w A c l) (hB : LimA w B d m) (hl : Lims l) (hm : Lims m) (h1 : l.length ≤ 10000) (h2 : m.length ≤ 10000) :
    Calls Tryd.prog 58 #[.slice A n c, .slice B k d] w (NatPost w (lval l + lval m)) := by
  have HA := hid hA
  have HB := hid hB
  have Hl := hid hl
  have Hm := hid hm
  clear hA hB hl hm
  obtain ⟨K, hK⟩ : ∃ K, K = max n k := ⟨_, rfl⟩
  have hmx : max (n : Int) (k : Int) = (K : Int) := by omega
  have hK9 : K ≤ 10000 := by omega
  have Hn := hid (And.intro hn (And.intro hk hK))
  clear hn hk hK h1 h2
  go_enter Tryd.func58, Tryd.ntmps58
  go_wp2_with fail
  go_loopw [5, 6, 14] (fun v vc vi wr => New w wr v ∧ ∃ (i q : Nat) (out : List Nat), vi = .int .i64 (i : Int) ∧ i ≤ K ∧ vc = .int .u64 (q : Int) ∧ PlusI l m out q i ∧ OwnL wr v out) (fun _ _ vi _ => K - (intOf vi).toNat)
  case atStart => exact ⟨New.nil (Kp.refl _ _), 0, 0, [], rfl, by omega, rfl, PlusI.start l m, Own.nil _ _⟩
  case round =>
    obtain ⟨hn, i, q, out, rfl, hi, rfl, hI, ho⟩ := hrel
    have hlen := hI.1
    have hq1 := hI.2.2.1
    have ca := fun W (hW : LimA W A c l) => limb_any W A c l n Hn.out.1 hW i
    have cb := fun W (hW : LimA W B d m) => limb_any W B d m k Hn.out.2.1 hW i
    by_cases hlt : i < K
    · have la := lim_lt Hl.out i
      have lb := lim_lt Hm.out i
      obtain ⟨x, hx⟩ : ∃ x, x = lim l i + lim m i + q := ⟨_, rfl⟩
      have hnext := hI.next Hl.out Hm.out hx
      obtain ⟨a, ha⟩ : ∃ a, a = lim l i := ⟨_, rfl⟩
      obtain ⟨b, hb⟩ : ∃ b, b = lim m i := ⟨_, rfl⟩
      simp only [← ha] at ca
      simp only [← hb] at cb
      rw [← ha, ← hb] at hx
      rw [← ha] at la
      rw [← hb] at lb
      obtain ⟨r, hr⟩ : ∃ r, r = x % Bs := ⟨_, rfl⟩
      obtain ⟨u, hu⟩ : ∃ u, u = x / Bs := ⟨_, rfl⟩
      rw [← hr, ← hu] at hnext
      unfold Bs at la lb hr hu
      have hr2 : (x : Int) % 1000000000 = (r : Int) := by omega
      have hu2 : (x : Int) / 1000000000 = (u : Int) := by omega
      have hx2 : (a : Int) + (b : Int) + (q : Int) = (x : Int) := by omega
      have hx3 : x < 3000000000 := by omega
      have Hnext := hid hnext
      have Ho := hid ho
      have Hnw := hid hn
      clear hnext ha hb hx hr hu hI ho hn
      go_wp2_with fail
      refine (ca _ (HA.out.kept Hnw.out.kp)).mono ?_
      rintro e w2 ⟨rfl, rfl⟩
      go_wp2_with fail
      refine (cb _ (HB.out.kept Hnw.out.kp)).mono ?_
      rintro e w2 ⟨rfl, rfl⟩
      go_wp2_with (at_builtin; go_must (refine wpList_append1 rfl _ _ 59 rfl 73 (.int .u64 0) 8 Tryd.underlying59 infoU64 rfl _ _ _ rfl (Ho.out.kept ((Kp.refl _ _).alloc _)) _ 1 1 [.int .u64 (r : Int)] rfl (Span.of_new _ _ _ _) rfl (u64s_one [r]) ?_ ?_ ?_))
      · omega
      · omega
      intro v1 w1 ho1 hk1 hb1
      go_wp2_with fail
      go_roundw
      case rel => exact ⟨(Hnw.out.kept ((Kp.refl _ _).alloc _)).append hk1 hb1 (by simp), i + 1, u, out ++ [r], by go_num, by omega, rfl, Hnext.out, ownL_snoc hlen ho1⟩
      case measure => simp [intOf]; omega
    · have hd := hI.done (by have := Hn.out; omega) (by have := Hn.out; omega)
      have Hd := hid hd
      have Hnw := hid hn
      have Ho := hid ho
      clear hI hd hn ho ca cb
      go_wp2_with (at_builtin; go_must (refine wpList_append1 rfl _ _ 59 rfl 73 (.int .u64 0) 8 Tryd.underlying59 infoU64 rfl _ _ _ rfl (Ho.out.kept ((Kp.refl _ _).alloc _)) _ 1 1 [.int .u64 (q : Int)] rfl (Span.of_new _ _ _ _) rfl (u64s_one [q]) ?_ ?_ ?_))
      · omega
      · omega
      intro v1 w1 ho1 hk1 hb1
      have hl2 : (out ++ [q]).length = i + 1 := by rw [List.length_append, hlen]; rfl
      obtain ⟨A1, c1, hv, hL⟩ := (ownL_snoc hlen ho1).shape
      rw [hl2] at hv
      subst hv
      have Hl2 := hid hl2
      have HF := hid ((Hnw.out.kept ((Kp.refl _ _).alloc _)).append hk1 hb1 (by simp)).kp
      clear ho1 hk1 hb1 hl2 hlen
      go_wp2_with fail
      refine (trim_any _ A1 c1 (out ++ [q]) (i + 1) Hl2.out.symm hL Hd.out.1).mono ?_
      rintro e w2 ⟨rfl, hN, rfl⟩
      have HN := hid hN
      clear hL hN
      go_wp2_with fail
      go_ret
      rw [Hd.out.2] at HN
      exact ⟨A1, c1, by rw [Hd.out.2]; rfl, HN.out, HF.out⟩
set_option maxRecDepth 100000 in
set_option maxHeartbeats 3200000 in
theorem minus_any (w : World) (A B : Option Addr) (c d : Nat) (l m : List Nat) (n k : Nat) (hn : n = l.length) (hk : k = m.length) (hA : LimA w A c l) (hB : LimA w B d m) (hl : Lims l) (hm : Lims m) (h1 : l.length ≤ 10000) (h2 : m.length ≤ l.length) (hle : lval m ≤ lval l) :
    Calls Tryd.prog 60 #[.slice A n c, .slice B k d] w (NatPost w (lval l - lval m)) := by
  have hAc := hA.2.1
  have HA := hid hA
  have HB := hid hB
  have Hl := hid hl
  have Hm := hid hm
  have Hle := hid hle
  have hn9 : n ≤ 10000 := by omega
  have hnc : n ≤ c := by omega
  have Hn := hid (And.intro hn (And.intro hk h2))
  clear hA hB hl hm hn hk h1 h2 hle hAc
  go_enter Tryd.func60, Tryd.ntmps60
  go_wp2_with fail
  go_loopw [5, 6, 11] (fun v vc vi wr => New w wr v ∧ ∃ (i q : Nat) (out : List Nat), vi = .int .i64 (i : Int) ∧ i ≤ n ∧ vc = .int .u64 (q : Int) ∧ MinusI l m out q i ∧ OwnL wr v out) (fun _ _ vi _ => n - (intOf vi).toNat)
  case atStart => exact ⟨New.nil (Kp.refl _ _), 0, 0, [], rfl, by omega, rfl, MinusI.start l m, Own.nil _ _⟩
  case round =>
    obtain ⟨hn, i, q, out, rfl, hi, rfl, hI, ho⟩ := hrel
    have hlen := hI.1
    have hq1 := hI.2.2.1
    have cb := fun W (hW : LimA W B d m) => limb_any W B d m k Hn.out.2.1 hW i
    by_cases hlt : i < n
    · have la := lim_lt Hl.out i
      have lb := lim_lt Hm.out i
      obtain ⟨ad, hAe, hcell⟩ := (HA.out.kept hn.kp).get (j := i) (by rw [← Hn.out.1]; exact hlt)
      rw [lim_get (by rw [← Hn.out.1]; exact hlt)] at hcell
      subst hAe
      obtain ⟨x, hx⟩ : ∃ x, x = lim l i + Bs - lim m i - q := ⟨_, rfl⟩
      have hx9 : x + lim m i + q = lim l i + Bs := by omega
      have hnext := hI.next Hl.out Hm.out hx9
      obtain ⟨a, ha⟩ : ∃ a, a = lim l i := ⟨_, rfl⟩
      obtain ⟨b, hb⟩ : ∃ b, b = lim m i := ⟨_, rfl⟩
      rw [← ha] at hcell
      simp only [← hb] at cb
      rw [← ha, ← hb] at hx9
      rw [← ha] at la
      rw [← hb] at lb
      obtain ⟨r, hr⟩ : ∃ r, r = x % Bs := ⟨_, rfl⟩
      obtain ⟨u, hu⟩ : ∃ u, u = x / Bs := ⟨_, rfl⟩
      rw [← hr, ← hu] at hnext
      obtain ⟨z, hz⟩ : ∃ z, z = 1 - u := ⟨_, rfl⟩
      rw [← hz] at hnext
      unfold Bs at la lb hr hu hx9
      have hr2 : (x : Int) % 1000000000 = (r : Int) := by omega
      have hu2 : (x : Int) / 1000000000 = (u : Int) := by omega
      have hu1 : u ≤ 1 := by omega
      have hz2 : 1 - (u : Int) = (z : Int) := by omega
      obtain ⟨a1, ha1⟩ : ∃ a1 : Nat, (a : Int) + 1000000000 = (a1 : Int) := ⟨a + 1000000000, by omega⟩
      obtain ⟨b1, hb1⟩ : ∃ b1 : Nat, (a1 : Int) - (b : Int) = (b1 : Int) := ⟨a1 - b, by omega⟩
      have hx2 : (b1 : Int) - (q : Int) = (x : Int) := by omega
      have hx3 : x < 3000000000 := by omega
      have w1 : IntKind.u64.wrap ((a : Int) + 1000000000) = (a1 : Int) := by rw [IntWalk.u64_in _ (by omega)]; exact ha1
      have w2 : IntKind.u64.wrap ((a1 : Int) - (b : Int)) = (b1 : Int) := by rw [IntWalk.u64_in _ (by omega)]; exact hb1
      have w3 : IntKind.u64.wrap ((b1 : Int) - (q : Int)) = (x : Int) := by rw [IntWalk.u64_in _ (by omega)]; exact hx2
      have c1 : (i : Int) < (n : Int) := by omega
      have c2 : (0 : Int) ≤ (i : Int) := by omega
      have Hnext := hid hnext
      have Ho := hid ho
      have Hnw := hid hn
      clear hnext ha hb hx hr hu hI ho hn hx9 hz ha1 hb1 hx2
      go_wp2_with fail
      go_quiet ((go_at_call 96; exact Calls.quiet_of_same (cb _ (HB.out.kept (Hnw.out.kp.drewN _)))))
      go_wp2_with (at_builtin; go_must (refine wpList_append1 rfl _ _ 59 rfl 73 (.int .u64 0) 8 Tryd.underlying59 infoU64 rfl _ _ _ rfl (Ho.out.kept (((Kp.refl _ _).drewN _).alloc _)) _ 1 1 [.int .u64 (r : Int)] rfl (Span.of_new _ _ _ _) rfl (u64s_one [r]) ?_ ?_ ?_))
      · omega
      · omega
      intro v1 w1 ho1 hk1 hb1
      go_wp2_with fail
      go_roundw
      case rel => exact ⟨(Hnw.out.kept (((Kp.refl _ _).drewN _).alloc _)).append hk1 hb1 (by simp), i + 1, z, out ++ [r], by go_num, by omega, rfl, Hnext.out, ownL_snoc hlen ho1⟩
      case measure => simp [intOf]; omega
    · have hd := hI.done (by have := Hn.out; omega) (by have := Hn.out; omega) Hle.out
      have hlim := hI.2.1
      have Hd := hid (And.intro hd hlim)
      have Hnw := hid hn
      obtain ⟨A1, c1, hv, hL⟩ := ho.shape
      rw [hlen] at hv
      subst hv
      have Hlen := hid hlen
      clear hI hd hn ho cb hlim hlen
      go_wp2_with fail
      refine (trim_any _ A1 c1 out i Hlen.out.symm hL Hd.out.2).mono ?_
      rintro e w2 ⟨rfl, hN, rfl⟩
      have HN := hid hN
      clear hL hN
      go_wp2_with fail
      go_ret
      rw [Hd.out.1] at HN
      exact ⟨A1, c1, by rw [Hd.out.1]; rfl, HN.out, Hnw.out.kp⟩
end Go.Proofs.YtampgimmodomoaaDoor
