/- Layer 10: all tokens of a text. -/
import Derived.Test.YtgjffkblhhkjmaaDoorLOneS
import Derived.Test.YtgjffkblhhkjmaaDoorWide
import Derived.WalkMore
namespace Go.Proofs.YtgjffkblhhkjmaaDoor
open Go Go.RowKit Go.Lib

def tkC (t : Tk) : List Value := tokC (t.kind : Int) (t.pos : Int) t.text (tN t.num) (tL t.num) (tS t.num)
def toksC (l : List Tk) : List Value := l.flatMap tkC
theorem toks_snoc (l : List Tk) (t : Tk) : toksC (l ++ [t]) = toksC l ++ tkC t := by unfold toksC; rw [List.flatMap_append]; simp
theorem tok_one (k a : Int) (x : Txt) (n : Bool) (l : Txt) (z : Int) : ∀ u ∈ tokC k a x n l z, u.oneCell' = true := by
  intro u hu
  simp only [tokC, List.mem_cons, List.mem_nil_iff, or_false] at hu
  rcases hu with rfl | rfl | rfl | rfl | rfl | rfl <;> rfl
theorem infoTok : (Tryd.prog.info? 49).map (fun i => (i.zero, i.size, i.bytes)) = some (some (.agg #[.int .i64 0, .int .i64 0, .string ⟨#[]⟩, .bool false, .string ⟨#[]⟩, .int .i64 0]), 6, 64) := by kernel_rfl
def lexG (x : Txt) (a : Nat) : Option (List Tk) := lexGo (x.length + 1) x a
theorem lexG_end {x : Txt} {a : Nat} (h : x.dropWhile bl = []) : lexG x a = some [] := by
  unfold lexG
  rw [lexGo, if_pos h]
theorem lexG_none {x : Txt} {a : Nat} (h : x.dropWhile bl ≠ []) (h2 : tokL (x.dropWhile bl) = none) : lexG x a = none := by
  unfold lexG
  rw [lexGo, if_neg h, h2]
theorem lexG_some {x : Txt} {a k n : Nat} {t : Txt} {d : Option Dc} (h : x.dropWhile bl ≠ []) (h2 : tokL (x.dropWhile bl) = some (k, t, d, n)) :
    lexG x a = (lexG ((x.dropWhile bl).drop n) (a + (x.takeWhile bl).length + n)).map fun r => ⟨k, t, d, a + (x.takeWhile bl).length⟩ :: r := by
  have hl := span_len bl x
  have hn := tok_le h2
  unfold lexG
  rw [lexGo, if_neg h, h2]
  simp only
  rw [show x.length - (x.dropWhile bl).length = (x.takeWhile bl).length by omega]
  congr 1
  exact lexGo_fuel _ _ _ _ (by rw [List.length_drop]; omega) (Nat.lt_succ_self _)
def AllPost (w : World) (s : Txt) (e : Ending) (w' : World) : Prop :=
  ∃ v, e = .returned (.tuple #[v, .int .i64 (allL s).1]) ∧ OwnN w' 49 6 v (allL s).2.length (toksC (allL s).2) ∧ Kp [] w w'
theorem all_big {s : Txt} (h : 2000 < s.length) : allL s = (3, []) := by unfold allL; rw [if_pos h]
theorem all_none {s : Txt} (h : ¬ 2000 < s.length) (h2 : lexG s 0 = none) : allL s = (30, []) := by
  unfold allL
  rw [if_neg h]
  show (match lexG s 0 with | none => _ | some l => _) = _
  rw [h2]
theorem all_some {s : Txt} {l : List Tk} (h : ¬ 2000 < s.length) (h2 : lexG s 0 = some l) : allL s = if 600 < l.length then (3, []) else (0, l) := by
  unfold allL
  rw [if_neg h]
  show (match lexG s 0 with | none => _ | some l => _) = _
  rw [h2]
set_option maxRecDepth 100000 in
set_option maxHeartbeats 12800000 in
theorem all_any (w : World) (s : Txt) (hL : s.length ≤ 1000000000000) (hT : Tabs w) : Calls Tryd.prog 27 #[.string ⟨s.toArray⟩] w (AllPost w s) := by
  have hsz : (⟨s.toArray⟩ : ByteArray).size = s.length := size_mk _
  by_cases hbig : 2000 < s.length
  · have hr := all_big hbig
    have HR := hid hr
    have bb : decide ((2000 : Int) < (s.length : Int)) = true := decide_eq_true (by omega)
    clear hr hT
    go_enter Tryd.func27, Tryd.ntmps27
    go_wp2_with fail
    go_step3
    go_wp2_with fail
    rw [Exit.noGoto_ret]
    go_ret2
    exact ⟨.slice none 0 0, by rw [HR.out]; rfl, by rw [HR.out]; exact OwnN.nil _ _ _, Kp.refl _ _⟩
  · have Hs := hid hbig
    obtain ⟨S, hS⟩ : ∃ S, S = s.length := ⟨_, rfl⟩
    have hsl : S ≤ 2000 := by omega
    have hslo : ∀ n : Nat, n ≤ S → (⟨s.toArray⟩ : ByteArray).extract n S = ⟨(s.drop n).toArray⟩ := fun n _ => by rw [hS]; exact slice_to s n
    rw [← hS] at hsz
    have HS := hid hS
    have HT := hid hT
    have HSl := hid hslo
    have bb : decide ((2000 : Int) < (S : Int)) = false := decide_eq_false (by omega)
    have bb2 : ¬ 2000 < S := by omega
    have bb3 : ¬ (2000 : Int) < (S : Int) := by omega
    clear hS hT hL hbig hslo
    go_enter Tryd.func27, Tryd.ntmps27
    go_wp2_with fail
    go_step3
    go_wp2_with fail
    go_step3
    go_wp2_with fail
    go_loopw [4, 5] (fun v vi wr => ∃ (a : Nat) (l : List Tk), a ≤ S ∧ vi = .int .i64 (a : Int) ∧ l.length ≤ a ∧ lexG s 0 = (lexG (s.drop a) a).map (fun r => l ++ r) ∧ OwnN wr 49 6 v l.length (toksC l) ∧ New w wr v) (fun _ vi _ => S - (intOf vi).toNat)
    case atStart => exact ⟨0, [], Nat.zero_le _, rfl, Nat.le_refl _, by rw [List.drop_zero]; cases lexG s 0 <;> rfl, OwnN.nil _ _ _, New.nil (Kp.refl _ _)⟩
    case round =>
      obtain ⟨a, l, ha, rfl, hla, hg, ho, hnw⟩ := hrel
      have hxl : (s.drop a).length = S - a := by rw [List.length_drop, HS.out]
      have hex := HSl.out a ha
      have hsp := span_len bl (s.drop a)
      have hda : (s.drop a).drop ((s.drop a).takeWhile bl).length = (s.drop a).dropWhile bl := by
        conv => lhs; arg 2; rw [← List.takeWhile_append_dropWhile (p := bl) (l := s.drop a)]
        exact List.drop_left' rfl
      have qs := fun W => span_bl W (s.drop a) (by omega)
      have hge := @lexG_end (s.drop a) a
      have hgn := @lexG_none (s.drop a) a
      have hgs := fun k n t d => @lexG_some (s.drop a) a k n t d
      obtain ⟨b, hb⟩ : ∃ b, b = ((s.drop a).takeWhile bl).length := ⟨_, rfl⟩
      rw [← hb] at hsp hda
      simp only [← hb] at qs hgs
      obtain ⟨a1, ha1⟩ : ∃ x, x = a + b := ⟨_, rfl⟩
      have hd1 : s.drop a1 = (s.drop a).dropWhile bl := by rw [ha1, ← List.drop_drop, hda]
      simp only [← hd1, ← ha1] at hge hgn hgs hsp
      have ha1S : a1 ≤ S := by omega
      have hex1 := HSl.out a1 ha1S
      obtain ⟨x, hx⟩ : ∃ x, x = s.drop a := ⟨_, rfl⟩
      rw [← hx] at hex hg
      simp only [← hx] at qs hge hgn hgs
      have hyl : (s.drop a1).length = S - a1 := by rw [List.length_drop, HS.out]
      obtain ⟨y, hy⟩ : ∃ y, y = s.drop a1 := ⟨_, rfl⟩
      rw [← hy] at hex1 hyl
      simp only [← hy] at hge hgn hgs
      have e1 : (a : Int) + (b : Int) = (a1 : Int) := by omega
      have hai : (a : Int) ≤ (S : Int) := by omega
      have ha1i : (a1 : Int) ≤ (S : Int) := by omega
      have HG := hid (And.intro hg (And.intro hge (And.intro hgn (And.intro hgs hy))))
      have HO := hid (And.intro ho hnw)
      have haa : a ≤ a1 := by omega
      clear hxl hsp hda hb ha1 hd1 hx hg hge hgn hgs hy ho hnw
      by_cases hy0 : y = []
      · have hend : a1 = S := by rw [hy0] at hyl; simp at hyl; omega
        have hres : lexG s 0 = some l := by rw [HG.out.1, HG.out.2.1 hy0]; simp
        have hall := all_some Hs.out hres
        have be : ((a1 : Int) == (S : Int)) = true := by rw [hend]; simp
        have ben : (a1 == S) = true := by rw [hend]; simp
        by_cases h6 : 600 < l.length
        · rw [if_pos h6] at hall
          have HA := hid hall
          have bl6 : decide ((600 : Int) < (l.length : Int)) = true := decide_eq_true (by omega)
          have hsh := HO.out.1.shape
          obtain ⟨A, c, hv, -⟩ := hsh
          subst hv
          clear hy0 hend hres hall h6 hyl
          go_wp2_with fail
          (with_reducible refine (qs _).mono ?_)
          rintro e w2 ⟨rfl, k2⟩
          have Hk2 := hid (HO.out.2.kp.nil k2)
          clear k2 qs
          go_wp2_with fail
          go_ret2
          exact ⟨.slice none 0 0, by rw [HA.out]; rfl, by rw [HA.out]; exact OwnN.nil _ _ _, Hk2.out⟩
        · rw [if_neg h6] at hall
          have HA := hid hall
          have bl6 : decide ((600 : Int) < (l.length : Int)) = false := decide_eq_false (by omega)
          obtain ⟨A, c, hv, -⟩ := HO.out.1.shape
          subst hv
          clear hy0 hend hres hall h6 hyl
          go_wp2_with fail
          (with_reducible refine (qs _).mono ?_)
          rintro e w2 ⟨rfl, k2⟩
          have Ho2 := hid (HO.out.1.kept k2)
          have Hk2 := hid (HO.out.2.kp.nil k2)
          clear k2 qs
          go_wp2_with fail
          go_ret2
          exact ⟨_, by rw [HA.out]; rfl, by rw [HA.out]; exact Ho2.out, Hk2.out⟩
      · have hne : a1 ≠ S := by
          intro e
          rw [e, Nat.sub_self] at hyl
          exact hy0 (List.length_eq_zero_iff.1 hyl)
        have be : ((a1 : Int) == (S : Int)) = false := by rw [beq_eq_false_iff_ne]; omega
        have ben : (a1 == S) = false := by rw [beq_eq_false_iff_ne]; exact hne
        have qo := fun W (k : Kp [] w W) => one_any W y hy0 (by omega) (HT.out.kept k)
        have HY := hid hy0
        have hyl2 : a1 + y.length = S := by omega
        clear hy0 hne hyl
        go_wp2_with fail
        (with_reducible refine (qs _).mono ?_)
        rintro e w2 ⟨rfl, k2⟩
        have Hk2 := hid k2
        have qo2 := qo w2 (HO.out.2.kp.nil k2)
        clear k2 qs qo
        go_wp2_with fail
        (with_reducible refine qo2.mono ?_)
        rintro e w3 ⟨k, tx, nn, ll, zz, N, rfl, hone, k3⟩
        have Hk3 := hid (Hk2.out.nil k3)
        have Hone := hid hone
        clear k3 hone qo2
        rcases Hone.out with ⟨hn, hN⟩ | ⟨K, d, M, htok, hk, hN, hnn, hll, hzz⟩
        · have hres : lexG s 0 = none := by rw [HG.out.1, HG.out.2.2.1 HY.out hn]; rfl
          have HA := hid (all_none Hs.out hres)
          have bN : (N == 0) = true := by rw [hN]; rfl
          have Hkp := hid (HO.out.2.kp.nil Hk3.out)
          clear hn hN hres
          unfold tokC
          go_wp2_with fail
          rw [Exit.noGoto_ret]
          go_ret2
          exact ⟨.slice none 0 0, by rw [HA.out]; rfl, by rw [HA.out]; exact OwnN.nil _ _ _, ((Hkp.out.alloc _))⟩
        · have htl := tok_le htok
          have hgs := HG.out.2.2.2.1 K M tx d HY.out htok
          have hg2 : lexG s 0 = (lexG (s.drop (a1 + M)) (a1 + M)).map fun r => (l ++ [⟨K, tx, d, a1⟩]) ++ r := by
            rw [HG.out.1, hgs, HG.out.2.2.2.2, List.drop_drop, Option.map_map]
            congr 1
            funext r
            simp
          have hto : toksC (l ++ [⟨K, tx, d, a1⟩]) = toksC l ++ tokC k (a1 : Int) tx nn ll zz := by rw [toks_snoc, hk, hnn, hll, hzz]; rfl
          have bN : (N == 0) = false := by rw [beq_eq_false_iff_ne, hN]; omega
          have hM2 : a1 + M ≤ S := by omega
          obtain ⟨a2, ha2⟩ : ∃ z, z = a1 + M := ⟨_, rfl⟩
          have e2 : (a1 : Int) + N = (a2 : Int) := by rw [hN]; omega
          have ha2a : a < a2 := by omega
          have hN1 : 0 ≤ N ∧ N ≤ 2000 := by omega
          rw [← ha2] at hg2 hM2
          have HM := hid (And.intro hg2 (And.intro hto (And.intro hM2 ha2a)))
          have ho3 := hid (HO.out.1.kept Hk3.out)
          have hnw3 := hid (HO.out.2.kept Hk3.out)
          have hl2 : l.length + 1 ≤ a2 := by omega
          have hl9 : l.length ≤ 2000 := by omega
          obtain ⟨m, hm⟩ : ∃ m, m = l.length := ⟨_, rfl⟩
          have Hm := hid hm
          rw [← hm] at ho3 hl9
          clear htok hk hN hnn hll hzz htl hgs hg2 hto ha2 hm hM2 hla haa
          unfold tokC
          go_wp2_with (at_builtin; go_must (refine wpList_appendN rfl _ _ 42 rfl 49 (.agg #[.int .i64 0, .int .i64 0, .string ⟨#[]⟩, .bool false, .string ⟨#[]⟩, .int .i64 0]) 6 64 Tryd.underlying42 infoTok rfl (by decide) _ _ _ rfl (ho3.out.kept (((Kp.refl _ _).alloc _).alloc _)) _ 1 1 (tokC k (a1 : Int) tx nn ll zz) rfl (Span.of_cells (Cells.fresh1 w3 _ _ (tokC k (a1 : Int) tx nn ll zz))) rfl (tok_one _ _ _ _ _ _) ?_ ?_ ?_))
          · omega
          · omega
          intro v1 w5 ho5 hk5 hb5
          go_wp2_with fail
          go_roundw
          case rel => exact ⟨a2, l ++ [⟨K, tx, d, a1⟩], HM.out.2.2.1, by go_num, by rw [List.length_append]; simp; omega, HM.out.1, by rw [HM.out.2.1, List.length_append]; rw [Hm.out] at ho5; exact ho5, (hnw3.out.kept (((Kp.refl _ _).alloc _).alloc _)).append hk5 hb5 (by simp)⟩
          case measure => simp [intOf]; have := HM.out.2.2; omega
end Go.Proofs.YtgjffkblhhkjmaaDoor
