/- The document's answer for layer 3: Quote. -/
import Derived.Test.YtdmajeidggjalaaDoorQQuote
import Derived.Test.YtdmajeidggjalaaDoorText
import Derived.Deep.Cut
namespace Go.Proofs.YtdmajeidggjalaaDoor
open Go Go.RowKit

/-- The text so far. -/
def RQ (w0 w : World) (v : Value) (l : List UInt8) : Prop := OwnB 5 w v l ∧ New w0 w v
theorem RQ.kept {w0 w w' : World} {v : Value} {l : List UInt8} (h : RQ w0 w v l) (k : Kp [] w w') : RQ w0 w' v l := ⟨h.1.kept k, h.2.kept k⟩
theorem RQ.first (w : World) : RQ w (w.alloc (.cells #[.int .u8 34] 5)) (.slice (some ⟨w.heap.size, 0, none⟩) 1 1) [34] :=
  ⟨Own.of_cells (Cells.fresh w 5 [.int .u8 34]) (by decide), (Kp.refl _ _).alloc _, by intro g hg; simp [Value.ownBlock] at hg; omega⟩
theorem body_snoc (L : List UInt8) (i : Nat) (h : i < L.length) : 34 :: body (L.take (i + 1)) = 34 :: body (L.take i) ++ qb L[i] := by
  have e : L.take (i + 1) = L.take i ++ [L[i]] := (List.take_append_getElem h).symm
  rw [e, body_append]
  show 34 :: (_ ++ body [L[i]]) = _
  have e2 : body [L[i]] = qb L[i] := by simp [body]
  rw [e2]
  rfl
theorem qb_same {c : UInt8} (h1 : c.toNat ≠ 34) (h2 : c.toNat ≠ 92) (h10 : c.toNat ≠ 10) (h13 : c.toNat ≠ 13) (h9 : c.toNat ≠ 9) (h5 : 32 ≤ c.toNat) (h6 : c.toNat ≠ 127) : qb c = [c] := by
  unfold qb
  rw [if_neg (fun h => h.elim (ne8 h1) (ne8 h2)), if_neg (ne8 h10), if_neg (ne8 h13), if_neg (ne8 h9), if_neg (fun h => h.elim (by omega) (ne8 h6))]
theorem span_lit {w : World} {t : TypeId} {xs : List Value} (l : List UInt8) (h : u8s l = xs) : Span (w.alloc (.cells xs.toArray t)) (some ⟨w.heap.size, 0, none⟩) (u8s l) := h ▸ Span.of_new w t (0, 0) xs
theorem of8 {c k : UInt8} (h : c.toNat = k.toNat) : c = k := UInt8.toNat_inj.1 h
set_option maxRecDepth 100000 in
set_option maxHeartbeats 6400000 in
theorem rquote_any (w : World) (s : ByteArray) (hs : s.size ≤ 10000000) : Calls Tryd.prog 20 #[.string s] w fun e w' => e = .returned (.string ⟨(quoteL s.data.toList).toArray⟩) ∧ Kp [] w w' := by
  obtain ⟨L, hL⟩ : ∃ L, L = s.data.toList := ⟨_, rfl⟩
  have hlen : L.length = s.size := by rw [hL, Array.length_toList]; rfl
  have hget : ∀ (i : Nat) (h : i < s.size), s[i]'h = L[i]'(by omega) := fun i h => by subst hL; rfl
  rw [← hL]
  have HL := hid hL
  have Hget := hid hget
  clear hL hget
  go_enter Tryd.func20, Tryd.ntmps20
  have H0 := hid (RQ.first w)
  go_wp2_with fail
  go_loopw [3, 4] (fun v va wr => ∃ k : Nat, va = .int .i64 (k : Int) ∧ k ≤ s.size ∧ RQ w wr v (34 :: body (L.take k))) (fun _ va _ => s.size - (intOf va).toNat)
  case atStart => exact ⟨0, rfl, by omega, H0.out⟩
  case round =>
    obtain ⟨k, rfl, hk, hq⟩ := hrel
    have hbl := body_len (L.take k)
    rw [List.length_take] at hbl
    have hq1 : (34 :: body (L.take k)).length ≤ 60000001 := by rw [List.length_cons]; omega
    by_cases hlt : k < s.size
    · have hsn := body_snoc L k (by omega)
      have hg := Hget.out k hlt
      obtain ⟨c, hc⟩ : ∃ c, c = L[k]'(by omega) := ⟨_, rfl⟩
      rw [← hc] at hg hsn
      obtain ⟨m, hm⟩ : ∃ m, m = c.toNat := ⟨_, rfl⟩
      have hm2 : m < 256 := by rw [hm]; exact c.toNat_lt
      have hgm : ∀ h : k < s.size, (s[k]'h).toNat = m := fun h => by rw [hg, hm]
      obtain ⟨X, hX⟩ : ∃ X, X = 34 :: body (L.take k) := ⟨_, rfl⟩
      rw [← hX] at hq hq1 hsn
      have Hsn := hid hsn
      have Hm := hid hm
      clear hc hX hsn hbl hg hm
      rcases (show m = 34 ∨ m = 92 ∨ m = 10 ∨ m = 13 ∨ m = 9 ∨ (m < 32 ∧ m ≠ 34 ∧ m ≠ 92 ∧ m ≠ 10 ∧ m ≠ 13 ∧ m ≠ 9) ∨ m = 127 ∨ (32 ≤ m ∧ m ≠ 34 ∧ m ≠ 92 ∧ m ≠ 127) from by omega) with h | h | h | h | h | ⟨h, h1, h2, h3, h4, h5⟩ | h | ⟨h, h1, h2, h3⟩
      · subst h
        have hcc : c = 34 := of8 Hm.out.symm
        have hqb : qb c = [92, 34] := by rw [hcc]; rfl
        rw [hqb] at Hsn
        clear hqb hcc
        go_wp2_with (at_builtin; go_must (refine wpList_append_bytesB rfl _ _ 37 rfl 5 Tryd.underlying37 infoByte9 _ _ rfl (hq.1.kept ((Kp.refl _ _).alloc _)) (hq.2.kept ((Kp.refl _ _).alloc _)) _ 2 2 [92, 34] rfl (span_lit [92, 34] rfl) rfl ?_ ?_))
        · omega
        intro v1 w1 ho1 hn1
        go_wp2_with fail
        go_roundw
        case rel => exact ⟨k + 1, by go_num, by omega, by rw [Hsn.out]; exact ⟨ho1, hn1⟩⟩
        case measure => simp [intOf]; omega
      · subst h
        have hcc : c = 92 := of8 Hm.out.symm
        have hqb : qb c = [92, 92] := by rw [hcc]; rfl
        rw [hqb] at Hsn
        clear hqb hcc
        go_wp2_with (at_builtin; go_must (refine wpList_append_bytesB rfl _ _ 37 rfl 5 Tryd.underlying37 infoByte9 _ _ rfl (hq.1.kept ((Kp.refl _ _).alloc _)) (hq.2.kept ((Kp.refl _ _).alloc _)) _ 2 2 [92, 92] rfl (span_lit [92, 92] rfl) rfl ?_ ?_))
        · omega
        intro v1 w1 ho1 hn1
        go_wp2_with fail
        go_roundw
        case rel => exact ⟨k + 1, by go_num, by omega, by rw [Hsn.out]; exact ⟨ho1, hn1⟩⟩
        case measure => simp [intOf]; omega
      · subst h
        have hcc : c = 10 := of8 Hm.out.symm
        have hqb : qb c = [92, 110] := by rw [hcc]; rfl
        rw [hqb] at Hsn
        clear hqb hcc
        go_wp2_with (at_builtin; go_must (refine wpList_append_bytesB rfl _ _ 37 rfl 5 Tryd.underlying37 infoByte9 _ _ rfl (hq.1.kept ((Kp.refl _ _).alloc _)) (hq.2.kept ((Kp.refl _ _).alloc _)) _ 2 2 [92, 110] rfl (span_lit [92, 110] rfl) rfl ?_ ?_))
        · omega
        intro v1 w1 ho1 hn1
        go_wp2_with fail
        go_roundw
        case rel => exact ⟨k + 1, by go_num, by omega, by rw [Hsn.out]; exact ⟨ho1, hn1⟩⟩
        case measure => simp [intOf]; omega
      · subst h
        have hcc : c = 13 := of8 Hm.out.symm
        have hqb : qb c = [92, 114] := by rw [hcc]; rfl
        rw [hqb] at Hsn
        clear hqb hcc
        go_wp2_with (at_builtin; go_must (refine wpList_append_bytesB rfl _ _ 37 rfl 5 Tryd.underlying37 infoByte9 _ _ rfl (hq.1.kept ((Kp.refl _ _).alloc _)) (hq.2.kept ((Kp.refl _ _).alloc _)) _ 2 2 [92, 114] rfl (span_lit [92, 114] rfl) rfl ?_ ?_))
        · omega
        intro v1 w1 ho1 hn1
        go_wp2_with fail
        go_roundw
        case rel => exact ⟨k + 1, by go_num, by omega, by rw [Hsn.out]; exact ⟨ho1, hn1⟩⟩
        case measure => simp [intOf]; omega
      · subst h
        have hcc : c = 9 := of8 Hm.out.symm
        have hqb : qb c = [92, 116] := by rw [hcc]; rfl
        rw [hqb] at Hsn
        clear hqb hcc
        go_wp2_with (at_builtin; go_must (refine wpList_append_bytesB rfl _ _ 37 rfl 5 Tryd.underlying37 infoByte9 _ _ rfl (hq.1.kept ((Kp.refl _ _).alloc _)) (hq.2.kept ((Kp.refl _ _).alloc _)) _ 2 2 [92, 116] rfl (span_lit [92, 116] rfl) rfl ?_ ?_))
        · omega
        intro v1 w1 ho1 hn1
        go_wp2_with fail
        go_roundw
        case rel => exact ⟨k + 1, by go_num, by omega, by rw [Hsn.out]; exact ⟨ho1, hn1⟩⟩
        case measure => simp [intOf]; omega
      · have b1 : ((m : Int) == 34) = false := by rw [beq_eq_false_iff_ne]; omega
        have b2 : ((m : Int) == 92) = false := by rw [beq_eq_false_iff_ne]; omega
        have b3 : ((m : Int) == 10) = false := by rw [beq_eq_false_iff_ne]; omega
        have b4 : ((m : Int) == 13) = false := by rw [beq_eq_false_iff_ne]; omega
        have b5 : ((m : Int) == 9) = false := by rw [beq_eq_false_iff_ne]; omega
        have hqb : qb c = [92, 117, 48, 48, hexB (m / 16), hexB (m % 16)] := by rw [Hm.out]; exact qb_esc (by have := Hm.out; omega)
        rw [hqb] at Hsn
        clear hqb
        obtain ⟨a, ha⟩ : ∃ a, a = m / 16 := ⟨_, rfl⟩
        obtain ⟨b, hb⟩ : ∃ b, b = m % 16 := ⟨_, rfl⟩
        have ha1 : (a : Int) < 16 := by omega
        have hb1 : (b : Int) < 16 := by omega
        have x1 : IntKind.u8.wrap ((m : Int) / 16) = (a : Int) := by rw [IntWalk.u8_in _ (by omega)]; omega
        have x2 : IntKind.u8.wrap ((m : Int) % 16) = (b : Int) := by rw [IntWalk.u8_in _ (by omega)]; omega
        have x3 : (m : Int).tmod 16 = (b : Int) := by rw [IntWalk.rem_in _ _ (by omega)]; omega
        rw [← ha, ← hb] at Hsn
        clear ha hb
        go_wp2_with fail
        go_region_law (refine step_append_bytesB rfl (.tmp 56) (.tmp 63) 37 rfl 5 Tryd.underlying37 infoByte9 _ _ (by rfl) (hq.1.kept (((Kp.refl _ _).drew).alloc _)) (hq.2.kept (((Kp.refl _ _).drew).alloc _)) _ 6 6 [92, 117, 48, 48, hexB a, hexB b] (by rfl) (span_lit [92, 117, 48, 48, hexB a, hexB b] (by first | rfl | (simp only [digits_get]; rfl))) rfl (by omega) ?_; intro v1 w1 ho1 hn1 k1 b1)
        all_goals
          go_wp2_with fail
          go_roundw
          case rel => exact ⟨k + 1, by go_num, by omega, by rw [Hsn.out]; exact ⟨ho1, hn1⟩⟩
          case measure => simp [intOf]; omega
      · subst h
        have hqb : qb c = [92, 117, 48, 48, hexB 7, hexB 15] := by have hcc : c = 127 := of8 Hm.out.symm; rw [hcc]; rfl
        rw [hqb] at Hsn
        clear hqb
        have x1 : IntKind.u8.wrap 7 = 7 := by decide
        have x2 : IntKind.u8.wrap 15 = 15 := by decide
        go_wp2_with fail
        go_region_law (refine step_append_bytesB rfl (.tmp 56) (.tmp 63) 37 rfl 5 Tryd.underlying37 infoByte9 _ _ (by rfl) (hq.1.kept (((Kp.refl _ _).drew).alloc _)) (hq.2.kept (((Kp.refl _ _).drew).alloc _)) _ 6 6 [92, 117, 48, 48, hexB (7), hexB (15)] (by rfl) (span_lit [92, 117, 48, 48, hexB (7), hexB (15)] (by first | rfl | (simp only [digits_get]; rfl))) rfl (by omega) ?_; intro v1 w1 ho1 hn1 k1 b1)
        all_goals
          go_wp2_with fail
          go_roundw
          case rel => exact ⟨k + 1, by go_num, by omega, by rw [Hsn.out]; exact ⟨ho1, hn1⟩⟩
          case measure => simp [intOf]; omega
      · have b1 : ((m : Int) == 34) = false := by rw [beq_eq_false_iff_ne]; omega
        have b2 : ((m : Int) == 92) = false := by rw [beq_eq_false_iff_ne]; omega
        have b3 : ((m : Int) == 10) = false := by rw [beq_eq_false_iff_ne]; omega
        have b4 : ((m : Int) == 13) = false := by rw [beq_eq_false_iff_ne]; omega
        have b5 : ((m : Int) == 9) = false := by rw [beq_eq_false_iff_ne]; omega
        have b6 : ((m : Int) == 127) = false := by rw [beq_eq_false_iff_ne]; omega
        have hqb : qb c = [c] := by have := Hm.out; exact qb_same (by omega) (by omega) (by omega) (by omega) (by omega) (by omega) (by omega)
        rw [hqb] at Hsn
        clear hqb
        go_wp2_with (at_builtin; go_must (refine wpList_append_bytesB rfl _ _ 37 rfl 5 Tryd.underlying37 infoByte9 _ _ rfl (hq.1.kept ((Kp.refl _ _).alloc _)) (hq.2.kept ((Kp.refl _ _).alloc _)) _ 1 1 [c] rfl (span_lit [c] (by rw [Hm.out]; rfl)) rfl ?_ ?_))
        · omega
        intro v1 w1 ho1 hn1
        go_wp2_with fail
        go_roundw
        case rel => exact ⟨k + 1, by go_num, by omega, by rw [Hsn.out]; exact ⟨ho1, hn1⟩⟩
        case measure => simp [intOf]; omega
    · have hkk : k = s.size := by omega
      have ht : L.take k = L := List.take_of_length_le (by omega)
      rw [ht] at hq hq1
      have hfin : 34 :: body L ++ [34] = quoteL L := rfl
      have Hfin := hid hfin
      obtain ⟨X, hX⟩ : ∃ X, X = 34 :: body L := ⟨_, rfl⟩
      rw [← hX] at hq hq1 Hfin
      clear hX hfin ht hbl
      go_wp2_with (at_builtin; go_must (refine wpList_append_bytesB rfl _ _ 37 rfl 5 Tryd.underlying37 infoByte9 _ _ rfl (hq.1.kept ((Kp.refl _ _).alloc _)) (hq.2.kept ((Kp.refl _ _).alloc _)) _ 1 1 [34] rfl (span_lit [34] rfl) rfl ?_ ?_))
      · omega
      intro v1 w1 ho1 hn1
      rw [Hfin.out] at ho1
      obtain ⟨A, cp, rfl, hsp, hcp, -⟩ := ho1.shape
      have htx := fun W (h : Span W A (u8s (quoteL L))) => run_text (P := Tryd.prog) (src := 37) (e := 5) (dst := 9) Tryd.underlying37 Tryd.underlying5 Tryd.underlying9 h (quoteL L).length cp rfl
      have htx1 := htx _ hsp
      clear htx hsp ho1
      have Hn := hid hn1
      clear hn1
      go_wp2_with fail
      go_ret
      exact ⟨rfl, Hn.out.kp⟩
end Go.Proofs.YtdmajeidggjalaaDoor
