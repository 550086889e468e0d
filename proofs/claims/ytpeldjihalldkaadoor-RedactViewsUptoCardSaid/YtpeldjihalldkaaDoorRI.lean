/- quote.Cut. -/
import Derived.Test.YtpeldjihalldkaaDoorRC
import Derived.Deep.Cut
import Derived.Lib.OthersKept
import Derived.Test.YtpeldjihalldkaaDoorRE
import Derived.Lib.ConvBytes
import Derived.Lib.Bytealg
import Derived.Laws.Shifts
import Derived.Test.YtpeldjihalldkaaDoorRB
namespace Go.Proofs.YtpeldjihalldkaaDoor
open Go Go.RowKit

theorem fromN_eq (n : Nat) (f : Int) : min (max f 0) (n : Int) = ((fromN n f : Nat) : Int) := by unfold fromN; omega
theorem toN_eq (n : Nat) (f t : Int) : min (max t ((fromN n f : Nat) : Int)) (n : Int) = ((toN n f t : Nat) : Int) := by unfold toN; omega
theorem extract_list (s : ByteArray) (i j : Nat) : s.extract i j = ⟨((s.data.toList.take j).drop i).toArray⟩ := by
  apply ByteArray.ext
  rw [ByteArray.data_extract]
  apply Array.toList_inj.1
  rw [Array.toList_extract]
  simp [List.extract, List.drop_take]
end Go.Proofs.YtpeldjihalldkaaDoor

/- quote.unit: the number of four hexadecimal digits behind \u. -/
namespace Go.Proofs.YtpeldjihalldkaaDoor
open Go Go.RowKit

def fourG (x : Nat) : List UInt8 → Option Nat
  | [] => some x
  | c :: t => match hexV c with
    | some v => fourG (x * 16 + v) t
    | none => none
theorem four_G (a b c d : UInt8) (t : List UInt8) : four (a :: b :: c :: d :: t) = fourG 0 [a, b, c, d] := by
  simp only [four, fourG]
  cases hexV a <;> cases hexV b <;> cases hexV c <;> cases hexV d <;> simp
theorem unit_G {l : List UInt8} (h6 : 6 ≤ l.length) (h2 : l.take 2 = [92, 117]) : unitL l = fourG 0 ((l.drop 2).take 4) := by
  obtain ⟨a, b, c, d, e, f, t, rfl⟩ : ∃ a b c d e f t, l = a :: b :: c :: d :: e :: f :: t := by
    rcases l with _ | ⟨a, _ | ⟨b, _ | ⟨c, _ | ⟨d, _ | ⟨e, _ | ⟨f, t⟩⟩⟩⟩⟩⟩
    all_goals first | exact ⟨_, _, _, _, _, _, _, rfl⟩ | (simp at h6)
  simp only [List.take_succ_cons, List.take_zero, List.cons.injEq, and_true] at h2
  obtain ⟨rfl, rfl⟩ := h2
  show unitL (92 :: 117 :: c :: d :: e :: f :: t) = _
  simp only [unitL]
  rw [if_pos ⟨trivial, trivial⟩, four_G]
  rfl
theorem unit_short {l : List UInt8} (h : l.length < 6) : unitL l = none := by
  cases hu : unitL l with
  | none => rfl
  | some x => have := (unitL_lt hu).2; omega
theorem unit_other {l : List UInt8} (h : l.take 2 ≠ [92, 117]) : unitL l = none := by
  rcases l with _ | ⟨a, _ | ⟨b, t⟩⟩
  · rfl
  · rfl
  · show (if a = 92 ∧ b = 117 then four t else none) = none
    rw [if_neg]
    rintro ⟨rfl, rfl⟩
    exact h rfl
theorem qkp_bytes (w : World) (s : ByteArray) : Kp [] w (Lib.bytesWorld w 5 s) := by
  refine ⟨rfl, rfl, rfl, by rw [Lib.bytesWorld_size]; omega, fun k hk _ => Lib.bytesWorld_at_old w 5 s k hk⟩
theorem qbytes_cell (w : World) (s : ByteArray) (j : Nat) (h : j < s.data.toList.length) : (Lib.bytesWorld w 5 s).cell? ⟨w.heap.size, j, none⟩ = some (.int .u8 (s.data.toList[j].toNat : Int)) := by
  have h2 := Lib.bytesWorld_cell w 5 s j (by rw [Array.length_toList] at h; exact h)
  rw [h2, List.getD_eq_getElem?_getD, List.getElem?_eq_getElem h]
  rfl
def digitsL : List UInt8 := [48, 49, 50, 51, 52, 53, 54, 55, 56, 57, 97, 98, 99, 100, 101, 102]
def lower (n : Nat) : Nat := if 65 ≤ n ∧ n ≤ 70 then n + 32 else n
theorem idx_hex (c : UInt8) : Lib.indexByte digitsL (UInt8.ofNat (lower c.toNat)) = (match hexV c with | some v => (v : Int) | none => -1) := by
  have key : ∀ m : Fin 256, Lib.indexByte digitsL (UInt8.ofNat (lower m.val)) = (match hexV (UInt8.ofNat m.val) with | some v => (v : Int) | none => -1) := by decide +kernel
  have h := key ⟨c.toNat, c.toNat_lt⟩
  simpa using h
def UnitPost (w : World) (L : List UInt8) (e : Ending) (w' : World) : Prop := e = .returned (.tuple #[.int .i32 (((unitL L).getD 0 : Nat) : Int), .bool (unitL L).isSome]) ∧ Kp [] w w'
end Go.Proofs.YtpeldjihalldkaaDoor

/- The document's answer for layer 3: Quote. -/
namespace Go.Proofs.YtpeldjihalldkaaDoor
open Go Go.RowKit

/-- The text so far. -/
def RQ (w0 w : World) (v : Value) (l : List UInt8) : Prop := OwnB 5 w v l ∧ New w0 w v
theorem RQ.kept {w0 w w' : World} {v : Value} {l : List UInt8} (h : RQ w0 w v l) (k : Kp [] w w') : RQ w0 w' v l := ⟨h.1.kept k, h.2.kept k⟩
theorem RQ.first (w : World) : RQ w (w.alloc (.cells #[.int .u8 34] 5)) (.slice (some ⟨w.heap.size, 0, none⟩) 1 1) [34] :=
  ⟨Own.of_cells (Cells.fresh w 5 [.int .u8 34]) (by decide), (Kp.refl _ _).alloc _, by intro g hg; simp [Value.ownBlock] at hg; omega⟩
theorem body_snoc (L : List UInt8) (i : Nat) (h : i < L.length) : 34 :: body (L.take (i + 1)) = 34 :: body (L.take i) ++ qb L[i] := by
  have e : L.take (i + 1) = L.take i ++ [L[i]] := (List.take_append_getElem h).symm
  rw [e, body_append]
  show 34 :: (_ ++ body [L[i]]) = _
  have e2 : body [L[i]] = qb L[i] := by simp [body]
  rw [e2]
  rfl
theorem qb_same {c : UInt8} (h1 : c.toNat ≠ 34) (h2 : c.toNat ≠ 92) (h10 : c.toNat ≠ 10) (h13 : c.toNat ≠ 13) (h9 : c.toNat ≠ 9) (h5 : 32 ≤ c.toNat) (h6 : c.toNat ≠ 127) : qb c = [c] := by
  unfold qb
  rw [if_neg (fun h => h.elim (ne8 h1) (ne8 h2)), if_neg (ne8 h10), if_neg (ne8 h13), if_neg (ne8 h9), if_neg (fun h => h.elim (by omega) (ne8 h6))]
theorem span_lit {w : World} {t : TypeId} {xs : List Value} (l : List UInt8) (h : u8s l = xs) : Span (w.alloc (.cells xs.toArray t)) (some ⟨w.heap.size, 0, none⟩) (u8s l) := h ▸ Span.of_new w t (0, 0) xs
theorem of8 {c k : UInt8} (h : c.toNat = k.toNat) : c = k := UInt8.toNat_inj.1 h
set_option maxRecDepth 100000 in
set_option maxHeartbeats 6400000 in
theorem rquote_any (w : World) (s : ByteArray) (hs : s.size ≤ 10000000) : Calls Tryd.prog 48 #[.string s] w fun e w' => e = .returned (.string ⟨(quoteL s.data.toList).toArray⟩) ∧ Kp [] w w' := by
  obtain ⟨L, hL⟩ : ∃ L, L = s.data.toList := ⟨_, rfl⟩
  have hlen : L.length = s.size := by rw [hL, Array.length_toList]; rfl
  have hget : ∀ (i : Nat) (h : i < s.size), s[i]'h = L[i]'(by omega) := fun i h => by subst hL; rfl
  rw [← hL]
  have HL := hid hL
  have Hget := hid hget
  clear hL hget
  go_enter Tryd.func48, Tryd.ntmps48
  have H0 := hid (RQ.first w)
  go_wp2_with fail
  go_loopw [3, 4] (fun v va wr => ∃ k : Nat, va = .int .i64 (k : Int) ∧ k ≤ s.size ∧ RQ w wr v (34 :: body (L.take k))) (fun _ va _ => s.size - (intOf va).toNat)
  case atStart => exact ⟨0, rfl, by omega, H0.out⟩
  case round =>
    obtain ⟨k, rfl, hk, hq⟩ := hrel
    have hbl := body_len (L.take k)
    rw [List.length_take] at hbl
    have hq1 : (34 :: body (L.take k)).length ≤ 60000001 := by rw [List.length_cons]; omega
    by_cases hlt : k < s.size
    · have hsn := body_snoc L k (by omega)
      have hg := Hget.out k hlt
      obtain ⟨c, hc⟩ : ∃ c, c = L[k]'(by omega) := ⟨_, rfl⟩
      rw [← hc] at hg hsn
      obtain ⟨m, hm⟩ : ∃ m, m = c.toNat := ⟨_, rfl⟩
      have hm2 : m < 256 := by rw [hm]; exact c.toNat_lt
      have hgm : ∀ h : k < s.size, (s[k]'h).toNat = m := fun h => by rw [hg, hm]
      obtain ⟨X, hX⟩ : ∃ X, X = 34 :: body (L.take k) := ⟨_, rfl⟩
      rw [← hX] at hq hq1 hsn
      have Hsn := hid hsn
      have Hm := hid hm
      clear hc hX hsn hbl hg hm
      rcases (show m = 34 ∨ m = 92 ∨ m = 10 ∨ m = 13 ∨ m = 9 ∨ (m < 32 ∧ m ≠ 34 ∧ m ≠ 92 ∧ m ≠ 10 ∧ m ≠ 13 ∧ m ≠ 9) ∨ m = 127 ∨ (32 ≤ m ∧ m ≠ 34 ∧ m ≠ 92 ∧ m ≠ 127) from by omega) with h | h | h | h | h | ⟨h, h1, h2, h3, h4, h5⟩ | h | ⟨h, h1, h2, h3⟩
      · subst h
        have hcc : c = 34 := of8 Hm.out.symm
        have hqb : qb c = [92, 34] := by rw [hcc]; rfl
        rw [hqb] at Hsn
        clear hqb hcc
        go_wp2_with (at_builtin; go_must (refine wpList_append_bytesB rfl _ _ 101 rfl 5 Tryd.underlying101 infoByte9 _ _ rfl (hq.1.kept ((Kp.refl _ _).alloc _)) (hq.2.kept ((Kp.refl _ _).alloc _)) _ 2 2 [92, 34] rfl (span_lit [92, 34] rfl) rfl ?_ ?_))
        · omega
        intro v1 w1 ho1 hn1
        go_wp2_with fail
        go_roundw
        case rel => exact ⟨k + 1, by go_num, by omega, by rw [Hsn.out]; exact ⟨ho1, hn1⟩⟩
        case measure => simp [intOf]; omega
      · subst h
        have hcc : c = 92 := of8 Hm.out.symm
        have hqb : qb c = [92, 92] := by rw [hcc]; rfl
        rw [hqb] at Hsn
        clear hqb hcc
        go_wp2_with (at_builtin; go_must (refine wpList_append_bytesB rfl _ _ 101 rfl 5 Tryd.underlying101 infoByte9 _ _ rfl (hq.1.kept ((Kp.refl _ _).alloc _)) (hq.2.kept ((Kp.refl _ _).alloc _)) _ 2 2 [92, 92] rfl (span_lit [92, 92] rfl) rfl ?_ ?_))
        · omega
        intro v1 w1 ho1 hn1
        go_wp2_with fail
        go_roundw
        case rel => exact ⟨k + 1, by go_num, by omega, by rw [Hsn.out]; exact ⟨ho1, hn1⟩⟩
        case measure => simp [intOf]; omega
      · subst h
        have hcc : c = 10 := of8 Hm.out.symm
        have hqb : qb c = [92, 110] := by rw [hcc]; rfl
        rw [hqb] at Hsn
        clear hqb hcc
        go_wp2_with (at_builtin; go_must (refine wpList_append_bytesB rfl _ _ 101 rfl 5 Tryd.underlying101 infoByte9 _ _ rfl (hq.1.kept ((Kp.refl _ _).alloc _)) (hq.2.kept ((Kp.refl _ _).alloc _)) _ 2 2 [92, 110] rfl (span_lit [92, 110] rfl) rfl ?_ ?_))
        · omega
        intro v1 w1 ho1 hn1
        go_wp2_with fail
        go_roundw
        case rel => exact ⟨k + 1, by go_num, by omega, by rw [Hsn.out]; exact ⟨ho1, hn1⟩⟩
        case measure => simp [intOf]; omega
      · subst h
        have hcc : c = 13 := of8 Hm.out.symm
        have hqb : qb c = [92, 114] := by rw [hcc]; rfl
        rw [hqb] at Hsn
        clear hqb hcc
        go_wp2_with (at_builtin; go_must (refine wpList_append_bytesB rfl _ _ 101 rfl 5 Tryd.underlying101 infoByte9 _ _ rfl (hq.1.kept ((Kp.refl _ _).alloc _)) (hq.2.kept ((Kp.refl _ _).alloc _)) _ 2 2 [92, 114] rfl (span_lit [92, 114] rfl) rfl ?_ ?_))
        · omega
        intro v1 w1 ho1 hn1
        go_wp2_with fail
        go_roundw
        case rel => exact ⟨k + 1, by go_num, by omega, by rw [Hsn.out]; exact ⟨ho1, hn1⟩⟩
        case measure => simp [intOf]; omega
      · subst h
        have hcc : c = 9 := of8 Hm.out.symm
        have hqb : qb c = [92, 116] := by rw [hcc]; rfl
        rw [hqb] at Hsn
        clear hqb hcc
        go_wp2_with (at_builtin; go_must (refine wpList_append_bytesB rfl _ _ 101 rfl 5 Tryd.underlying101 infoByte9 _ _ rfl (hq.1.kept ((Kp.refl _ _).alloc _)) (hq.2.kept ((Kp.refl _ _).alloc _)) _ 2 2 [92, 116] rfl (span_lit [92, 116] rfl) rfl ?_ ?_))
        · omega
        intro v1 w1 ho1 hn1
        go_wp2_with fail
        go_roundw
        case rel => exact ⟨k + 1, by go_num, by omega, by rw [Hsn.out]; exact ⟨ho1, hn1⟩⟩
        case measure => simp [intOf]; omega
      · have b1 : ((m : Int) == 34) = false := by rw [beq_eq_false_iff_ne]; omega
        have b2 : ((m : Int) == 92) = false := by rw [beq_eq_false_iff_ne]; omega
        have b3 : ((m : Int) == 10) = false := by rw [beq_eq_false_iff_ne]; omega
        have b4 : ((m : Int) == 13) = false := by rw [beq_eq_false_iff_ne]; omega
        have b5 : ((m : Int) == 9) = false := by rw [beq_eq_false_iff_ne]; omega
        have hqb : qb c = [92, 117, 48, 48, hexB (m / 16), hexB (m % 16)] := by rw [Hm.out]; exact qb_esc (by have := Hm.out; omega)
        rw [hqb] at Hsn
        clear hqb
        obtain ⟨a, ha⟩ : ∃ a, a = m / 16 := ⟨_, rfl⟩
        obtain ⟨b, hb⟩ : ∃ b, b = m % 16 := ⟨_, rfl⟩
        have ha1 : (a : Int) < 16 := by omega
        have hb1 : (b : Int) < 16 := by omega
        have x1 : IntKind.u8.wrap ((m : Int) / 16) = (a : Int) := by rw [IntWalk.u8_in _ (by omega)]; omega
        have x2 : IntKind.u8.wrap ((m : Int) % 16) = (b : Int) := by rw [IntWalk.u8_in _ (by omega)]; omega
        have x3 : (m : Int).tmod 16 = (b : Int) := by rw [IntWalk.rem_in _ _ (by omega)]; omega
        rw [← ha, ← hb] at Hsn
        clear ha hb
        go_wp2_with fail
        go_region_law (refine step_append_bytesB rfl (.tmp 56) (.tmp 63) 101 rfl 5 Tryd.underlying101 infoByte9 _ _ (by rfl) (hq.1.kept (((Kp.refl _ _).drew).alloc _)) (hq.2.kept (((Kp.refl _ _).drew).alloc _)) _ 6 6 [92, 117, 48, 48, hexB a, hexB b] (by rfl) (span_lit [92, 117, 48, 48, hexB a, hexB b] (by first | rfl | (simp only [digits_get]; rfl))) rfl (by omega) ?_; intro v1 w1 ho1 hn1 k1 b1)
        all_goals
          go_wp2_with fail
          go_roundw
          case rel => exact ⟨k + 1, by go_num, by omega, by rw [Hsn.out]; exact ⟨ho1, hn1⟩⟩
          case measure => simp [intOf]; omega
      · subst h
        have hqb : qb c = [92, 117, 48, 48, hexB 7, hexB 15] := by have hcc : c = 127 := of8 Hm.out.symm; rw [hcc]; rfl
        rw [hqb] at Hsn
        clear hqb
        have x1 : IntKind.u8.wrap 7 = 7 := by decide
        have x2 : IntKind.u8.wrap 15 = 15 := by decide
        go_wp2_with fail
        go_region_law (refine step_append_bytesB rfl (.tmp 56) (.tmp 63) 101 rfl 5 Tryd.underlying101 infoByte9 _ _ (by rfl) (hq.1.kept (((Kp.refl _ _).drew).alloc _)) (hq.2.kept (((Kp.refl _ _).drew).alloc _)) _ 6 6 [92, 117, 48, 48, hexB (7), hexB (15)] (by rfl) (span_lit [92, 117, 48, 48, hexB (7), hexB (15)] (by first | rfl | (simp only [digits_get]; rfl))) rfl (by omega) ?_; intro v1 w1 ho1 hn1 k1 b1)
        all_goals
          go_wp2_with fail
          go_roundw
          case rel => exact ⟨k + 1, by go_num, by omega, by rw [Hsn.out]; exact ⟨ho1, hn1⟩⟩
          case measure => simp [intOf]; omega
      · have b1 : ((m : Int) == 34) = false := by rw [beq_eq_false_iff_ne]; omega
        have b2 : ((m : Int) == 92) = false := by rw [beq_eq_false_iff_ne]; omega
        have b3 : ((m : Int) == 10) = false := by rw [beq_eq_false_iff_ne]; omega
        have b4 : ((m : Int) == 13) = false := by rw [beq_eq_false_iff_ne]; omega
        have b5 : ((m : Int) == 9) = false := by rw [beq_eq_false_iff_ne]; omega
        have b6 : ((m : Int) == 127) = false := by rw [beq_eq_false_iff_ne]; omega
        have hqb : qb c = [c] := by have := Hm.out; exact qb_same (by omega) (by omega) (by omega) (by omega) (by omega) (by omega) (by omega)
        rw [hqb] at Hsn
        clear hqb
        go_wp2_with (at_builtin; go_must (refine wpList_append_bytesB rfl _ _ 101 rfl 5 Tryd.underlying101 infoByte9 _ _ rfl (hq.1.kept ((Kp.refl _ _).alloc _)) (hq.2.kept ((Kp.refl _ _).alloc _)) _ 1 1 [c] rfl (span_lit [c] (by rw [Hm.out]; rfl)) rfl ?_ ?_))
        · omega
        intro v1 w1 ho1 hn1
        go_wp2_with fail
        go_roundw
        case rel => exact ⟨k + 1, by go_num, by omega, by rw [Hsn.out]; exact ⟨ho1, hn1⟩⟩
        case measure => simp [intOf]; omega
    · have hkk : k = s.size := by omega
      have ht : L.take k = L := List.take_of_length_le (by omega)
      rw [ht] at hq hq1
      have hfin : 34 :: body L ++ [34] = quoteL L := rfl
      have Hfin := hid hfin
      obtain ⟨X, hX⟩ : ∃ X, X = 34 :: body L := ⟨_, rfl⟩
      rw [← hX] at hq hq1 Hfin
      clear hX hfin ht hbl
      go_wp2_with (at_builtin; go_must (refine wpList_append_bytesB rfl _ _ 101 rfl 5 Tryd.underlying101 infoByte9 _ _ rfl (hq.1.kept ((Kp.refl _ _).alloc _)) (hq.2.kept ((Kp.refl _ _).alloc _)) _ 1 1 [34] rfl (span_lit [34] rfl) rfl ?_ ?_))
      · omega
      intro v1 w1 ho1 hn1
      rw [Hfin.out] at ho1
      obtain ⟨A, cp, rfl, hsp, hcp, -⟩ := ho1.shape
      have htx := fun W (h : Span W A (u8s (quoteL L))) => run_text (P := Tryd.prog) (src := 101) (e := 5) (dst := 9) Tryd.underlying101 Tryd.underlying5 Tryd.underlying9 h (quoteL L).length cp rfl
      have htx1 := htx _ hsp
      clear htx hsp ho1
      have Hn := hid hn1
      clear hn1
      go_wp2_with fail
      go_ret
      exact ⟨rfl, Hn.out.kp⟩
end Go.Proofs.YtpeldjihalldkaaDoor

/- The document's answer for layer 3: four digits, a rune's bytes, what stands behind a backslash. -/
namespace Go.Proofs.YtpeldjihalldkaaDoor
open Go Go.RowKit

def fourV (o : Option Nat) : Int := match o with | some x => (x : Int) | none => -1
theorem four_fold {l : List UInt8} (h : 4 ≤ l.length) : four l = fourG 0 (l.take 4) := by
  obtain ⟨a, b, c, d, t, rfl⟩ : ∃ a b c d t, l = a :: b :: c :: d :: t := by
    rcases l with _ | ⟨a, _ | ⟨b, _ | ⟨c, _ | ⟨d, t⟩⟩⟩⟩
    all_goals first | exact ⟨_, _, _, _, _, rfl⟩ | (simp at h)
  rw [four_G]
  rfl
theorem four_short {l : List UInt8} (h : l.length < 4) : four l = none := by
  cases hu : four l with
  | none => rfl
  | some x => have := (four_lt hu).2; omega
theorem hexV_some {c : UInt8} {v : Nat} (h : (48 ≤ c.toNat ∧ c.toNat ≤ 57 ∧ v = c.toNat - 48) ∨ (97 ≤ c.toNat ∧ c.toNat ≤ 102 ∧ v = c.toNat - 87) ∨ (65 ≤ c.toNat ∧ c.toNat ≤ 70 ∧ v = c.toNat - 55)) : hexV c = some v := by
  unfold hexV
  rcases h with ⟨h1, h2, rfl⟩ | ⟨h1, h2, rfl⟩ | ⟨h1, h2, rfl⟩
  · rw [if_pos ⟨h1, h2⟩]
  · rw [if_neg (by omega), if_pos ⟨h1, h2⟩]
  · rw [if_neg (by omega), if_neg (by omega), if_pos ⟨h1, h2⟩]
theorem hexV_none {c : UInt8} (h : c.toNat < 48 ∨ (58 ≤ c.toNat ∧ c.toNat < 65) ∨ (71 ≤ c.toNat ∧ c.toNat < 97) ∨ 103 ≤ c.toNat) : hexV c = none := by
  unfold hexV
  rw [if_neg (by omega), if_neg (by omega), if_neg (by omega)]
set_option maxRecDepth 100000 in
set_option maxHeartbeats 3200000 in
theorem rfour_any (w : World) (s : ByteArray) (p : Nat) (hs : s.size ≤ 100000000) (hp : p ≤ 100000100) : Calls Tryd.prog 117 #[.string s, .int .i64 (p : Int)] w fun e w' => e = .returned (.int .i64 (fourV (four (s.data.toList.drop p)))) ∧ w' = w := by
  obtain ⟨L, hL⟩ : ∃ L, L = s.data.toList := ⟨_, rfl⟩
  have hlen : L.length = s.size := by rw [hL, Array.length_toList]; rfl
  have hget : ∀ (i : Nat) (h : i < s.size), s[i]'h = L[i]'(by omega) := fun i h => by subst hL; rfl
  rw [← hL]
  clear hL
  by_cases h4 : s.size < p + 4
  · have hf := hid (four_short (l := L.drop p) (by rw [List.length_drop]; omega))
    clear hget
    go_enter Tryd.func117, Tryd.ntmps117
    go_wp2_with fail
    go_ret
    exact ⟨by rw [hf.out]; rfl, rfl⟩
  · obtain ⟨D, hD⟩ : ∃ D, D = (L.drop p).take 4 := ⟨_, rfl⟩
    have hf : four (L.drop p) = fourG 0 D := by rw [hD]; exact four_fold (by rw [List.length_drop]; omega)
    have hDl : D.length = 4 := by rw [hD, List.length_take, List.length_drop]; omega
    have hDg : ∀ j (h : j < 4), D[j]'(by omega) = L[p + j]'(by omega) := fun j h => by subst hD; simp
    obtain ⟨F, hF⟩ : ∃ F, F = four (L.drop p) := ⟨_, rfl⟩
    rw [← hF] at hf ⊢
    have Hget := hid hget
    have HDg := hid hDg
    have HD := hid hD
    have Hf := hid hf
    clear hget hDg hf hF hD
    go_enter Tryd.func117, Tryd.ntmps117
    go_wp2_with fail
    go_loopw [5, 6] (fun vx vi wr => wr = w ∧ ∃ j x : Nat, vi = .int .i64 ((p + j : Nat) : Int) ∧ vx = .int .i64 (x : Int) ∧ j ≤ 4 ∧ x < 16 ^ j ∧ fourG x (D.drop j) = F) (fun _ vi _ => p + 4 - (intOf vi).toNat)
    case atStart => exact ⟨rfl, 0, 0, rfl, rfl, by omega, by decide, Hf.out.symm⟩
    case round =>
      obtain ⟨hwr, j, x, rfl, rfl, hj, hx, hF⟩ := hrel
      have hwr2 := hwr.symm
      subst hwr2
      have hx6 : x < 65536 := Nat.lt_of_lt_of_le hx (show 16 ^ j ≤ 16 ^ 4 from Nat.pow_le_pow_right (by decide) hj)
      by_cases hlt : j < 4
      · have hcons : D.drop j = D[j]'(by omega) :: D.drop (j + 1) := List.drop_eq_getElem_cons (by omega)
        have hcL := HDg.out j hlt
        have hg := Hget.out (p + j) (by omega)
        obtain ⟨c, hc⟩ : ∃ c, c = D[j]'(by omega) := ⟨_, rfl⟩
        rw [← hc] at hcL hcons
        rw [hcons] at hF
        obtain ⟨m, hm⟩ : ∃ m, m = c.toNat := ⟨_, rfl⟩
        have hm2 : m < 256 := by rw [hm]; exact c.toNat_lt
        have hgm : ∀ h : p + j < s.size, (s[p + j]'h).toNat = m := fun h => by rw [hg, ← hcL, hm]
        have HF := hid hF
        have Hm := hid hm
        have hpw : 16 ^ (j + 1) = 16 ^ j * 16 := Nat.pow_succ 16 j
        have Hx := hid (And.intro hx hpw)
        clear hcons hcL hg hc hF hm hx hpw
        rcases (show (∃ v, v < 16 ∧ 48 ≤ m ∧ m ≤ 57 ∧ v = m - 48) ∨ (∃ v, v < 16 ∧ 97 ≤ m ∧ m ≤ 102 ∧ v = m - 87) ∨ (∃ v, v < 16 ∧ 65 ≤ m ∧ m ≤ 70 ∧ v = m - 55) ∨ m < 48 ∨ (58 ≤ m ∧ m < 65) ∨ (71 ≤ m ∧ m < 97) ∨ 103 ≤ m from by
          rcases (show (48 ≤ m ∧ m ≤ 57) ∨ (97 ≤ m ∧ m ≤ 102) ∨ (65 ≤ m ∧ m ≤ 70) ∨ m < 48 ∨ (58 ≤ m ∧ m < 65) ∨ (71 ≤ m ∧ m < 97) ∨ 103 ≤ m from by omega) with h | h | h | h
          · exact .inl ⟨_, by omega, h.1, h.2, rfl⟩
          · exact .inr (.inl ⟨_, by omega, h.1, h.2, rfl⟩)
          · exact .inr (.inr (.inl ⟨_, by omega, h.1, h.2, rfl⟩))
          · exact .inr (.inr (.inr h))) with ⟨v, hv, h1, h2, h3⟩ | ⟨v, hv, h1, h2, h3⟩ | ⟨v, hv, h1, h2, h3⟩ | h | ⟨h, h2⟩ | ⟨h, h2⟩ | h
        case' inl => have hh : hexV c = some v := hexV_some (.inl ⟨by rw [← Hm.out]; omega, by rw [← Hm.out]; omega, by rw [← Hm.out]; exact h3⟩)
        case' inr.inl => have hh : hexV c = some v := hexV_some (.inr (.inl ⟨by rw [← Hm.out]; omega, by rw [← Hm.out]; omega, by rw [← Hm.out]; exact h3⟩))
        case' inr.inr.inl => have hh : hexV c = some v := hexV_some (.inr (.inr ⟨by rw [← Hm.out]; omega, by rw [← Hm.out]; omega, by rw [← Hm.out]; exact h3⟩))
        iterate 3
          · have HF2 : Hid (fourG (x * 16 + v) (D.drop (j + 1)) = F) := by
              have h9 := HF.out
              simp only [fourG, hh] at h9
              exact hid h9
            have Hv := hid h3
            clear hh h3
            go_wp2_with fail
            go_roundw
            case rel =>
              refine ⟨trivial, j + 1, x * 16 + v, by go_num, ?_, by omega, ?_, HF2.out⟩
              · have := Hv.out
                go_num
              · have := Hx.out
                omega
            case measure => simp [intOf]; omega
        all_goals
          have hh : hexV c = none := hexV_none (by rw [← Hm.out]; omega)
          have HF2 : Hid (F = none) := by
            have h9 := HF.out
            simp only [fourG, hh] at h9
            exact hid h9.symm
          clear hh
          go_wp2_with fail
          go_ret
          exact ⟨by rw [HF2.out]; rfl, rfl⟩
      · have hj4 : j = 4 := by omega
        have HF2 : Hid (F = some x) := by
          rw [List.drop_eq_nil_of_le (by omega)] at hF
          exact hid hF.symm
        clear hF hx
        go_wp2_with fail
        go_ret
        exact ⟨by rw [HF2.out]; rfl, rfl⟩
theorem enc_toNat {n : Nat} (h : n < 256) : (UInt8.ofNat n).toNat = n := by rw [UInt8.toNat_ofNat']; omega
theorem lits : ∀ {l : List UInt8} {ns : List Nat}, l = ns.map UInt8.ofNat → (∀ n ∈ ns, n < 256) → u8s l = ns.map fun (n : Nat) => Value.int .u8 (n : Int) := by
  intro l ns h hn
  subst h
  unfold u8s
  rw [List.map_map]
  apply List.map_congr_left
  intro n hm
  show u8 (UInt8.ofNat n) = _
  unfold u8
  rw [enc_toNat (hn n hm)]
/-- A rune's bytes. -/
theorem enc_two {x : Nat} (h0 : 128 ≤ x) (h1 : x ≤ 2047) : Lib.encodeRune (x : Int) = [192 + x / 64, 128 + x % 64].map UInt8.ofNat := by
  unfold Lib.encodeRune
  rw [Lib.encodeRuneZ_two (by omega) (by omega)]
  simp only [List.map_cons, List.map_nil, Nat.toUInt8]
  have e1 : (192 + (x : Int) / 64).toNat = 192 + x / 64 := by omega
  have e2 : (128 + (x : Int) % 64).toNat = 128 + x % 64 := by omega
  rw [e1, e2]
theorem enc_three {x : Nat} (h : (2048 ≤ x ∧ x < 55296) ∨ (57343 < x ∧ x ≤ 65535)) : Lib.encodeRune (x : Int) = [224 + x / 4096, 128 + x / 64 % 64, 128 + x % 64].map UInt8.ofNat := by
  unfold Lib.encodeRune
  rw [Lib.encodeRuneZ_three (by omega)]
  simp only [List.map_cons, List.map_nil, Nat.toUInt8]
  have e1 : (224 + (x : Int) / 4096).toNat = 224 + x / 4096 := by omega
  have e2 : (128 + (x : Int) / 64 % 64).toNat = 128 + x / 64 % 64 := by omega
  have e3 : (128 + (x : Int) % 64).toNat = 128 + x % 64 := by omega
  rw [e1, e2, e3]
theorem enc_four {x : Nat} (h0 : 65536 ≤ x) (h1 : x ≤ 1114111) : Lib.encodeRune (x : Int) = [240 + x / 262144, 128 + x / 4096 % 64, 128 + x / 64 % 64, 128 + x % 64].map UInt8.ofNat := by
  unfold Lib.encodeRune
  rw [Lib.encodeRuneZ_four (by omega) (by omega)]
  simp only [List.map_cons, List.map_nil, Nat.toUInt8]
  have e1 : (240 + (x : Int) / 262144).toNat = 240 + x / 262144 := by omega
  have e4 : (128 + (x : Int) / 4096 % 64).toNat = 128 + x / 4096 % 64 := by omega
  have e2 : (128 + (x : Int) / 64 % 64).toNat = 128 + x / 64 % 64 := by omega
  have e3 : (128 + (x : Int) % 64).toNat = 128 + x % 64 := by omega
  rw [e1, e2, e3, e4]
theorem text_lit (w : World) (ns : List Nat) (l : List UInt8) (k : Nat) (hk : ns.length = k) (xs : List Value) (hxs : xs = ns.map fun (n : Nat) => Value.int .u8 (n : Int)) (h : l = ns.map UInt8.ofNat) (hn : ∀ n ∈ ns, n < 256) :
    (convert 101 9 (.slice (some ⟨w.heap.size, 0, none⟩) k k)).run Tryd.prog (w.alloc (.cells xs.toArray 5)) = .ok (.string ⟨l.toArray⟩) (w.alloc (.cells xs.toArray 5)) :=
  run_text (P := Tryd.prog) (src := 101) (e := 5) (dst := 9) Tryd.underlying101 Tryd.underlying5 Tryd.underlying9 (span_lit l (by rw [hxs]; exact lits h hn)) k k (by rw [h, List.length_map]; exact hk)
set_option maxRecDepth 100000 in
set_option maxHeartbeats 3200000 in
theorem rwrite_any (w : World) (x : Nat) (hx : x < 55296 ∨ (57344 ≤ x ∧ x ≤ 1114111)) : Calls Tryd.prog 118 #[.int .i64 (x : Int)] w fun e w' => e = .returned (.string ⟨(Lib.encodeRune (x : Int)).toArray⟩) ∧ Kp [] w w' := by
  obtain ⟨l, hl⟩ : ∃ l, l = Lib.encodeRune (x : Int) := ⟨_, rfl⟩
  rw [← hl]
  rcases (show x < 128 ∨ (128 ≤ x ∧ x ≤ 2047) ∨ ((2048 ≤ x ∧ x < 55296) ∨ (57343 < x ∧ x ≤ 65535)) ∨ (65536 ≤ x ∧ x ≤ 1114111) from by omega) with h | ⟨h0, h1⟩ | h | ⟨h0, h1⟩
  · rw [encode_low h] at hl
    have htx := text_lit w [x] l 1 rfl [.int .u8 (x : Int)] rfl hl (by intro n hn; simp at hn; omega)
    clear hl
    go_enter Tryd.func118, Tryd.ntmps118
    go_wp2_with fail
    go_ret
    exact ⟨rfl, (Kp.refl _ _).alloc _⟩
  · rw [enc_two h0 h1] at hl
    have htx := text_lit w [192 + x / 64, 128 + x % 64] l 2 rfl [.int .u8 (192 + (x : Int) / 64), .int .u8 (128 + (x : Int) % 64)] (by simp) hl (by intro n hn; simp at hn; omega)
    clear hl hx
    go_enter Tryd.func118, Tryd.ntmps118
    go_wp2_with fail
    go_ret
    exact ⟨rfl, (Kp.refl _ _).alloc _⟩
  · rw [enc_three h] at hl
    have htx := text_lit w [224 + x / 4096, 128 + x / 64 % 64, 128 + x % 64] l 3 rfl [.int .u8 (224 + (x : Int) / 4096), .int .u8 (128 + (x : Int) / 64 % 64), .int .u8 (128 + (x : Int) % 64)] (by simp) hl (by intro n hn; simp at hn; omega)
    have t1 : decide ((x : Int) < 128) = false := by simp; omega
    have t2 : decide ((x : Int) < 2048) = false := by simp; omega
    have t3 : decide ((x : Int) < 65536) = true := by simp; omega
    have b1 : (2048 : Int) ≤ (x : Int) := by omega
    have b2 : (x : Int) ≤ 65535 := by omega
    clear hl hx h
    go_enter Tryd.func118, Tryd.ntmps118
    go_wp2_with fail
    go_ret
    exact ⟨rfl, (Kp.refl _ _).alloc _⟩
  · rw [enc_four h0 h1] at hl
    have htx := text_lit w [240 + x / 262144, 128 + x / 4096 % 64, 128 + x / 64 % 64, 128 + x % 64] l 4 rfl [.int .u8 (240 + (x : Int) / 262144), .int .u8 (128 + (x : Int) / 4096 % 64), .int .u8 (128 + (x : Int) / 64 % 64), .int .u8 (128 + (x : Int) % 64)] (by simp) hl (by intro n hn; simp at hn; omega)
    have t1 : decide ((x : Int) < 128) = false := by simp; omega
    have t2 : decide ((x : Int) < 2048) = false := by simp; omega
    have t3 : decide ((x : Int) < 65536) = false := by simp; omega
    have b1 : (65536 : Int) ≤ (x : Int) := by omega
    have b2 : (x : Int) ≤ 1114111 := by omega
    clear hl hx h0 h1
    go_enter Tryd.func118, Tryd.ntmps118
    go_wp2_with fail
    go_ret
    exact ⟨rfl, (Kp.refl _ _).alloc _⟩
end Go.Proofs.YtpeldjihalldkaaDoor

/- quote.escape: the rune that a text with a backslash begins with. -/
namespace Go.Proofs.YtpeldjihalldkaaDoor
open Go Go.RowKit

def simpleL : List UInt8 := [34, 92, 47, 98, 102, 110, 114, 116]
theorem idx_simple (c : UInt8) : (simpleE c = none ∧ Lib.indexByte simpleL c = -1) ∨ ∃ k r : Nat, k < 8 ∧ simpleE c = some r ∧ Lib.indexByte simpleL c = (k : Int) ∧
    ∀ h : k < (⟨#[34, 92, 47, 8, 12, 10, 13, 9]⟩ : ByteArray).size, ((⟨#[34, 92, 47, 8, 12, 10, 13, 9]⟩ : ByteArray)[k]'h).toNat = r := by
  unfold simpleE
  by_cases h1 : c = 34
  · subst h1; exact .inr ⟨0, 34, by decide, rfl, by decide, fun _ => rfl⟩
  by_cases h2 : c = 92
  · subst h2; exact .inr ⟨1, 92, by decide, rfl, by decide, fun _ => rfl⟩
  by_cases h3 : c = 47
  · subst h3; exact .inr ⟨2, 47, by decide, rfl, by decide, fun _ => rfl⟩
  by_cases h4 : c = 98
  · subst h4; exact .inr ⟨3, 8, by decide, rfl, by decide, fun _ => rfl⟩
  by_cases h5 : c = 102
  · subst h5; exact .inr ⟨4, 12, by decide, rfl, by decide, fun _ => rfl⟩
  by_cases h6 : c = 110
  · subst h6; exact .inr ⟨5, 10, by decide, rfl, by decide, fun _ => rfl⟩
  by_cases h7 : c = 114
  · subst h7; exact .inr ⟨6, 13, by decide, rfl, by decide, fun _ => rfl⟩
  by_cases h8 : c = 116
  · subst h8; exact .inr ⟨7, 9, by decide, rfl, by decide, fun _ => rfl⟩
  refine .inl ⟨by simp [h1, h2, h3, h4, h5, h6, h7, h8], ?_⟩
  simp [simpleL, Lib.indexByte, Ne.symm h1, Ne.symm h2, Ne.symm h3, Ne.symm h4, Ne.symm h5, Ne.symm h6, Ne.symm h7, Ne.symm h8]
def EscPost (w : World) (L : List UInt8) (e : Ending) (w' : World) : Prop :=
  Kp [] w w' ∧ ((∃ r n : Nat, escL L = some (r, n) ∧ e = .returned (.tuple #[.int .i32 (r : Int), .int .i64 (n : Int), .bool true])) ∨
    (escL L = none ∧ ∃ r n : Int, e = .returned (.tuple #[.int .i32 r, .int .i64 n, .bool false])))
end Go.Proofs.YtpeldjihalldkaaDoor

/- quote.Unquote, of any text. -/
namespace Go.Proofs.YtpeldjihalldkaaDoor
open Go Go.RowKit

/-- The rune at the head, below 128: it is the first byte. -/
theorem head_low {c : UInt8} {t : List UInt8} (h : (Lib.decodeL (c :: t)).1 < 128) : Lib.decodeL (c :: t) = (c.toNat, 1) := by
  have hb : ¬ Bad (c :: t) := fun hb => by have := hb.1; omega
  have h2 : Lib.encodeRune ((Lib.decodeL (c :: t)).1 : Int) = (c :: t).take (wd (c :: t)) := Lib.encode_decode _ (by simp) hb
  rw [encode_low h] at h2
  have h4 := congrArg List.length h2
  rw [List.length_take] at h4
  have h5 := wd_le (c :: t) (by simp)
  simp only [List.length_cons, List.length_nil] at h4 h5
  obtain ⟨c', t', he, _, hd⟩ := low_byte hb (by omega) (by simp)
  injection he with h6 h7
  rw [h6]
  rw [← h6] at hd
  exact h6 ▸ hd
theorem bldAt_below {w w' : World} {B b : Nat} {p : Value} {bs : List Value} (h : Lib.BuilderAtF 103 5 B b p bs w) (k : Below w.heap.size w w') : Lib.BuilderAtF 103 5 B b p bs w' := by
  obtain ⟨hB, v, hb, hown, hne⟩ := h
  have hlt : ∀ g o, w.heap[g]? = some o → g < w.heap.size := fun g o hg => (Array.getElem?_eq_some_iff.1 hg).1
  refine ⟨hB, v, (k.block b (hlt _ _ hb)).trans hb, ⟨hown.1, ?_⟩, hne⟩
  rcases hown.2 with hn | ⟨g, cap, cur, fz, hv, hbg, hg, rest⟩
  · exact .inl hn
  · exact .inr ⟨g, cap, cur, fz, hv, hbg, (k.block g (hlt _ _ hg)).trans hg, rest⟩
theorem Bld.below {w w' : World} {B b : Nat} {l : List UInt8} (h : Bld w B b l) (k : Below w.heap.size w w') : Bld w' B b l := h.elim (fun x => .inl (bldAt_below x k)) (fun x => .inr (bldAt_below x k))
/-- While a text is read: the builder. -/
def US (w0 : World) (acc : List UInt8) (wr : World) : Prop := Bld wr w0.heap.size w0.heap.size acc ∧ Below w0.heap.size w0 wr
theorem US.put {w0 wr w' : World} {acc m : List UInt8} (h : US w0 acc wr) (k : BldPost wr w0.heap.size w0.heap.size (acc ++ m) w') : US w0 (acc ++ m) w' := ⟨k.1, h.2.trans k.2.1⟩
theorem US.kept {w0 wr w' : World} {acc : List UInt8} (h : US w0 acc wr) (k : Below wr.heap.size wr w') : US w0 acc w' := ⟨h.1.below k, h.2.trans (k.mono h.2.size)⟩
theorem unqGo_cons (f : Nat) (c : UInt8) (t out : List UInt8) (a : Nat) : unqGo (f + 1) (c :: t) out a =
    if c = 34 then (if 4096 < out.length then ([], 0, 3) else (out, a + 1, 0))
      else if c = 92 then (match escL (c :: t) with
        | none => ([], 0, 6)
        | some (r, n) => unqGo f ((c :: t).drop n) (out ++ Lib.encodeRune (r : Int)) (a + n))
      else if Bad (c :: t) ∨ (Lib.decodeL (c :: t)).1 < 32 then ([], 0, 6)
      else unqGo f ((c :: t).drop (wd (c :: t))) (out ++ (c :: t).take (wd (c :: t))) (a + wd (c :: t)) := rfl
def UnqPost (w : World) (L : List UInt8) (e : Ending) (w' : World) : Prop := e = .returned (.tuple #[.string ⟨(unq L).1.toArray⟩, .int .i64 (((unq L).2.1 : Nat) : Int), .int .i64 (unq L).2.2]) ∧ Kp [] w w'
end Go.Proofs.YtpeldjihalldkaaDoor

/- The document's answer for layer 3: what stands behind a backslash. -/
namespace Go.Proofs.YtpeldjihalldkaaDoor
open Go Go.RowKit

def rescV (o : Option (Nat × Nat)) : Value := match o with | none => .tuple #[.string ⟨#[]⟩, .int .i64 0] | some (r, n) => .tuple #[.string ⟨(Lib.encodeRune (r : Int)).toArray⟩, .int .i64 ((n : Int) - 1)]
theorem esc_simple {c : UInt8} {t : List UInt8} {r : Nat} (h : simpleE c = some r) : escL (92 :: c :: t) = some (r, 2) := by simp only [escL, h]
theorem esc_unit {t : List UInt8} : escL (92 :: 117 :: t) = match four t with
    | none => none
    | some x => if x / 1024 = 55 then none else if x / 1024 ≠ 54 then some (x, 6) else match unitL (t.drop 4) with
      | some y => if y / 1024 = 55 then some (65536 + (x % 1024) * 1024 + y % 1024, 12) else none
      | none => none := by
  have e : simpleE 117 = none := by decide
  have e2 : unitL (92 :: 117 :: t) = four t := by simp only [unitL]; rw [if_pos ⟨trivial, trivial⟩]
  simp only [escL, e, e2, List.drop_succ_cons]
  cases four t with
  | none => rfl
  | some x => simp only; split <;> try rfl
theorem esc_other {c : UInt8} {t : List UInt8} (h : simpleE c = none) (h2 : c ≠ 117) : escL (92 :: c :: t) = none := by
  have e2 : unitL (92 :: c :: t) = none := by simp only [unitL]; rw [if_neg (fun h => h2 h.2)]
  simp only [escL, h, e2]
theorem esc_end : escL [92] = none := rfl
theorem simple_none {c : UInt8} (h : c.toNat ≠ 34 ∧ c.toNat ≠ 92 ∧ c.toNat ≠ 47 ∧ c.toNat ≠ 98 ∧ c.toNat ≠ 102 ∧ c.toNat ≠ 110 ∧ c.toNat ≠ 114 ∧ c.toNat ≠ 116) : simpleE c = none := by
  unfold simpleE
  rw [if_neg (ne8 h.1), if_neg (ne8 h.2.1), if_neg (ne8 h.2.2.1), if_neg (ne8 h.2.2.2.1), if_neg (ne8 h.2.2.2.2.1), if_neg (ne8 h.2.2.2.2.2.1), if_neg (ne8 h.2.2.2.2.2.2.1), if_neg (ne8 h.2.2.2.2.2.2.2)]
def REscPost (w : World) (l : List UInt8) (e : Ending) (w' : World) : Prop := e = .returned (rescV (escL (92 :: l))) ∧ Kp [] w w'
set_option maxRecDepth 100000 in
set_option maxHeartbeats 6400000 in
theorem resc_any (w : World) (s : ByteArray) (p : Nat) (hs : s.size ≤ 100000000) (hp : p ≤ 100000001) : Calls Tryd.prog 108 #[.string s, .int .i64 (p : Int)] w (REscPost w (s.data.toList.drop p)) := by
  have f1 := fun W => rfour_any W s (p + 1) hs (by omega)
  have f7 := fun W => rfour_any W s (p + 7) hs (by omega)
  obtain ⟨L, hL⟩ : ∃ L, L = s.data.toList := ⟨_, rfl⟩
  have hlen : L.length = s.size := by rw [hL, Array.length_toList]; rfl
  have hget : ∀ (i : Nat) (h : i < s.size), s[i]'h = L[i]'(by omega) := fun i h => by subst hL; rfl
  rw [← hL]
  simp only [← hL] at f1 f7
  have HL := hid hL
  clear hL
  have Hget := hid hget
  clear hget
  by_cases hlt : p < s.size
  rotate_left
  · have he : L.drop p = [] := List.drop_eq_nil_of_le (by omega)
    rw [he]
    clear he f1 f7
    go_enter Tryd.func108, Tryd.ntmps108
    go_wp2_with fail
    go_ret2
    exact ⟨rfl, Kp.refl _ _⟩
  have hcons : L.drop p = L[p]'(by omega) :: L.drop (p + 1) := List.drop_eq_getElem_cons (by omega)
  have hg := Hget.out p hlt
  obtain ⟨c, hc⟩ : ∃ c, c = L[p]'(by omega) := ⟨_, rfl⟩
  rw [← hc] at hcons hg
  rw [hcons]
  unfold REscPost
  obtain ⟨m, hm⟩ : ∃ m, m = c.toNat := ⟨_, rfl⟩
  have hm2 : m < 256 := by rw [hm]; exact c.toNat_lt
  have hgm : ∀ h : p < s.size, (s[p]'h).toNat = m := fun h => by rw [hg, hm]
  have hex : s.extract p (p + 1) = ⟨[c].toArray⟩ := by
    rw [extract_list, ← HL.out, List.drop_take, hcons, Nat.add_sub_cancel_left]
    rfl
  have Hm := hid hm
  have hdr : (L.drop (p + 1)).drop 4 = L.drop (p + 5) := by rw [List.drop_drop]
  have Hdr := hid hdr
  clear hcons hc hg hm hdr
  rcases (show m = 34 ∨ m = 92 ∨ m = 47 ∨ m = 98 ∨ m = 102 ∨ m = 110 ∨ m = 114 ∨ m = 116 ∨ m = 117 ∨ (m ≠ 34 ∧ m ≠ 92 ∧ m ≠ 47 ∧ m ≠ 98 ∧ m ≠ 102 ∧ m ≠ 110 ∧ m ≠ 114 ∧ m ≠ 116 ∧ m ≠ 117) from by omega) with h | h | h | h | h | h | h | h | h | ⟨n1, n2, n3, n4, n5, n6, n7, n8, n9⟩
  · subst h
    have hcc : c = 34 := of8 Hm.out.symm
    have he : escL (92 :: c :: L.drop (p + 1)) = some (34, 2) := esc_simple (by rw [hcc]; rfl)
    rw [he]
    have HX : Hid ((⟨[c].toArray⟩ : ByteArray) = ⟨#[34]⟩) := by rw [hcc]; exact hid rfl
    clear hcc he f1 f7
    go_enter Tryd.func108, Tryd.ntmps108
    go_wp2_with fail
    go_ret2
    exact ⟨by rw [HX.out]; rfl, Kp.refl _ _⟩
  · subst h
    have hcc : c = 92 := of8 Hm.out.symm
    have he : escL (92 :: c :: L.drop (p + 1)) = some (92, 2) := esc_simple (by rw [hcc]; rfl)
    rw [he]
    have HX : Hid ((⟨[c].toArray⟩ : ByteArray) = ⟨#[92]⟩) := by rw [hcc]; exact hid rfl
    clear hcc he f1 f7
    go_enter Tryd.func108, Tryd.ntmps108
    go_wp2_with fail
    go_ret2
    exact ⟨by rw [HX.out]; rfl, Kp.refl _ _⟩
  · subst h
    have hcc : c = 47 := of8 Hm.out.symm
    have he : escL (92 :: c :: L.drop (p + 1)) = some (47, 2) := esc_simple (by rw [hcc]; rfl)
    rw [he]
    have HX : Hid ((⟨[c].toArray⟩ : ByteArray) = ⟨#[47]⟩) := by rw [hcc]; exact hid rfl
    clear hcc he f1 f7
    go_enter Tryd.func108, Tryd.ntmps108
    go_wp2_with fail
    go_ret2
    exact ⟨by rw [HX.out]; rfl, Kp.refl _ _⟩
  · subst h
    have hcc : c = 98 := of8 Hm.out.symm
    have he : escL (92 :: c :: L.drop (p + 1)) = some (8, 2) := esc_simple (by rw [hcc]; rfl)
    rw [he]
    have HX : Hid ((⟨[c].toArray⟩ : ByteArray) = ⟨#[98]⟩) := by rw [hcc]; exact hid rfl
    clear hcc he f1 f7
    go_enter Tryd.func108, Tryd.ntmps108
    go_wp2_with fail
    go_ret2
    exact ⟨rfl, Kp.refl _ _⟩
  · subst h
    have hcc : c = 102 := of8 Hm.out.symm
    have he : escL (92 :: c :: L.drop (p + 1)) = some (12, 2) := esc_simple (by rw [hcc]; rfl)
    rw [he]
    have HX : Hid ((⟨[c].toArray⟩ : ByteArray) = ⟨#[102]⟩) := by rw [hcc]; exact hid rfl
    clear hcc he f1 f7
    go_enter Tryd.func108, Tryd.ntmps108
    go_wp2_with fail
    go_ret2
    exact ⟨rfl, Kp.refl _ _⟩
  · subst h
    have hcc : c = 110 := of8 Hm.out.symm
    have he : escL (92 :: c :: L.drop (p + 1)) = some (10, 2) := esc_simple (by rw [hcc]; rfl)
    rw [he]
    have HX : Hid ((⟨[c].toArray⟩ : ByteArray) = ⟨#[110]⟩) := by rw [hcc]; exact hid rfl
    clear hcc he f1 f7
    go_enter Tryd.func108, Tryd.ntmps108
    go_wp2_with fail
    go_ret2
    exact ⟨rfl, Kp.refl _ _⟩
  · subst h
    have hcc : c = 114 := of8 Hm.out.symm
    have he : escL (92 :: c :: L.drop (p + 1)) = some (13, 2) := esc_simple (by rw [hcc]; rfl)
    rw [he]
    have HX : Hid ((⟨[c].toArray⟩ : ByteArray) = ⟨#[114]⟩) := by rw [hcc]; exact hid rfl
    clear hcc he f1 f7
    go_enter Tryd.func108, Tryd.ntmps108
    go_wp2_with fail
    go_ret2
    exact ⟨rfl, Kp.refl _ _⟩
  · subst h
    have hcc : c = 116 := of8 Hm.out.symm
    have he : escL (92 :: c :: L.drop (p + 1)) = some (9, 2) := esc_simple (by rw [hcc]; rfl)
    rw [he]
    have HX : Hid ((⟨[c].toArray⟩ : ByteArray) = ⟨#[116]⟩) := by rw [hcc]; exact hid rfl
    clear hcc he f1 f7
    go_enter Tryd.func108, Tryd.ntmps108
    go_wp2_with fail
    go_ret2
    exact ⟨rfl, Kp.refl _ _⟩
  · subst h
    have hcc : c = 117 := of8 Hm.out.symm
    rw [hcc]
    rw [show escL (92 :: 117 :: L.drop (p + 1)) = _ from esc_unit, Hdr.out]
    clear hcc hex
    cases hx : four (L.drop (p + 1)) with
    | none =>
      rw [hx] at f1
      clear hx f7
      have f11 := fun W => f1 W
      clear f1
      simp only [fourV] at f11
      go_enter Tryd.func108, Tryd.ntmps108
      go_wp2_with fail
      refine (f11 _).mono ?_
      rintro e w1 ⟨rfl, rfl⟩
      go_wp2_with fail
      go_ret2
      exact ⟨rfl, Kp.refl _ _⟩
    | some x =>
      have hx6 := (four_lt hx).1
      rw [hx] at f1
      clear hx
      simp only [fourV] at f1
      simp only
      obtain ⟨X, hX⟩ : ∃ X : Int, X = (x : Int) := ⟨_, rfl⟩
      simp only [← hX] at f1
      have HX := hid hX
      rcases (show x / 1024 = 55 ∨ (x / 1024 ≠ 55 ∧ x / 1024 ≠ 54) ∨ x / 1024 = 54 from by omega) with h | ⟨h, h4⟩ | h
      · rw [if_pos h]
        have c1 : (56320 : Int) ≤ X := by omega
        have c2 : X < 57344 := by omega
        have tx0 : decide (X < 0) = false := decide_eq_false (by omega)
        have tx1 : decide ((56320 : Int) ≤ X) = true := decide_eq_true (by omega)
        have tx2 : decide (X < 57344) = true := decide_eq_true (by omega)
        have tx3 : decide (X < 55296) = false := decide_eq_false (by omega)
        have tx4 : decide ((57344 : Int) ≤ X) = false := decide_eq_false (by omega)
        have tx5 : decide (X < 56320) = false := decide_eq_false (by omega)
        clear h hx6 f7 hX
        go_enter Tryd.func108, Tryd.ntmps108
        go_wp2_with fail
        refine (f1 _).mono ?_
        rintro e w1 ⟨rfl, rfl⟩
        go_wp2_with fail
        go_ret2
        exact ⟨rfl, Kp.refl _ _⟩
      · rw [if_neg h, if_pos h4]
        have cw := fun W => rwrite_any W x (by omega)
        simp only [← hX] at cw
        rcases (show x < 55296 ∨ 57344 ≤ x from by omega) with h5 | h5
        · have c1 : X < 55296 := by omega
          have c2 : (0 : Int) ≤ X := by omega
          have tx0 : decide (X < 0) = false := decide_eq_false (by omega)
          have tx1 : decide ((56320 : Int) ≤ X) = false := decide_eq_false (by omega)
          have tx2 : decide (X < 57344) = true := decide_eq_true (by omega)
          have tx3 : decide (X < 55296) = true := decide_eq_true (by omega)
          have tx4 : decide ((57344 : Int) ≤ X) = false := decide_eq_false (by omega)
          have tx5 : decide (X < 56320) = true := decide_eq_true (by omega)
          clear h h4 h5 hx6 f7 hX
          go_enter Tryd.func108, Tryd.ntmps108
          go_wp2_with fail
          refine (f1 _).mono ?_
          rintro e w1 ⟨rfl, rfl⟩
          go_wp2_with fail
          refine (cw _).mono ?_
          rintro e w2 ⟨rfl, k2⟩
          go_wp2_with fail
          go_ret2
          exact ⟨by rw [HX.out]; rfl, k2⟩
        · have c1 : X < 65536 := by omega
          have c2 : (57344 : Int) ≤ X := by omega
          have tx0 : decide (X < 0) = false := decide_eq_false (by omega)
          have tx1 : decide ((56320 : Int) ≤ X) = true := decide_eq_true (by omega)
          have tx2 : decide (X < 57344) = false := decide_eq_false (by omega)
          have tx3 : decide (X < 55296) = false := decide_eq_false (by omega)
          have tx4 : decide ((57344 : Int) ≤ X) = true := decide_eq_true (by omega)
          have tx5 : decide (X < 56320) = false := decide_eq_false (by omega)
          clear h h4 h5 hx6 f7 hX
          go_enter Tryd.func108, Tryd.ntmps108
          go_wp2_with fail
          refine (f1 _).mono ?_
          rintro e w1 ⟨rfl, rfl⟩
          go_wp2_with fail
          refine (cw _).mono ?_
          rintro e w2 ⟨rfl, k2⟩
          go_wp2_with fail
          go_ret2
          exact ⟨by rw [HX.out]; rfl, k2⟩
      · rw [if_neg (by omega), if_neg (by omega)]
        have c1 : (55296 : Int) ≤ X := by omega
        have c2 : X < 56320 := by omega
        have tx0 : decide (X < 0) = false := decide_eq_false (by omega)
        have tx1 : decide ((56320 : Int) ≤ X) = false := decide_eq_false (by omega)
        have tx2 : decide (X < 57344) = true := decide_eq_true (by omega)
        have tx3 : decide (X < 55296) = false := decide_eq_false (by omega)
        have tx4 : decide ((57344 : Int) ≤ X) = false := decide_eq_false (by omega)
        have tx5 : decide (X < 56320) = true := decide_eq_true (by omega)
        clear hx6
        by_cases h7 : s.size < p + 7
        · have hu : unitL (L.drop (p + 5)) = none := by
            rcases hd : L.drop (p + 5) with _ | ⟨a, _ | ⟨b, t⟩⟩
            · rfl
            · rfl
            · have h8 := congrArg List.length hd
              rw [List.length_drop] at h8
              simp only [List.length_cons] at h8
              omega
          rw [hu]
          clear hu f7 h hX
          go_enter Tryd.func108, Tryd.ntmps108
          go_wp2_with fail
          refine (f1 _).mono ?_
          rintro e w1 ⟨rfl, rfl⟩
          go_wp2_with fail
          go_ret2
          exact ⟨rfl, Kp.refl _ _⟩
        · have q5 : L.drop (p + 5) = L[p + 5]'(by omega) :: L[p + 6]'(by omega) :: L.drop (p + 7) := by
            rw [List.drop_eq_getElem_cons (i := p + 5) (by omega), List.drop_eq_getElem_cons (i := p + 5 + 1) (by omega)]
          have g5 := Hget.out (p + 5) (by omega)
          have g6 := Hget.out (p + 6) (by omega)
          obtain ⟨a, ha⟩ : ∃ a, a = L[p + 5]'(by omega) := ⟨_, rfl⟩
          obtain ⟨b, hb⟩ : ∃ b, b = L[p + 6]'(by omega) := ⟨_, rfl⟩
          rw [← ha, ← hb] at q5
          rw [← ha] at g5
          rw [← hb] at g6
          rw [q5]
          obtain ⟨M, hM⟩ : ∃ M, M = a.toNat := ⟨_, rfl⟩
          obtain ⟨K, hK⟩ : ∃ K, K = b.toNat := ⟨_, rfl⟩
          have gm5 : ∀ h : p + 5 < s.size, (s[p + 5]'h).toNat = M := fun h => by rw [g5, hM]
          have gm6 : ∀ h : p + 6 < s.size, (s[p + 6]'h).toNat = K := fun h => by rw [g6, hK]
          have hM2 : M < 256 := by rw [hM]; exact a.toNat_lt
          have hK2 : K < 256 := by rw [hK]; exact b.toNat_lt
          have HMK := hid (And.intro hM hK)
          clear q5 ha hb g5 g6 hM hK
          by_cases hab : M = 92 ∧ K = 117
          rotate_left
          · have hu : unitL (a :: b :: L.drop (p + 7)) = none := by
              simp only [unitL]
              rw [if_neg]
              rintro ⟨rfl, rfl⟩
              exact hab ⟨HMK.out.1, HMK.out.2⟩
            rw [hu]
            clear hu f7
            rcases (show M ≠ 92 ∨ (M = 92 ∧ K ≠ 117) from by omega) with h8 | ⟨h8, h9⟩
            · have bb : ((M : Int) == 92) = false := by rw [beq_eq_false_iff_ne]; omega
              clear hab h8 h hX
              go_enter Tryd.func108, Tryd.ntmps108
              go_wp2_with fail
              refine (f1 _).mono ?_
              rintro e w1 ⟨rfl, rfl⟩
              go_wp2_with fail
              go_ret2
              exact ⟨rfl, Kp.refl _ _⟩
            · have bb : ((K : Int) == 117) = false := by rw [beq_eq_false_iff_ne]; omega
              subst h8
              clear hab h9 h hX
              go_enter Tryd.func108, Tryd.ntmps108
              go_wp2_with fail
              refine (f1 _).mono ?_
              rintro e w1 ⟨rfl, rfl⟩
              go_wp2_with fail
              go_ret2
              exact ⟨rfl, Kp.refl _ _⟩
          · obtain ⟨h8, h9⟩ := hab
            have hu : unitL (a :: b :: L.drop (p + 7)) = four (L.drop (p + 7)) := by
              simp only [unitL]
              rw [if_pos ⟨of8 (by rw [← HMK.out.1, h8]; rfl), of8 (by rw [← HMK.out.2, h9]; rfl)⟩]
            rw [hu]
            subst h8 h9
            clear hu
            cases hy : four (L.drop (p + 7)) with
            | none =>
              rw [hy] at f7
              clear hy h hX
              simp only [fourV] at f7
              go_enter Tryd.func108, Tryd.ntmps108
              go_wp2_with fail
              refine (f1 _).mono ?_
              rintro e w1 ⟨rfl, rfl⟩
              go_wp2_with fail
              refine (f7 _).mono ?_
              rintro e w2 ⟨rfl, rfl⟩
              go_wp2_with fail
              go_ret2
              exact ⟨rfl, Kp.refl _ _⟩
            | some y =>
              have hy6 := (four_lt hy).1
              rw [hy] at f7
              clear hy
              simp only [fourV] at f7
              simp only
              obtain ⟨Y, hY⟩ : ∃ Y : Int, Y = (y : Int) := ⟨_, rfl⟩
              simp only [← hY] at f7
              by_cases hy5 : y / 1024 = 55
              · rw [if_pos hy5]
                obtain ⟨r, hr⟩ : ∃ r, r = 65536 + x % 1024 * 1024 + y % 1024 := ⟨_, rfl⟩
                rw [← hr]
                have cw := fun W => rwrite_any W r (by omega)
                have er : 65536 + 1024 * (X - 55296) + Y - 56320 = (r : Int) := by omega
                have d1 : (56320 : Int) ≤ Y := by omega
                have d2 : Y < 57344 := by omega
                have ty0 : decide (Y < 0) = false := decide_eq_false (by omega)
                have ty1 : decide ((56320 : Int) ≤ Y) = true := decide_eq_true (by omega)
                have ty2 : decide (Y < 57344) = true := decide_eq_true (by omega)
                have ty3 : decide (Y < 55296) = false := decide_eq_false (by omega)
                have ty4 : decide ((57344 : Int) ≤ Y) = false := decide_eq_false (by omega)
                have ty5 : decide (Y < 56320) = false := decide_eq_false (by omega)
                clear h hy5 hy6 hr hX hY
                go_enter Tryd.func108, Tryd.ntmps108
                go_wp2_with fail
                refine (f1 _).mono ?_
                rintro e w1 ⟨rfl, rfl⟩
                go_wp2_with fail
                refine (f7 _).mono ?_
                rintro e w2 ⟨rfl, rfl⟩
                go_wp2_with fail
                refine (cw _).mono ?_
                rintro e w3 ⟨rfl, k3⟩
                go_wp2_with fail
                go_ret2
                exact ⟨rfl, k3⟩
              · rw [if_neg hy5]
                rcases (show y < 56320 ∨ 57344 ≤ y from by omega) with h5 | h5
                · have d2 : Y < 56320 := by omega
                  have t1 : decide (Y < 56320) = true := decide_eq_true (by omega)
                  clear h hy5 hy6 h5 hX hY
                  go_enter Tryd.func108, Tryd.ntmps108
                  go_wp2_with fail
                  refine (f1 _).mono ?_
                  rintro e w1 ⟨rfl, rfl⟩
                  go_wp2_with fail
                  refine (f7 _).mono ?_
                  rintro e w2 ⟨rfl, rfl⟩
                  go_wp2_with fail
                  go_ret2
                  exact ⟨rfl, Kp.refl _ _⟩
                · have d2 : (57344 : Int) ≤ Y := by omega
                  have t1 : decide (Y < 56320) = false := decide_eq_false (by omega)
                  have t2 : decide ((57344 : Int) ≤ Y) = true := decide_eq_true (by omega)
                  clear h hy5 hy6 h5 hX hY
                  go_enter Tryd.func108, Tryd.ntmps108
                  go_wp2_with fail
                  refine (f1 _).mono ?_
                  rintro e w1 ⟨rfl, rfl⟩
                  go_wp2_with fail
                  refine (f7 _).mono ?_
                  rintro e w2 ⟨rfl, rfl⟩
                  go_wp2_with fail
                  go_ret2
                  exact ⟨rfl, Kp.refl _ _⟩
  · have he : escL (92 :: c :: L.drop (p + 1)) = none := esc_other (simple_none (by rw [← Hm.out]; exact ⟨n1, n2, n3, n4, n5, n6, n7, n8⟩)) (ne8 (by rw [← Hm.out]; exact n9))
    rw [he]
    have e34 : ((m : Int) == 34) = false := by rw [beq_eq_false_iff_ne]; omega
    have e92 : ((m : Int) == 92) = false := by rw [beq_eq_false_iff_ne]; omega
    have e47 : ((m : Int) == 47) = false := by rw [beq_eq_false_iff_ne]; omega
    have e98 : ((m : Int) == 98) = false := by rw [beq_eq_false_iff_ne]; omega
    have e102 : ((m : Int) == 102) = false := by rw [beq_eq_false_iff_ne]; omega
    have e110 : ((m : Int) == 110) = false := by rw [beq_eq_false_iff_ne]; omega
    have e114 : ((m : Int) == 114) = false := by rw [beq_eq_false_iff_ne]; omega
    have e116 : ((m : Int) == 116) = false := by rw [beq_eq_false_iff_ne]; omega
    have e117 : ((m : Int) == 117) = false := by rw [beq_eq_false_iff_ne]; omega
    clear he f1 f7 n1 n2 n3 n4 n5 n6 n7 n8 n9 hex
    go_enter Tryd.func108, Tryd.ntmps108
    go_wp2_with fail
    go_ret2
    exact ⟨rfl, Kp.refl _ _⟩
end Go.Proofs.YtpeldjihalldkaaDoor

/- The document's answer for layer 3: Parts and Cut. -/
namespace Go.Proofs.YtpeldjihalldkaaDoor
open Go Go.RowKit

theorem infoStr : (Tryd.prog.info? 9).map (fun i => (i.zero, i.size, i.bytes)) = some (some (.string ⟨#[]⟩), 1, 16) := by kernel_rfl
theorem one_string (x : ByteArray) : ∀ u ∈ [Value.string x], u.oneCell' = true := by
  intro u hu
  rw [List.mem_singleton.1 hu]
  rfl
def strV (l : List UInt8) : Value := .string ⟨l.toArray⟩
theorem rune_wd (s : ByteArray) (i : Nat) : max (runeAt s i).2 1 = wd (s.data.toList.drop i) ∧ ((runeAt s i).2 = 0 ↔ Bad (s.data.toList.drop i)) ∧ (¬ Bad (s.data.toList.drop i) → runeAt s i = Lib.decodeL (s.data.toList.drop i)) := by
  unfold wd Bad
  rw [Lib.decodeL_drop, runeAt_decode]
  have hw := Lib.width_pos s i
  by_cases h : Utf8.decode s i = (65533, 1)
  · rw [if_pos h, h]
    exact ⟨rfl, ⟨fun _ => ⟨rfl, rfl⟩, fun _ => rfl⟩, fun h2 => absurd ⟨rfl, rfl⟩ h2⟩
  · rw [if_neg h]
    have hn : ¬ ((Utf8.decode s i).1 = 65533 ∧ (Utf8.decode s i).2 = 1) := fun h2 => h (Prod.ext h2.1 h2.2)
    exact ⟨by omega, ⟨fun h2 => by omega, fun h2 => absurd h2 hn⟩, fun _ => rfl⟩
def PartsPost (w : World) (L : List UInt8) (e : Ending) (w' : World) : Prop := ∃ v, e = .returned v ∧ Own w' 9 v (partsL L).length ((partsL L).map strV) ∧ New w w' v
set_option maxRecDepth 100000 in
set_option maxHeartbeats 1600000 in
theorem rparts_any (w : World) (s : ByteArray) (hs : s.size ≤ 1000000000) : Calls Tryd.prog 59 #[.string s] w (PartsPost w s.data.toList) := by
  obtain ⟨L, hL⟩ : ∃ L, L = s.data.toList := ⟨_, rfl⟩
  have hlen : L.length = s.size := by rw [hL, Array.length_toList]; rfl
  have hrw := fun i => rune_wd s i
  rw [← hL] at hrw ⊢
  have HL := hid hL
  have Hrw := hid hrw
  clear hL hrw
  go_enter Tryd.func59, Tryd.ntmps59
  have ho0 : Own (w.alloc (.cells (#[] : Array Value) 9)) 9 (.slice (some ⟨w.heap.size, 0, none⟩) 0 0) 0 [] := Own.of_cells (Cells.fresh w 9 []) (by simp)
  have hn0 : New w (w.alloc (.cells (#[] : Array Value) 9)) (.slice (some ⟨w.heap.size, 0, none⟩) 0 0) := ⟨(Kp.refl _ _).alloc _, by intro g hg; simp [Value.ownBlock] at hg; omega⟩
  have H0 := hid (And.intro ho0 hn0)
  clear ho0 hn0
  go_wp2_with fail
  go_loopw [3, 4] (fun v va wr => ∃ k : Nat, va = .int .i64 ((offs L k : Nat) : Int) ∧ k ≤ (partsL L).length ∧ Own wr 9 v k (((partsL L).take k).map strV) ∧ New w wr v) (fun _ va _ => s.size - (intOf va).toNat)
  case atStart => exact ⟨0, rfl, by omega, H0.out.1, H0.out.2⟩
  case round =>
    obtain ⟨k, rfl, hk, ho, hnw⟩ := hrel
    have hle := offs_le L k
    obtain ⟨p, hp⟩ : ∃ p, p = offs L k := ⟨_, rfl⟩
    rw [← hp] at hle ⊢
    have Hp := hid hp
    have hkl := length_parts_le L
    by_cases hlt : p < s.size
    · obtain ⟨o1, o2, o3⟩ := offs_step (l := L) (k := k) (by omega)
      obtain ⟨r1, r2, r3⟩ := Hrw.out p
      rw [← hp] at o2 o3
      have hwl := wd_le (L.drop p) (by
        intro e
        have := congrArg List.length e
        rw [List.length_drop] at this
        simp at this
        omega)
      rw [List.length_drop] at hwl
      have htk : ((partsL L).take (k + 1)).map strV = ((partsL L).take k).map strV ++ [strV ((L.drop p).take (wd (L.drop p)))] := by
        have e : (partsL L).take (k + 1) = (partsL L).take k ++ [(L.drop p).take (wd (L.drop p))] := by
          obtain ⟨h8, h9⟩ := List.getElem?_eq_some_iff.1 o3
          rw [← h9]
          exact (List.take_append_getElem h8).symm
        rw [e, List.map_append]
        rfl
      have hex : strV ((L.drop p).take (wd (L.drop p))) = .string (s.extract p (p + wd (L.drop p))) := by
        unfold strV
        rw [extract_list, ← HL.out, List.drop_take]
        have e : p + wd (L.drop p) - p = wd (L.drop p) := by omega
        rw [e]
      rw [hex] at htk
      have hwp := wd_pos (L.drop p)
      obtain ⟨d, hd⟩ : ∃ d, d = wd (L.drop p) := ⟨_, rfl⟩
      rw [← hd] at htk o2 r1 hwl hwp
      have Htk := hid (And.intro htk (And.intro o2 (And.intro o3 hd)))
      clear htk o2 o3 hd hex r2 r3 hp
      go_wp2_with fail
      refine (rune_any _ s p hlt (by omega)).mono ?_
      rintro e w2 ⟨rfl, rfl⟩
      obtain ⟨x, hx⟩ : ∃ x, x = (runeAt s p).1 := ⟨_, rfl⟩
      obtain ⟨n, hn⟩ : ∃ n, n = (runeAt s p).2 := ⟨_, rfl⟩
      rw [← hn] at r1
      rw [← hx, ← hn]
      have hmx : max (n : Int) 1 = (d : Int) := by omega
      clear hx hn r1
      go_wp2_with (at_builtin; go_must (refine wpList_append1 rfl _ _ 27 rfl 9 (.string ⟨#[]⟩) 16 Tryd.underlying27 infoStr rfl _ _ _ rfl (ho.kept ((Kp.refl _ _).alloc _)) _ 1 1 [.string (s.extract p (p + d))] rfl (Span.of_new _ _ _ _) rfl (one_string _) ?_ ?_ ?_))
      · omega
      · omega
      intro v1 w1 ho1 hk1 hb1
      go_wp2_with fail
      go_roundw
      case rel =>
        refine ⟨k + 1, ?_, by omega, ?_, (hnw.kept ((Kp.refl _ _).alloc _)).append hk1 hb1 (by simp)⟩
        · rw [Htk.out.2.1]
          go_num
        · rw [Htk.out.1, List.map_take]; exact ho1
      case measure => simp [intOf]; omega
    · have hkn := offs_end (l := L) (k := k) (by omega)
      have hkk : k = (partsL L).length := by omega
      have ht : (partsL L).take k = partsL L := List.take_of_length_le (by omega)
      rw [ht, hkk] at ho
      have Ho := hid (And.intro ho hnw)
      clear ho hnw ht hkk hp
      go_wp2_with fail
      go_ret
      exact ⟨_, rfl, Ho.out.1, Ho.out.2⟩
theorem cutN_succ (L : List UInt8) (a i : Nat) (ha : a ≤ i) (h : i < (partsL L).length) : cutN L a (i + 1) = cutN L a i ++ (partsL L)[i] := by
  rw [cutN_parts _ _ _ (by omega), cutN_parts _ _ _ ha, ← List.take_append_getElem h, List.drop_append_of_le_length (by rw [List.length_take]; omega), List.flatten_append]
  simp
theorem cutN_same (L : List UInt8) (a : Nat) : cutN L a a = [] := by
  unfold cutN
  exact List.drop_eq_nil_of_le (by rw [List.length_take]; omega)
theorem cutN_len (L : List UInt8) (a b : Nat) : (cutN L a b).length ≤ L.length := by
  unfold cutN
  rw [List.length_drop, List.length_take]
  omega
set_option maxRecDepth 100000 in
set_option maxHeartbeats 1600000 in
theorem rcut_any (w : World) (s : ByteArray) (f t : Int) (hs : s.size ≤ 1000000000) :
    Calls Tryd.prog 29 #[.string s, .int .i64 f, .int .i64 t] w fun e w' => e = .returned (.string ⟨(cutL s.data.toList f t).toArray⟩) ∧ Kp [] w w' := by
  obtain ⟨L, hL⟩ : ∃ L, L = s.data.toList := ⟨_, rfl⟩
  have hlen : L.length = s.size := by rw [hL, Array.length_toList]; rfl
  have hr := rparts_any w s hs
  rw [← hL] at hr ⊢
  have hkl := length_parts_le L
  obtain ⟨n, hn⟩ : ∃ n, n = (partsL L).length := ⟨_, rfl⟩
  unfold PartsPost at hr
  rw [← hn] at hr hkl
  have e1 := fromN_eq n f
  have e2 := toN_eq n f t
  obtain ⟨a, ha⟩ : ∃ a, a = fromN n f := ⟨_, rfl⟩
  obtain ⟨b, hb⟩ : ∃ b, b = toN n f t := ⟨_, rfl⟩
  rw [← ha] at e1 e2
  rw [← hb] at e2
  have hab : a ≤ b := by rw [hb, ha]; unfold toN fromN; omega
  have hbn : b ≤ n := by rw [hb]; unfold toN; omega
  have hcut : cutL L f t = cutN L a b := by unfold cutL; rw [← hn, ← ha, ← hb]
  have Hhid := hid (And.intro hL (And.intro hn (And.intro hcut (And.intro ha hb))))
  clear hL hn hcut ha hb
  go_enter Tryd.func29, Tryd.ntmps29
  go_wp2_with fail
  refine hr.mono ?_
  rintro e w1 ⟨v, rfl, ho, hnw⟩
  obtain ⟨A, c, rfl, hsp, hc, hl, hA⟩ := ho.shape
  have Hsp := hid (And.intro hsp hnw)
  have Hl := hid hl
  clear hsp ho hnw hA hl
  go_wp2_with fail
  go_loopw [8, 9] (fun vo vi wr => wr = w1 ∧ ∃ i : Nat, vi = .int .i64 (i : Int) ∧ a ≤ i ∧ i ≤ b ∧ vo = .string ⟨(cutN L a i).toArray⟩) (fun _ vi _ => b - (intOf vi).toNat)
  case atStart => exact ⟨rfl, a, rfl, by omega, hab, by rw [cutN_same]⟩
  case round =>
    obtain ⟨rfl, i, rfl, hai, hib, rfl⟩ := hrel
    by_cases hlt : i < b
    · have hin : i < (partsL L).length := by rw [← Hhid.out.2.1]; omega
      obtain ⟨ad, rfl, hcell⟩ := Hsp.out.1.get (j := i) (by rw [List.length_map]; exact hin)
      rw [List.getElem_map] at hcell
      unfold strV at hcell
      have hlen2 := cutN_len L a i
      have hpl : ((partsL L)[i]).length ≤ L.length := by
        have h8 := congrArg List.length (cutN_succ L a i hai hin)
        have h9 := cutN_len L a (i + 1)
        rw [List.length_append] at h8
        omega
      have hadd := fun W => run_add_text (P := Tryd.prog) (cutN L a i) (partsL L)[i] (cutN L a (i + 1)) (cutN_succ L a i hai hin) (by omega) W
      have i1 : (i : Int) < (n : Int) := by omega
      go_wp2_with fail
      go_roundw
      case rel => exact ⟨trivial, i + 1, by go_num, by omega, by omega, rfl⟩
      case measure => simp [intOf]; omega
    · obtain rfl : i = b := by omega
      go_wp2_with fail
      go_ret
      exact ⟨by rw [Hhid.out.2.2.1]; rfl, Hsp.out.2.kp⟩
end Go.Proofs.YtpeldjihalldkaaDoor

/- The document's answer for layer 3: Unquote. -/
namespace Go.Proofs.YtpeldjihalldkaaDoor
open Go Go.RowKit

set_option maxRecDepth 100000 in
set_option maxHeartbeats 6400000 in
theorem runq_any (w : World) (s : ByteArray) (hs : s.size ≤ 10000000) : Calls Tryd.prog 93 #[.string s] w (UnqPost w s.data.toList) := by
  have hrw := fun i => rune_wd s i
  have hesc := fun W p hp => resc_any W s p (by omega) hp
  obtain ⟨L, hL⟩ : ∃ L, L = s.data.toList := ⟨_, rfl⟩
  have hlen : L.length = s.size := by rw [hL, Array.length_toList]; rfl
  have hget : ∀ (i : Nat) (h : i < s.size), s[i]'h = L[i]'(by omega) := fun i h => by subst hL; rfl
  rw [← hL]
  simp only [← hL] at hrw hesc
  have HL := hid hL
  have Hget := hid hget
  have Hrw := hid hrw
  have Hesc := hid hesc
  clear hL hget hrw hesc
  obtain ⟨R, hR⟩ : ∃ R, R = unq L := ⟨_, rfl⟩
  have hpost : ∀ (e : Ending) (w' : World), e = .returned (.tuple #[.string ⟨R.1.toArray⟩, .int .i64 ((R.2.1 : Nat) : Int), .int .i64 R.2.2]) → Kp [] w w' → UnqPost w L e w' := fun e w' h1 h2 => ⟨by rw [h1, hR], h2⟩
  have Hpost := hid hpost
  have HR := hid hR
  clear hpost hR
  by_cases h0 : s.size = 0
  · have hl : L = [] := List.eq_nil_of_length_eq_zero (by omega)
    have hr : R = ([], 0, 6) := by rw [HR.out, hl]; rfl
    have Hr := hid hr
    clear hl hr
    go_enter Tryd.func93, Tryd.ntmps93
    go_wp2_with fail
    go_ret3
    exact Hpost.out _ _ (by rw [Hr.out]; rfl) (Kp.refl _ _)
  have h0p : 0 < s.size := by omega
  have hb0 : ((s.size : Int) == 0) = false := by rw [beq_eq_false_iff_ne]; omega
  have hcons : L = L[0]'(by omega) :: L.drop 1 := by
    have := List.drop_eq_getElem_cons (l := L) (i := 0) (by omega)
    simpa using this
  have hg := Hget.out 0 h0p
  obtain ⟨c, hc⟩ : ∃ c, c = L[0]'(by omega) := ⟨_, rfl⟩
  rw [← hc] at hcons hg
  obtain ⟨m, hm⟩ : ∃ m, m = c.toNat := ⟨_, rfl⟩
  have hm2 : m < 256 := by rw [hm]; exact c.toNat_lt
  have hgm : ∀ h : 0 < s.size, (s[0]'h).toNat = m := fun h => by rw [hg, hm]
  have Hc := hid hcons
  have Hm := hid hm
  clear hcons hg hc hm
  by_cases h34 : m = 34
  rotate_left
  · have hr : R = ([], 0, 6) := by
      rw [HR.out, Hc.out]
      exact if_neg (ne8 (by rw [← Hm.out]; exact h34))
    have Hr := hid hr
    have b1 : ((m : Int) != 34) = true := by rw [bne_iff_ne]; omega
    clear hr h34
    go_enter Tryd.func93, Tryd.ntmps93
    go_wp2_with fail
    go_ret3
    exact Hpost.out _ _ (by rw [Hr.out]; rfl) (Kp.refl _ _)
  subst h34
  have hcc : c = 34 := of8 Hm.out.symm
  have hu : R = unqGo ((L.drop 1).length + 1) (L.drop 1) [] 1 := by
    rw [HR.out]
    conv => lhs; rw [Hc.out, hcc]
    rfl
  have Hu := hid hu
  clear hu hcc
  go_enter Tryd.func93, Tryd.ntmps93
  go_wp2_with fail
  go_loopw [5, 6] (fun vo va wr => Kp [] w wr ∧ ∃ (p f : Nat) (acc : List UInt8), vo = .string ⟨acc.toArray⟩ ∧ va = .int .i64 (p : Int) ∧ 1 ≤ p ∧ p ≤ s.size ∧ L.length - p + 1 ≤ f ∧ acc.length ≤ 2 * p ∧ unqGo f (L.drop p) acc p = R) (fun _ va _ => s.size - (intOf va).toNat)
  case atStart => exact ⟨Kp.refl _ _, 1, _, [], rfl, rfl, by omega, by omega, by rw [List.length_drop]; exact Nat.le_refl _, by simp, Hu.out.symm⟩
  case round =>
    obtain ⟨hk, p, f, acc, rfl, rfl, hp1, hps, hf, hacc, hgo⟩ := hrel
    obtain ⟨f, rfl⟩ : ∃ f', f = f' + 1 := ⟨f - 1, by omega⟩
    by_cases hlt2 : p < s.size
    rotate_left
    · have hr : R = ([], 0, 6) := by
        rw [← hgo, List.drop_eq_nil_of_le (by omega)]
        rfl
      have Hr := hid hr
      have HK := hid hk
      clear hr hgo hk
      go_wp2_with fail
      go_ret3
      exact Hpost.out _ _ (by rw [Hr.out]; rfl) HK.out
    have hcons : L.drop p = L[p]'(by omega) :: L.drop (p + 1) := List.drop_eq_getElem_cons (by omega)
    have hg := Hget.out p hlt2
    obtain ⟨d, hd⟩ : ∃ d, d = L[p]'(by omega) := ⟨_, rfl⟩
    rw [← hd] at hcons hg
    rw [hcons, unqGo_cons, ← hcons] at hgo
    obtain ⟨q, hq⟩ : ∃ q, q = d.toNat := ⟨_, rfl⟩
    have hq2 : q < 256 := by rw [hq]; exact d.toNat_lt
    have hgq : ∀ h : p < s.size, (s[p]'h).toNat = q := fun h => by rw [hg, hq]
    have Hcons := hid hcons
    have Hq := hid hq
    have HK := hid hk
    have hsz : (⟨acc.toArray⟩ : ByteArray).size = acc.length := by simp [ByteArray.size]
    clear hcons hg hd hq hk
    by_cases h34 : q = 34
    · subst h34
      rw [if_pos (of8 Hq.out.symm)] at hgo
      by_cases hbig : 4096 < acc.length
      · rw [if_pos hbig] at hgo
        have Hr := hid hgo.symm
        clear hgo
        go_wp2_with fail
        go_ret3
        exact Hpost.out _ _ (by rw [Hr.out]; rfl) HK.out
      · rw [if_neg hbig] at hgo
        have Hr := hid hgo.symm
        clear hgo
        go_wp2_with fail
        go_ret3
        exact Hpost.out _ _ (by rw [Hr.out]; rfl) HK.out
    · rw [if_neg (ne8 (by rw [← Hq.out]; exact h34))] at hgo
      have b1 : ((q : Int) == 34) = false := by rw [beq_eq_false_iff_ne]; omega
      by_cases h92 : q = 92
      · subst h92
        have hdd : d = 92 := of8 Hq.out.symm
        rw [if_pos hdd] at hgo
        have hes := fun W => Hesc.out W (p + 1) (by omega)
        unfold REscPost at hes
        have hE : L.drop p = 92 :: L.drop (p + 1) := by rw [Hcons.out, hdd]
        rw [← hE] at hes
        cases hx : escL (L.drop p) with
        | none =>
          rw [hx] at hgo hes
          simp only at hgo
          simp only [rescV] at hes
          have Hr := hid hgo.symm
          clear hgo hx hE hdd h34
          go_wp2_with fail
          refine (hes _).mono ?_
          rintro e w2 ⟨rfl, k2⟩
          have HK2 := hid (HK.out.nil k2)
          clear k2
          go_wp2_with fail
          go_ret3
          exact Hpost.out _ _ (by rw [Hr.out]; rfl) HK2.out
        | some x =>
          obtain ⟨r, n⟩ := x
          rw [hx] at hgo hes
          simp only [rescV] at hes
          simp only at hgo
          obtain ⟨_, hn2, hnl⟩ := escL_in hx
          rw [List.length_drop] at hnl
          have henc : (Lib.encodeRune (r : Int)).length ≤ 4 := by
            have := Lib.runeCells_le (r : Int)
            rw [Lib.runeCells_length] at this
            exact this.2
          obtain ⟨T, hT⟩ : ∃ T, T = Lib.encodeRune (r : Int) := ⟨_, rfl⟩
          rw [← hT] at hgo henc
          simp only [← hT] at hes
          rw [List.drop_drop] at hgo
          have Hgo := hid hgo
          have hadd := fun W => run_add_text (P := Tryd.prog) acc T (acc ++ T) rfl (by omega) W
          have hn0 : ((n : Int) - 1 == 0) = false := by rw [beq_eq_false_iff_ne]; omega
          clear hgo hx hE hdd h34 hT
          go_wp2_with fail
          refine (hes _).mono ?_
          rintro e w2 ⟨rfl, k2⟩
          have HK2 := hid (HK.out.nil k2)
          clear k2
          go_wp2_with fail
          go_roundw
          case rel =>
            exact ⟨HK2.out, p + n, f, acc ++ T, rfl, by go_num, by omega, by omega, by omega, by rw [List.length_append]; omega, Hgo.out⟩
          case measure => simp [intOf]; omega
      · rw [if_neg (ne8 (by rw [← Hq.out]; exact h92))] at hgo
        have b2 : ((q : Int) == 92) = false := by rw [beq_eq_false_iff_ne]; omega
        obtain ⟨r1, r2, r3⟩ := Hrw.out p
        have hru := fun W => rune_any W s p hlt2 (by omega)
        have hwl := wd_le (L.drop p) (by
          intro e
          have := congrArg List.length e
          rw [List.length_drop] at this
          simp at this
          omega)
        have hwp := wd_pos (L.drop p)
        rw [List.length_drop] at hwl
        unfold RunePost at hru
        by_cases hb : Bad (L.drop p)
        · rw [if_pos (.inl hb)] at hgo
          have hz := r2.2 hb
          obtain ⟨x, hx⟩ : ∃ x, x = (runeAt s p).1 := ⟨_, rfl⟩
          rw [hz] at hru
          simp only [← hx] at hru
          have Hr := hid hgo.symm
          clear hgo r1 r2 r3 hz hx hb h34 h92 hwl hwp
          go_wp2_with fail
          refine (hru _).mono ?_
          rintro e w2 ⟨rfl, rfl⟩
          go_wp2_with fail
          go_ret3
          exact Hpost.out _ _ (by rw [Hr.out]; rfl) HK.out
        · have hrd := r3 hb
          rw [hrd] at hru
          have hwe : (Lib.decodeL (L.drop p)).2 = wd (L.drop p) := rfl
          rw [hwe] at hru
          have hext : s.extract p (p + wd (L.drop p)) = ⟨((L.drop p).take (wd (L.drop p))).toArray⟩ := by
            rw [extract_list, ← HL.out, List.drop_take, Nat.add_sub_cancel_left]
          have htl : ((L.drop p).take (wd (L.drop p))).length = wd (L.drop p) := by rw [List.length_take, List.length_drop]; omega
          have hdd2 : (L.drop p).drop (wd (L.drop p)) = L.drop (p + wd (L.drop p)) := by rw [List.drop_drop]
          rw [hdd2] at hgo
          obtain ⟨T, hT⟩ : ∃ T, T = (L.drop p).take (wd (L.drop p)) := ⟨_, rfl⟩
          rw [← hT] at hgo hext htl
          obtain ⟨x, hx⟩ : ∃ x, x = (Lib.decodeL (L.drop p)).1 := ⟨_, rfl⟩
          obtain ⟨n, hn⟩ : ∃ n, n = wd (L.drop p) := ⟨_, rfl⟩
          simp only [← hx, ← hn] at hru
          rw [← hx, ← hn] at hgo
          rw [← hn] at hext htl hwl hwp
          by_cases h32 : x < 32
          · rw [if_pos (.inr h32)] at hgo
            have Hr := hid hgo.symm
            have hn0 : ((n : Int) == 0) = false := by rw [beq_eq_false_iff_ne]; omega
            clear hgo r1 r2 r3 hrd hx hb h34 h92 hT hn hext htl hwe hdd2
            go_wp2_with fail
            refine (hru _).mono ?_
            rintro e w2 ⟨rfl, rfl⟩
            go_wp2_with fail
            go_ret3
            exact Hpost.out _ _ (by rw [Hr.out]; rfl) HK.out
          · rw [if_neg (fun h => h.elim hb h32)] at hgo
            have Hgo := hid hgo
            have hadd := fun W => run_add_text (P := Tryd.prog) acc T (acc ++ T) rfl (by omega) W
            have hn0 : ((n : Int) == 0) = false := by rw [beq_eq_false_iff_ne]; omega
            have Htl := hid htl
            clear hgo r1 r2 r3 hrd hx hb h34 h92 hT hn hwe hdd2 htl
            go_wp2_with fail
            refine (hru _).mono ?_
            rintro e w2 ⟨rfl, rfl⟩
            go_wp2_with fail
            go_roundw
            case rel => exact ⟨HK.out, p + n, f, acc ++ T, rfl, by go_num, by omega, by omega, by omega, by rw [List.length_append, Htl.out]; omega, Hgo.out⟩
            case measure => simp [intOf]; omega
end Go.Proofs.YtpeldjihalldkaaDoor

