/- frame.Put: any record is laid down, or refused. -/
import Derived.Test.YtepeopfdenieeaaDoorMay
import Derived.Test.YtepeopfdenieeaaDoorReverse
import Derived.Test.YtepeopfdenieeaaDoorSum
import Derived.Test.YtepeopfdenieeaaDoorText
namespace Go.Proofs.YtepeopfdenieeaaDoor
open Go Go.RowKit

def numsL (r : Rec) (k : Nat) : List UInt8 := (List.range k).flatMap fun j => be 4 (r.num j).toNat
theorem numsL_succ (r : Rec) (k : Nat) : numsL r (k + 1) = numsL r k ++ be 4 (r.num k).toNat := by simp [numsL, List.range_succ]
def holesL (hs : List ByteArray) : List UInt8 := hs.flatMap fun s => be 2 s.size ++ s.data.toList
theorem holesL_take (hs : List ByteArray) (k : Nat) (h : k < hs.length) : holesL (hs.take (k + 1)) = (holesL (hs.take k) ++ be 2 hs[k].size) ++ hs[k].data.toList := by
  unfold holesL
  rw [List.take_add_one, List.getElem?_eq_getElem h, List.flatMap_append]
  simp
def bodyL (r : Rec) : List UInt8 := numsL r 3 ++ be 2 r.holes.length ++ holesL r.holes
def headL (r : Rec) : List UInt8 := be 4 (bodyL r).length ++ bodyL r
def putB (r : Rec) : List UInt8 := headL r ++ (be 4 (crcSum (headL r))).reverse
def putL (r : Rec) : List UInt8 := if mayOf r = 0 then putB r else []

theorem number_new (w0 w : World) (v : Value) (l : List UInt8) (wide x : Nat) (X W : Int) (hown : OwnB 5 w v l) (hnew : New w0 w v) (hn : l.length ≤ 1000000000000) (hw : wide ≤ 4) (hx : x < 4294967296) (hX : X = x) (hW : W = wide) :
    Calls Tryd.prog 39 #[v, .int .u32 X, .int .i64 W] w fun e w' => ∃ v', e = .returned v' ∧ OwnB 5 w' v' (l ++ be wide x) ∧ New w0 w' v' := by
  subst hX hW
  refine (number_any w v _ _ wide x hown hn hw hx).mono ?_
  rintro e w' ⟨v', rfl, h1, h2⟩
  refine ⟨v', rfl, OwnB.of_own h1 (by rw [u8s_append]) (by rw [List.length_append, length_be]), hnew.step h2.kp fun g hg => ?_⟩
  rcases h2.blk g hg with h | h
  · exact hnew.blk g h
  · exact Nat.le_trans hnew.kp.size h

theorem may_zero {r : Rec} (h : mayOf r = 0) : (0 ≤ r.doc ∧ r.doc ≤ 1073741824) ∧ (0 ≤ r.out ∧ r.out ≤ 1073741824) ∧ (0 ≤ r.len ∧ r.len ≤ 1073741824) ∧ r.holes.length ≤ 200 ∧ ∀ s ∈ r.holes, s.size ≤ 4096 ∧ validS s = true := by
  unfold mayOf at h
  split at h
  · omega
  · rename_i h1
    split at h
    · omega
    · rename_i h2
      split at h
      · omega
      · rename_i h3
        simp only [Bool.not_eq_true', Bool.not_eq_false, Bool.and_eq_true, fine, decide_eq_true_eq] at h1
        simp only [not_or, Bool.not_eq_true, List.any_eq_false, decide_eq_true_eq] at h3
        simp only [Bool.not_eq_true, List.any_eq_false] at h2
        refine ⟨h1.1.1, h1.1.2, h1.2, by omega, fun s hs => ⟨by have := h3.2 s hs; omega, ?_⟩⟩
        have := h2 s hs
        simpa using this
theorem length_holesL : ∀ (hs : List ByteArray), (∀ s ∈ hs, s.size ≤ 4096) → (holesL hs).length ≤ 4098 * hs.length
  | [], _ => by simp [holesL]
  | s :: hs, h => by
    have h1 := length_holesL hs (fun t ht => h t (by simp [ht]))
    have h2 := h s (by simp)
    have h3 : (holesL (s :: hs)).length = 2 + s.size + (holesL hs).length := by
      show ((be 2 s.size ++ s.data.toList) ++ holesL hs).length = _
      rw [List.length_append, List.length_append, length_be, Array.length_toList]
      rfl
    rw [h3, List.length_cons]
    omega
theorem length_numsL (r : Rec) : ∀ k, (numsL r k).length = 4 * k
  | 0 => rfl
  | k + 1 => by rw [numsL_succ, List.length_append, length_be, length_numsL r k]; omega

theorem reverse_new (w0 w : World) (v : Value) (l : List UInt8) (hl : l.length = 4) (hown : OwnB 5 w v l) (hnew : New w0 w v) :
    Calls Tryd.prog 40 #[v] w fun e w' => e = .returned (.tuple #[]) ∧ OwnB 5 w' v l.reverse ∧ New w0 w' v := by
  obtain ⟨A, c, rfl, -, -, -⟩ := hown.shape
  have hown' : Own w 5 (.slice A l.length c) l.length (u8s l) := hown
  rw [hl] at hown' hnew ⊢
  match l, hl with
  | [x, y, z, t], _ =>
    refine (reverse_four w A c _ _ _ _ hown').mono ?_
    rintro e w' ⟨rfl, h1, h2⟩
    exact ⟨rfl, h1, hnew.step h2 hnew.blk⟩
def PutPost (w : World) (r : Rec) (e : Ending) (w' : World) : Prop := ∃ v, e = .returned (.tuple #[v, .int .i64 (mayOf r)]) ∧ OwnB 5 w' v (putL r) ∧ New w w' v

set_option maxRecDepth 100000 in
set_option maxHeartbeats 1600000 in
theorem put_any (w : World) (r : Rec) (v : Value) (hr : RecIs w r v) (hT : Tabs w) (hz : ∀ s ∈ r.holes, s.size ≤ 9223372036854775807) :
    Calls Tryd.prog 14 #[v] w (PutPost w r) := by
  obtain ⟨A, c, rfl, hsp, hc, hc2⟩ := hr
  obtain ⟨n, hn⟩ : ∃ n, n = r.holes.length := ⟨_, rfl⟩
  rw [← hn] at hc ⊢
  have Hn := hid hn
  clear hn
  obtain ⟨w1, hw1, B1, K1⟩ : ∃ w1, w1 = w.alloc (.cells #[.int .i64 r.doc, .int .i64 r.out, .int .i64 r.len, .slice A n c] 24) ∧
      Cells w1 w.heap.size 24 [.int .i64 r.doc, .int .i64 r.out, .int .i64 r.len, .slice A n c] ∧ Kp [] w w1 :=
    ⟨_, rfl, Cells.fresh _ _ _, (Kp.refl _ _).alloc _⟩
  have hR1 : RecIs w1 r (.agg #[.int .i64 r.doc, .int .i64 r.out, .int .i64 r.len, .slice A n c]) := by
    refine ⟨A, c, ?_, hsp.kept K1, ?_, hc2⟩
    · rw [Hn.out]
    · rw [← Hn.out]; exact hc
  go_enter Tryd.func14, Tryd.ntmps14
  go_wp2_with fail
  rw [← hw1]
  have Hw1 := hid hw1
  clear hw1
  refine (may_any w1 r _ hR1 (hT.kept K1) hz).mono ?_
  rintro e w2 ⟨rfl, hk2⟩
  have C0 := (B1.keep hk2 (by simp)).cell 0
  have C1 := (B1.keep hk2 (by simp)).cell 1
  have C2 := (B1.keep hk2 (by simp)).cell 2
  simp only [List.getElem?_cons_zero, List.getElem?_cons_succ] at C0 C1 C2
  have hS1 : w.heap.size < w1.heap.size := B1.lt
  obtain ⟨S, hS⟩ : ∃ S, S = w.heap.size := ⟨_, rfl⟩
  rw [← hS] at C0 C1 C2 B1 hS1 ⊢
  have HS := hid hS
  clear hS
  by_cases hm : mayOf r = 0
  · rw [hm]
    obtain ⟨⟨d1, d2⟩, ⟨o1, o2⟩, ⟨l1, l2⟩, hh1, hh2⟩ := may_zero hm
    have Hm := hid hm
    clear hm
    go_wp2_with fail
    obtain ⟨w3, hw3, B3, K3⟩ : ∃ w3, w3 = w2.alloc (.cells #[.int .i64 r.doc, .int .i64 r.out, .int .i64 r.len] 3) ∧
        Cells w3 w2.heap.size 3 [.int .i64 r.doc, .int .i64 r.out, .int .i64 r.len] ∧ Kp [] w2 w3 :=
      ⟨_, rfl, Cells.fresh _ _ _, (Kp.refl _ _).alloc _⟩
    rw [← hw3]
    clear hw3
    obtain ⟨T, hT'⟩ : ∃ T, T = w2.heap.size := ⟨_, rfl⟩
    rw [← hT'] at B3 ⊢
    clear hT'
    have B4 := B1.keep (hk2.nil K3) (by simp)
    go_loopw [5, 25] (fun v5 i wr => ∃ k : Nat, k ≤ 3 ∧ i = .int .i64 k ∧ OwnB 5 wr v5 (numsL r k) ∧ New w3 wr v5) (fun _ i _ => 3 - (intOf i).toNat)
    case atStart => exact ⟨0, by omega, rfl, OwnB.nil _ _, New.nil (Kp.refl _ _)⟩
    case round =>
      obtain ⟨k, hk, rfl, ho, hnw⟩ := hrel
      by_cases hlt : k < 3
      · have hcell : wr.cell? ⟨T, k, none⟩ = some (.int .i64 (r.num k)) := by
          rw [(B3.keep hnw.kp (by simp)).cell k]
          rcases (show k = 0 ∨ k = 1 ∨ k = 2 from by omega) with rfl | rfl | rfl <;> rfl
        have hx : 0 ≤ r.num k ∧ r.num k ≤ 1073741824 := by
          rcases (show k = 0 ∨ k = 1 ∨ k = 2 from by omega) with rfl | rfl | rfl <;> simp only [Rec.num] <;> omega
        obtain ⟨x, hx0⟩ := Int.eq_ofNat_of_zero_le hx.1
        have hsucc := numsL_succ r k
        have hlen := length_numsL r k
        rw [hx0] at hcell hx
        rw [hx0, Int.toNat_natCast] at hsucc
        have Hsucc := hid hsucc
        clear hsucc hx0
        obtain ⟨hx1, hx2⟩ := hx
        go_wp2_with fail
        refine (number_new w3 wr _ _ 4 x _ _ ho hnw (by omega) (by omega) (by omega) rfl rfl).mono ?_
        rintro e w4 ⟨v', rfl, ho4, hnw4⟩
        go_wp2_with fail
        go_roundw
        case rel => exact ⟨k + 1, by omega, by go_num, by rw [Hsucc.out]; exact ho4, hnw4⟩
        case measure => simp [intOf]; omega
      · have e3 : k = 3 := by omega
        have hnums : numsL r k = numsL r 3 := by rw [e3]
        rw [hnums] at ho
        have hlen := length_numsL r 3
        have C3 := (B4.keep hnw.kp (by simp)).cell 3
        simp only [List.getElem?_cons_zero, List.getElem?_cons_succ] at C3
        clear hnums e3 B3 C0 C1 C2
        have Hlt : (k : Int) = 3 ∨ True := .inr trivial
        have hn200 : n ≤ 200 := by have := Hn.out; omega
        go_wp2_with fail
        refine (number_new w3 wr _ _ 2 n _ _ ho hnw (by omega) (by omega) (by omega) rfl rfl).mono ?_
        rintro e w5 ⟨v5, rfl, ho5, hnw5⟩
        have C5 := (B4.keep hnw5.kp (by simp)).cell 3
        simp only [List.getElem?_cons_zero, List.getElem?_cons_succ] at C5
        go_wp2_with fail
        clear hk C3 C5 ho hnw
        go_loopw [5, 43] (fun v5 i wr => ∃ k : Nat, k ≤ n ∧ i = .int .i64 k ∧ OwnB 5 wr v5 (numsL r 3 ++ be 2 n ++ holesL (r.holes.take k)) ∧ New w3 wr v5) (fun _ i _ => n - (intOf i).toNat)
        case atStart => exact ⟨0, by omega, rfl, by simpa [holesL] using ho5, hnw5⟩
        case round =>
          obtain ⟨k, hk, rfl, ho, hnw⟩ := hrel
          have hlen2 : (numsL r 3 ++ be 2 n ++ holesL (r.holes.take k)).length ≤ 900000 := by
            have h1 := length_holesL (r.holes.take k) (fun s hs => (hh2 s (List.mem_of_mem_take hs)).1)
            rw [List.length_take] at h1
            rw [List.length_append, List.length_append, length_be, hlen]
            omega
          by_cases hlt : k < n
          · have hkl : k < r.holes.length := by rw [← Hn.out]; exact hlt
            obtain ⟨ad, hA, hcl⟩ := (hsp.kept (((K1.nil hk2).nil K3).nil hnw.kp)).get (j := k) (by simpa using hkl)
            subst hA
            simp only [List.getElem_map] at hcl
            have htk := holesL_take r.holes k hkl
            have hz1 := (hh2 _ (List.getElem_mem hkl)).1
            obtain ⟨s, hs1⟩ : ∃ s, s = r.holes[k] := ⟨_, rfl⟩
            rw [← hs1] at hcl hz1 htk
            have Htk := hid htk
            clear hs1 htk
            go_wp2_with fail
            refine (number_new w3 wr _ _ 2 s.size _ _ ho hnw (by omega) (by omega) (by omega) rfl rfl).mono ?_
            rintro e w6 ⟨v6, rfl, ho6, hnw6⟩
            have hlen3 : (numsL r 3 ++ be 2 n ++ holesL (r.holes.take k) ++ be 2 s.size).length ≤ 900002 := by rw [List.length_append, length_be]; omega
            go_wp2_with (at_builtin; go_must (refine wpList_append_textB rfl _ _ 25 9 rfl 5 Tryd.underlying25 Tryd.underlying9 infoByte _ _ rfl ho6 hnw6 s rfl ?_ ?_))
            · omega
            intro v7 w7 ho7 hnw7
            go_wp2_with fail
            go_roundw
            case rel => exact ⟨k + 1, by omega, by go_num, by rw [Htk.out]; simpa only [List.append_assoc] using ho7, hnw7⟩
            case measure => simp [intOf]; omega
          · have hfull : r.holes.take k = r.holes := List.take_of_length_le (by have := Hn.out; omega)
            rw [hfull] at ho hlen2
            clear hfull
            have hbody : numsL r 3 ++ be 2 n ++ holesL r.holes = bodyL r := by rw [Hn.out]; rfl
            rw [hbody] at ho hlen2
            clear hbody hlen ho5 hnw5
            obtain ⟨A8, c8, rfl, hsp8, hc8, -⟩ := ho.shape
            obtain ⟨B, hB⟩ : ∃ B, B = bodyL r := ⟨_, rfl⟩
            rw [← hB] at ho hsp8 hc8 hlen2 ⊢
            obtain ⟨m, hmB⟩ : ∃ m, m = B.length := ⟨_, rfl⟩
            rw [← hmB] at hc8 hlen2 ⊢
            have HmB := hid hmB
            have HB := hid hB
            clear hmB hB
            go_wp2_with fail
            refine (number_new wr wr (.slice none 0 0) [] 4 m _ _ (OwnB.nil _ _) (New.nil (Kp.refl _ _)) (by simp) (by omega) (by omega) rfl rfl).mono ?_
            rintro e w9 ⟨v9, rfl, ho9, hnw9⟩
            go_wp2_with (at_builtin; go_must (refine wpList_append_bytesB rfl _ _ 25 rfl 5 Tryd.underlying25 infoByte _ _ rfl ho9 hnw9 _ _ _ B rfl (hsp8.kept hnw9.kp) HmB.out.symm ?_ ?_))
            · rw [List.length_append, length_be]; simp only [List.length_nil]; omega
            intro v10 w10 ho10 hnw10
            obtain ⟨H, hH⟩ : ∃ H, H = be 4 m ++ B := ⟨_, rfl⟩
            rw [← hH] at ho10
            have HH : Hid (H = headL r) := by rw [headL, ← HB.out, ← HmB.out]; exact hid hH
            have hHl : H.length ≤ 900004 := by rw [hH, List.length_append, length_be]; have := HmB.out; omega
            clear hH ho9 hnw9
            obtain ⟨A10, c10, rfl, hsp10, hc10, -⟩ := ho10.shape
            go_wp2_with fail
            refine (sum_any w10 A10 _ c10 H hsp10 rfl hc10 (by omega)).mono ?_
            rintro e w11 ⟨rfl, rfl⟩
            have hsl := crcSum_lt H
            go_wp2_with fail
            refine (number_new w11 w11 (.slice none 0 0) [] 4 (crcSum H) _ _ (OwnB.nil _ _) (New.nil (Kp.refl _ _)) (by simp) (by omega) hsl rfl rfl).mono ?_
            rintro e w12 ⟨v12, rfl, ho12, hnw12⟩
            go_wp2_with fail
            refine (reverse_new w11 w12 v12 _ (by simp [length_be]) ho12 hnw12).mono ?_
            rintro e w13 ⟨rfl, ho13, hnw13⟩
            clear ho12 hnw12
            obtain ⟨A13, c13, rfl, hsp13, hc13, -⟩ := ho13.shape
            have ho14 := ho10.kept hnw13.kp
            have hnw14 := hnw10.kept hnw13.kp
            go_wp2_with (at_builtin; go_must (refine wpList_append_bytesB rfl _ _ 25 rfl 5 Tryd.underlying25 infoByte _ _ rfl ho14 hnw14 _ _ _ _ rfl hsp13 rfl ?_ ?_))
            · simp only [length_be]; omega
            intro v15 w15 ho15 hnw15
            go_wp2_with fail
            go_ret2
            refine ⟨v15, by rw [Hm.out]; rfl, ?_, hnw15.since (((K1.nil hk2).nil K3).nil hnw.kp)⟩
            rw [putL, if_pos Hm.out, putB, ← HH.out]
            exact ho15
  · go_wp2_with fail
    go_ret2
    exact ⟨.slice none 0 0, rfl, by rw [putL, if_neg hm]; exact OwnB.nil _ _, New.nil (K1.nil hk2)⟩
end Go.Proofs.YtepeopfdenieeaaDoor
