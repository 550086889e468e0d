/- frame.may: what is wrong with a record. -/
import Derived.Test.YtepeopfdenieeaaDoorValid
namespace Go.Proofs.YtepeopfdenieeaaDoor
open Go Go.RowKit

/-- A record's four fields. -/
structure Rec where
  doc : Int
  out : Int
  len : Int
  holes : List ByteArray
def Rec.num (r : Rec) : Nat → Int
  | 0 => r.doc
  | 1 => r.out
  | _ => r.len
/-- The value v is this record in the world w. -/
def RecIs (w : World) (r : Rec) (v : Value) : Prop :=
  ∃ A c, v = .agg #[.int .i64 r.doc, .int .i64 r.out, .int .i64 r.len, .slice A r.holes.length c] ∧ Span w A (r.holes.map .string) ∧ r.holes.length ≤ c ∧ c ≤ 9223372036854775807
def fine (n : Int) : Bool := decide (0 ≤ n ∧ n ≤ 1073741824)
def mayOf (r : Rec) : Int :=
  if !(fine r.doc && fine r.out && fine r.len) then 1
  else if r.holes.any (fun s => !validS s) then 1
  else if 200 < r.holes.length ∨ r.holes.any (fun s => decide (4096 < s.size)) then 3 else 0


theorem may_bad (d o l : Int) (hs : List ByteArray) (s : ByteArray) (h0 : fine d = true) (h1 : fine o = true) (h2 : fine l = true) (hm : s ∈ hs) (hv : validS s = false) : mayOf ⟨d, o, l, hs⟩ = 1 := by
  unfold mayOf
  rw [if_neg (by simp [h0, h1, h2]), if_pos]
  exact List.any_eq_true.2 ⟨s, hm, by simp [hv]⟩
theorem may_end (d o l : Int) (hs : List ByteArray) (n : Nat) (h0 : fine d = true) (h1 : fine o = true) (h2 : fine l = true) (hn : n = hs.length) (hv : hs.any (fun s => !validS s) = false) :
    mayOf ⟨d, o, l, hs⟩ = if (decide ((200 : Int) < (n : Int)) || hs.any (fun s => decide (4096 < s.size))) = true then 3 else 0 := by
  subst hn
  unfold mayOf
  rw [if_neg (by simp [h0, h1, h2]), if_neg (by simp only [hv]; decide)]
  have e : (decide ((200 : Int) < (hs.length : Int)) || hs.any (fun s => decide (4096 < s.size))) = true ↔ (200 < hs.length ∨ hs.any (fun s => decide (4096 < s.size)) = true) := by
    rw [Bool.or_eq_true, decide_eq_true_iff, show ((200 : Int) < (hs.length : Int)) ↔ 200 < hs.length from by omega]
  simp only [e]
set_option maxRecDepth 100000 in
set_option maxHeartbeats 800000 in
theorem may_any (w : World) (r : Rec) (v : Value) (hr : RecIs w r v) (hT : Tabs w) (hz : ∀ s ∈ r.holes, s.size ≤ 9223372036854775807) :
    Calls Tryd.prog 38 #[v] w fun e w' => e = .returned (.int .i64 (mayOf r)) ∧ Kp [] w w' := by
  obtain ⟨A, c, rfl, hsp, hc, hc2⟩ := hr
  have hh : r.holes.length = r.holes.length := rfl
  obtain ⟨n, hn⟩ : ∃ n, n = r.holes.length := ⟨_, rfl⟩
  rw [← hn] at hc ⊢
  have Hn := hid hn
  clear hn hh
  obtain ⟨d, o, l, hs⟩ := r
  go_enter Tryd.func38, Tryd.ntmps38
  go_wp2_with fail
  obtain ⟨w2, hw2, B1, B2, K2⟩ : ∃ w2, w2 = (w.alloc (.cells #[.int .i64 d, .int .i64 o, .int .i64 l, .slice A n c] 24)).alloc (.cells #[.int .i64 d, .int .i64 o, .int .i64 l] 3) ∧
      Cells w2 w.heap.size 24 [.int .i64 d, .int .i64 o, .int .i64 l, .slice A n c] ∧ Cells w2 (w.heap.size + 1) 3 [.int .i64 d, .int .i64 o, .int .i64 l] ∧ Kp [] w w2 :=
    ⟨_, rfl, (Cells.fresh _ _ _).alloc _, Cells.fresh1 _ _ _ _, ((Kp.refl _ _).alloc _).alloc _⟩
  rw [← hw2]
  clear hw2
  obtain ⟨S, hS⟩ : ∃ S, S = w.heap.size := ⟨_, rfl⟩
  rw [← hS] at B1 B2 ⊢
  have HS := hid hS
  clear hS
  go_loopw [16] (fun i wr => ∃ k : Nat, k ≤ 3 ∧ i = .int .i64 k ∧ (∀ j, j < k → fine (Rec.num ⟨d, o, l, hs⟩ j) = true) ∧ wr = w2) (fun i _ => 3 - (intOf i).toNat)
  case atStart => exact ⟨0, by omega, rfl, fun _ h => by omega, rfl⟩
  case round =>
    obtain ⟨k, hk, rfl, hf, rfl⟩ := hrel
    by_cases hlt : k < 3
    · have hcell : wr.cell? ⟨S + 1, k, none⟩ = some (.int .i64 (Rec.num ⟨d, o, l, hs⟩ k)) := by
        rw [B2.cell k]
        rcases (show k = 0 ∨ k = 1 ∨ k = 2 from by omega) with rfl | rfl | rfl <;> rfl
      obtain ⟨x, hx⟩ : ∃ x, x = Rec.num ⟨d, o, l, hs⟩ k := ⟨_, rfl⟩
      rw [← hx] at hcell
      have Hx := hid hx
      clear hx
      by_cases hfx : 0 ≤ x ∧ x ≤ 1073741824
      · obtain ⟨hx1, hx2⟩ := hfx
        go_wp2_with fail
        go_roundw
        case rel =>
          refine ⟨k + 1, by omega, by go_num, fun j hj => ?_, trivial⟩
          rcases (show j < k ∨ j = k from by omega) with h | rfl
          · exact hf j h
          · rw [← Hx.out]; simp [fine, hx1, hx2]
        case measure => simp [intOf]; omega
      · have hbad : mayOf ⟨d, o, l, hs⟩ = 1 := by
          have : fine (Rec.num ⟨d, o, l, hs⟩ k) = false := by rw [← Hx.out]; simpa [fine] using hfx
          unfold mayOf
          rw [if_pos]
          rcases (show k = 0 ∨ k = 1 ∨ k = 2 from by omega) with rfl | rfl | rfl <;> simp [Rec.num] at this <;> simp [this]
        have Hbad := hid hbad
        clear hbad
        by_cases hx1 : x < 0
        · go_wp2_with fail
          go_ret
          exact ⟨by rw [Hbad.out]; rfl, K2⟩
        · go_wp2_with fail
          go_ret
          exact ⟨by rw [Hbad.out]; rfl, K2⟩
    · have h0 := hf 0 (by omega)
      have h1 := hf 1 (by omega)
      have h2 := hf 2 (by omega)
      simp only [Rec.num] at h0 h1 h2
      have HB1 := B1.cell 3
      simp only [List.getElem?_cons_zero, List.getElem?_cons_succ] at HB1
      clear hf B2
      go_wp2_with fail
      clear HB1 B1
      go_loopw [5, 34] (fun b i wr => ∃ k : Nat, k ≤ n ∧ i = .int .i64 k ∧ b = .bool (decide ((200 : Int) < (n : Int)) || (hs.take k).any (fun s => decide (4096 < s.size))) ∧ (hs.take k).any (fun s => !validS s) = false ∧ Kp [] w wr) (fun _ i _ => n - (intOf i).toNat)
      case atStart => exact ⟨0, by omega, rfl, by simp only [List.take_zero, List.any_nil, Bool.or_false], rfl, K2⟩
      case round =>
        obtain ⟨k, hk, rfl, rfl, hv, hkp⟩ := hrel
        by_cases hlt : k < n
        · have hkl : k < hs.length := by rw [← Hn.out]; exact hlt
          obtain ⟨ad, rfl, hcl⟩ := (hsp.kept hkp).get (j := k) (by simpa using hkl)
          simp only [List.getElem_map] at hcl
          have hz1 := hz _ (List.getElem_mem hkl)
          obtain ⟨s, hs1⟩ : ∃ s, s = hs[k] := ⟨_, rfl⟩
          have htk : hs.take (k + 1) = hs.take k ++ [s] := by rw [List.take_add_one, List.getElem?_eq_getElem hkl, hs1]; rfl
          have hmem : s ∈ hs := by rw [hs1]; exact List.getElem_mem hkl
          rw [← hs1] at hcl hz1
          have Hs1 := hid hs1
          have Htk := hid htk
          clear hs1 htk
          go_wp2_with fail
          refine (qvalid_any _ s hz1 (hT.kept hkp)).mono ?_
          rintro e w3 ⟨rfl, hk3⟩
          obtain ⟨L, hL⟩ : ∃ L, L = (decide ((200 : Int) < (n : Int)) || (hs.take k).any (fun s => decide (4096 < s.size))) := ⟨_, rfl⟩
          rw [← hL]
          have HL := hid hL
          have Hv := hid hv
          clear hL hv
          cases hb : validS s with
          | false =>
            have hbad := may_bad d o l hs s h0 h1 h2 hmem hb
            go_wp2_with fail
            go_ret
            exact ⟨by rw [hbad]; rfl, hkp.nil hk3⟩
          | true =>
            have Hb := hid hb
            clear hb
            cases L with
            | true =>
              go_wp2_with fail
              go_roundw
              case rel =>
                refine ⟨k + 1, by omega, by go_num, ?_, ?_, hkp.nil hk3⟩
                · rw [Htk.out, List.any_append, ← Bool.or_assoc, ← HL.out]; rfl
                · rw [Htk.out, List.any_append, Hv.out]; simp [Hb.out]
              case measure => simp [intOf]; omega
            | false =>
              go_wp2_with fail
              go_roundw
              case rel =>
                refine ⟨k + 1, by omega, by go_num, ?_, ?_, hkp.nil hk3⟩
                · rw [Htk.out, List.any_append, ← Bool.or_assoc, ← HL.out]; simp; omega
                · rw [Htk.out, List.any_append, Hv.out]; simp [Hb.out]
              case measure => simp [intOf]; omega
        · obtain rfl : k = n := by omega
          have hend := may_end d o l hs k h0 h1 h2 Hn.out
          rw [List.take_of_length_le (by have := Hn.out; omega)] at hv ⊢
          have hend2 := hend hv
          obtain ⟨L, hL⟩ : ∃ L, L = (decide ((200 : Int) < (k : Int)) || hs.any (fun s => decide (4096 < s.size))) := ⟨_, rfl⟩
          rw [← hL] at hend2 ⊢
          clear hL hend hv
          have Hend := hid hend2
          clear hend2
          cases L
          · go_wp2_with fail
            go_ret
            exact ⟨by rw [Hend.out]; rfl, hkp⟩
          · go_wp2_with fail
            go_ret
            exact ⟨by rw [Hend.out]; rfl, hkp⟩
end Go.Proofs.YtepeopfdenieeaaDoor
