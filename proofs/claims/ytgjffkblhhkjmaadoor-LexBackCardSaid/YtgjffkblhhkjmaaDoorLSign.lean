/- Layer 10: the sign that a text begins with. -/
import Derived.Test.YtgjffkblhhkjmaaDoorLNum
namespace Go.Proofs.YtgjffkblhhkjmaaDoor
open Go Go.RowKit Go.Lib

def twos : List Txt := [[61, 61], [33, 61], [60, 61], [62, 61]]
def twoV : List Value := twos.map fun x => .string ⟨x.toArray⟩
theorem hasp_any (w : World) (L p : Txt) : Calls Tryd.prog 53 #[.string ⟨L.toArray⟩, .string ⟨p.toArray⟩] w fun e w' => e = .returned (.bool (Lib.hasPrefix L p)) ∧ w' = w := Tryd.strings_HasPrefix ⟨L.toArray⟩ ⟨p.toArray⟩ w
theorem two_form (c d : UInt8) : twoS c d = true ↔ [c, d] ∈ twos := by
  simp only [twoS, twos, decide_eq_true_eq, List.mem_cons, List.cons.injEq, and_true, List.mem_nil_iff, or_false]
  constructor
  · rintro ⟨rfl, rfl | rfl | rfl | rfl⟩ <;> simp
  · rintro (⟨rfl, rfl⟩ | ⟨rfl, rfl⟩ | ⟨rfl, rfl⟩ | ⟨rfl, rfl⟩) <;> simp
theorem has_two (L : Txt) (c d : UInt8) : Lib.hasPrefix L [c, d] = true ↔ ∃ t, L = c :: d :: t := by
  match L with
  | [] => simp [Lib.hasPrefix, List.isPrefixOf]
  | [x] => simp [Lib.hasPrefix, List.isPrefixOf]
  | x :: y :: t =>
    simp only [Lib.hasPrefix, List.isPrefixOf, Bool.and_true, Bool.and_eq_true, beq_iff_eq, List.cons.injEq]
    constructor
    · rintro ⟨rfl, rfl⟩; exact ⟨t, rfl, rfl, rfl⟩
    · rintro ⟨t2, rfl, rfl, _⟩; exact ⟨rfl, rfl⟩
theorem sign_two {L x : Txt} (h1 : x ∈ twos) (h2 : Lib.hasPrefix L x = true) : signX L = x := by
  have hx : ∃ c d, x = [c, d] ∧ twoS c d = true := by
    simp only [twos, List.mem_cons, List.mem_nil_iff, or_false] at h1
    rcases h1 with rfl | rfl | rfl | rfl <;> exact ⟨_, _, rfl, by decide⟩
  obtain ⟨c, d, rfl, h3⟩ := hx
  obtain ⟨t, rfl⟩ := (has_two L c d).1 h2
  show (if twoS c d = true then [c, d] else _) = _
  rw [if_pos h3]
theorem sign_none {L : Txt} (h : ∀ x ∈ twos, Lib.hasPrefix L x = false) : signX L = L.take (min 1 (L.takeWhile oneS).length) := by
  match L with
  | [] => rfl
  | [c] =>
    show (if oneS c then [c] else []) = _
    rw [List.takeWhile_cons]
    cases oneS c <;> rfl
  | c :: d :: t =>
    have h2 : ¬ twoS c d = true := by
      intro h3
      have := h _ ((two_form c d).1 h3)
      rw [(has_two _ c d).2 ⟨t, rfl⟩] at this
      cases this
    show (if twoS c d = true then [c, d] else if oneS c then [c] else []) = _
    rw [if_neg h2, List.takeWhile_cons]
    cases oneS c with
    | false => rfl
    | true =>
      simp only [if_true, List.length_cons]
      rw [show min 1 ((d :: t).takeWhile oneS).length.succ = 1 by omega]
      rfl
set_option maxRecDepth 100000 in
set_option maxHeartbeats 6400000 in
theorem sign_any (w : World) (L : Txt) (hL : L.length ≤ 1000000) :
    Calls Tryd.prog 58 #[.string ⟨L.toArray⟩] w fun e w' => e = .returned (.string ⟨(signX L).toArray⟩) ∧ Kp [] w w' := by
  have hsz : (⟨L.toArray⟩ : ByteArray).size = L.length := size_mk _
  have h0 : Cells (w.alloc (.cells #[.string ⟨#[61, 61]⟩, .string ⟨#[33, 61]⟩, .string ⟨#[60, 61]⟩, .string ⟨#[62, 61]⟩] 9)) w.heap.size 9 twoV := Cells.fresh w 9 twoV
  have k0 : Kp [] w (w.alloc (.cells #[.string ⟨#[61, 61]⟩, .string ⟨#[33, 61]⟩, .string ⟨#[60, 61]⟩, .string ⟨#[62, 61]⟩] 9)) := (Kp.refl _ _).alloc _
  obtain ⟨r, hr⟩ : ∃ r, r = signX L := ⟨_, rfl⟩
  rw [← hr]
  have HR := hid hr
  have Hk0 := hid k0
  have HC := hid h0
  clear hr k0 h0
  go_enter Tryd.func58, Tryd.ntmps58
  go_wp2_with fail
  obtain ⟨W, hW⟩ : ∃ W, W = w.alloc (.cells #[.string ⟨#[61, 61]⟩, .string ⟨#[33, 61]⟩, .string ⟨#[60, 61]⟩, .string ⟨#[62, 61]⟩] 9) := ⟨_, rfl⟩
  obtain ⟨B, hB⟩ : ∃ B, B = w.heap.size := ⟨_, rfl⟩
  simp only [← hW, ← hB] at Hk0 HC ⊢
  clear hW hB
  go_loopw [7] (fun vi wr => wr = W ∧ ∃ k : Nat, k ≤ 4 ∧ vi = .int .i64 (k : Int) ∧ ∀ x ∈ twos.take k, Lib.hasPrefix L x = false) (fun vi _ => 4 - (intOf vi).toNat)
  case atStart => exact ⟨rfl, 0, Nat.zero_le _, rfl, by simp⟩
  case round =>
    obtain ⟨hwr, k, hk, rfl, hb⟩ := hrel
    have hwr2 := hwr.symm
    subst hwr2
    have HB := hid hb
    clear hb
    by_cases hlt : k < 4
    · have hk4 : k < twos.length := hlt
      have hcl := HC.out.cell k
      have hget : twoV[k]? = some (Value.string ⟨(twos[k]'hk4).toArray⟩) := by unfold twoV; rw [List.getElem?_map, List.getElem?_eq_getElem hk4]; rfl
      rw [hget] at hcl
      have qh := fun W2 => hasp_any W2 L (twos[k]'hk4)
      have hmem := List.getElem_mem hk4
      have hnx : Lib.hasPrefix L (twos[k]'hk4) = false → ∀ x ∈ twos.take (k + 1), Lib.hasPrefix L x = false := by
        intro h x hx
        rw [List.take_add_one, List.getElem?_eq_getElem hk4, List.mem_append] at hx
        rcases hx with hx | hx
        · exact HB.out x hx
        · simp at hx; rw [hx]; exact h
      obtain ⟨x, hx⟩ : ∃ x, x = twos[k]'hk4 := ⟨_, rfl⟩
      rw [← hx] at hcl hmem hnx
      simp only [← hx] at qh
      have hs2 := sign_two (L := L) hmem
      obtain ⟨b, hb⟩ : ∃ b, b = Lib.hasPrefix L x := ⟨_, rfl⟩
      rw [← hb] at hnx hs2
      simp only [← hb] at qh
      have HN := hid hnx
      have HS := hid hs2
      clear hget hx hmem hnx hs2 hb
      cases b
      · have Hn := hid (HN.out rfl)
        go_wp2_with fail
        (with_reducible refine (qh _).mono ?_)
        rintro e w2 ⟨rfl, rfl⟩
        go_wp2_with fail
        go_roundw
        case rel => exact ⟨trivial, k + 1, by omega, by go_num, Hn.out⟩
        case measure => simp [intOf]; omega
      · have Hr := hid (show r = x by rw [HR.out]; exact HS.out rfl)
        go_wp2_with fail
        (with_reducible refine (qh _).mono ?_)
        rintro e w2 ⟨rfl, rfl⟩
        go_wp2_with fail
        go_ret
        exact ⟨by rw [Hr.out]; rfl, Hk0.out⟩
    · have hk4 : k = 4 := by omega
      subst hk4
      have hr := sign_none (L := L) HB.out
      have qs := fun W2 => span_one W2 L hL
      have hex := extract_mk L 0 (min 1 (L.takeWhile oneS).length)
      rw [List.drop_zero, ← hr, ← HR.out] at hex
      have htl := tw_le oneS L
      obtain ⟨n, hn⟩ : ∃ n, n = (L.takeWhile oneS).length := ⟨_, rfl⟩
      simp only [← hn] at qs
      rw [← hn] at hex htl
      obtain ⟨m, hm⟩ : ∃ m, m = min 1 n := ⟨_, rfl⟩
      rw [← hm] at hex
      have em : min (1 : Int) (n : Int) = (m : Int) := by omega
      have hm1 : (m : Int) ≤ (L.length : Int) := by omega
      have hm0 : (0 : Int) ≤ (m : Int) := by omega
      clear hr hn hm
      go_wp2_with fail
      (with_reducible refine (qs _).mono ?_)
      rintro e w2 ⟨rfl, k2⟩
      have Hk2 := hid (Hk0.out.nil k2)
      clear k2
      go_wp2_with fail
      go_ret
      exact ⟨rfl, Hk2.out⟩
end Go.Proofs.YtgjffkblhhkjmaaDoor
