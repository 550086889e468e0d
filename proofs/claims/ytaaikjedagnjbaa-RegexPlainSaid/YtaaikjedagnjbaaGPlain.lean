/- The statement RegexPlain, walked. (printed by tools/gengplain.py) -/
import Derived.Test.YtaaikjedagnjbaaGPlainLaw
import Derived.Test.YtaaikjedagnjbaaGRefParts
import Derived.Deep.DeepCutAuto
import Derived.BigQuiet
namespace Go.Proofs.Ytaaikjedagnjbaa
open Go Go.RowKit Go.Lib

theorem plain_whole {re s : ByteArray} {r : Re} {b : Bool} (hr : reR re = some r) (h : WholeP re s b) : b = true ↔ Mt (cps s) r 0 (cps s).length := by
  unfold WholeP at h
  rw [hr] at h
  exact h
theorem plain_find {re s : ByteArray} {r : Re} {p q : Int} (hr : reR re = some r) (h : FindP re s p q) : FoundR (cps s) r p q := by
  unfold FindP at h
  rw [hr] at h
  exact h
/-- The pattern of some parts. -/
def escS (ps : List (List UInt8)) : ByteArray := ⟨(ps.flatMap escP).toArray⟩
theorem escS_size (ps : List (List UInt8)) : (escS ps).size = (ps.flatMap escP).length := by simp [escS, ByteArray.size]
theorem escS_data (ps : List (List UInt8)) : (escS ps).data.toList = ps.flatMap escP := by simp [escS]
theorem escS_ord {ps : List (List UInt8)} {i : Nat} {p : List UInt8} (h : ps[i]? = some p) :
    (ordN (p.getD 0 0).toNat = true → escS (ps.take (i + 1)) = escS (ps.take i) ++ ⟨p.toArray⟩) ∧ (ordN (p.getD 0 0).toNat = false → escS (ps.take (i + 1)) = (escS (ps.take i) ++ ⟨#[92]⟩) ++ ⟨p.toArray⟩) := by
  constructor <;> intro ho <;> refine ByteArray.ext (Array.toList_inj.1 ?_) <;>
    simp only [data_cat, escS, List.take_add_one, h, List.flatMap_append, Option.toList_some, List.flatMap_cons, List.flatMap_nil, List.append_nil, List.toList_toArray, escP, ho, List.append_assoc] <;> rfl
theorem escS_re {s : ByteArray} (hv : okS s) (hs : s.size ≤ 40) : (escS (partsL s.data.toList)).size ≤ 80 ∧ reR (escS (partsL s.data.toList)) = some (lit eqF .eps (cps s)) := by
  have h1 := esc_len2 (partsL s.data.toList)
  rw [parts_flat] at h1
  have h2 := length_parts_le s.data.toList
  have h3 : s.data.toList.length = s.size := rfl
  have h4 : (escS (partsL s.data.toList)).size ≤ 80 := by rw [escS_size]; omega
  refine ⟨h4, (re_of (by omega) ?_).trans (parse_esc (cps s))⟩
  show cpsL (escS (partsL s.data.toList)).data.toList = _
  rw [escS_data]
  exact (esc_text _ hv).2
set_option maxRecDepth 100000 in
set_option maxHeartbeats 25600000 in
theorem plain_any (w : World) (re : ByteArray) (hre : re.size ≤ 9223372036854775807) (s : ByteArray) (hs : s.size ≤ 9223372036854775807) :
    Calls Try.prog 5 #[.string re, .string s] w fun e w' => e = .returned (.bool true) ∧ Kp [] w w' := by
  have qh := shown_any w
  have qr := fun W => few_any W re hre
  have qs := fun W => few_any W s hs
  have zfr := first_size 40 re
  have zfs := first_size 40 s
  have vfr : okS (firstS 40 re) := first_valid 40 re
  have vfs : okS (firstS 40 s) := first_valid 40 s
  obtain ⟨fr, hfr⟩ : ∃ t, t = firstS 40 re := ⟨_, rfl⟩
  obtain ⟨fs, hfs⟩ : ∃ t, t = firstS 40 s := ⟨_, rfl⟩
  rw [← hfr] at qr zfr vfr
  rw [← hfs] at qs zfs vfs
  have HV := hid (And.intro vfr vfs)
  clear hfr hfs vfr vfs hre hs
  go_enter Try.func5, Try.ntmps5
  go_wp2_with fail
  (with_reducible refine qh.mono ?_)
  clear qh
  rintro e w1 ⟨rfl, k1⟩
  have HK1 := hid k1
  clear k1
  go_wp2_with fail
  (with_reducible refine (qr w1).mono ?_)
  rintro e w2 ⟨rfl, hw⟩
  rw [hw]
  clear hw qr
  go_wp2_with fail
  (with_reducible refine (qs w1).mono ?_)
  rintro e w2 ⟨rfl, hw⟩
  rw [hw]
  clear hw qs
  have qp := rparts_any w1 fr (by omega)
  go_wp2_with fail
  (with_reducible refine qp.mono ?_)
  clear qp
  rintro e w2 ⟨v, rfl, hown, hnew⟩
  obtain ⟨Q, hQ⟩ : ∃ Q, Q = partsL fr.data.toList := ⟨_, rfl⟩
  rw [← hQ] at hown
  obtain ⟨A, c, rfl, hsp, hc1, -, -⟩ := hown.shape
  obtain ⟨m, hm⟩ : ∃ m, m = Q.length := ⟨_, rfl⟩
  rw [← hm] at hc1 ⊢
  have hm40 : m ≤ 40 := by have := length_parts_le fr.data.toList; have h2 : fr.data.toList.length = fr.size := rfl; rw [hm, hQ]; omega
  have HQ := hid (And.intro hQ (And.intro hm hsp))
  have HK2 := hid (HK1.out.nil hnew.kp)
  clear hown hnew hQ hm hsp
  go_wp2_with fail
  go_loopg [6, 8] (m + 1) (fun gg v6 v8 wx => wx = w2 ∧ ∃ i : Nat, v8 = .int .i64 (i : Int) ∧ i + gg = m + 1 ∧ i ≤ m ∧ v6 = .string (escS (Q.take i)))
  case atStart => exact ⟨rfl, 0, rfl, by omega, by omega, rfl⟩
  case round =>
    obtain ⟨hw, i, rfl, hg, hi, rfl⟩ := hrel
    have hw2 := hw.symm
    subst hw2
    clear hw
    obtain ⟨di, hdi⟩ : ∃ t, t = escS (Q.take i) := ⟨_, rfl⟩
    rw [← hdi]
    have zdi : di.size ≤ 200 := by
      rw [hdi, escS_size]
      have h1 := esc_len (Q.take i) (fun p hp => (parts_len _ p (by rw [← HQ.out.1]; exact List.mem_of_mem_take hp)).2)
      have h2 : (Q.take i).length ≤ i := by rw [List.length_take]; omega
      omega
    by_cases h1 : i < m
    · have b0 : decide ((i : Int) < (m : Int)) = true := decide_eq_true (by omega)
      have b1 : (i : Int) < (m : Int) := by omega
      have b2 : decide (i < m) = true := decide_eq_true h1
      have iw : IntKind.i64.wrap ((i : Int) + 1) = (i : Int) + 1 := IntWalk.i64_in _ (by omega)
      obtain ⟨pt, hpt⟩ : ∃ p, Q[i]? = some p := ⟨_, List.getElem?_eq_getElem (by have := HQ.out.2.1; omega)⟩
      obtain ⟨A0, rfl, yp⟩ := HQ.out.2.2 i (strV pt) (by rw [List.getElem?_map, hpt]; rfl)
      have hpl := parts_len fr.data.toList pt (by rw [← HQ.out.1]; exact List.mem_of_getElem? hpt)
      unfold strV at yp
      obtain ⟨B, hB⟩ : ∃ B : ByteArray, B = ⟨pt.toArray⟩ := ⟨_, rfl⟩
      rw [← hB] at yp
      have hB0 : 0 < B.size := by rw [hB]; show 0 < pt.toArray.size; rw [List.size_toArray]; omega
      have hB4 : B.size ≤ 4 := by rw [hB]; show pt.toArray.size ≤ 4; rw [List.size_toArray]; omega
      have hB0i : (0 : Int) < (B.size : Int) := by omega
      have hB0d : decide ((0 : Int) < (B.size : Int)) = true := decide_eq_true hB0i
      obtain ⟨y, hy⟩ : ∃ y, y = (B[0]'hB0).toNat := ⟨_, rfl⟩
      have hyp : y = (pt.getD 0 0).toNat := by
        subst hB
        rw [hy, List.getD_eq_getElem?_getD, List.getElem?_eq_getElem (by omega)]
        rfl
      have hy256 : y < 256 := by rw [hy]; exact UInt8.toNat_lt _
      obtain ⟨mid, hmid⟩ : ∃ t : ByteArray, t = di ++ ⟨#[92]⟩ := ⟨_, rfl⟩
      obtain ⟨dj, hdj⟩ : ∃ t, t = escS (Q.take (i + 1)) := ⟨_, rfl⟩
      have zmid : mid.size ≤ 201 := by rw [hmid, size_cat]; exact Nat.add_le_add zdi (Nat.le_refl 1)
      have HD := hid (And.intro hdi hdj)
      have HE : Hid ((ordN y = true → dj = di ++ B) ∧ (ordN y = false → dj = mid ++ B) ∧ mid = di ++ ⟨#[92]⟩) := hid (by
        obtain ⟨e1, e2⟩ := escS_ord hpt
        rw [← hyp, ← hdj, ← hdi, ← hB] at e1 e2
        rw [← hmid] at e2
        exact ⟨e1, e2, hmid⟩)
      clear hyp hpt hpl hB hmid hdi hdj
      have hrg : (0 ≤ y ∧ y ≤ 32) ∨ (33 ≤ y ∧ y ≤ 47) ∨ (48 ≤ y ∧ y ≤ 57) ∨ (58 ≤ y ∧ y ≤ 64) ∨ (65 ≤ y ∧ y ≤ 90) ∨ (91 ≤ y ∧ y ≤ 96) ∨ (97 ≤ y ∧ y ≤ 122) ∨ (123 ≤ y ∧ y ≤ 126) ∨ (127 ≤ y ∧ y ≤ 255) := by omega
      rcases hrg with hrg | hrg | hrg | hrg | hrg | hrg | hrg | hrg | hrg
      · have d1 : decide ((48 : Int) ≤ ((B[0]'hB0).toNat : Int)) = false := decide_eq_false (by omega)
        have d2 : decide (((B[0]'hB0).toNat : Int) ≤ (57 : Int)) = true := decide_eq_true (by omega)
        have d3 : decide ((97 : Int) ≤ ((B[0]'hB0).toNat : Int)) = false := decide_eq_false (by omega)
        have d4 : decide (((B[0]'hB0).toNat : Int) ≤ (122 : Int)) = true := decide_eq_true (by omega)
        have d5 : decide ((65 : Int) ≤ ((B[0]'hB0).toNat : Int)) = false := decide_eq_false (by omega)
        have d6 : decide (((B[0]'hB0).toNat : Int) ≤ (90 : Int)) = true := decide_eq_true (by omega)
        have d7 : decide ((126 : Int) < ((B[0]'hB0).toNat : Int)) = false := decide_eq_false (by omega)
        have d8 : decide (((B[0]'hB0).toNat : Int) < (33 : Int)) = true := decide_eq_true (by omega)
        have ho : ordN y = true := ordN_true.2 (by omega)
        have ad := fun W => cat_run (P := Try.prog) (HE.out.1 ho) (by omega) W
        clear ho hrg
        go_wp2_with fail
        go_roundg (gk - 1)
        case measure => omega
        case rel => exact ⟨rfl, i + 1, rfl, by omega, by omega, by rw [HD.out.2]⟩
      · have d1 : decide ((48 : Int) ≤ ((B[0]'hB0).toNat : Int)) = false := decide_eq_false (by omega)
        have d2 : decide (((B[0]'hB0).toNat : Int) ≤ (57 : Int)) = true := decide_eq_true (by omega)
        have d3 : decide ((97 : Int) ≤ ((B[0]'hB0).toNat : Int)) = false := decide_eq_false (by omega)
        have d4 : decide (((B[0]'hB0).toNat : Int) ≤ (122 : Int)) = true := decide_eq_true (by omega)
        have d5 : decide ((65 : Int) ≤ ((B[0]'hB0).toNat : Int)) = false := decide_eq_false (by omega)
        have d6 : decide (((B[0]'hB0).toNat : Int) ≤ (90 : Int)) = true := decide_eq_true (by omega)
        have d7 : decide ((126 : Int) < ((B[0]'hB0).toNat : Int)) = false := decide_eq_false (by omega)
        have d8 : decide (((B[0]'hB0).toNat : Int) < (33 : Int)) = false := decide_eq_false (by omega)
        have ho : ordN y = false := by cases h : ordN y; rfl; have := ordN_true.1 h; omega
        have am := fun W => cat_run (P := Try.prog) HE.out.2.2 (by show di.size + 1 ≤ _; omega) W
        have ad := fun W => cat_run (P := Try.prog) (HE.out.2.1 ho) (by omega) W
        clear ho hrg
        go_wp2_with fail
        go_roundg (gk - 1)
        case measure => omega
        case rel => exact ⟨rfl, i + 1, rfl, by omega, by omega, by rw [HD.out.2]⟩
      · have d1 : decide ((48 : Int) ≤ ((B[0]'hB0).toNat : Int)) = true := decide_eq_true (by omega)
        have d2 : decide (((B[0]'hB0).toNat : Int) ≤ (57 : Int)) = true := decide_eq_true (by omega)
        have d3 : decide ((97 : Int) ≤ ((B[0]'hB0).toNat : Int)) = false := decide_eq_false (by omega)
        have d4 : decide (((B[0]'hB0).toNat : Int) ≤ (122 : Int)) = true := decide_eq_true (by omega)
        have d5 : decide ((65 : Int) ≤ ((B[0]'hB0).toNat : Int)) = false := decide_eq_false (by omega)
        have d6 : decide (((B[0]'hB0).toNat : Int) ≤ (90 : Int)) = true := decide_eq_true (by omega)
        have d7 : decide ((126 : Int) < ((B[0]'hB0).toNat : Int)) = false := decide_eq_false (by omega)
        have d8 : decide (((B[0]'hB0).toNat : Int) < (33 : Int)) = false := decide_eq_false (by omega)
        have ho : ordN y = true := ordN_true.2 (by omega)
        have ad := fun W => cat_run (P := Try.prog) (HE.out.1 ho) (by omega) W
        clear ho hrg
        go_wp2_with fail
        go_roundg (gk - 1)
        case measure => omega
        case rel => exact ⟨rfl, i + 1, rfl, by omega, by omega, by rw [HD.out.2]⟩
      · have d1 : decide ((48 : Int) ≤ ((B[0]'hB0).toNat : Int)) = true := decide_eq_true (by omega)
        have d2 : decide (((B[0]'hB0).toNat : Int) ≤ (57 : Int)) = false := decide_eq_false (by omega)
        have d3 : decide ((97 : Int) ≤ ((B[0]'hB0).toNat : Int)) = false := decide_eq_false (by omega)
        have d4 : decide (((B[0]'hB0).toNat : Int) ≤ (122 : Int)) = true := decide_eq_true (by omega)
        have d5 : decide ((65 : Int) ≤ ((B[0]'hB0).toNat : Int)) = false := decide_eq_false (by omega)
        have d6 : decide (((B[0]'hB0).toNat : Int) ≤ (90 : Int)) = true := decide_eq_true (by omega)
        have d7 : decide ((126 : Int) < ((B[0]'hB0).toNat : Int)) = false := decide_eq_false (by omega)
        have d8 : decide (((B[0]'hB0).toNat : Int) < (33 : Int)) = false := decide_eq_false (by omega)
        have ho : ordN y = false := by cases h : ordN y; rfl; have := ordN_true.1 h; omega
        have am := fun W => cat_run (P := Try.prog) HE.out.2.2 (by show di.size + 1 ≤ _; omega) W
        have ad := fun W => cat_run (P := Try.prog) (HE.out.2.1 ho) (by omega) W
        clear ho hrg
        go_wp2_with fail
        go_roundg (gk - 1)
        case measure => omega
        case rel => exact ⟨rfl, i + 1, rfl, by omega, by omega, by rw [HD.out.2]⟩
      · have d1 : decide ((48 : Int) ≤ ((B[0]'hB0).toNat : Int)) = true := decide_eq_true (by omega)
        have d2 : decide (((B[0]'hB0).toNat : Int) ≤ (57 : Int)) = false := decide_eq_false (by omega)
        have d3 : decide ((97 : Int) ≤ ((B[0]'hB0).toNat : Int)) = false := decide_eq_false (by omega)
        have d4 : decide (((B[0]'hB0).toNat : Int) ≤ (122 : Int)) = true := decide_eq_true (by omega)
        have d5 : decide ((65 : Int) ≤ ((B[0]'hB0).toNat : Int)) = true := decide_eq_true (by omega)
        have d6 : decide (((B[0]'hB0).toNat : Int) ≤ (90 : Int)) = true := decide_eq_true (by omega)
        have d7 : decide ((126 : Int) < ((B[0]'hB0).toNat : Int)) = false := decide_eq_false (by omega)
        have d8 : decide (((B[0]'hB0).toNat : Int) < (33 : Int)) = false := decide_eq_false (by omega)
        have ho : ordN y = true := ordN_true.2 (by omega)
        have ad := fun W => cat_run (P := Try.prog) (HE.out.1 ho) (by omega) W
        clear ho hrg
        go_wp2_with fail
        go_roundg (gk - 1)
        case measure => omega
        case rel => exact ⟨rfl, i + 1, rfl, by omega, by omega, by rw [HD.out.2]⟩
      · have d1 : decide ((48 : Int) ≤ ((B[0]'hB0).toNat : Int)) = true := decide_eq_true (by omega)
        have d2 : decide (((B[0]'hB0).toNat : Int) ≤ (57 : Int)) = false := decide_eq_false (by omega)
        have d3 : decide ((97 : Int) ≤ ((B[0]'hB0).toNat : Int)) = false := decide_eq_false (by omega)
        have d4 : decide (((B[0]'hB0).toNat : Int) ≤ (122 : Int)) = true := decide_eq_true (by omega)
        have d5 : decide ((65 : Int) ≤ ((B[0]'hB0).toNat : Int)) = true := decide_eq_true (by omega)
        have d6 : decide (((B[0]'hB0).toNat : Int) ≤ (90 : Int)) = false := decide_eq_false (by omega)
        have d7 : decide ((126 : Int) < ((B[0]'hB0).toNat : Int)) = false := decide_eq_false (by omega)
        have d8 : decide (((B[0]'hB0).toNat : Int) < (33 : Int)) = false := decide_eq_false (by omega)
        have ho : ordN y = false := by cases h : ordN y; rfl; have := ordN_true.1 h; omega
        have am := fun W => cat_run (P := Try.prog) HE.out.2.2 (by show di.size + 1 ≤ _; omega) W
        have ad := fun W => cat_run (P := Try.prog) (HE.out.2.1 ho) (by omega) W
        clear ho hrg
        go_wp2_with fail
        go_roundg (gk - 1)
        case measure => omega
        case rel => exact ⟨rfl, i + 1, rfl, by omega, by omega, by rw [HD.out.2]⟩
      · have d1 : decide ((48 : Int) ≤ ((B[0]'hB0).toNat : Int)) = true := decide_eq_true (by omega)
        have d2 : decide (((B[0]'hB0).toNat : Int) ≤ (57 : Int)) = false := decide_eq_false (by omega)
        have d3 : decide ((97 : Int) ≤ ((B[0]'hB0).toNat : Int)) = true := decide_eq_true (by omega)
        have d4 : decide (((B[0]'hB0).toNat : Int) ≤ (122 : Int)) = true := decide_eq_true (by omega)
        have d5 : decide ((65 : Int) ≤ ((B[0]'hB0).toNat : Int)) = true := decide_eq_true (by omega)
        have d6 : decide (((B[0]'hB0).toNat : Int) ≤ (90 : Int)) = false := decide_eq_false (by omega)
        have d7 : decide ((126 : Int) < ((B[0]'hB0).toNat : Int)) = false := decide_eq_false (by omega)
        have d8 : decide (((B[0]'hB0).toNat : Int) < (33 : Int)) = false := decide_eq_false (by omega)
        have ho : ordN y = true := ordN_true.2 (by omega)
        have ad := fun W => cat_run (P := Try.prog) (HE.out.1 ho) (by omega) W
        clear ho hrg
        go_wp2_with fail
        go_roundg (gk - 1)
        case measure => omega
        case rel => exact ⟨rfl, i + 1, rfl, by omega, by omega, by rw [HD.out.2]⟩
      · have d1 : decide ((48 : Int) ≤ ((B[0]'hB0).toNat : Int)) = true := decide_eq_true (by omega)
        have d2 : decide (((B[0]'hB0).toNat : Int) ≤ (57 : Int)) = false := decide_eq_false (by omega)
        have d3 : decide ((97 : Int) ≤ ((B[0]'hB0).toNat : Int)) = true := decide_eq_true (by omega)
        have d4 : decide (((B[0]'hB0).toNat : Int) ≤ (122 : Int)) = false := decide_eq_false (by omega)
        have d5 : decide ((65 : Int) ≤ ((B[0]'hB0).toNat : Int)) = true := decide_eq_true (by omega)
        have d6 : decide (((B[0]'hB0).toNat : Int) ≤ (90 : Int)) = false := decide_eq_false (by omega)
        have d7 : decide ((126 : Int) < ((B[0]'hB0).toNat : Int)) = false := decide_eq_false (by omega)
        have d8 : decide (((B[0]'hB0).toNat : Int) < (33 : Int)) = false := decide_eq_false (by omega)
        have ho : ordN y = false := by cases h : ordN y; rfl; have := ordN_true.1 h; omega
        have am := fun W => cat_run (P := Try.prog) HE.out.2.2 (by show di.size + 1 ≤ _; omega) W
        have ad := fun W => cat_run (P := Try.prog) (HE.out.2.1 ho) (by omega) W
        clear ho hrg
        go_wp2_with fail
        go_roundg (gk - 1)
        case measure => omega
        case rel => exact ⟨rfl, i + 1, rfl, by omega, by omega, by rw [HD.out.2]⟩
      · have d1 : decide ((48 : Int) ≤ ((B[0]'hB0).toNat : Int)) = true := decide_eq_true (by omega)
        have d2 : decide (((B[0]'hB0).toNat : Int) ≤ (57 : Int)) = false := decide_eq_false (by omega)
        have d3 : decide ((97 : Int) ≤ ((B[0]'hB0).toNat : Int)) = true := decide_eq_true (by omega)
        have d4 : decide (((B[0]'hB0).toNat : Int) ≤ (122 : Int)) = false := decide_eq_false (by omega)
        have d5 : decide ((65 : Int) ≤ ((B[0]'hB0).toNat : Int)) = true := decide_eq_true (by omega)
        have d6 : decide (((B[0]'hB0).toNat : Int) ≤ (90 : Int)) = false := decide_eq_false (by omega)
        have d7 : decide ((126 : Int) < ((B[0]'hB0).toNat : Int)) = true := decide_eq_true (by omega)
        have d8 : decide (((B[0]'hB0).toNat : Int) < (33 : Int)) = false := decide_eq_false (by omega)
        have ho : ordN y = true := ordN_true.2 (by omega)
        have ad := fun W => cat_run (P := Try.prog) (HE.out.1 ho) (by omega) W
        clear ho hrg
        go_wp2_with fail
        go_roundg (gk - 1)
        case measure => omega
        case rel => exact ⟨rfl, i + 1, rfl, by omega, by omega, by rw [HD.out.2]⟩
    · have b0 : decide ((i : Int) < (m : Int)) = false := decide_eq_false (by omega)
      have b1 : ¬ (i : Int) < (m : Int) := by omega
      obtain rfl : m = i := by omega
      obtain ⟨zdi80, hre⟩ := escS_re HV.out.1 zfr
      have hdQ : di = escS (partsL fr.data.toList) := by rw [hdi, HQ.out.2.1, List.take_length, HQ.out.1]
      rw [← hdQ] at zdi80 hre
      have HRE := hid (And.intro hre (code_some hre))
      clear hre hdQ hdi
      have q5 := whole_any w2 di fr (by omega) (by omega)
      rw [HRE.out.2] at q5
      simp only [show ((0 : Nat) : Int) = 0 from rfl] at q5
      go_wp2_with fail
      (with_reducible refine q5.mono ?_)
      clear q5
      rintro e w3 ⟨⟨ok, rfl, hok⟩, k3⟩
      have hok2 : ok = true := (plain_whole HRE.out.1 hok).2 (lit_whole.2 rfl)
      clear hok
      subst hok2
      have HK3 := hid (And.intro (HK2.out.nil k3) (HQ.out.2.2.kept k3))
      clear k3
      have q6 := find_any w3 di fs (by omega) (by omega)
      rw [HRE.out.2] at q6
      simp only [show ((0 : Nat) : Int) = 0 from rfl] at q6
      go_wp2_with fail
      (with_reducible refine q6.mono ?_)
      clear q6
      rintro e w4 ⟨⟨p, q, rfl, hf⟩, k4⟩
      have HF := hid (plain_find HRE.out.1 hf)
      have HK4 := hid (And.intro (HK3.out.1.nil k4) (HK3.out.2.kept k4))
      clear k4 hf
      have q7 := test_any w4 di fs (by omega) (by omega)
      rw [HRE.out.2] at q7
      simp only [show ((0 : Nat) : Int) = 0 from rfl] at q7
      go_wp2_with fail
      (with_reducible refine q7.mono ?_)
      clear q7
      rintro e w5 ⟨⟨t, rfl, p', q', hf', ht'⟩, k5⟩
      have HT : Hid (FoundR (cps fs) (lit eqF .eps (cps fr)) p' q' ∧ t = decide (0 ≤ p')) := hid ⟨plain_find HRE.out.1 hf', by rw [ht', HRE.out.2]; rfl⟩
      have HK5 := hid (And.intro (HK4.out.1.nil k5) (HK4.out.2.kept k5))
      clear k5 hf' ht'
      have qp := rparts_any w5 fs (by omega)
      go_wp2_with fail
      (with_reducible refine qp.mono ?_)
      clear qp
      rintro e w6 ⟨v, rfl, hown, hnew⟩
      obtain ⟨P, hP⟩ : ∃ P, P = partsL fs.data.toList := ⟨_, rfl⟩
      rw [← hP] at hown
      obtain ⟨A', c', rfl, hsp, hc2, -, -⟩ := hown.shape
      obtain ⟨n, hn⟩ : ∃ n, n = P.length := ⟨_, rfl⟩
      rw [← hn] at hc2 ⊢
      have hn40 : n ≤ 40 := by have := length_parts_le fs.data.toList; have h2 : fs.data.toList.length = fs.size := rfl; rw [hn, hP]; omega
      have HP := hid (And.intro hP (And.intro hn hsp))
      have HK6 := hid (And.intro (HK5.out.1.nil hnew.kp) (HK5.out.2.kept hnew.kp))
      clear hown hnew hP hn hsp
      go_wp2_with fail
      go_loopg [19, 20] (n + 2) (fun gg v19 v20 wx => Kp [] w6 wx ∧ ∃ i : Nat, v20 = .int .i64 (i : Int) ∧ i + gg = n + 2 ∧ ((v19 = .int .i64 (-1) ∧ ∀ k, k < i → sameB P Q k m = false) ∨ ∃ a : Nat, i = a + 1 ∧ v19 = .int .i64 (a : Int) ∧ a + m ≤ n ∧ sameB P Q a m = true ∧ ∀ k, k < a → sameB P Q k m = false))
      case atStart => exact ⟨Kp.refl _ _, 0, rfl, by omega, .inl ⟨rfl, fun k h => by omega⟩⟩
      case round =>
        obtain ⟨kx, i, rfl, hig, hrl⟩ := hrel
        obtain ⟨G, hG⟩ : ∃ G, G = gk := ⟨_, rfl⟩
        have HG := hid hG
        clear hG
        have HKX := hid kx
        clear kx
        have iw1 : IntKind.i64.wrap ((i : Int) + (m : Int)) = (i : Int) + (m : Int) := IntWalk.i64_in _ (by omega)
        have iw2 : IntKind.i64.wrap ((i : Int) + 1) = (i : Int) + 1 := IntWalk.i64_in _ (by omega)
        rcases hrl with ⟨rfl, hno⟩ | ⟨a, hia, rfl, han, hsa, hno⟩
        · have HNO := hid hno
          clear hno
          by_cases him : i + m ≤ n
          · have b0 : decide ((i : Int) + (m : Int) ≤ (n : Int)) = true := decide_eq_true (by omega)
            have b1 : (i : Int) + (m : Int) ≤ (n : Int) := by omega
            go_wp2_with fail
            go_loopg [21, 22] m (fun gg v21 v22 wy => Kp [] w6 wy ∧ ∃ j : Nat, v22 = .int .i64 (j : Int) ∧ j + gg = m ∧ v21 = .bool (sameB P Q i j))
            case atStart => exact ⟨HKX.out, 0, rfl, by omega, rfl⟩
            case round =>
              obtain ⟨ky, j, rfl, hjg, rfl⟩ := hrel
              obtain ⟨sm, hsm⟩ : ∃ b, b = sameB P Q i j := ⟨_, rfl⟩
              rw [← hsm]
              have HS := hid (And.intro ky hsm)
              clear ky hsm HKX
              cases gk with
              | zero =>
                obtain rfl : m = j := by omega
                cases sm with
                | true =>
                  go_wp2_with fail
                  go_roundg (G - 1)
                  case measure => have := HG.out; omega
                  case rel => exact ⟨HS.out.1, i + 1, rfl, by have := HG.out; omega, .inr ⟨i, rfl, rfl, him, HS.out.2.symm, HNO.out⟩⟩
                | false =>
                  go_wp2_with fail
                  go_roundg (G - 1)
                  case measure => have := HG.out; omega
                  case rel =>
                    refine ⟨HS.out.1, i + 1, rfl, by have := HG.out; omega, .inl ⟨rfl, fun k hk => ?_⟩⟩
                    rcases Nat.lt_or_ge k i with h | h
                    · exact HNO.out k h
                    · obtain rfl : k = i := by omega
                      exact HS.out.2.symm
              | succ gg =>
                have hjm : j < m := by omega
                have c0 : decide ((j : Int) < (m : Int)) = true := decide_eq_true (by omega)
                have c1 : (j : Int) < (m : Int) := by omega
                have c2 : decide (j < m) = true := decide_eq_true hjm
                have iw3 : IntKind.i64.wrap ((j : Int) + 1) = (j : Int) + 1 := IntWalk.i64_in _ (by omega)
                cases sm with
                | false =>
                  go_wp2_with fail
                  go_quiet (fail)
                  generalize nq = n1 at *
                  go_wp2_with fail
                  go_roundg gg
                  case measure => omega
                  case rel => exact ⟨HS.out.1.drewN _, j + 1, rfl, by omega, by rw [sameB_succ, ← HS.out.2]; rfl⟩
                | true =>
                  have iw4 : IntKind.i64.wrap ((i : Int) + (j : Int)) = (i : Int) + (j : Int) := IntWalk.i64_in _ (by omega)
                  have c3 : (i : Int) + (j : Int) < (n : Int) := by omega
                  have c4 : decide ((i : Int) + (j : Int) < (n : Int)) = true := decide_eq_true c3
                  have c5 : i + j < n := by omega
                  have c6 : decide (i + j < n) = true := decide_eq_true c5
                  have c7 : ((i : Int) + (j : Int)).toNat = i + j := by omega
                  have c8 : (0 : Int) ≤ (i : Int) + (j : Int) := by omega
                  have c9 : decide ((0 : Int) ≤ (i : Int) + (j : Int)) = true := decide_eq_true c8
                  obtain ⟨x, hx⟩ : ∃ p, P[i + j]? = some p := ⟨_, List.getElem?_eq_getElem (by have := HP.out.2.1; omega)⟩
                  obtain ⟨y, hy⟩ : ∃ p, Q[j]? = some p := ⟨_, List.getElem?_eq_getElem (by have := HQ.out.2.1; omega)⟩
                  obtain ⟨A1, rfl, yx⟩ := (HP.out.2.2.kept HS.out.1) (i + j) (strV x) (by rw [List.getElem?_map, hx]; rfl)
                  obtain ⟨A0, rfl, yy⟩ := (HK6.out.2.kept HS.out.1) j (strV y) (by rw [List.getElem?_map, hy]; rfl)
                  unfold strV at yx yy
                  obtain ⟨X, hX⟩ : ∃ B : ByteArray, B = ⟨x.toArray⟩ := ⟨_, rfl⟩
                  obtain ⟨Y, hY⟩ : ∃ B : ByteArray, B = ⟨y.toArray⟩ := ⟨_, rfl⟩
                  rw [← hX] at yx
                  rw [← hY] at yy
                  obtain ⟨z, hz⟩ : ∃ z, z = (X.toList == Y.toList) := ⟨_, rfl⟩
                  have e1 := hz.symm
                  have HZ : Hid (sameB P Q i (j + 1) = z) := hid (by
                    rw [sameB_succ, ← HS.out.2, hx, hy, hz, hX, hY, ByteArray.toList_eq, ByteArray.toList_eq, Bool.true_and]
                    show (some x == some y) = (x.toArray.toList == y.toArray.toList)
                    rw [List.toList_toArray, List.toList_toArray]
                    rfl)
                  clear hz hX hY hx hy
                  go_wp2_with fail
                  go_quiet (fail)
                  generalize nq = n1 at *
                  go_wp2_with fail
                  go_roundg gg
                  case measure => omega
                  case rel => exact ⟨HS.out.1.drewN _, j + 1, rfl, by omega, by rw [HZ.out]⟩
          · have b0 : decide ((i : Int) + (m : Int) ≤ (n : Int)) = false := decide_eq_false (by omega)
            have b1 : ¬ (i : Int) + (m : Int) ≤ (n : Int) := by omega
            have hnone : ∀ k, k + m ≤ n → sameB P Q k m = false := fun k hk => HNO.out k (by omega)
            have hx : ∀ p q : Int, FoundR (cps fs) (lit eqF .eps (cps fr)) p q → p = -1 ∧ q = -1 := fun p q h => by
              refine found_lit HV.out.2 HV.out.1 h (.inl ⟨rfl, rfl, ?_⟩)
              rw [← HP.out.1, ← HP.out.2.1, ← HQ.out.1, ← HQ.out.2.1]
              exact hnone
            obtain ⟨g1, g2⟩ := hx p q HF.out
            have g3 := (hx p' q' HT.out.1).1
            have ht : t = false := by rw [HT.out.2, g3]; rfl
            subst g1 g2 ht
            clear hnone hx g3 HNO
            go_wp2_with fail
            go_ret
            exact ⟨rfl, HK6.out.1.nil HKX.out⟩
        · have hx : ∀ p q : Int, FoundR (cps fs) (lit eqF .eps (cps fr)) p q → p = (a : Int) ∧ q = ((a + m : Nat) : Int) := fun p q h => by
            refine found_lit HV.out.2 HV.out.1 h (.inr ⟨a, rfl, ?_, ?_⟩)
            · rw [← HQ.out.1, ← HQ.out.2.1]
            · rw [← HP.out.1, ← HP.out.2.1, ← HQ.out.1, ← HQ.out.2.1]
              exact ⟨han, hsa, hno⟩
          obtain ⟨g1, g2⟩ := hx p q HF.out
          have g3 := (hx p' q' HT.out.1).1
          have ht : t = true := by rw [HT.out.2, g3]; exact decide_eq_true (by omega)
          have g4 : q = (a : Int) + (m : Int) := by rw [g2]; omega
          subst g1 g4 ht
          clear hx g3 g2 hsa hno
          have iw5 : IntKind.i64.wrap ((a : Int) + (m : Int)) = (a : Int) + (m : Int) := IntWalk.i64_in _ (by omega)
          have a0 : ¬ (a : Int) < 0 := by omega
          have a1 : decide ((a : Int) < 0) = false := decide_eq_false a0
          have a2 : (0 : Int) ≤ (a : Int) := by omega
          have a3 : decide ((0 : Int) ≤ (a : Int)) = true := decide_eq_true a2
          by_cases him : i + m ≤ n
          · have b0 : decide ((i : Int) + (m : Int) ≤ (n : Int)) = true := decide_eq_true (by omega)
            have b1 : (i : Int) + (m : Int) ≤ (n : Int) := by omega
            go_wp2_with fail
            go_ret
            exact ⟨rfl, HK6.out.1.nil HKX.out⟩
          · have b0 : decide ((i : Int) + (m : Int) ≤ (n : Int)) = false := decide_eq_false (by omega)
            have b1 : ¬ (i : Int) + (m : Int) ≤ (n : Int) := by omega
            go_wp2_with fail
            go_ret
            exact ⟨rfl, HK6.out.1.nil HKX.out⟩
end Go.Proofs.Ytaaikjedagnjbaa
