/- MaskAt: the document's answer; labelled values. -/
import Derived.Test.YtpeldjihalldkaaDoorTMatch
import Derived.Test.YtpeldjihalldkaaDoorTViewLaw
namespace Go.Proofs.YtpeldjihalldkaaDoor
open Go Go.RowKit Go.Lib

/-- Marks: a path, a mask. -/
structure MarksAt (w : World) (A : Option Addr) (c : Nat) (ms : List (List StI × Nat)) : Prop where
  le : ms.length ≤ c
  top : c ≤ 9223372036854775807
  ok : ∀ m ∈ ms, m.2 < 18446744073709551616
  at_ : ∀ (i : Nat) m, ms[i]? = some m → ∃ ad, A = some ad ∧ ∃ B cb, w.cell? (ad.add (i * 2)) = some (.slice B m.1.length cb) ∧ w.cell? ⟨(ad.add (i * 2)).block, (ad.add (i * 2)).off + 1, none⟩ = some (.int .u64 (m.2 : Int)) ∧ PathAt w B cb m.1
theorem MarksAt.kept {w w' : World} {A : Option Addr} {c : Nat} {ms : List (List StI × Nat)} (h : MarksAt w A c ms) (k : Kp [] w w') : MarksAt w' A c ms :=
  ⟨h.le, h.top, h.ok, fun i m hm => by obtain ⟨ad, e, B, cb, h0, h1, h2⟩ := h.at_ i m hm; exact ⟨ad, e, B, cb, k.cell h0 (by simp), k.cell h1 (by simp), h2.kept k⟩⟩
/-- The mask of a place. -/
def maskAtL (ms : List (List StI × Nat)) (at_ : List Stp) : Nat := ms.foldl (fun acc m => if matchB m.1 at_ then acc ||| m.2 else acc) 0
theorem maskAt_take (ms : List (List StI × Nat)) (at_ : List Stp) (i : Nat) (m : List StI × Nat) (h : ms[i]? = some m) : maskAtL (ms.take (i + 1)) at_ = if matchB m.1 at_ then maskAtL (ms.take i) at_ ||| m.2 else maskAtL (ms.take i) at_ := by
  unfold maskAtL
  rw [List.take_add_one, h]
  show (ms.take i ++ [m]).foldl _ _ = _
  rw [List.foldl_append]
  rfl
theorem maskAt_lt (ms : List (List StI × Nat)) (at_ : List Stp) (h : ∀ m ∈ ms, m.2 < 18446744073709551616) : maskAtL ms at_ < 18446744073709551616 := by
  unfold maskAtL
  suffices ∀ acc, acc < 18446744073709551616 → ms.foldl (fun acc m => if matchB m.1 at_ then acc ||| m.2 else acc) acc < 18446744073709551616 from this 0 (by decide)
  induction ms with
  | nil => exact fun acc ha => ha
  | cons m r ih =>
    intro acc ha
    rw [List.foldl_cons]
    refine ih (fun x hx => h x (by simp [hx])) _ ?_
    split
    · exact Nat.or_lt_two_pow (n := 64) ha (h m (by simp))
    · exact ha
set_option maxRecDepth 100000 in
set_option maxHeartbeats 12800000 in
theorem maskat_any (w : World) (Ac : Option Addr) (nc cc : Nat) (Am : Option Addr) (cm : Nat) (ms : List (List StI × Nat)) (tok : ByteArray) (fu qu : Int) (hm : MarksAt w Am cm ms) (T : Nat → Prop) (v : Value) (at_ : List Stp) (hat : StepsAt w T v at_) (hsz : at_.length ≤ 1000000) :
    Calls Tryd.prog 79 #[.agg #[.slice Ac nc cc, .slice Am ms.length cm, .string tok, .int .i64 fu, .int .i64 qu], v] w fun e w' => e = .returned (.int .u64 (maskAtL ms at_ : Int)) ∧ Kp [] w w' := by
  obtain ⟨nm, hnm⟩ : ∃ n, n = ms.length := ⟨_, rfl⟩
  obtain ⟨R, hR⟩ : ∃ R, R = maskAtL ms at_ := ⟨_, rfl⟩
  rw [← hnm, ← hR]
  have HRR := hid hR
  clear hR
  obtain ⟨W1, hW1⟩ : ∃ W1, W1 = w.alloc (.cells #[.slice Ac nc cc, .slice Am nm cm, .string tok, .int .i64 fu, .int .i64 qu] 52) := ⟨_, rfl⟩
  have hk1 : Kp [] w W1 := by rw [hW1]; exact (Kp.refl _ _).alloc _
  obtain ⟨gp, hgp⟩ : ∃ gp, gp = w.heap.size := ⟨_, rfl⟩
  have hcp : Cells W1 gp 52 [.slice Ac nc cc, .slice Am nm cm, .string tok, .int .i64 fu, .int .i64 qu] := by rw [hW1, hgp]; exact Cells.fresh w 52 _
  have l1 := hm.le
  have l2 := hm.top
  rw [← hnm] at l1
  have HM := hid (And.intro hm (And.intro hat hnm))
  have H1 := hid (And.intro hk1 hcp)
  have HW1 := hid hW1
  have HGP := hid hgp
  obtain ⟨Av, cv, rfl, -, -, -⟩ := hat.cells
  obtain ⟨np, hnp⟩ : ∃ n, n = at_.length := ⟨_, rfl⟩
  rw [← hnp] at hsz
  rw [← hnp] at HM ⊢
  have HNP := hid hnp
  clear hm hat hnm hk1 hcp hW1 hgp hnp
  go_enter Tryd.func79, Tryd.ntmps79
  go_wp2_with fail
  go_loopw [5, 6] (fun vm vi wr => ∃ i : Nat, i ≤ nm ∧ vi = .int .i64 (i : Int) ∧ vm = .int .u64 (maskAtL (ms.take i) at_ : Int) ∧ Kp [] W1 wr) (fun _ vi _ => nm - (RowKit.intOf vi).toNat)
  case atStart => exact ⟨0, Nat.zero_le _, rfl, rfl, by rw [← HW1.out]; exact Kp.refl _ _⟩
  case round =>
    obtain ⟨i, hi, rfl, rfl, hk⟩ := hrel
    obtain ⟨hm, hat, hnm⟩ := HM.out
    have hkw := H1.out.1.nil hk
    have hcp := H1.out.2.keep hk (by simp)
    have x1 := hcp.cell 1
    simp only [List.getElem?_cons_zero, List.getElem?_cons_succ] at x1
    rw [HGP.out] at x1
    by_cases hlt : i < nm
    · obtain ⟨m, hmi⟩ : ∃ m, ms[i]? = some m := ⟨_, List.getElem?_eq_getElem (by omega)⟩
      obtain ⟨ad, rfl, B, cb, p0, p1, hpath⟩ := (hm.kept hkw).at_ i m hmi
      have htk := maskAt_take ms at_ i m hmi
      have hlt1 := maskAt_lt (ms.take i) at_ (fun x hx => hm.ok x (List.mem_of_mem_take hx))
      have hlt2 := hm.ok m (List.mem_of_getElem? hmi)
      have hor := u64_or_nat (maskAtL (ms.take i) at_) m.2 (by simpa using hlt1) (by simpa using hlt2)
      have q := fun W (h : Kp [] wr W) => match_any W B cb m.1 (hpath.kept h) _ _ at_ ((hat.kept hkw).kept h) (by rw [← HNP.out]; exact hsz)
      try simp only [← HNP.out] at q
      obtain ⟨bm, hbm⟩ : ∃ b, b = matchB m.1 at_ := ⟨_, rfl⟩
      simp only [← hbm] at q htk
      obtain ⟨m0, hm0⟩ : ∃ m0, m0 = maskAtL (ms.take i) at_ := ⟨_, rfl⟩
      rw [← hm0] at hor htk ⊢
      obtain ⟨mi, hmi2⟩ : ∃ mi, mi = m.2 := ⟨_, rfl⟩
      rw [← hmi2] at hor htk p1
      obtain ⟨m3, hm3⟩ : ∃ m3, m3 = m0 ||| mi := ⟨_, rfl⟩
      rw [← hm3] at hor htk
      obtain ⟨ln, hln⟩ : ∃ ln, ln = m.1.length := ⟨_, rfl⟩
      rw [← hln] at p0
      simp only [← hln] at q
      have z1 : decide ((i : Int) < (nm : Int)) = true := decide_eq_true (by omega)
      have z1n : decide (i < nm) = true := decide_eq_true hlt
      have jn : (i : Int) < (nm : Int) := by omega
      have HT := hid (And.intro htk (And.intro hk (And.intro p1 x1)))
      have q0 := q wr (Kp.refl _ _)
      have HI := hid hlt
      clear hm hat hnm hkw hcp hmi hpath hlt1 hlt2 hbm hm0 hmi2 hm3 hln htk hk q hi hlt
      go_wp2_with fail
      (with_reducible refine q0.mono ?_)
      rintro e w2 ⟨rfl, k2⟩
      obtain ⟨htk, hk, p1', x1'⟩ := HT.out
      clear p0 p1 x1
      have p1 := k2.cell p1' (by simp)
      have x1 := k2.cell x1' (by simp)
      have HK2 := hid (hk.nil k2)
      have HTK := hid htk
      clear htk hk p1' x1' k2 q0 HT
      cases bm with
      | true =>
        go_wp2_with fail
        go_roundw
        case rel => exact ⟨i + 1, HI.out, by go_num, by rw [HTK.out]; rfl, HK2.out⟩
        case measure => have := HI.out; simp [RowKit.intOf]; omega
      | false =>
        go_wp2_with fail
        go_roundw
        case rel => exact ⟨i + 1, HI.out, by go_num, by rw [HTK.out]; rfl, HK2.out⟩
        case measure => have := HI.out; simp [RowKit.intOf]; omega
    · have hiE : i = nm := by omega
      have hfin : ms.take i = ms := List.take_of_length_le (by omega)
      rw [hfin]
      have z1 : decide ((i : Int) < (nm : Int)) = false := decide_eq_false (by omega)
      have z1n : decide (i < nm) = false := decide_eq_false hlt
      rw [← HRR.out]
      have HE := hid hkw
      clear hm hat hnm hkw hcp hk hiE hfin hlt hi
      go_wp2_with fail
      go_ret
      exact ⟨rfl, HE.out⟩
mutual
/-- A value whose masks are told by its places. -/
def labV (f : List Stp → Nat) (at_ : List Stp) : Vl → Vl
  | .mk k _ num t keys kids code => .mk k (f at_) num t keys (labs f at_ k keys 0 kids) code
def labs (f : List Stp → Nat) (at_ : List Stp) (k : Nat) (keys : List Txt) (i : Nat) : List Vl → List Vl
  | [] => []
  | v :: r => labV f (at_ ++ [stp k keys i]) v :: labs f at_ k keys (i + 1) r
end
theorem labs_len (f : List Stp → Nat) (at_ : List Stp) (k : Nat) (keys : List Txt) : ∀ (l : List Vl) (i : Nat), (labs f at_ k keys i l).length = l.length
  | [], i => by simp [labs]
  | v :: r, i => by unfold labs; simp [labs_len f at_ k keys r]
theorem labs_at (f : List Stp → Nat) (at_ : List Stp) (k : Nat) (keys : List Txt) : ∀ (l : List Vl) (i j : Nat), (labs f at_ k keys i l)[j]? = l[j]?.map (labV f (at_ ++ [stp k keys (i + j)]))
  | [], i, j => by simp [labs]
  | v :: r, i, 0 => by unfold labs; simp
  | v :: r, i, j + 1 => by
    unfold labs
    rw [List.getElem?_cons_succ, List.getElem?_cons_succ, labs_at f at_ k keys r (i + 1) j, show i + 1 + j = i + (j + 1) by omega]
theorem lab_lab (f : List Stp → Nat) : ∀ v at_, Lab f at_ (labV f at_ v) := by
  refine Vl.ind fun k m num t keys kids code ih at_ => ?_
  unfold labV
  refine .mk at_ k num t keys _ code fun i v hv => ?_
  rw [labs_at, Nat.zero_add] at hv
  obtain ⟨u, hu, rfl⟩ := Option.map_eq_some_iff.1 hv
  exact ih u (at_mem hu) _
theorem lab_fine {f : List Stp → Nat} (hf : ∀ at_, f at_ < 18446744073709551616) : ∀ v, FineV v → ∀ at_, FineV (labV f at_ v) := by
  refine Vl.ind fun k m num t keys kids code ih ha at_ => ?_
  have hk9 := fine_kid ha
  cases ha with
  | mk _ _ _ _ _ _ _ hk hm hn hn0 ht ht0 hkl hk0 hks hkd hc hcode hc0 hc8 hmany hff =>
    unfold labV
    refine .mk k (f at_) num t keys _ code hk (hf at_) hn hn0 ht ht0 (fun h => by rw [labs_len]; exact hkl h) hk0 hks hkd (fun h6 h7 => by rw [hc h6 h7]; simp [labs]) hcode hc0 hc8 (by rw [labs_len]; exact hmany) fun i v hv => ?_
    rw [labs_at] at hv
    obtain ⟨u, hu, rfl⟩ := Option.map_eq_some_iff.1 hv
    exact ih u (at_mem hu) (hk9 u (at_mem hu)) _
theorem lab_size (f : List Stp → Nat) : ∀ v at_, sizeV (labV f at_ v) = sizeV v := by
  refine Vl.ind fun k m num t keys kids code ih at_ => ?_
  have key : ∀ (l : List Vl) (i : Nat), (∀ v ∈ l, ∀ at_, sizeV (labV f at_ v) = sizeV v) → sizes (labs f at_ k keys i l) = sizes l := by
    intro l
    induction l with
    | nil => intro i _; simp [labs]
    | cons v r ih2 =>
      intro i h
      unfold labs sizes
      rw [h v (by simp), ih2 (i + 1) fun u hu => h u (by simp [hu])]
  unfold labV sizeV
  rw [key kids 0 ih]
end Go.Proofs.YtpeldjihalldkaaDoor
