/- Laws for the walk: cuts of slices, without parting the walk at the capacity's end. Over any program. (A text that imports this one sees 's[k:]' as cutA.) -/
import Derived.Test.YtampgimmodomoaaDoorDGround
import Derived.Test.YtampgimmodomoaaDoorChecked
import Derived.Test.YtampgimmodomoaaDoorDPlain
import Derived.Deep.Cut
import Derived.BigQuiet
import Derived.Deep.QuietTactic
namespace Go.Proofs.YtampgimmodomoaaDoor
open Go Go.RowKit

/-- Where a cut begins: at the capacity's end the old address stands. -/
def cutA (a : Option Addr) (l m s : Nat) : Option Addr := if m = l then a else a.map (·.add (l * s))
@[go_sem high] theorem cutA_zero (a : Option Addr) (m s : Nat) : cutA a 0 m s = a := by
  unfold cutA
  split
  · rfl
  · cases a <;> simp [Addr.add]
@[go_sem ↓ high] theorem sliced_cut (a : Option Addr) (l h m s : Nat) : sliced a l h m s = .slice (cutA a l m s) (h - l) (m - l) := rfl
theorem Span.cut {w : World} {A : Option Addr} {xs : List Value} (h : Span w A xs) (k : Nat) {cap : Nat} (hc : xs.length ≤ cap) : Span w (cutA A k cap 1) (xs.drop k) := by
  have := h.drop (k := k) hc
  unfold cutA
  simpa using this
theorem Span.cut2 {w : World} {A : Option Addr} {xs : List Value} (h : Span w A xs) (k m : Nat) {cap : Nat} (hc : xs.length ≤ cap) : Span w (cutA A k cap 1) ((xs.drop k).take m) := (h.cut k hc).take m
theorem Span.cut8 {w : World} {A : Option Addr} {l : List UInt8} (h : Span w A (u8s l)) (k : Nat) {cap : Nat} (hc : l.length ≤ cap) : Span w (cutA A k cap 1) (u8s (l.drop k)) := by
  rw [u8s_drop]
  exact h.cut k (by rw [length_u8s]; exact hc)
theorem Span.cut28 {w : World} {A : Option Addr} {l : List UInt8} (h : Span w A (u8s l)) (k m : Nat) {cap : Nat} (hc : l.length ≤ cap) : Span w (cutA A k cap 1) (u8s ((l.drop k).take m)) := by
  rw [u8s_take]
  exact (h.cut8 k hc).take m
theorem Span.take8 {w : World} {A : Option Addr} {l : List UInt8} (h : Span w A (u8s l)) (m : Nat) : Span w A (u8s (l.take m)) := by
  rw [u8s_take]
  exact h.take m
end Go.Proofs.YtampgimmodomoaaDoor

/- Values of layer 1: decimals, limbs; trim and limb walked. -/
namespace Go.Proofs.YtampgimmodomoaaDoor
open Go Go.RowKit

def decG (neg : Bool) (l : List UInt8) (s : Int) : Value := .agg #[.bool neg, .string ⟨l.toArray⟩, .int .i64 s]
def decV (d : Dc) : Value := decG d.neg (dtxt d.n) d.s
def noneV : Value := decG false [] 0
/-- A decimal and no error, or none and the error e. -/
def resV (o : Option Dc) (e : Int) : Value := match o with | some d => .tuple #[decV d, .int .i64 0] | none => .tuple #[noneV, .int .i64 e]
def u64 (x : Nat) : Value := .int .u64 (x : Int)
def u64s (l : List Nat) : List Value := l.map u64
theorem length_u64s (l : List Nat) : (u64s l).length = l.length := by simp [u64s]
theorem u64s_append (l m : List Nat) : u64s (l ++ m) = u64s l ++ u64s m := by simp [u64s]
theorem u64s_one (l : List Nat) : ∀ u ∈ u64s l, u.oneCell' = true := by
  intro u hu
  obtain ⟨c, _, rfl⟩ := List.mem_map.1 hu
  rfl
theorem u64s_take (l : List Nat) (n : Nat) : u64s (l.take n) = (u64s l).take n := by simp [u64s]
theorem infoU64 : (Tryd.prog.info? 73).map (fun i => (i.zero, i.size, i.bytes)) = some (some (.int .u64 0), 1, 8) := by kernel_rfl
/-- A slice that reads as limbs. -/
def LimA (w : World) (A : Option Addr) (c : Nat) (l : List Nat) : Prop := Span w A (u64s l) ∧ l.length ≤ c ∧ c ≤ 9223372036854775807
theorem LimA.kept {w w' : World} {A : Option Addr} {c : Nat} {l : List Nat} (h : LimA w A c l) (k : Kp [] w w') : LimA w' A c l := ⟨h.1.kept k, h.2⟩
theorem LimA.take {w : World} {A : Option Addr} {c : Nat} {l : List Nat} (h : LimA w A c l) (k : Nat) : LimA w A c (l.take k) := ⟨by rw [u64s_take]; exact h.1.take k, by have := h.2.1; rw [List.length_take]; omega, h.2.2⟩
theorem LimA.get {w : World} {A : Option Addr} {c : Nat} {l : List Nat} (h : LimA w A c l) {j : Nat} (hj : j < l.length) : ∃ ad, A = some ad ∧ w.cell? (ad.add j) = some (.int .u64 (l[j] : Int)) := by
  obtain ⟨ad, e, hc⟩ := h.1.get (j := j) (by rw [length_u64s]; exact hj)
  refine ⟨ad, e, ?_⟩
  rw [hc]
  simp [u64s, u64]
/-- Limbs of a number in a slice of just their length. -/
def NatA (w : World) (A : Option Addr) (c n : Nat) : Prop := LimA w A c (limbs n)
def limLen (n : Nat) : Nat := (limbs n).length
theorem trim_end (l : List Nat) (hl : Lims l) (k : Nat) (hk : k ≤ l.length) (hv : lval (l.take k) = lval l) (h0 : k = 0 ∨ lim l (k - 1) ≠ 0) : limbs (lval l) = l.take k := by
  rw [← hv]
  refine limbs_lval _ (hl.take k) ?_
  intro m e
  have h1 := congrArg List.length e
  rw [List.length_take, List.length_append, List.length_singleton] at h1
  rcases h0 with h0 | h0
  · omega
  · apply h0
    have h2 : (l.take k)[k - 1]? = (m ++ [0])[k - 1]? := by rw [e]
    rw [List.getElem?_take, if_pos (by omega), List.getElem?_append_right (by omega)] at h2
    have e2 : k - 1 - m.length = 0 := by omega
    rw [e2] at h2
    unfold lim
    rw [List.getD_eq_getElem?_getD, h2]
    rfl
theorem trim_step (l : List Nat) (k : Nat) (h : lim l k = 0) : lval (l.take k) = lval (l.take (k + 1)) := by
  rw [lval_take_succ, h, Nat.mul_zero]
  rfl
theorem lim_get {l : List Nat} {k : Nat} (h : k < l.length) : l[k] = lim l k := by
  unfold lim
  rw [List.getD_eq_getElem?_getD, List.getElem?_eq_getElem h]
  rfl
def sLen (v : Value) : Nat := match v with | .slice _ n _ => n | _ => 0
set_option maxRecDepth 100000 in
set_option maxHeartbeats 1600000 in
theorem trim_any (w : World) (A : Option Addr) (c : Nat) (l : List Nat) (n : Nat) (hn : n = l.length) (h : LimA w A c l) (hl : Lims l) :
    Calls Tryd.prog 95 #[.slice A n c] w fun e w' => e = .returned (.slice A (limLen (lval l)) c) ∧ NatA w A c (lval l) ∧ w' = w := by
  subst hn
  have h2 := h.2.1
  have h3 := h.2.2
  have H := hid h
  have Hl := hid hl
  clear h hl
  go_enter Tryd.func95, Tryd.ntmps95
  go_wp2_with fail
  go_loopw [0] (fun v wr => wr = w ∧ ∃ k : Nat, v = .slice A k c ∧ k ≤ l.length ∧ lval (l.take k) = lval l) (fun v _ => sLen v)
  case atStart => exact ⟨rfl, l.length, rfl, Nat.le_refl _, by rw [List.take_length]⟩
  case round =>
    obtain ⟨hwr, k, rfl, hk, hv⟩ := hrel
    have hwr2 := hwr.symm
    subst hwr2
    have Hv := hid hv
    clear hv
    have fin : ∀ k, k ≤ l.length → lval (l.take k) = lval l → (k = 0 ∨ lim l (k - 1) ≠ 0) → Ending.returned (.slice A k c) = .returned (.slice A (limLen (lval l)) c) ∧ NatA w A c (lval l) ∧ w = w := by
      intro k hk hv h0
      have e := trim_end l Hl.out k hk hv h0
      have e2 : limLen (lval l) = k := by unfold limLen; rw [e, List.length_take]; omega
      refine ⟨by rw [e2], ?_, rfl⟩
      unfold NatA
      rw [e]
      exact H.out.take k
    have Fin := hid fin
    clear fin
    rcases Nat.eq_zero_or_pos k with rfl | hk0
    · go_wp2_with fail
      go_ret
      obtain ⟨a1, a2, _⟩ := Fin.out 0 hk Hv.out (.inl rfl)
      exact ⟨a1, a2, rfl⟩
    · obtain ⟨m, rfl⟩ : ∃ m, k = m + 1 := ⟨k - 1, by omega⟩
      obtain ⟨ad, hA, hcell⟩ := H.out.get (j := m) (by omega)
      rw [lim_get (by omega)] at hcell
      subst hA
      obtain ⟨x, hx⟩ : ∃ x, x = lim l m := ⟨_, rfl⟩
      rw [← hx] at hcell
      have Hx := hid hx
      clear hx
      rcases Nat.eq_zero_or_pos x with rfl | hx0
      · have hst := trim_step l m Hx.out.symm
        have Hst := hid hst
        clear hst
        go_wp2_with fail
        go_roundw
        case rel => exact ⟨trivial, m, by go_num, by omega, by rw [Hst.out]; exact Hv.out⟩
        case measure => simp [sLen]
      · have b1 : ((x : Int) == 0) = false := by rw [beq_eq_false_iff_ne]; omega
        go_wp2_with fail
        go_ret
        obtain ⟨a1, a2, _⟩ := Fin.out (m + 1) hk Hv.out (.inr (by rw [Nat.add_sub_cancel, ← Hx.out]; omega))
        exact ⟨a1, a2, rfl⟩
set_option maxRecDepth 100000 in
theorem limb_any (w : World) (A : Option Addr) (c : Nat) (l : List Nat) (n : Nat) (hn : n = l.length) (h : LimA w A c l) (i : Nat) :
    Calls Tryd.prog 96 #[.slice A n c, .int .i64 (i : Int)] w fun e w' => e = .returned (.int .u64 (lim l i : Int)) ∧ w' = w := by
  subst hn
  have h2 := h.2.1
  have h3 := h.2.2
  by_cases hi : i < l.length
  · obtain ⟨ad, hA, hcell⟩ := h.get hi
    rw [lim_get hi] at hcell
    subst hA
    clear h
    go_enter Tryd.func96, Tryd.ntmps96
    go_wp2_with fail
    go_ret
    exact ⟨rfl, rfl⟩
  · have e : lim l i = 0 := by unfold lim; rw [List.getD_eq_getElem?_getD, List.getElem?_eq_none (by omega)]; rfl
    have He := hid e
    clear h e
    go_enter Tryd.func96, Tryd.ntmps96
    go_wp2_with fail
    go_ret
    exact ⟨by rw [He.out]; rfl, rfl⟩
end Go.Proofs.YtampgimmodomoaaDoor

/- natOf and digits of layer 1. -/
namespace Go.Proofs.YtampgimmodomoaaDoor
open Go Go.RowKit

/-- Limbs that a call has made. -/
def NatPost (w : World) (n : Nat) (e : Ending) (w' : World) : Prop := ∃ A c, e = .returned (.slice A (limLen n) c) ∧ NatA w' A c n ∧ Kp [] w w'
/-- Own of limbs. -/
def OwnL (w : World) (v : Value) (l : List Nat) : Prop := Own w 73 v l.length (u64s l)
theorem OwnL.shape {w : World} {v : Value} {l : List Nat} (h : OwnL w v l) : ∃ A c, v = .slice A l.length c ∧ LimA w A c l := by
  obtain ⟨A, c, rfl, h2, h3, h4, _⟩ := OwnN.shape (s := 1) h
  exact ⟨A, c, rfl, h2, h3, h4⟩
theorem step_digit {C : List UInt8} (hC : Digs C) {j : Nat} (h : j < C.length) (h9 : C.length ≤ 9) : val (C.take j) < 100000000 ∧ val (C.take (j + 1)) = val (C.take j) * 10 + (C[j].toNat - 48) ∧ 48 ≤ C[j].toNat ∧ C[j].toNat ≤ 57 := by
  have h1 := val_lt _ (hC.take j)
  have h2 : (C.take j).length ≤ 8 := by rw [List.length_take]; omega
  have h3 := hC _ (List.getElem_mem h)
  refine ⟨Nat.lt_of_lt_of_le h1 (Nat.pow_le_pow_right (by decide) h2), ?_, h3⟩
  rw [← List.take_append_getElem h, val_snoc]
set_option maxRecDepth 100000 in
set_option maxHeartbeats 3200000 in
theorem natOf_any (w : World) (l : List UInt8) (hl : Digs l) (hs : l.length ≤ 100000) : Calls Tryd.prog 53 #[.string ⟨l.toArray⟩] w (NatPost w (val l)) := by
  have hsz : (⟨l.toArray⟩ : ByteArray).size = l.length := size_mk l
  have hI := NatI.start l
  have Hl := hid hl
  have HI := hid hI
  clear hl hI
  go_enter Tryd.func53, Tryd.ntmps53
  go_wp2_with fail
  go_loopw [3, 4] (fun v va wr => New w wr v ∧ ∃ (t : Int) (out : List Nat), va = .int .i64 t ∧ -9 ≤ t ∧ t ≤ l.length ∧ NatI l out t.toNat ∧ OwnL wr v out ∧ out.length * 9 + t ≤ l.length) (fun _ va _ => (intOf va).toNat)
  case atStart => exact ⟨New.nil (Kp.refl _ _), l.length, [], rfl, by omega, by omega, HI.out, Own.nil _ _, by simp⟩
  case round =>
    obtain ⟨hn, t, out, rfl, ht, htl, hI, ho, hout⟩ := hrel
    by_cases hpos : 0 < t
    · obtain ⟨e, rfl⟩ : ∃ e : Nat, t = (e : Int) := ⟨t.toNat, by omega⟩
      rw [Int.toNat_natCast] at hI
      have hnext := hI.next Hl.out
      obtain ⟨q, hq⟩ : ∃ q, q = e - 9 := ⟨_, rfl⟩
      obtain ⟨C, hC⟩ : ∃ C, C = (l.take e).drop q := ⟨_, rfl⟩
      rw [← hq, ← hC] at hnext
      have hCl : C.length = e - q := by rw [hC, List.length_drop, List.length_take]; omega
      have hCd : Digs C := by rw [hC]; exact (Hl.out.take e).drop q
      have hx := extract_mk l q e
      rw [← hC] at hx
      have hmx : max 0 ((e : Int) - 9) = (q : Int) := by omega
      have hq1 : q ≤ e := by omega
      have hq2 : e ≤ l.length := by omega
      obtain ⟨m, hm⟩ : ∃ m, m = C.length := ⟨_, rfl⟩
      have hm9 : m ≤ 9 := by omega
      have hcv := fun W => conv_bytes W C m hm
      have Hnext := hid hnext
      have HC := hid hCd
      have Hm := hid hm
      have Hq := hid (And.intro hq hout)
      have hlt : val C < 1000000000 := by
        have h1 := val_lt _ hCd
        exact Nat.lt_of_lt_of_le h1 (show 10 ^ C.length ≤ 10 ^ 9 from Nat.pow_le_pow_right (by decide) (by omega))
      have Hlt := hid hlt
      have HI2 := hid hI
      clear hnext hC hCl hCd hq hm hI hout hlt htl ht
      have hb0 : decide (0 < e) = true := decide_eq_true (by omega)
      go_upto_region 7 with fail
      obtain ⟨W1, hW1⟩ : ∃ W1, W1 = Lib.bytesWorld wr 5 ⟨C.toArray⟩ := ⟨_, rfl⟩
      have kb : Kp [] wr W1 := by rw [hW1]; exact kp_bytes _ _
      have cb : ∀ j (h : j < C.length), W1.cell? ⟨wr.heap.size, j, none⟩ = some (.int .u8 (C[j].toNat : Int)) := fun j h => by rw [hW1]; exact bytes_cell wr C j h
      rw [← hW1]
      generalize grownCap wr m 0 5 = CAP
      have Hn := hid (hn.kept kb)
      have Ho := hid (ho.kept kb)
      have Cb := hid cb
      clear hW1 kb cb hn ho hcv hx hmx
      go_loopw [22, 5] (fun vj vx w1 => w1 = W1 ∧ ∃ j : Nat, vj = .int .i64 (j : Int) ∧ j ≤ m ∧ vx = .int .u64 ((val (C.take j) : Nat) : Int)) (fun vj _ _ => m - (intOf vj).toNat)
      case atStart => exact ⟨rfl, 0, rfl, by omega, rfl⟩
      case round =>
        obtain ⟨hwr, j, rfl, hj, rfl⟩ := hrel
        have hwr2 := hwr.symm
        subst hwr2
        by_cases hlt : j < m
        · obtain ⟨s1, s2, s3, s4⟩ := step_digit HC.out (j := j) (by rw [← Hm.out]; exact hlt) (by rw [← Hm.out]; exact hm9)
          have hcell := Cb.out j (by rw [← Hm.out]; exact hlt)
          obtain ⟨c, hc⟩ : ∃ c, c = (C[j]'(by rw [← Hm.out]; exact hlt)).toNat := ⟨_, rfl⟩
          obtain ⟨x, hx⟩ : ∃ x, x = val (C.take j) := ⟨_, rfl⟩
          rw [← hx] at s1 s2 ⊢
          rw [← hc] at s2 s3 s4 hcell
          have S2 := hid s2
          clear s2 hc hx
          go_wp2_with fail
          go_roundw
          case rel => exact ⟨trivial, j + 1, by go_num, by omega, by rw [S2.out]; go_num⟩
          case measure => simp [intOf]; omega
        · have hjm : j = C.length := by rw [← Hm.out]; omega
          rw [hjm, List.take_length]
          have hjm2 : C.length = m := Hm.out.symm
          rw [hjm2]
          clear hjm hjm2 hlt hj
          obtain ⟨x, hx⟩ : ∃ x, x = val C := ⟨_, rfl⟩
          rw [← hx]
          rw [← hx] at Hnext
          clear hx
          go_wp2_with (at_builtin; go_must (refine wpList_append1 rfl _ _ 59 rfl 73 (.int .u64 0) 8 Tryd.underlying59 infoU64 rfl _ _ _ rfl (Ho.out.kept ((Kp.refl _ _).alloc _)) _ 1 1 [.int .u64 (x : Int)] rfl (Span.of_new _ _ _ _) rfl (u64s_one [x]) ?_ ?_ ?_))
          · have := Hq.out.2; omega
          · have := Hq.out.2; omega
          intro v1 w1 ho1 hk1 hb1
          go_wp2_with fail
          go_roundw
          case rel =>
            have h9 := Hq.out
            refine ⟨(Hn.out.kept ((Kp.refl _ _).alloc _)).append hk1 hb1 (by simp), (e : Int) - 9, out ++ [x], by go_num, by omega, by omega, ?_, ?_, by rw [List.length_append]; simp only [List.length_singleton]; omega⟩
            · have e9 : ((e : Int) - 9).toNat = q := by omega
              rw [e9]
              exact Hnext.out
            · unfold OwnL
              rw [u64s_append, List.length_append]
              exact ho1
          case measure => simp [intOf]; omega
    · have e0 : t.toNat = 0 := by omega
      rw [e0] at hI
      have hd := hI.done
      have hlim := hI.1
      obtain ⟨A, c, rfl, hL⟩ := ho.shape
      have HF := hid (And.intro hd hn.kp)
      have hb0 : decide (0 < t) = false := decide_eq_false hpos
      clear hd hn hI ho e0
      go_wp2_with fail
      refine (trim_any _ A c out _ rfl hL hlim).mono ?_
      rintro e w2 ⟨rfl, hN, rfl⟩
      have HN := hid hN
      clear hL hlim hN
      go_wp2_with fail
      go_ret
      rw [HF.out.1] at HN
      exact ⟨A, c, by rw [HF.out.1]; rfl, HN.out, HF.out.2⟩
end Go.Proofs.YtampgimmodomoaaDoor

/- cmp of layer 1. -/
namespace Go.Proofs.YtampgimmodomoaaDoor
open Go Go.RowKit

theorem cmpN_len {a b : Nat} (h : limLen a ≠ limLen b) : cmpN a b = (limLen a : Int) - limLen b := if_pos h
theorem cmpN_lt {a b : Nat} (h : limLen a = limLen b) (k : Nat) (hk : k < limLen a) (hs : ∀ j, k < j → lim (limbs a) j = lim (limbs b) j) (hlt : lim (limbs a) k < lim (limbs b) k) : cmpN a b = -1 := by
  have := lval_cmp (lims_limbs a) h k hk hs hlt
  rw [lval_limbs, lval_limbs] at this
  unfold cmpN
  rw [if_neg (fun h2 => h2 h), if_pos this]
theorem cmpN_gt {a b : Nat} (h : limLen a = limLen b) (k : Nat) (hk : k < limLen a) (hs : ∀ j, k < j → lim (limbs a) j = lim (limbs b) j) (hlt : lim (limbs b) k < lim (limbs a) k) : cmpN a b = 1 := by
  have := lval_cmp (lims_limbs b) h.symm k (by unfold limLen at *; omega) (fun j hj => (hs j hj).symm) hlt
  rw [lval_limbs, lval_limbs] at this
  unfold cmpN
  rw [if_neg (fun h2 => h2 h), if_neg (by omega), if_pos this]
theorem cmpN_eq {a b : Nat} (h : limLen a = limLen b) (hs : ∀ j, 0 ≤ j → lim (limbs a) j = lim (limbs b) j) : cmpN a b = 0 := by
  have e : limbs a = limbs b := lim_ext h (fun j => hs j (Nat.zero_le _))
  have e2 := congrArg lval e
  rw [lval_limbs, lval_limbs] at e2
  unfold cmpN
  rw [if_neg (fun h2 => h2 h), if_neg (by omega), if_neg (by omega)]
theorem lim_small (n i : Nat) : lim (limbs n) i < 1000000000 := lim_lt (lims_limbs n) i
set_option maxRecDepth 100000 in
set_option maxHeartbeats 3200000 in
theorem cmp_any (w : World) (A B : Option Addr) (c d a b : Nat) (hA : NatA w A c a) (hB : NatA w B d b) (h1 : limLen a ≤ 10000) (h2 : limLen b ≤ 10000) :
    Calls Tryd.prog 59 #[.slice A (limLen a) c, .slice B (limLen b) d] w fun e w' => e = .returned (.int .i64 (cmpN a b)) ∧ Kp [] w w' := by
  have ha9 : limLen a ≤ c := hA.2.1
  have hb9 : limLen b ≤ d := hB.2.1
  have HA := hid hA
  have HB := hid hB
  clear hA hB
  obtain ⟨n, hn⟩ : ∃ n, n = limLen a := ⟨_, rfl⟩
  obtain ⟨k, hk⟩ : ∃ k, k = limLen b := ⟨_, rfl⟩
  obtain ⟨R, hR⟩ : ∃ R, R = cmpN a b := ⟨_, rfl⟩
  rw [← hR]
  rw [← hn] at h1 ha9 ⊢
  rw [← hk] at h2 hb9 ⊢
  by_cases hne : n ≠ k
  · have hr : R = (n : Int) - (k : Int) := by rw [hR, cmpN_len (by rw [← hn, ← hk]; exact hne), hn, hk]
    have Hr := hid hr
    have hb : ((n : Int) != (k : Int)) = true := by rw [bne_iff_ne]; omega
    clear hr hR hn hk hne
    go_enter Tryd.func59, Tryd.ntmps59
    go_wp2_with fail
    go_ret
    exact ⟨by rw [Hr.out]; rfl, Kp.refl _ _⟩
  · have hnk : n = k := by omega
    subst hnk
    have hb : ((n : Int) != (n : Int)) = false := by rw [bne_eq_false_iff_eq]
    have HR := hid (And.intro hR (And.intro hn hk))
    clear hR hn hk hne
    go_enter Tryd.func59, Tryd.ntmps59
    go_wp2_with fail
    go_loopw [5] (fun v wr => Kp [] w wr ∧ ∃ j : Nat, v = .int .i64 ((j : Int) - 1) ∧ j ≤ n ∧ ∀ t, j ≤ t → lim (limbs a) t = lim (limbs b) t) (fun v _ => (intOf v + 1).toNat)
    case atStart =>
      refine ⟨Kp.refl _ _, n, rfl, Nat.le_refl _, fun t ht => ?_⟩
      have e1 : limLen a ≤ t := by rw [← HR.out.2.1]; exact ht
      have e2 : limLen b ≤ t := by rw [← HR.out.2.2]; exact ht
      unfold lim
      rw [List.getD_eq_getElem?_getD, List.getD_eq_getElem?_getD, List.getElem?_eq_none e1, List.getElem?_eq_none e2]
    case round =>
      obtain ⟨hk, j, rfl, hj, hs⟩ := hrel
      rcases Nat.eq_zero_or_pos j with rfl | hj0
      · have hr := cmpN_eq (by rw [← HR.out.2.1, ← HR.out.2.2]) hs
        have Hr := hid hr
        have Hk := hid hk
        clear hr hs hk
        go_wp2_with fail
        go_ret
        exact ⟨by rw [HR.out.1, Hr.out]; rfl, Hk.out⟩
      · obtain ⟨i, rfl⟩ : ∃ i, j = i + 1 := ⟨j - 1, by omega⟩
        obtain ⟨ad, hAe, hca⟩ := (HA.out.kept hk).get (j := i) (by have := HR.out.2.1; unfold limLen at this; omega)
        obtain ⟨bd, hBe, hcb⟩ := (HB.out.kept hk).get (j := i) (by have := HR.out.2.2; unfold limLen at this; omega)
        rw [lim_get] at hca hcb
        subst hAe hBe
        have hxl := lim_small a i
        have hyl := lim_small b i
        have hlt := fun h => cmpN_lt (a := a) (b := b) (by rw [← HR.out.2.1, ← HR.out.2.2]) i (by have := HR.out.2.1; omega) (fun t ht => hs t ht) h
        have hgt := fun h => cmpN_gt (a := a) (b := b) (by rw [← HR.out.2.1, ← HR.out.2.2]) i (by have := HR.out.2.1; omega) (fun t ht => hs t ht) h
        obtain ⟨x, hx⟩ : ∃ x, x = lim (limbs a) i := ⟨_, rfl⟩
        obtain ⟨y, hy⟩ : ∃ y, y = lim (limbs b) i := ⟨_, rfl⟩
        rw [← hx] at hca hxl
        rw [← hy] at hcb hyl
        simp only [← hx, ← hy] at hlt hgt
        have hei : ((i + 1 : Nat) : Int) - 1 = (i : Int) := by omega
        rw [hei]
        have i1 : (i : Int) < (n : Int) := by omega
        have i2 : (0 : Int) ≤ (i : Int) := by omega
        have Hs := hid (And.intro hs (And.intro hx hy))
        have Hk := hid hk
        have Hlt := hid hlt
        have Hgt := hid hgt
        clear hs hx hy hk hlt hgt hei
        rcases (show x < y ∨ x = y ∨ y < x from by omega) with h | h | h
        · have b1 : ((x : Int) != (y : Int)) = true := by rw [bne_iff_ne]; omega
          have b2 : decide ((x : Int) < (y : Int)) = true := decide_eq_true (by omega)
          have b3 : decide (x < y) = true := decide_eq_true h
          have Hr := hid (Hlt.out h)
          go_wp2_with fail
          go_quiet (fail)
          go_wp2_with fail
          go_quiet (fail)
          go_wp2_with fail
          go_ret
          exact ⟨by rw [HR.out.1, Hr.out]; rfl, (Hk.out.drewN _).drewN _⟩
        · subst h
          have b1 : ((x : Int) != (x : Int)) = false := by rw [bne_eq_false_iff_eq]
          go_wp2_with fail
          go_quiet (fail)
          go_wp2_with fail
          go_roundw
          case rel =>
            refine ⟨Hk.out.drewN _, i, by go_num, by omega, fun t ht => ?_⟩
            rcases (show t = i ∨ i + 1 ≤ t from by omega) with rfl | h
            · rw [← Hs.out.2.1, ← Hs.out.2.2]
            · exact Hs.out.1 t h
          case measure => simp [intOf]
        · have b1 : ((x : Int) != (y : Int)) = true := by rw [bne_iff_ne]; omega
          have b2 : decide ((x : Int) < (y : Int)) = false := decide_eq_false (by omega)
          have b3 : decide (x < y) = false := decide_eq_false (by omega)
          have Hr := hid (Hgt.out h)
          go_wp2_with fail
          go_quiet (fail)
          go_wp2_with fail
          go_quiet (fail)
          go_wp2_with fail
          go_ret
          exact ⟨by rw [HR.out.1, Hr.out]; rfl, (Hk.out.drewN _).drewN _⟩
end Go.Proofs.YtampgimmodomoaaDoor

/- plus and minus of layer 1. -/
namespace Go.Proofs.YtampgimmodomoaaDoor
open Go Go.RowKit

theorem ownL_snoc {w : World} {v : Value} {l : List Nat} {x n : Nat} (hn : l.length = n) (h : Own w 73 v (n + 1) (u64s l ++ [.int .u64 (x : Int)])) : OwnL w v (l ++ [x]) := by
  subst hn
  unfold OwnL
  rw [u64s_append, List.length_append]
  exact h
set_option maxRecDepth 100000 in
set_option maxHeartbeats 3200000 in
theorem plus_any (w : World) (A B : Option Addr) (c d : Nat) (l m : List Nat) (n k : Nat) (hn : n = l.length) (hk : k = m.length) (hA : LimA w A c l) (hB : LimA w B d m) (hl : Lims l) (hm : Lims m) (h1 : l.length ≤ 10000) (h2 : m.length ≤ 10000) :
    Calls Tryd.prog 58 #[.slice A n c, .slice B k d] w (NatPost w (lval l + lval m)) := by
  have HA := hid hA
  have HB := hid hB
  have Hl := hid hl
  have Hm := hid hm
  clear hA hB hl hm
  obtain ⟨K, hK⟩ : ∃ K, K = max n k := ⟨_, rfl⟩
  have hmx : max (n : Int) (k : Int) = (K : Int) := by omega
  have hK9 : K ≤ 10000 := by omega
  have Hn := hid (And.intro hn (And.intro hk hK))
  clear hn hk hK h1 h2
  go_enter Tryd.func58, Tryd.ntmps58
  go_wp2_with fail
  go_loopw [5, 6, 14] (fun v vc vi wr => New w wr v ∧ ∃ (i q : Nat) (out : List Nat), vi = .int .i64 (i : Int) ∧ i ≤ K ∧ vc = .int .u64 (q : Int) ∧ PlusI l m out q i ∧ OwnL wr v out) (fun _ _ vi _ => K - (intOf vi).toNat)
  case atStart => exact ⟨New.nil (Kp.refl _ _), 0, 0, [], rfl, by omega, rfl, PlusI.start l m, Own.nil _ _⟩
  case round =>
    obtain ⟨hn, i, q, out, rfl, hi, rfl, hI, ho⟩ := hrel
    have hlen := hI.1
    have hq1 := hI.2.2.1
    have ca := fun W (hW : LimA W A c l) => limb_any W A c l n Hn.out.1 hW i
    have cb := fun W (hW : LimA W B d m) => limb_any W B d m k Hn.out.2.1 hW i
    by_cases hlt : i < K
    · have la := lim_lt Hl.out i
      have lb := lim_lt Hm.out i
      obtain ⟨x, hx⟩ : ∃ x, x = lim l i + lim m i + q := ⟨_, rfl⟩
      have hnext := hI.next Hl.out Hm.out hx
      obtain ⟨a, ha⟩ : ∃ a, a = lim l i := ⟨_, rfl⟩
      obtain ⟨b, hb⟩ : ∃ b, b = lim m i := ⟨_, rfl⟩
      simp only [← ha] at ca
      simp only [← hb] at cb
      rw [← ha, ← hb] at hx
      rw [← ha] at la
      rw [← hb] at lb
      obtain ⟨r, hr⟩ : ∃ r, r = x % Bs := ⟨_, rfl⟩
      obtain ⟨u, hu⟩ : ∃ u, u = x / Bs := ⟨_, rfl⟩
      rw [← hr, ← hu] at hnext
      unfold Bs at la lb hr hu
      have hr2 : (x : Int) % 1000000000 = (r : Int) := by omega
      have hu2 : (x : Int) / 1000000000 = (u : Int) := by omega
      have hx2 : (a : Int) + (b : Int) + (q : Int) = (x : Int) := by omega
      have hx3 : x < 3000000000 := by omega
      have Hnext := hid hnext
      have Ho := hid ho
      have Hnw := hid hn
      clear hnext ha hb hx hr hu hI ho hn
      go_wp2_with fail
      refine (ca _ (HA.out.kept Hnw.out.kp)).mono ?_
      rintro e w2 ⟨rfl, rfl⟩
      go_wp2_with fail
      refine (cb _ (HB.out.kept Hnw.out.kp)).mono ?_
      rintro e w2 ⟨rfl, rfl⟩
      go_wp2_with (at_builtin; go_must (refine wpList_append1 rfl _ _ 59 rfl 73 (.int .u64 0) 8 Tryd.underlying59 infoU64 rfl _ _ _ rfl (Ho.out.kept ((Kp.refl _ _).alloc _)) _ 1 1 [.int .u64 (r : Int)] rfl (Span.of_new _ _ _ _) rfl (u64s_one [r]) ?_ ?_ ?_))
      · omega
      · omega
      intro v1 w1 ho1 hk1 hb1
      go_wp2_with fail
      go_roundw
      case rel => exact ⟨(Hnw.out.kept ((Kp.refl _ _).alloc _)).append hk1 hb1 (by simp), i + 1, u, out ++ [r], by go_num, by omega, rfl, Hnext.out, ownL_snoc hlen ho1⟩
      case measure => simp [intOf]; omega
    · have hd := hI.done (by have := Hn.out; omega) (by have := Hn.out; omega)
      have Hd := hid hd
      have Hnw := hid hn
      have Ho := hid ho
      clear hI hd hn ho ca cb
      go_wp2_with (at_builtin; go_must (refine wpList_append1 rfl _ _ 59 rfl 73 (.int .u64 0) 8 Tryd.underlying59 infoU64 rfl _ _ _ rfl (Ho.out.kept ((Kp.refl _ _).alloc _)) _ 1 1 [.int .u64 (q : Int)] rfl (Span.of_new _ _ _ _) rfl (u64s_one [q]) ?_ ?_ ?_))
      · omega
      · omega
      intro v1 w1 ho1 hk1 hb1
      have hl2 : (out ++ [q]).length = i + 1 := by rw [List.length_append, hlen]; rfl
      obtain ⟨A1, c1, hv, hL⟩ := (ownL_snoc hlen ho1).shape
      rw [hl2] at hv
      subst hv
      have Hl2 := hid hl2
      have HF := hid ((Hnw.out.kept ((Kp.refl _ _).alloc _)).append hk1 hb1 (by simp)).kp
      clear ho1 hk1 hb1 hl2 hlen
      go_wp2_with fail
      refine (trim_any _ A1 c1 (out ++ [q]) (i + 1) Hl2.out.symm hL Hd.out.1).mono ?_
      rintro e w2 ⟨rfl, hN, rfl⟩
      have HN := hid hN
      clear hL hN
      go_wp2_with fail
      go_ret
      rw [Hd.out.2] at HN
      exact ⟨A1, c1, by rw [Hd.out.2]; rfl, HN.out, HF.out⟩
set_option maxRecDepth 100000 in
set_option maxHeartbeats 3200000 in
theorem minus_any (w : World) (A B : Option Addr) (c d : Nat) (l m : List Nat) (n k : Nat) (hn : n = l.length) (hk : k = m.length) (hA : LimA w A c l) (hB : LimA w B d m) (hl : Lims l) (hm : Lims m) (h1 : l.length ≤ 10000) (h2 : m.length ≤ l.length) (hle : lval m ≤ lval l) :
    Calls Tryd.prog 60 #[.slice A n c, .slice B k d] w (NatPost w (lval l - lval m)) := by
  have hAc := hA.2.1
  have HA := hid hA
  have HB := hid hB
  have Hl := hid hl
  have Hm := hid hm
  have Hle := hid hle
  have hn9 : n ≤ 10000 := by omega
  have hnc : n ≤ c := by omega
  have Hn := hid (And.intro hn (And.intro hk h2))
  clear hA hB hl hm hn hk h1 h2 hle hAc
  go_enter Tryd.func60, Tryd.ntmps60
  go_wp2_with fail
  go_loopw [5, 6, 11] (fun v vc vi wr => New w wr v ∧ ∃ (i q : Nat) (out : List Nat), vi = .int .i64 (i : Int) ∧ i ≤ n ∧ vc = .int .u64 (q : Int) ∧ MinusI l m out q i ∧ OwnL wr v out) (fun _ _ vi _ => n - (intOf vi).toNat)
  case atStart => exact ⟨New.nil (Kp.refl _ _), 0, 0, [], rfl, by omega, rfl, MinusI.start l m, Own.nil _ _⟩
  case round =>
    obtain ⟨hn, i, q, out, rfl, hi, rfl, hI, ho⟩ := hrel
    have hlen := hI.1
    have hq1 := hI.2.2.1
    have cb := fun W (hW : LimA W B d m) => limb_any W B d m k Hn.out.2.1 hW i
    by_cases hlt : i < n
    · have la := lim_lt Hl.out i
      have lb := lim_lt Hm.out i
      obtain ⟨ad, hAe, hcell⟩ := (HA.out.kept hn.kp).get (j := i) (by rw [← Hn.out.1]; exact hlt)
      rw [lim_get (by rw [← Hn.out.1]; exact hlt)] at hcell
      subst hAe
      obtain ⟨x, hx⟩ : ∃ x, x = lim l i + Bs - lim m i - q := ⟨_, rfl⟩
      have hx9 : x + lim m i + q = lim l i + Bs := by omega
      have hnext := hI.next Hl.out Hm.out hx9
      obtain ⟨a, ha⟩ : ∃ a, a = lim l i := ⟨_, rfl⟩
      obtain ⟨b, hb⟩ : ∃ b, b = lim m i := ⟨_, rfl⟩
      rw [← ha] at hcell
      simp only [← hb] at cb
      rw [← ha, ← hb] at hx9
      rw [← ha] at la
      rw [← hb] at lb
      obtain ⟨r, hr⟩ : ∃ r, r = x % Bs := ⟨_, rfl⟩
      obtain ⟨u, hu⟩ : ∃ u, u = x / Bs := ⟨_, rfl⟩
      rw [← hr, ← hu] at hnext
      obtain ⟨z, hz⟩ : ∃ z, z = 1 - u := ⟨_, rfl⟩
      rw [← hz] at hnext
      unfold Bs at la lb hr hu hx9
      have hr2 : (x : Int) % 1000000000 = (r : Int) := by omega
      have hu2 : (x : Int) / 1000000000 = (u : Int) := by omega
      have hu1 : u ≤ 1 := by omega
      have hz2 : 1 - (u : Int) = (z : Int) := by omega
      obtain ⟨a1, ha1⟩ : ∃ a1 : Nat, (a : Int) + 1000000000 = (a1 : Int) := ⟨a + 1000000000, by omega⟩
      obtain ⟨b1, hb1⟩ : ∃ b1 : Nat, (a1 : Int) - (b : Int) = (b1 : Int) := ⟨a1 - b, by omega⟩
      have hx2 : (b1 : Int) - (q : Int) = (x : Int) := by omega
      have hx3 : x < 3000000000 := by omega
      have w1 : IntKind.u64.wrap ((a : Int) + 1000000000) = (a1 : Int) := by rw [IntWalk.u64_in _ (by omega)]; exact ha1
      have w2 : IntKind.u64.wrap ((a1 : Int) - (b : Int)) = (b1 : Int) := by rw [IntWalk.u64_in _ (by omega)]; exact hb1
      have w3 : IntKind.u64.wrap ((b1 : Int) - (q : Int)) = (x : Int) := by rw [IntWalk.u64_in _ (by omega)]; exact hx2
      have c1 : (i : Int) < (n : Int) := by omega
      have c2 : (0 : Int) ≤ (i : Int) := by omega
      have Hnext := hid hnext
      have Ho := hid ho
      have Hnw := hid hn
      clear hnext ha hb hx hr hu hI ho hn hx9 hz ha1 hb1 hx2
      go_wp2_with fail
      go_quiet ((go_at_call 96; exact Calls.quiet_of_same (cb _ (HB.out.kept (Hnw.out.kp.drewN _)))))
      go_wp2_with (at_builtin; go_must (refine wpList_append1 rfl _ _ 59 rfl 73 (.int .u64 0) 8 Tryd.underlying59 infoU64 rfl _ _ _ rfl (Ho.out.kept (((Kp.refl _ _).drewN _).alloc _)) _ 1 1 [.int .u64 (r : Int)] rfl (Span.of_new _ _ _ _) rfl (u64s_one [r]) ?_ ?_ ?_))
      · omega
      · omega
      intro v1 w1 ho1 hk1 hb1
      go_wp2_with fail
      go_roundw
      case rel => exact ⟨(Hnw.out.kept (((Kp.refl _ _).drewN _).alloc _)).append hk1 hb1 (by simp), i + 1, z, out ++ [r], by go_num, by omega, rfl, Hnext.out, ownL_snoc hlen ho1⟩
      case measure => simp [intOf]; omega
    · have hd := hI.done (by have := Hn.out; omega) (by have := Hn.out; omega) Hle.out
      have hlim := hI.2.1
      have Hd := hid (And.intro hd hlim)
      have Hnw := hid hn
      obtain ⟨A1, c1, hv, hL⟩ := ho.shape
      rw [hlen] at hv
      subst hv
      have Hlen := hid hlen
      clear hI hd hn ho cb hlim hlen
      go_wp2_with fail
      refine (trim_any _ A1 c1 out i Hlen.out.symm hL Hd.out.2).mono ?_
      rintro e w2 ⟨rfl, hN, rfl⟩
      have HN := hid hN
      clear hL hN
      go_wp2_with fail
      go_ret
      rw [Hd.out.1] at HN
      exact ⟨A1, c1, by rw [Hd.out.1]; rfl, HN.out, Hnw.out.kp⟩
end Go.Proofs.YtampgimmodomoaaDoor

/- digits of layer 1. -/
namespace Go.Proofs.YtampgimmodomoaaDoor
open Go Go.RowKit

theorem infoByte : (Tryd.prog.info? 5).map (fun i => (i.zero, i.size, i.bytes)) = some (some (.int .u8 0), 1, 1) := by kernel_rfl
theorem u8s_set (l : List UInt8) (p : Nat) (c : UInt8) : u8s (l.set p c) = (u8s l).set p (u8 c) := by simp [u8s, List.map_set]
theorem zeros_u8s (n : Nat) : List.replicate n (Value.int .u8 0) = u8s (List.replicate n 0) := by simp [u8s, u8]
set_option maxRecDepth 100000 in
set_option maxHeartbeats 3200000 in
theorem digits_any (w : World) (A : Option Addr) (c : Nat) (l : List Nat) (n : Nat) (hn : n = l.length) (h : LimA w A c l) (hl : Lims l) (hs : l.length ≤ 10000) :
    Calls Tryd.prog 55 #[.slice A n c] w fun e w' => e = .returned (.string ⟨(digN (l.length * 9) (lval l)).toArray⟩) ∧ Kp [] w w' := by
  have H := hid h
  have Hl := hid hl
  have h2 := h.2.1
  clear h hl
  obtain ⟨N, hN⟩ : ∃ N, N = lval l := ⟨_, rfl⟩
  rw [← hN]
  have HN := hid hN
  clear hN
  rw [← hn]
  rw [← hn] at hs h2
  have Hn := hid hn
  clear hn
  obtain ⟨T, hT⟩ : ∃ T, T = n * 9 := ⟨_, rfl⟩
  have hTi : (n : Int) * 9 = (T : Int) := by omega
  have hT9 : T ≤ 90000 := by omega
  rw [← hT]
  have HT := hid hT
  clear hT
  go_enter Tryd.func55, Tryd.ntmps55
  go_wp2_with (refine wpList_make1 rfl _ _ 32 rfl 5 (.int .u8 0) 1 Tryd.underlying32 infoByte rfl .i64 .i64 (T : Int) (T : Int) T rfl rfl rfl rfl (by omega) (by omega) ?_)
  intro w1 Z hZ hg hk
  have hc0 : Cells w1 w.heap.size 5 (u8s (outD T 0 N)) := by rw [outD_zero, ← zeros_u8s, ← hZ.out]; exact hg
  have Hc0 := hid (And.intro hc0 hk)
  clear hc0 hk hg hZ
  go_wp2_with fail
  go_loopw [13] (fun vi wr => Kp [] w wr ∧ ∃ i : Nat, vi = .int .i64 (i : Int) ∧ i ≤ n ∧ Cells wr w.heap.size 5 (u8s (outD T (i * 9) N))) (fun vi _ => n - (intOf vi).toNat)
  case atStart => exact ⟨Hc0.out.2, 0, rfl, by omega, by rw [Nat.zero_mul]; exact Hc0.out.1⟩
  case round =>
    obtain ⟨hk, i, rfl, hi, hc⟩ := hrel
    by_cases hlt : i < n
    · obtain ⟨ad, hA, hcell⟩ := (H.out.kept hk).get (j := i) (by rw [← Hn.out]; exact hlt)
      rw [lim_get (by rw [← Hn.out]; exact hlt)] at hcell
      have hxl : lim l i < 1000000000 := lim_lt Hl.out i
      obtain ⟨x, hx⟩ : ∃ x, x = lim l i := ⟨_, rfl⟩
      rw [← hx] at hcell hxl
      have Hx := hid hx
      have Hk := hid hk
      have Hc := hid hc
      subst hA
      clear hx hk hc
      go_upto_region 6 with fail
      go_loopw [18, 5] (fun vj vx w1 => Kp [] w w1 ∧ ∃ k : Nat, vj = .int .i64 (k : Int) ∧ k ≤ 9 ∧ vx = .int .u64 ((lim l i / 10 ^ k : Nat) : Int) ∧ Cells w1 w.heap.size 5 (u8s (outD T (i * 9 + k) N))) (fun vj _ _ => 9 - (intOf vj).toNat)
      case atStart => exact ⟨Hk.out, 0, rfl, by omega, by rw [← Hx.out]; simp, by rw [Nat.add_zero]; exact Hc.out⟩
      case round =>
        obtain ⟨hk1, k, rfl, hk9, rfl, hc1⟩ := hrel
        by_cases hltk : k < 9
        · have hdl := digN_limb l Hl.out i k hltk
          rw [← HN.out] at hdl
          have hi9 : i * 9 + k < T := by have := HT.out; omega
          have hset := outD_set (T := T) N hi9
          obtain ⟨p, hp⟩ : ∃ p, p = T - 1 - (i * 9 + k) := ⟨_, rfl⟩
          rw [← hp] at hset
          have hpi : (T : Int) - 1 - (i : Int) * 9 - (k : Int) = (p : Int) := by omega
          have hpT : p < T := by omega
          have hlen := length_outD (T := T) (j := i * 9 + k) N (by omega)
          obtain ⟨y, hy⟩ : ∃ y, y = lim l i / 10 ^ k := ⟨_, rfl⟩
          rw [← hy] at hdl
          have hyl : y < 1000000000 := by rw [hy, ← Hx.out]; exact Nat.lt_of_le_of_lt (Nat.div_le_self _ _) hxl
          have hy2 : lim l i / 10 ^ (k + 1) = y / 10 := by rw [hy, Nat.pow_succ, Nat.div_div_eq_div_mul]
          rw [← hy]
          have hput := hc1.put p (.int .u8 (48 + (y : Int) % 10))
          have hnew : (u8s (outD T (i * 9 + k) N)).set p (.int .u8 (48 + (y : Int) % 10)) = u8s (outD T (i * 9 + k + 1) N) := by
            rw [← hset, u8s_set]
            congr 1
            unfold u8
            rw [dg_toNat, hdl]
            congr 1
          rw [hnew] at hput
          have hcp := hc1.cell p
          obtain ⟨old, hold⟩ : ∃ u, (u8s (outD T (i * 9 + k) N))[p]? = some u := ⟨_, List.getElem?_eq_getElem (by rw [length_u8s, hlen]; exact hpT)⟩
          rw [hold] at hcp
          have hfp := hc1.free p
          have hk2 := hk1.setCell (p := ⟨w.heap.size, p, none⟩) (fun h => by simp at h) (.int .u8 (48 + (y : Int) % 10))
          have HP := hid (And.intro hput (And.intro hk2 hy2))
          clear hput hk2 hy2 hnew hset hdl hy hp hlen hc1 hk1 hold
          go_wp2_with fail
          go_roundw
          case rel => exact ⟨HP.out.2.1, k + 1, by go_num, by omega, by rw [HP.out.2.2]; go_num, HP.out.1⟩
          case measure => simp [intOf]; omega
        · have hk99 : k = 9 := by omega
          subst hk99
          have Hc1 := hid (And.intro hc1 hk1)
          clear hc1 hk1
          obtain ⟨y, hy⟩ : ∃ y, y = lim l i / 10 ^ 9 := ⟨_, rfl⟩
          rw [← hy]
          clear hy
          go_wp2_with fail
          go_roundw
          case rel => exact ⟨Hc1.out.2, i + 1, by go_num, by omega, by rw [Nat.add_mul]; exact Hc1.out.1⟩
          case measure => simp [intOf]; omega
    · have hin : i = n := by omega
      subst hin
      have hT2 : i * 9 = T := HT.out.symm
      rw [hT2, outD_all] at hc
      have htx := run_text (P := Tryd.prog) (src := 32) (e := 5) (dst := 9) Tryd.underlying32 Tryd.underlying5 Tryd.underlying9 (Span.of_cells hc) T T (length_digN T N)
      have Hk := hid hk
      clear hk hc hT2
      go_wp2_with fail
      go_ret
      exact ⟨rfl, Hk.out⟩
end Go.Proofs.YtampgimmodomoaaDoor

/- times of layer 1. -/
namespace Go.Proofs.YtampgimmodomoaaDoor
open Go Go.RowKit

theorem u64s_set (l : List Nat) (p : Nat) (x : Nat) : u64s (l.set p x) = (u64s l).set p (u64 x) := by simp [u64s, List.map_set]
theorem zeros_u64s (n : Nat) : List.replicate n (Value.int .u64 0) = u64s (List.replicate n 0) := by simp [u64s, u64]
set_option maxRecDepth 100000 in
set_option maxHeartbeats 6400000 in
theorem times_any (w : World) (A B : Option Addr) (c d : Nat) (l m : List Nat) (n k : Nat) (hn : n = l.length) (hk : k = m.length) (hA : LimA w A c l) (hB : LimA w B d m) (hl : Lims l) (hm : Lims m) (h1 : l.length ≤ 10000) (h2 : m.length ≤ 10000) :
    Calls Tryd.prog 54 #[.slice A n c, .slice B k d] w (NatPost w (lval l * lval m)) := by
  have hAc := hA.2.1
  have HA := hid hA
  have HB := hid hB
  have Hl := hid hl
  have Hm := hid hm
  have hn9 : n ≤ 10000 := by omega
  have hk9 : k ≤ 10000 := by omega
  have hnc : n ≤ c := by omega
  have hT0 := TimesI.start l m
  rw [← hn, ← hk] at hT0
  obtain ⟨T, hT⟩ : ∃ T, T = n + k + 1 := ⟨_, rfl⟩
  rw [← hT] at hT0
  have hTi : (n : Int) + (k : Int) + 1 = (T : Int) := by omega
  have hT9 : T ≤ 20001 := by omega
  have Hn := hid (And.intro hn (And.intro hk (And.intro hT hT0)))
  clear hA hB hl hm hn hk h1 h2 hAc hT hT0
  go_enter Tryd.func54, Tryd.ntmps54
  go_wp2_with (at_make; go_must (refine wpList_make1 rfl _ _ 59 rfl 73 (.int .u64 0) 8 Tryd.underlying59 infoU64 rfl .i64 .i64 (T : Int) (T : Int) T rfl rfl rfl rfl (by omega) (by omega) ?_))
  intro w1 Z hZ hg hkp
  have hc0 : Cells w1 w.heap.size 73 (u64s (List.replicate T 0)) := by rw [← zeros_u64s, ← hZ.out]; exact hg
  have Hc0 := hid (And.intro hc0 hkp)
  clear hc0 hkp hg hZ
  go_wp2_with fail
  go_loopw [20] (fun vi wr => Kp [] w wr ∧ ∃ (i : Nat) (out : List Nat), vi = .int .i64 (i : Int) ∧ i ≤ n ∧ TimesI l m out i ∧ Cells wr w.heap.size 73 (u64s out)) (fun vi _ => n - (intOf vi).toNat)
  case atStart => exact ⟨Hc0.out.2, 0, _, rfl, by omega, Hn.out.2.2.2, Hc0.out.1⟩
  case round =>
    obtain ⟨hkp, i, out0, rfl, hi, hI, hc⟩ := hrel
    by_cases hlt : i < n
    · obtain ⟨ad, hAe, hcell⟩ := (HA.out.kept hkp).get (j := i) (by rw [← Hn.out.1]; exact hlt)
      rw [lim_get (by rw [← Hn.out.1]; exact hlt)] at hcell
      have hxl : lim l i < 1000000000 := lim_lt Hl.out i
      have hR0 := RowI.start hI.2.1 m (lim l i) i
      have hout0 : out0.length = T := by rw [hI.1, ← Hn.out.1, ← Hn.out.2.1]; exact Hn.out.2.2.1.symm
      obtain ⟨x, hx⟩ : ∃ x, x = lim l i := ⟨_, rfl⟩
      rw [← hx] at hcell hxl hR0
      have Hx := hid (And.intro hx (And.intro hI hout0))
      have HR0 := hid (And.intro hR0 (And.intro hkp hc))
      subst hAe
      clear hx hkp hc hR0 hI hout0
      go_upto_region 7 with fail
      go_loopw [28, 8] (fun vj vc w1 => Kp [] w w1 ∧ ∃ (j q : Nat) (out : List Nat), vj = .int .i64 (j : Int) ∧ j ≤ k + 1 ∧ vc = .int .u64 (q : Int) ∧ RowI m out0 out x i q j ∧ (j = k + 1 → q = 0) ∧ Cells w1 w.heap.size 73 (u64s out)) (fun vj _ _ => k + 1 - (intOf vj).toNat)
      case atStart => exact ⟨HR0.out.2.1, 0, 0, out0, rfl, by omega, rfl, HR0.out.1, fun h => by omega, HR0.out.2.2⟩
      case round =>
        obtain ⟨hkp, j, q, out, rfl, hj, rfl, hR, hq0, hc⟩ := hrel
        by_cases hlt2 : j < k + 1
        · have cb := fun W (hW : LimA W B d m) => limb_any W B d m k Hn.out.2.1 hW j
          have lb : lim m j < 1000000000 := lim_lt Hm.out j
          obtain ⟨y, hy⟩ : ∃ y, y = lim out (i + j) + x * lim m j + q := ⟨_, rfl⟩
          have hij : i + j < T := by have := Hn.out.2.2.1; omega
          obtain ⟨hnext, hyl⟩ := hR.next Hm.out hxl (by rw [Hx.out.2.2]; exact hij) hy
          have hlast : j + 1 = k + 1 → y / Bs = 0 := fun h => by
            have hjk : j = k := by omega
            rw [hjk, Hn.out.2.1] at hR hy
            exact row_carry Hx.out.2.1 hR hy
          have hol : lim out (i + j) < 1000000000 := lim_lt hR.2.1 _
          have hql : q < 1000000000 := hR.2.2.1
          have holn : out.length = T := by rw [hR.1]; exact Hx.out.2.2
          have hcell := hc.cell (i + j)
          have hcv : (u64s out)[i + j]? = some (.int .u64 (lim out (i + j) : Int)) := by
            rw [← lim_get (by omega)]
            simp [u64s, u64, holn, hij]
          rw [hcv] at hcell
          have hfree := hc.free (i + j)
          obtain ⟨o, ho⟩ : ∃ o, o = lim out (i + j) := ⟨_, rfl⟩
          obtain ⟨b, hb⟩ : ∃ b, b = lim m j := ⟨_, rfl⟩
          simp only [← hb] at cb
          rw [← ho, ← hb] at hy
          rw [← ho] at hcell hol
          rw [← hb] at lb
          have hmul : x * b ≤ 999999999 * 999999999 := Nat.mul_le_mul (by omega) (by omega)
          obtain ⟨p, hp⟩ : ∃ p, p = x * b := ⟨_, rfl⟩
          rw [← hp] at hy hmul
          have hp2 : (x : Int) * (b : Int) = (p : Int) := by rw [hp]; exact (Int.natCast_mul x b).symm
          obtain ⟨r, hr⟩ : ∃ r, r = y % Bs := ⟨_, rfl⟩
          obtain ⟨u, hu⟩ : ∃ u, u = y / Bs := ⟨_, rfl⟩
          rw [← hr, ← hu] at hnext
          rw [← hu] at hlast
          unfold Bs at hr hu
          have hput := hc.put (i + j) (.int .u64 (r : Int))
          have hnew : (u64s out).set (i + j) (.int .u64 (r : Int)) = u64s (out.set (i + j) r) := by rw [u64s_set]; rfl
          rw [hnew] at hput
          have w1 : IntKind.u64.wrap ((x : Int) * (b : Int)) = (p : Int) := by rw [hp2]; exact IntWalk.u64_in _ (by omega)
          obtain ⟨s1, hs1⟩ : ∃ s1, s1 = o + p := ⟨_, rfl⟩
          have w2 : IntKind.u64.wrap ((o : Int) + (p : Int)) = (s1 : Int) := by rw [IntWalk.u64_in _ (by omega)]; omega
          have w3 : IntKind.u64.wrap ((s1 : Int) + (q : Int)) = (y : Int) := by rw [IntWalk.u64_in _ (by omega)]; omega
          have hr2 : (y : Int) % 1000000000 = (r : Int) := by omega
          have hu2 : (y : Int) / 1000000000 = (u : Int) := by omega
          obtain ⟨z, hz⟩ : ∃ z, z = i + j := ⟨_, rfl⟩
          rw [← hz] at hput hnext hcell hfree hij
          have wz : IntKind.i64.wrap ((i : Int) + (j : Int)) = (z : Int) := by rw [IntWalk.i64_in _ (by omega)]; omega
          have hz2 : (i : Int) + (j : Int) = (z : Int) := by omega
          have z1 : (0 : Int) ≤ (z : Int) := by omega
          have z2 : (z : Int) < (T : Int) := by omega
          have hyb : y ≤ 1000000000000000000 := by omega
          have hjk2 : decide ((j : Int) < (k : Int) + 1) = true := decide_eq_true (by omega)
          have Hnext := hid (And.intro hnext (And.intro hlast hput))
          have Hk := hid hkp
          clear hnext hlast hput hnew hkp hc hcv hR hq0 hol hql holn ho hb hy hp hr hu hs1 hz hmul hp2 hyl lb
          go_wp2_with fail
          go_quiet ((go_at_call 96; exact Calls.quiet_of_same (cb _ (HB.out.kept (Hk.out.drewN _)))))
          clear w1 w2 w3 wz
          go_wp2_with fail
          go_roundw
          case rel => exact ⟨(Hk.out.drewN _).setCell (p := ⟨w.heap.size, z, none⟩) (fun h => by simp at h) _, j + 1, u, out.set z r, by go_num, by omega, rfl, Hnext.out.1, Hnext.out.2.1, Hnext.out.2.2⟩
          case measure => simp [intOf]; omega
        · have hjk : j = k + 1 := by omega
          have hq := hq0 hjk
          subst hq
          rw [hjk] at hR
          rw [Hn.out.2.1] at hR
          have hN : TimesI l m out (i + 1) := Hx.out.2.1.next (by rw [← Hx.out.1]; exact hR) rfl
          have HF := hid (And.intro hN (And.intro hkp hc))
          subst hjk
          clear hN hkp hc hR hq0
          go_wp2_with fail
          go_roundw
          case rel => exact ⟨HF.out.2.1, i + 1, out, by go_num, by omega, HF.out.1, HF.out.2.2⟩
          case measure => simp [intOf]; omega
    · obtain ⟨hd1, hd2⟩ := hI.done (by have := Hn.out.1; omega)
      have hlen : out0.length = T := by rw [hI.1, ← Hn.out.1, ← Hn.out.2.1]; exact Hn.out.2.2.1.symm
      have hL : LimA wr (some ⟨w.heap.size, 0, none⟩) T out0 := ⟨Span.of_cells hc, by omega, by omega⟩
      have Hd := hid (And.intro hd1 (And.intro hd2 hlen))
      have Hk := hid hkp
      clear hI hd1 hd2 hlen hkp hc
      go_wp2_with fail
      refine (trim_any _ _ T out0 T Hd.out.2.2.symm hL Hd.out.1).mono ?_
      rintro e w2 ⟨rfl, hN, rfl⟩
      have HN := hid hN
      clear hL hN
      go_wp2_with fail
      go_ret
      rw [Hd.out.2.1] at HN
      exact ⟨_, T, by rw [Hd.out.2.1]; rfl, HN.out, Hk.out⟩
end Go.Proofs.YtampgimmodomoaaDoor

