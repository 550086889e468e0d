/- Trees in memory; Hidden. -/
import Derived.Test.YtpeldjihalldkaaDoorRA
import Derived.Test.YtpeldjihalldkaaDoorRB
import Derived.Test.YtpeldjihalldkaaDoorShelf
import Derived.Laws.BitsAllLaws
import Derived.IntWalk
import Derived.Test.YtpeldjihalldkaaDoorProg
import Derived.Test.YtpeldjihalldkaaDoorChecked
import Derived.Lib.ValidU
import Derived.Test.YtpeldjihalldkaaDoorQParts
import Derived.Lib.OthersKept
import Derived.Lib.FrozenHead2
import Derived.Laws.Externs
import Derived.Deep.Cut
namespace Go.Proofs.YtpeldjihalldkaaDoor
open Go Go.RowKit Go.Lib

/-- A number in a value: of one that is no number the empty one. -/
def vN (o : Option Dc) : Bool := match o with | some d => d.neg | none => false
def vD (o : Option Dc) : Txt := match o with | some d => dtxt d.n | none => []
def vS (o : Option Dc) : Int := match o with | some d => (d.s : Int) | none => 0
/-- A value's nine cells. -/
def vC (k m : Int) (n : Bool) (l : Txt) (z : Int) (x : Txt) (A : Option Addr) (nk ck : Nat) (B : Option Addr) (nb cb : Nat) (code : Int) : List Value :=
  [.int .i64 k, .int .u64 m, .bool n, .string ⟨l.toArray⟩, .int .i64 z, .string ⟨x.toArray⟩, .slice A nk ck, .slice B nb cb, .int .i64 code]
/-- A row of texts, as it is handed on. -/
structure KeysAt (w : World) (A : Option Addr) (c : Nat) (l : List Txt) : Prop where
  le : l.length ≤ c
  top : c ≤ 9223372036854775807
  at_ : ∀ (i : Nat) x, l[i]? = some x → ∃ g, A = some ⟨g, 0, none⟩ ∧ w.cell? ⟨g, i, none⟩ = some (.string ⟨x.toArray⟩)
theorem KeysAt.kept {w w' : World} {A : Option Addr} {c : Nat} {l : List Txt} (h : KeysAt w A c l) (k : Kp [] w w') : KeysAt w' A c l :=
  ⟨h.le, h.top, fun i x hi => by obtain ⟨g, hg, hat⟩ := h.at_ i x hi; exact ⟨g, hg, k.cell hat (by simp)⟩⟩
/-- A row of values: where its cells lie. -/
structure KidsAt (w : World) (B : Option Addr) (c : Nat) (n : Nat) (ks : Nat → List Value) : Prop where
  le : n ≤ c
  top : c ≤ 9223372036854775807
  at_ : ∀ i, i < n → ∃ g, B = some ⟨g, 0, none⟩ ∧ ∀ (j : Nat) u, (ks i)[j]? = some u → w.cell? ⟨g, 9 * i + j, none⟩ = some u
theorem KidsAt.kept {w w' : World} {B : Option Addr} {c n : Nat} {ks : Nat → List Value} (h : KidsAt w B c n ks) (k : Kp [] w w') : KidsAt w' B c n ks :=
  ⟨h.le, h.top, fun i hi => by obtain ⟨g, hg, hat⟩ := h.at_ i hi; exact ⟨g, hg, fun j u hj => k.cell (hat j u hj) (by simp)⟩⟩
/-- A tree in memory, by its cells. -/
inductive Rep (w : World) : Vl → List Value → Prop where
  | mk (k m : Nat) (num : Option Dc) (t : Txt) (keys : List Txt) (kids : List Vl) (code : Nat) (A : Option Addr) (ck : Nat) (B : Option Addr) (cb : Nat) (ks : Nat → List Value)
      (hA : KeysAt w A ck keys) (hB : KidsAt w B cb kids.length ks) (hr : ∀ (i : Nat) v, kids[i]? = some v → Rep w v (ks i)) :
      Rep w (.mk k m num t keys kids code) (vC k m (vN num) (vD num) (vS num) t A keys.length ck B kids.length cb code)
theorem Rep.kept {w w' : World} (k : Kp [] w w') {v : Vl} {cs : List Value} (h : Rep w v cs) : Rep w' v cs := by
  induction h with
  | mk k' m num t keys kids code A ck B cb ks hA hB hr ih => exact .mk k' m num t keys kids code A ck B cb ks (hA.kept k) (hB.kept k) ih
theorem Rep.len {w : World} {v : Vl} {cs : List Value} (h : Rep w v cs) : cs.length = 9 := by cases h; rfl
theorem size_at : ∀ (l : List Vl) (i : Nat) v, l[i]? = some v → sizeV v ≤ sizes l
  | [], _, _, h => by cases h
  | v :: r, 0, _, h => by
    injection h with h
    subst h
    unfold sizes
    omega
  | v :: r, i + 1, u, h => by
    have := size_at r i u h
    unfold sizes
    omega
set_option maxRecDepth 100000 in
theorem cwithin_any (w : World) (a b : Nat) (ha : a < 18446744073709551616) (hb : b < 18446744073709551616) :
    Calls Tryd.prog 43 #[.int .u64 (a : Int), .int .u64 (b : Int)] w fun e w' => e = .returned (.bool (decide (a ||| b = b))) ∧ w' = w := by
  have hor := u64_or_nat a b (by simpa using ha) (by simpa using hb)
  obtain ⟨x, hx⟩ : ∃ x, x = a ||| b := ⟨_, rfl⟩
  rw [← hx] at hor ⊢
  have he : ((x : Int) == (b : Int)) = decide (x = b) := by rw [Bool.eq_iff_iff, beq_iff_eq, decide_eq_true_eq]; omega
  rw [← he]
  clear hx he ha hb
  go_enter Tryd.func43, Tryd.ntmps43
  go_wp2_with fail
  go_ret
  exact ⟨rfl, rfl⟩
/-- A value as an argument. -/
def vV (k m : Int) (n : Bool) (l : Txt) (z : Int) (x : Txt) (A : Option Addr) (nk ck : Nat) (B : Option Addr) (nb cb : Nat) (code : Int) : Value :=
  .agg #[.int .i64 k, .int .u64 m, .bool n, .string ⟨l.toArray⟩, .int .i64 z, .string ⟨x.toArray⟩, .slice A nk ck, .slice B nb cb, .int .i64 code]
set_option maxRecDepth 100000 in
theorem hidden_cells (w : World) (k : Int) (m : Nat) (n : Bool) (l : Txt) (z : Int) (x : Txt) (A : Option Addr) (nk ck : Nat) (B : Option Addr) (nb cb : Nat) (code : Int) (cl : Nat) (hm : m < 18446744073709551616) (hc : cl < 18446744073709551616) :
    Calls Tryd.prog 16 #[.agg #[.int .i64 k, .int .u64 (m : Int), .bool n, .string ⟨l.toArray⟩, .int .i64 z, .string ⟨x.toArray⟩, .slice A nk ck, .slice B nb cb, .int .i64 code], .int .u64 (cl : Int)] w fun e w' => e = .returned (.bool (hidB m cl)) ∧ Kp [] w w' := by
  have q := fun W => cwithin_any W m cl hm hc
  have hb : hidB m cl = !decide (m ||| cl = cl) := rfl
  rw [hb]
  obtain ⟨b, hb⟩ : ∃ b, b = decide (m ||| cl = cl) := ⟨_, rfl⟩
  simp only [← hb] at q ⊢
  have hk0 : Kp [] w (w.alloc (.cells #[.int .i64 k, .int .u64 (m : Int), .bool n, .string ⟨l.toArray⟩, .int .i64 z, .string ⟨x.toArray⟩, .slice A nk ck, .slice B nb cb, .int .i64 code] 31)) := (Kp.refl _ _).alloc _
  have HK := hid hk0
  clear hb hm hc hk0
  go_enter Tryd.func16, Tryd.ntmps16
  go_wp2_with fail
  (with_reducible refine (q _).mono ?_)
  rintro e w2 ⟨rfl, hw⟩
  subst hw
  go_wp2_with fail
  go_ret
  exact ⟨rfl, HK.out⟩
end Go.Proofs.YtpeldjihalldkaaDoor

/- Nothing more is asked of this program. -/
namespace Go.Proofs.YtpeldjihalldkaaDoor
end Go.Proofs.YtpeldjihalldkaaDoor

/- quote.Valid and quote.Runes; and the reference's Parts, Valid, Cut. -/
namespace Go.Proofs.YtpeldjihalldkaaDoor
open Go Go.RowKit

def validS (s : ByteArray) : Bool := Lib.validD s.data.toList
end Go.Proofs.YtpeldjihalldkaaDoor

/- A strings.Builder that the call has made: what WriteByte, WriteString, WriteRune, Len, String do. (The cut has no panic in copyCheck: the shelf's writers do not lie at it, so they are walked here.) -/
namespace Go.Proofs.YtpeldjihalldkaaDoor
open Go Go.RowKit

theorem infoByte9 : (Tryd.prog.info? 5).map (fun i => (i.zero, i.size, i.bytes)) = some (some (.int .u8 0), 1, 1) := by kernel_rfl
/-- A builder in block b that holds these bytes. -/
def Bld (w : World) (B b : Nat) (l : List UInt8) : Prop := Lib.IsBuilderF 103 5 B b (Lib.byteCells l) w
/-- What a writer leaves. -/
def BldPost (w : World) (B b : Nat) (l : List UInt8) (w' : World) : Prop := Bld w' B b l ∧ Below B w w' ∧ Lib.OthersKept 5 (some b) w w'
theorem Bld.fresh (w : World) : Bld (w.alloc (.cells #[.pointer none, .slice none 0 0] 103)) w.heap.size w.heap.size [] :=
  .inl ⟨Nat.le_refl _, .slice none 0 0, heap_alloc_new w _, ⟨rfl, .inl ⟨rfl, rfl⟩⟩, by simp [Value.ownBlock]⟩
set_option maxHeartbeats 1000000 in
set_option maxRecDepth 100000 in
theorem copyCheck_any (B b : Nat) (bs : List Value) (w : World) (h : Lib.IsBuilderF 103 5 B b bs w) :
    Calls Tryd.prog 87 #[.pointer (some ⟨b, 0, none⟩)] w fun e w' => e = .returned (.tuple #[]) ∧ Lib.BuilderAtF 103 5 B b (.pointer (some ⟨b, 0, none⟩)) bs w' ∧ Below B w w' ∧ Lib.OthersKept 5 (some b) w w' := by
  rcases h with h | h
  · have h0 := h.cell0
    have hfz := h.frozen0
    have hsh : w.shape? b = some (103, 2) := by
      obtain ⟨_, v, hb, _⟩ := h
      simp [World.shape?, hb]
    have hsz : (Tryd.prog.info? 103).map (·.size) = some 2 := by kernel_rfl
    obtain ⟨j, hj, hjs⟩ := Option.map_eq_some_iff.1 hsz
    have hlies : liesAt Tryd.prog Tryd.prog.depth 103 (2 / Tryd.prog.cellsOf 103) 0 103 1 = true := by kernel_rfl
    have hto := Lib.run_to_unsafe (P := Tryd.prog) (w := w) ⟨b, 0, none⟩ Tryd.underlying100 Tryd.underlying129 hj (by rw [hjs]; decide) hsh (Nat.zero_lt_succ 1)
    have hfrom := Lib.run_from_unsafe (P := Tryd.prog) (w := w) ⟨b, 0, none⟩ Tryd.underlying129 Tryd.underlying100 hj hsh hlies
    have hesc : (callFunc 97 #[.pointer (some ⟨b, 0, none⟩)]).run Tryd.prog w = .ok (.value (.pointer (some ⟨b, 0, none⟩))) w := by
      rw [run_callFunc_extern Tryd.func97 (by kernel_rfl) (by kernel_rfl) (by kernel_rfl) (e := Extern.AbiNoEscape.same) (by kernel_rfl), Lib.run_noEscape]
      rfl
    clear hsh hj hjs hsz hlies
    go_enter Tryd.func87, Tryd.ntmps87
    go_wp2_with fail
    go_end0
    exact ⟨rfl, h.used _, (Below.refl B w).setCell (p := ⟨b, 0, none⟩) h.1 _, (Lib.OthersKept.refl _ _ w).setCell ⟨b, 0, none⟩ rfl _⟩
  · have h0 := h.cell0
    obtain ⟨j, hj, -⟩ := Option.map_eq_some_iff.1 (show (Tryd.prog.info? 103).map (·.size) = some 2 by kernel_rfl)
    have hneq := Lib.run_neq_ptr_same (P := Tryd.prog) w ⟨b, 0, none⟩ Tryd.underlying100 hj
    clear hj
    go_enter Tryd.func87, Tryd.ntmps87
    go_wp2_with fail
    go_end0
    exact ⟨rfl, h, Below.refl B _, Lib.OthersKept.refl _ _ _⟩

/-- Behind an append to the buffer, when it is stored. -/
theorem bld_end {w w1 w2 : World} {B b : Nat} {v v' : Value} {l m : List UInt8} (hB : B ≤ b) (hb1 : Below B w w1) (hk1 : Lib.OthersKept 5 (some b) w w1) (hBw : B ≤ w1.heap.size)
    (hbk : w1.heap[b]? = some (.cells #[.pointer (some ⟨b, 0, none⟩), v] 103 (0, 0))) (hne : v.ownBlock ≠ some b) (hown : w1.ownsRowF B 5 1 v (Lib.byteCells l).length (Lib.byteCells l)) (hgrow : w1.grownBy w2 v.ownBlock)
    (hown' : w2.ownsRowF B 5 1 v' (Lib.byteCells (l ++ m)).length (Lib.byteCells (l ++ m))) :
    BldPost w B b (l ++ m) (w2.setCell ⟨b, 1, none⟩ v') ∧ w2.cell? ⟨b, 0, none⟩ = some (.pointer (some ⟨b, 0, none⟩)) ∧ w2.cell? ⟨b, 1, none⟩ = some v ∧ w2.frozen? ⟨b, 1, none⟩ = false := by
  have hlt : b < w1.heap.size := by
    rcases Nat.lt_or_ge b w1.heap.size with h' | h'
    · exact h'
    · simp [Array.getElem?_eq_none h'] at hbk
  have hb2 : w2.heap[b]? = some (.cells #[.pointer (some ⟨b, 0, none⟩), v] 103 (0, 0)) := by
    rw [hgrow.block b hlt (fun e => hne e.symm)]
    exact hbk
  refine ⟨⟨.inr (Lib.BuilderAtF.put (T := 103) (e := 5) hB hb2 hown' (by decide)), ?_, (hk1.grown hgrow (Lib.ownsRowF_kind hown)).setCell ⟨b, 1, none⟩ rfl _⟩, ?_, ?_, Lib.frozen_of_heap hb2 1⟩
  · exact (hb1.grown hgrow hBw (fun k hk => (hown.lt k hk).1)).setCell (p := ⟨b, 1, none⟩) hB _
  · rw [Lib.cell_of_heap hb2]; rfl
  · rw [Lib.cell_of_heap hb2]; rfl
theorem shapeF {w : World} {B n : Nat} {v : Value} {xs : List Value} (h : w.ownsRowF B 5 1 v n xs) : ∃ ao cap, v = .slice ao n cap := by
  rcases h.2 with ⟨hv, h0⟩ | ⟨g, cap, cur, fz, hv, _⟩
  · exact ⟨none, 0, by rw [hv, h0]⟩
  · exact ⟨_, _, hv⟩
theorem cells_snoc (l : List UInt8) (c : UInt8) : Lib.byteCells l ++ [.int .u8 (c.toNat : Int)] = Lib.byteCells (l ++ [c]) := by rw [Lib.byteCells_append]; rfl
set_option maxHeartbeats 1000000 in
set_option maxRecDepth 100000 in
theorem wbyte_any (w : World) (B b : Nat) (l : List UInt8) (c : UInt8) (z : Int) (hz : z = (c.toNat : Int)) (h : Bld w B b l) (hlen : l.length ≤ 100000000) (hBw : B ≤ w.heap.size) :
    Calls Tryd.prog 66 #[.pointer (some ⟨b, 0, none⟩), .int .u8 z] w fun e w' => e = .returned .nilIface ∧ BldPost w B b (l ++ [c]) w' := by
  subst hz
  obtain ⟨i0, hi, hz0, hz1, hz2⟩ := info_parts infoByte9
  have Hi := hid (And.intro hi (And.intro hz0 (And.intro hz1 hz2)))
  clear hi hz0 hz1 hz2
  have hl9 := Lib.byteCells_length l
  have Hl := hid hl9
  clear hl9
  go_enter Tryd.func66, Tryd.ntmps66
  go_wp2_with fail
  refine (copyCheck_any B b _ w h).mono ?_
  rintro e w1 ⟨rfl, h1, hb1, hk1⟩
  obtain ⟨hB, v, hbk, hown, hne⟩ := h1
  have hsz := hb1.size
  have c0 : w1.cell? ⟨b, 0, none⟩ = some (.pointer (some ⟨b, 0, none⟩)) := by rw [Lib.cell_of_heap hbk]; rfl
  have c1 : w1.cell? ⟨b, 1, none⟩ = some v := by rw [Lib.cell_of_heap hbk]; rfl
  have hb1' := hb1.alloc (by omega) (.cells #[.int .u8 (c.toNat : Int)] 5)
  have hk1' := hk1.alloc (.cells #[.int .u8 (c.toNat : Int)] 5)
  have hbk' : (w1.alloc (.cells #[.int .u8 (c.toNat : Int)] 5)).heap[b]? = some (.cells #[.pointer (some ⟨b, 0, none⟩), v] 103 (0, 0)) := by
    rw [Lib.alloc_old w1 _ b (by
      rcases Nat.lt_or_ge b w1.heap.size with h' | h'
      · exact h'
      · simp [Array.getElem?_eq_none h'] at hbk)]
    exact hbk
  have HH := hid (And.intro hb1' (And.intro hk1' (And.intro hbk' hne)))
  have hown1 := hown.alloc (.cells #[.int .u8 (c.toNat : Int)] 5)
  clear hb1' hk1' hbk' hne hb1 hk1
  go_wp2_with (at_builtin; refine wpList_append_ownF _ rfl _ _ 101 rfl B 5 i0 (.int .u8 0) 1 1 Tryd.underlying101 Hi.out.1 Hi.out.2.1 Hi.out.2.2.1 Hi.out.2.2.2 rfl (by decide) _ _ _ rfl hown1 ⟨w1.heap.size, 0, none⟩ 1 1 [.int .u8 (c.toNat : Int)] rfl rfl ?c1 ?c2 ?c3 ?c4 ?c5 ?_)
  case c1 =>
    intro j u hj
    obtain ⟨ad, e, hc⟩ := Span.of_new w1 5 (0, 0) [.int .u8 (c.toNat : Int)] j u hj
    injection e with e
    subst e
    exact hc
  case c2 =>
    intro u hu
    rw [List.mem_singleton.1 hu]
    rfl
  case c3 => rw [Hl.out]; unfold maxLen; omega
  case c4 => rw [Hl.out]; omega
  case c5 => simp; omega
  intro v' w2 hown' hgrow _
  rw [cells_snoc] at hown'
  obtain ⟨hfin, d0, d1, f1⟩ := bld_end (m := [c]) hB HH.out.1 HH.out.2.1 (by simp; omega) HH.out.2.2.1 HH.out.2.2.2 hown1 hgrow (by
    have e : (Lib.byteCells (l ++ [c])).length = (Lib.byteCells l).length + 1 := by rw [Lib.byteCells_length, Lib.byteCells_length]; simp
    rw [e]; exact hown')
  obtain ⟨ao, cap, rfl⟩ := shapeF hown'
  have Fin := hid hfin
  clear hfin hown' hgrow hown1 hown
  go_wp2_with fail
  go_ret
  exact ⟨rfl, Fin.out⟩
set_option maxHeartbeats 1000000 in
set_option maxRecDepth 100000 in
theorem wstr_any (w : World) (B b : Nat) (l : List UInt8) (s : ByteArray) (h : Bld w B b l) (hlen : l.length ≤ 100000000) (hs : s.size ≤ 100000000) (hBw : B ≤ w.heap.size) :
    Calls Tryd.prog 68 #[.pointer (some ⟨b, 0, none⟩), .string s] w fun e w' => e = .returned (.tuple #[.int .i64 s.size, .nilIface]) ∧ BldPost w B b (l ++ s.data.toList) w' := by
  obtain ⟨i0, hi, hz0, hz1, hz2⟩ := info_parts infoByte9
  have Hi := hid (And.intro hi (And.intro hz0 (And.intro hz1 hz2)))
  clear hi hz0 hz1 hz2
  have hl9 := Lib.byteCells_length l
  have Hl := hid hl9
  clear hl9
  go_enter Tryd.func68, Tryd.ntmps68
  go_wp2_with fail
  refine (copyCheck_any B b _ w h).mono ?_
  rintro e w1 ⟨rfl, h1, hb1, hk1⟩
  obtain ⟨hB, v, hbk, hown, hne⟩ := h1
  have hsz := hb1.size
  have c0 : w1.cell? ⟨b, 0, none⟩ = some (.pointer (some ⟨b, 0, none⟩)) := by rw [Lib.cell_of_heap hbk]; rfl
  have c1 : w1.cell? ⟨b, 1, none⟩ = some v := by rw [Lib.cell_of_heap hbk]; rfl
  have HH := hid (And.intro hb1 (And.intro hk1 (And.intro hbk hne)))
  clear hbk hne hb1 hk1
  go_wp2_with (at_builtin; refine Lib.wpList_append_own_stringF _ rfl _ _ 101 9 rfl B 5 i0 Tryd.underlying101 Tryd.underlying9 Hi.out.1 Hi.out.2.1 Hi.out.2.2.1 Hi.out.2.2.2 _ _ _ rfl hown s rfl ?c3 ?c4 ?c5 ?_)
  case c3 => rw [Hl.out]; unfold maxLen; omega
  case c4 => rw [Hl.out]; omega
  case c5 => omega
  intro v' w2 hown' hgrow _
  rw [Lib.strCells_eq, ← Lib.byteCells_append] at hown'
  obtain ⟨hfin, d0, d1, f1⟩ := bld_end (m := s.data.toList) hB HH.out.1 HH.out.2.1 (by omega) HH.out.2.2.1 HH.out.2.2.2 hown hgrow (by
    have e : (Lib.byteCells (l ++ s.data.toList)).length = (Lib.byteCells l).length + s.size := by rw [Lib.byteCells_length, Lib.byteCells_length, List.length_append, Array.length_toList]; rfl
    rw [e]; exact hown')
  obtain ⟨ao, cap, rfl⟩ := shapeF hown'
  have Fin := hid hfin
  clear hfin hown' hgrow hown
  go_wp2_with fail
  go_ret2
  exact ⟨rfl, Fin.out⟩
set_option maxHeartbeats 1000000 in
set_option maxRecDepth 100000 in
theorem wrune_any (w : World) (B b : Nat) (l : List UInt8) (r : Int) (hr0 : -2147483648 ≤ r) (hr1 : r ≤ 2147483647) (h : Bld w B b l) (hlen : l.length ≤ 100000000) (hBw : B ≤ w.heap.size) :
    Calls Tryd.prog 67 #[.pointer (some ⟨b, 0, none⟩), .int .i32 r] w fun e w' => e = .returned (.tuple #[.int .i64 (Lib.runeCells r).length, .nilIface]) ∧ BldPost w B b (l ++ Lib.encodeRune r) w' := by
  have hl9 := Lib.byteCells_length l
  have hk4 := Lib.runeCells_le r
  have Hl := hid hl9
  clear hl9
  go_enter Tryd.func67, Tryd.ntmps67
  go_wp2_with fail
  refine (copyCheck_any B b _ w h).mono ?_
  rintro e w1 ⟨rfl, h1, hb1, hk1⟩
  obtain ⟨hB, v, hbk, hown, hne⟩ := h1
  have hsz := hb1.size
  obtain ⟨ao, cap, rfl⟩ := shapeF hown
  have c0 : w1.cell? ⟨b, 0, none⟩ = some (.pointer (some ⟨b, 0, none⟩)) := by rw [Lib.cell_of_heap hbk]; rfl
  have c1 : w1.cell? ⟨b, 1, none⟩ = some (.slice ao (Lib.byteCells l).length cap) := by rw [Lib.cell_of_heap hbk]; rfl
  rw [Hl.out] at c1
  have HH := hid (And.intro hb1 (And.intro hk1 (And.intro hbk hne)))
  clear hbk hne hb1 hk1
  go_wp2_with fail
  rw [← Hl.out]
  refine (Tryd.utf8_AppendRune_row B _ (Lib.byteCells l).length (Lib.byteCells l) r hr0 hr1 w1 hown (by rw [Hl.out]; omega) (by omega)).mono ?_
  rintro e w2 ⟨v', rfl, hown', o, hgrow⟩
  have hlt : b < w1.heap.size := by
    rcases Nat.lt_or_ge b w1.heap.size with h' | h'
    · exact h'
    · have := HH.out.2.2.1
      simp [Array.getElem?_eq_none h'] at this
  rw [← Lib.byteCells_encodeRune, ← Lib.byteCells_append] at hown'
  obtain ⟨hfin, d0, d1, f1⟩ := bld_end (m := Lib.encodeRune r) hB (HH.out.1.alloc (by omega) o) (HH.out.2.1.alloc o) (by simp; omega) (by rw [Lib.alloc_old w1 _ b hlt]; exact HH.out.2.2.1) HH.out.2.2.2 (hown.alloc o) hgrow (by
    have e : (Lib.byteCells (l ++ Lib.encodeRune r)).length = (Lib.byteCells l).length + (Lib.byteCells (Lib.encodeRune r)).length := by rw [Lib.byteCells_append, List.length_append]
    rw [e]; exact hown')
  have hq : (Lib.byteCells (Lib.encodeRune r)).length = (Lib.runeCells r).length := by rw [Lib.byteCells_encodeRune]
  rw [hq, Hl.out] at hown'
  rw [Hl.out] at d1
  obtain ⟨ao', cap', rfl⟩ := shapeF hown'
  have Fin := hid hfin
  clear hfin hown' hgrow hown hq
  rw [Hl.out]
  generalize hq9 : (Lib.runeCells r).length = q at *
  have Hq9 := hid hq9
  clear hq9
  go_wp2_with fail
  go_ret2
  refine ⟨?_, Fin.out⟩
  have e : ((l.length : Int) + (q : Int) - (l.length : Int)) = (q : Int) := by omega
  rw [Hq9.out]
  simp [e]

theorem blen_any (w : World) (B b : Nat) (l : List UInt8) (h : Bld w B b l) : Calls Tryd.prog 102 #[.pointer (some ⟨b, 0, none⟩)] w fun e w' => e = .returned (.int .i64 l.length) ∧ w = w' :=
  (Tryd.Builder_Len_f B b _ w h).mono fun _ _ ⟨h1, h2⟩ => ⟨by rw [h1, Lib.byteCells_length], h2.symm⟩
theorem bstr_any (w : World) (B b : Nat) (l : List UInt8) (h : Bld w B b l) (hBw : B ≤ w.heap.size) : Calls Tryd.prog 69 #[.pointer (some ⟨b, 0, none⟩)] w fun e w' => e = .returned (.string ⟨l.toArray⟩) ∧ Below B w w' :=
  (Tryd.Builder_String_any_f B b l w h hBw).mono fun _ _ ⟨h1, _, h2⟩ => ⟨h1, h2⟩
end Go.Proofs.YtpeldjihalldkaaDoor

/- quote.Quote, of a valid text. -/
namespace Go.Proofs.YtpeldjihalldkaaDoor
open Go Go.RowKit

/-- While a text is quoted: the builder, and where the iterator stands. -/
def QS (w0 : World) (s : ByteArray) (K pos : Nat) (acc : List UInt8) (wr : World) : Prop :=
  Bld wr w0.heap.size w0.heap.size acc ∧ wr.heap[K]? = some (.stringIter s pos) ∧ Below w0.heap.size w0 wr ∧ w0.heap.size < K
theorem QS.put {w0 wr w' : World} {s : ByteArray} {K pos : Nat} {acc m : List UInt8} (h : QS w0 s K pos acc wr) (k : BldPost wr w0.heap.size w0.heap.size (acc ++ m) w') : QS w0 s K pos (acc ++ m) w' :=
  ⟨k.1, k.2.2.iter h.2.1 (by have := h.2.2.2; omega), h.2.2.1.trans k.2.1, h.2.2.2⟩
theorem QS.next {w0 wr : World} {s : ByteArray} {K pos : Nat} {acc : List UInt8} (h : QS w0 s K pos acc wr) (pos' : Nat) : QS w0 s K pos' acc (wr.iterAt K s pos') :=
  ⟨h.1.iterAt h.2.1 pos', Lib.iterAt_heap wr K s pos pos' h.2.1, Lib.below_iterAt h.2.2.1 (by have := h.2.2.2; omega) s pos', h.2.2.2⟩
theorem qs_byte {w0 wr : World} {s : ByteArray} {K pos : Nat} {acc : List UInt8} (h : QS w0 s K pos acc wr) (hl : acc.length ≤ 100000000) (c : UInt8) (z : Int) (hz : z = (c.toNat : Int)) :
    Calls Tryd.prog 66 #[.pointer (some ⟨w0.heap.size, 0, none⟩), .int .u8 z] wr fun e w' => e = .returned .nilIface ∧ QS w0 s K pos (acc ++ [c]) w' :=
  (wbyte_any wr _ _ acc c z hz h.1 hl h.2.2.1.size).mono fun _ _ ⟨h1, h2⟩ => ⟨h1, h.put h2⟩
theorem qs_str {w0 wr : World} {s : ByteArray} {K pos : Nat} {acc : List UInt8} (h : QS w0 s K pos acc wr) (hl : acc.length ≤ 100000000) (t : ByteArray) (ht : t.size ≤ 100000000) :
    Calls Tryd.prog 68 #[.pointer (some ⟨w0.heap.size, 0, none⟩), .string t] wr fun e w' => e = .returned (.tuple #[.int .i64 t.size, .nilIface]) ∧ QS w0 s K pos (acc ++ t.data.toList) w' :=
  (wstr_any wr _ _ acc t h.1 hl ht h.2.2.1.size).mono fun _ _ ⟨h1, h2⟩ => ⟨h1, h.put h2⟩
theorem qs_rune {w0 wr : World} {s : ByteArray} {K pos : Nat} {acc : List UInt8} (h : QS w0 s K pos acc wr) (hl : acc.length ≤ 100000000) (r : Int) (h0 : -2147483648 ≤ r) (h1 : r ≤ 2147483647) :
    Calls Tryd.prog 67 #[.pointer (some ⟨w0.heap.size, 0, none⟩), .int .i32 r] wr fun e w' => e = .returned (.tuple #[.int .i64 (Lib.runeCells r).length, .nilIface]) ∧ QS w0 s K pos (acc ++ Lib.encodeRune r) w' :=
  (wrune_any wr _ _ acc r h0 h1 h.1 hl h.2.2.1.size).mono fun _ _ ⟨h1, h2⟩ => ⟨h1, h.put h2⟩
theorem body_cons (c : UInt8) (t : List UInt8) : body (c :: t) = qb c ++ body t := rfl
theorem qb_len (c : UInt8) : 1 ≤ (qb c).length ∧ (qb c).length ≤ 6 := by
  rcases qb_shape c with ⟨h, _⟩ | ⟨x, h, _⟩ | ⟨h, _⟩ <;> rw [h] <;> simp
theorem body_len : ∀ l : List UInt8, l.length ≤ (body l).length ∧ (body l).length ≤ 6 * l.length
  | [] => ⟨Nat.le_refl _, Nat.le_refl _⟩
  | c :: t => by
    have h1 := qb_len c
    have h2 := body_len t
    rw [body_cons, List.length_append, List.length_cons]
    omega
/-- What the next rune of a valid text adds. -/
theorem body_next {l : List UInt8} (hne : l ≠ []) (hv : Lib.validD l = true) : Lib.validD (l.drop (wd l)) = true ∧ ((128 ≤ (Lib.decodeL l).1 ∧ body l = Lib.encodeRune ((Lib.decodeL l).1 : Int) ++ body (l.drop (wd l))) ∨
    ∃ c : UInt8, c.toNat < 128 ∧ (Lib.decodeL l).1 = c.toNat ∧ wd l = 1 ∧ body l = qb c ++ body (l.drop (wd l))) := by
  have hb : ¬ Bad l := fun hb => by rw [valid_no hb hne] at hv; cases hv
  refine ⟨by rw [← valid_yes hb hne]; exact hv, ?_⟩
  rcases Nat.lt_or_ge 1 (wd l) with h1 | h1
  · refine .inl ⟨?_, ?_⟩
    · have h2 : Lib.encodeRune ((Lib.decodeL l).1 : Int) = l.take (wd l) := Lib.encode_decode l hne hb
      rcases Nat.lt_or_ge (Lib.decodeL l).1 128 with h3 | h3
      · rw [encode_low h3] at h2
        have h4 := congrArg List.length h2
        rw [List.length_take] at h4
        have := wd_le l hne
        simp at h4
        omega
      · exact h3
    · have h2 : Lib.encodeRune ((Lib.decodeL l).1 : Int) = l.take (wd l) := Lib.encode_decode l hne hb
      have hh := high_bytes (l := l) (by omega)
      rw [h2]
      conv => lhs; rw [← List.take_append_drop (wd l) l, body_append, body_high _ hh]
  · obtain ⟨c, t, rfl, hc, hd⟩ := low_byte hb (by have := wd_pos l; omega) hne
    have hw : wd (c :: t) = 1 := by unfold wd; rw [hd]
    exact .inr ⟨c, hc, by rw [hd], hw, by rw [hw]; rfl⟩
theorem ne8 {c k : UInt8} (h : c.toNat ≠ k.toNat) : c ≠ k := fun e => h (by rw [e])
theorem qb_plain {c : UInt8} (h1 : 32 ≤ c.toNat) (h2 : c.toNat ≠ 127) (h3 : c.toNat ≠ 34) (h4 : c.toNat ≠ 92) : qb c = [c] := by
  have e1 : ¬ (c = 34 ∨ c = 92) := fun h => h.elim (ne8 (k := 34) h3) (ne8 (k := 92) h4)
  have e2 : c ≠ 10 := ne8 (k := 10) (by show c.toNat ≠ 10; omega)
  have e3 : c ≠ 13 := ne8 (k := 13) (by show c.toNat ≠ 13; omega)
  have e4 : c ≠ 9 := ne8 (k := 9) (by show c.toNat ≠ 9; omega)
  have e5 : ¬ (c.toNat < 32 ∨ c = 127) := fun h => h.elim (by omega) (ne8 (k := 127) h2)
  unfold qb
  rw [if_neg e1, if_neg e2, if_neg e3, if_neg e4, if_neg e5]
theorem qb_esc {c : UInt8} (h : (c.toNat < 32 ∧ c.toNat ≠ 10 ∧ c.toNat ≠ 13 ∧ c.toNat ≠ 9) ∨ c.toNat = 127) : qb c = [92, 117, 48, 48, hexB (c.toNat / 16), hexB (c.toNat % 16)] := by
  have e1 : ¬ (c = 34 ∨ c = 92) := fun h => h.elim (ne8 (k := 34) (by show c.toNat ≠ 34; omega)) (ne8 (k := 92) (by show c.toNat ≠ 92; omega))
  have e2 : c ≠ 10 := ne8 (k := 10) (by show c.toNat ≠ 10; omega)
  have e3 : c ≠ 13 := ne8 (k := 13) (by show c.toNat ≠ 13; omega)
  have e4 : c ≠ 9 := ne8 (k := 9) (by show c.toNat ≠ 9; omega)
  have e5 : c.toNat < 32 ∨ c = 127 := h.elim (fun h => .inl h.1) (fun h => .inr (UInt8.toNat_inj.1 h))
  unfold qb
  rw [if_neg e1, if_neg e2, if_neg e3, if_neg e4, if_pos e5]
theorem digits_get (k : Nat) (h : k < (⟨#[48, 49, 50, 51, 52, 53, 54, 55, 56, 57, 97, 98, 99, 100, 101, 102]⟩ : ByteArray).size) : (⟨#[48, 49, 50, 51, 52, 53, 54, 55, 56, 57, 97, 98, 99, 100, 101, 102]⟩ : ByteArray)[k]'h = hexB k := by
  have key : ∀ m : Fin 16, (⟨#[48, 49, 50, 51, 52, 53, 54, 55, 56, 57, 97, 98, 99, 100, 101, 102]⟩ : ByteArray)[m.val]'m.isLt = hexB m.val := by decide
  exact key ⟨k, h⟩
theorem i32_mask {x i : Nat} (hx : x < 2147483648) (hi : i ≤ 31) : bits .and .i32 (x : Int) ((2 ^ i - 1 : Nat) : Int) = ((x % 2 ^ i : Nat) : Int) := by
  have h := bits_mask .i32 31 (by decide) wraps_i32 i hi (x : Int) (by omega) (by have : (2 : Int) ^ 31 = 2147483648 := by decide
                                                                                  omega)
  have hc : ((2 : Int) ^ i - 1) = ((2 ^ i - 1 : Nat) : Int) := by
    rw [Int.natCast_sub (Nat.two_pow_pos i)]; simp
  rw [← hc, h]
  simp
set_option maxHeartbeats 3200000 in
set_option maxRecDepth 100000 in
theorem qquote_any (w : World) (s : ByteArray) (hs : s.size ≤ 10000000) (hv : Lib.validD s.data.toList = true) :
    Calls Tryd.prog 45 #[.string s] w fun e w' => e = .returned (.string ⟨(quoteL s.data.toList).toArray⟩) ∧ Kp [] w w' := by
  obtain ⟨L, hL⟩ : ∃ L, L = s.data.toList := ⟨_, rfl⟩
  have hlen : L.length = s.size := by rw [hL, Array.length_toList]; rfl
  have hbl := body_len L
  rw [← hL] at hv ⊢
  have HL := hid hL
  clear hL
  go_enter Tryd.func45, Tryd.ntmps45
  have hB := Bld.fresh w
  have hbw : Below w.heap.size w (w.alloc (.cells #[.pointer none, .slice none 0 0] 103)) := (Below.refl _ w).alloc (Nat.le_refl _) _
  have hsz0 : (w.alloc (.cells #[.pointer none, .slice none 0 0] 103)).heap.size = w.heap.size + 1 := Array.size_push _
  obtain ⟨W0, hW0⟩ : ∃ W0, W0 = w.alloc (.cells #[.pointer none, .slice none 0 0] 103) := ⟨_, rfl⟩
  rw [← hW0] at hB hbw hsz0
  have HW0 := hid hW0
  clear hW0
  go_wp2_with fail
  rw [← HW0.out]
  refine (wbyte_any W0 _ _ [] 34 34 rfl hB (by simp) hbw.size).mono ?_
  rintro e w1 ⟨rfl, h1, b1, k1⟩
  have hs1 := b1.size
  have hbw1 := hbw.trans b1
  have HB1 := hid (And.intro h1 hbw1)
  clear h1 b1 k1 hbw1 hB hbw
  go_wp2_with fail
  go_loopw [5] (fun _ wr => ∃ (pos : Nat) (acc : List UInt8), QS w s w1.heap.size pos acc wr ∧ acc ++ body (L.drop pos) = 34 :: body L ∧ Lib.validD (L.drop pos) = true) (fun _ wr => s.size - wr.iterPos w1.heap.size)
  case atStart =>
    refine ⟨0, [34], ⟨Lib.IsBuilderF.alloc HB1.out.1 _, World.iter_heap w1 s 0, HB1.out.2.alloc HB1.out.2.size _, by omega⟩, rfl, hv⟩
  case round =>
    obtain ⟨pos, acc, hQ, hacc, hvd⟩ := hrel
    have hit := hQ.2.1
    have hal : acc.length ≤ 60000001 := by
      have := congrArg List.length hacc
      simp only [List.length_append, List.length_cons] at this
      omega
    by_cases hp : pos < s.size
    · have hnx : ∀ ty, (Instr.next (.pointer (some ⟨w1.heap.size, 0, none⟩)) true ty).run Tryd.prog wr = _ := fun ty => Lib.run_next_any_at wr w1.heap.size s pos ty hit hp
      have hne : L.drop pos ≠ [] := by
        intro e
        have := congrArg List.length e
        rw [List.length_drop] at this
        simp at this
        omega
      obtain ⟨hvn, hbn⟩ := body_next hne hvd
      have hdec : Lib.decodeL (L.drop pos) = Utf8.decode s pos := by rw [HL.out, Lib.decodeL_drop]
      have hwd : wd (L.drop pos) = (Utf8.decode s pos).2 := by unfold wd; rw [hdec]
      rw [List.drop_drop, hwd] at hvn hbn
      rw [hdec] at hbn
      have hw1 : 1 ≤ (Utf8.decode s pos).2 := Lib.decode_width_pos s pos hp
      have hd1 := decode_le s pos
      have hQ2 := hQ.next (pos + (Utf8.decode s pos).2)
      obtain ⟨r, hr⟩ : ∃ r, r = (Utf8.decode s pos).1 := ⟨_, rfl⟩
      obtain ⟨d, hd⟩ : ∃ d, d = (Utf8.decode s pos).2 := ⟨_, rfl⟩
      obtain ⟨W2, hW2⟩ : ∃ W2, W2 = wr.iterAt w1.heap.size s (pos + (Utf8.decode s pos).2) := ⟨_, rfl⟩
      rw [← hW2] at hnx hQ2
      rw [← hd] at hvn hbn hw1 hQ2
      rw [← hr] at hnx hbn hd1
      have Hit := hid hit
      have Hv := hid hvn
      have Hacc := hid hacc
      clear hW2 hit hvn hdec hwd hr hd hacc hvd hv hQ HW0 HB1
      have hfin : ∀ m W3, body (L.drop pos) = m ++ body (L.drop (pos + d)) → QS w s w1.heap.size (pos + d) (acc ++ m) W3 →
          (∃ (pos' : Nat) (acc' : List UInt8), QS w s w1.heap.size pos' acc' W3 ∧ acc' ++ body (L.drop pos') = 34 :: body L ∧ Lib.validD (L.drop pos') = true) ∧ s.size - W3.iterPos w1.heap.size < s.size - wr.iterPos w1.heap.size := by
        intro m W3 hm hq
        refine ⟨⟨pos + d, acc ++ m, hq, ?_, Hv.out⟩, ?_⟩
        · rw [List.append_assoc, ← hm]; exact Hacc.out
        · simp only [World.iterPos, hq.2.1, Hit.out]
          omega
      have Hfin := hid hfin
      clear hfin
      rcases hbn with ⟨h128, hb⟩ | ⟨c, hc, hrc, hd1', hb⟩
      · have Hb := hid hb
        clear hb
        go_wp2_with fail
        refine (qs_rune hQ2 (by omega) _ (by omega) (by omega)).mono ?_
        rintro e W3 ⟨rfl, hq3⟩
        have HF := hid (Hfin.out _ _ Hb.out hq3)
        clear hq3
        go_wp2_with fail
        go_roundw
        case rel => exact HF.out.1
        case measure => exact HF.out.2
      · obtain ⟨n, hn⟩ : ∃ n, n = c.toNat := ⟨_, rfl⟩
        have ec : UInt8.ofNat c.toNat = c := by simp
        have hcn : ∀ k : Nat, n = k → c = UInt8.ofNat k := by intro k hk; rw [← ec, ← hn, hk]
        rw [← hn] at hc hrc
        have hrc2 := hrc.symm
        subst hrc2
        have Hcn := hid hcn
        have Hb := hid hb
        have Hn := hid hn
        clear hcn hb hn hd1' ec
        rcases (show n = 34 ∨ n = 92 ∨ n = 10 ∨ n = 13 ∨ n = 9 ∨ (32 ≤ n ∧ n ≠ 127 ∧ n ≠ 34 ∧ n ≠ 92) ∨ (n < 32 ∧ n ≠ 10 ∧ n ≠ 13 ∧ n ≠ 9) ∨ n = 127 from by omega) with h | h | h | h | h | h | h | h
        · subst h
          have hc9 := Hcn.out 34 rfl
          have Hb2 : Hid (body (L.drop pos) = [92] ++ Lib.encodeRune 34 ++ body (L.drop (pos + d))) := hid (by rw [Hb.out, hc9]; rfl)
          clear hc9
          go_wp2_with fail
          refine (qs_byte hQ2 (by omega) 92 92 rfl).mono ?_
          rintro e W3 ⟨rfl, hq3⟩
          go_wp2_with fail
          refine (qs_rune hq3 (by simp; omega) _ (by omega) (by omega)).mono ?_
          rintro e W4 ⟨rfl, hq4⟩
          rw [List.append_assoc] at hq4
          have HF := hid (Hfin.out _ _ Hb2.out hq4)
          clear hq3 hq4
          go_wp2_with fail
          go_roundw
          case rel => exact HF.out.1
          case measure => exact HF.out.2
        · subst h
          have hc9 := Hcn.out 92 rfl
          have Hb2 : Hid (body (L.drop pos) = [92] ++ Lib.encodeRune 92 ++ body (L.drop (pos + d))) := hid (by rw [Hb.out, hc9]; rfl)
          clear hc9
          go_wp2_with fail
          refine (qs_byte hQ2 (by omega) 92 92 rfl).mono ?_
          rintro e W3 ⟨rfl, hq3⟩
          go_wp2_with fail
          refine (qs_rune hq3 (by simp; omega) _ (by omega) (by omega)).mono ?_
          rintro e W4 ⟨rfl, hq4⟩
          rw [List.append_assoc] at hq4
          have HF := hid (Hfin.out _ _ Hb2.out hq4)
          clear hq3 hq4
          go_wp2_with fail
          go_roundw
          case rel => exact HF.out.1
          case measure => exact HF.out.2
        · subst h
          have hc9 := Hcn.out 10 rfl
          have Hb2 : Hid (body (L.drop pos) = [92, 110] ++ body (L.drop (pos + d))) := hid (by rw [Hb.out, hc9]; rfl)
          clear hc9
          go_wp2_with fail
          refine (qs_str hQ2 (by omega) _ (by decide)).mono ?_
          rintro e W3 ⟨rfl, hq3⟩
          have HF := hid (Hfin.out _ _ Hb2.out hq3)
          clear hq3
          go_wp2_with fail
          go_roundw
          case rel => exact HF.out.1
          case measure => exact HF.out.2
        · subst h
          have hc9 := Hcn.out 13 rfl
          have Hb2 : Hid (body (L.drop pos) = [92, 114] ++ body (L.drop (pos + d))) := hid (by rw [Hb.out, hc9]; rfl)
          clear hc9
          go_wp2_with fail
          refine (qs_str hQ2 (by omega) _ (by decide)).mono ?_
          rintro e W3 ⟨rfl, hq3⟩
          have HF := hid (Hfin.out _ _ Hb2.out hq3)
          clear hq3
          go_wp2_with fail
          go_roundw
          case rel => exact HF.out.1
          case measure => exact HF.out.2
        · subst h
          have hc9 := Hcn.out 9 rfl
          have Hb2 : Hid (body (L.drop pos) = [92, 116] ++ body (L.drop (pos + d))) := hid (by rw [Hb.out, hc9]; rfl)
          clear hc9
          go_wp2_with fail
          refine (qs_str hQ2 (by omega) _ (by decide)).mono ?_
          rintro e W3 ⟨rfl, hq3⟩
          have HF := hid (Hfin.out _ _ Hb2.out hq3)
          clear hq3
          go_wp2_with fail
          go_roundw
          case rel => exact HF.out.1
          case measure => exact HF.out.2
        · obtain ⟨h1, h2, h3, h4⟩ := h
          have hq : qb c = Lib.encodeRune (n : Int) := by
            rw [encode_low hc, Hn.out, qb_plain (by rw [← Hn.out]; exact h1) (by rw [← Hn.out]; exact h2) (by rw [← Hn.out]; exact h3) (by rw [← Hn.out]; exact h4)]
            simp
          have Hb2 : Hid (body (L.drop pos) = Lib.encodeRune (n : Int) ++ body (L.drop (pos + d))) := hid (by rw [Hb.out, hq])
          clear hq
          go_wp2_with fail
          refine (qs_rune hQ2 (by omega) _ (by omega) (by omega)).mono ?_
          rintro e W3 ⟨rfl, hq3⟩
          have HF := hid (Hfin.out _ _ Hb2.out hq3)
          clear hq3
          go_wp2_with fail
          go_roundw
          case rel => exact HF.out.1
          case measure => exact HF.out.2
        all_goals
          have hq : qb c = [92, 117, 48, 48] ++ [hexB (n / 16)] ++ [hexB (n % 16)] := by
            rw [Hn.out, qb_esc (by rw [← Hn.out]; omega)]
            rfl
          have Hb2 : Hid (body (L.drop pos) = [92, 117, 48, 48] ++ [hexB (n / 16)] ++ [hexB (n % 16)] ++ body (L.drop (pos + d))) := hid (by rw [Hb.out, hq])
          have hand : bits .and .i32 (n : Int) 15 = ((n % 16 : Nat) : Int) := i32_mask (i := 4) (by omega) (by omega)
          clear hq
        · go_wp2_with fail
          refine (qs_str hQ2 (by omega) _ (by decide)).mono ?_
          rintro e W3 ⟨rfl, hq3⟩
          go_wp2_with fail
          refine (qs_byte hq3 (by simp; omega) (hexB (n / 16)) _ (by rw [digits_get])).mono ?_
          rintro e W4 ⟨rfl, hq4⟩
          clear hq3
          go_wp2_with fail
          refine (qs_byte hq4 (by simp; omega) (hexB (n % 16)) _ (by rw [digits_get])).mono ?_
          rintro e W5 ⟨rfl, hq5⟩
          rw [List.append_assoc, List.append_assoc, ← List.append_assoc [92, 117, 48, 48]] at hq5
          have HF := hid (Hfin.out _ _ Hb2.out hq5)
          clear hq4 hq5
          go_wp2_with fail
          go_roundw
          case rel => exact HF.out.1
          case measure => exact HF.out.2
        · subst h
          go_wp2_with fail
          refine (qs_str hQ2 (by omega) _ (by decide)).mono ?_
          rintro e W3 ⟨rfl, hq3⟩
          go_wp2_with fail
          refine (qs_byte hq3 (by simp; omega) (hexB 7) _ (by first | (rw [digits_get]; done) | (rw [digits_get]; decide))).mono ?_
          rintro e W4 ⟨rfl, hq4⟩
          clear hq3
          go_wp2_with fail
          refine (qs_byte hq4 (by simp; omega) (hexB 15) _ (by first | (rw [digits_get]; done) | (rw [digits_get]; decide))).mono ?_
          rintro e W5 ⟨rfl, hq5⟩
          rw [List.append_assoc, List.append_assoc, ← List.append_assoc [92, 117, 48, 48]] at hq5
          have HF := hid (Hfin.out _ _ Hb2.out hq5)
          clear hq4 hq5
          go_wp2_with fail
          go_roundw
          case rel => exact HF.out.1
          case measure => exact HF.out.2
    · have hnx : ∀ ty, (Instr.next (.pointer (some ⟨w1.heap.size, 0, none⟩)) true ty).run Tryd.prog wr = _ := fun ty => Lib.run_next_end_at wr w1.heap.size s pos ty hit hp
      rw [List.drop_eq_nil_of_le (by omega)] at hacc
      have ha2 : acc = 34 :: body L := by simpa [body] using hacc
      subst ha2
      have HQ := hid hQ
      clear hacc hQ hit hvd
      go_wp2_with fail
      refine (qs_byte HQ.out (by omega) 34 34 rfl).mono ?_
      rintro e W3 ⟨rfl, hq3⟩
      go_wp2_with fail
      refine (bstr_any W3 _ _ _ hq3.1 hq3.2.2.1.size).mono ?_
      rintro e W4 ⟨rfl, hb4⟩
      have HF := hid (hq3.2.2.1.trans hb4)
      clear hq3 hb4
      go_wp2_with fail
      go_ret
      exact ⟨rfl, Kp.of_below HF.out⟩
end Go.Proofs.YtpeldjihalldkaaDoor

