/- A strings.Builder that the call has made: what WriteByte, WriteString, WriteRune, Len, String do. (The cut has no panic in copyCheck: the shelf's writers do not lie at it, so they are walked here.) -/
import Derived.Test.YtgjffkblhhkjmaaDoorChecked
import Derived.Test.YtgjffkblhhkjmaaDoorLaws
import Derived.Test.YtgjffkblhhkjmaaDoorShelf
import Derived.Test.YtgjffkblhhkjmaaDoorQLaw
import Derived.Lib.OthersKept
import Derived.Lib.FrozenHead2
import Derived.Laws.Externs
namespace Go.Proofs.YtgjffkblhhkjmaaDoor
open Go Go.RowKit

theorem infoByte9 : (Tryd.prog.info? 5).map (fun i => (i.zero, i.size, i.bytes)) = some (some (.int .u8 0), 1, 1) := by kernel_rfl
/-- A builder in block b that holds these bytes. -/
def Bld (w : World) (B b : Nat) (l : List UInt8) : Prop := Lib.IsBuilderF 69 5 B b (Lib.byteCells l) w
/-- What a writer leaves. -/
def BldPost (w : World) (B b : Nat) (l : List UInt8) (w' : World) : Prop := Bld w' B b l ∧ Below B w w' ∧ Lib.OthersKept 5 (some b) w w'
theorem Bld.fresh (w : World) : Bld (w.alloc (.cells #[.pointer none, .slice none 0 0] 69)) w.heap.size w.heap.size [] :=
  .inl ⟨Nat.le_refl _, .slice none 0 0, heap_alloc_new w _, ⟨rfl, .inl ⟨rfl, rfl⟩⟩, by simp [Value.ownBlock]⟩
set_option maxHeartbeats 1000000 in
set_option maxRecDepth 100000 in
theorem copyCheck_any (B b : Nat) (bs : List Value) (w : World) (h : Lib.IsBuilderF 69 5 B b bs w) :
    Calls Tryd.prog 64 #[.pointer (some ⟨b, 0, none⟩)] w fun e w' => e = .returned (.tuple #[]) ∧ Lib.BuilderAtF 69 5 B b (.pointer (some ⟨b, 0, none⟩)) bs w' ∧ Below B w w' ∧ Lib.OthersKept 5 (some b) w w' := by
  rcases h with h | h
  · have h0 := h.cell0
    have hfz := h.frozen0
    have hsh : w.shape? b = some (69, 2) := by
      obtain ⟨_, v, hb, _⟩ := h
      simp [World.shape?, hb]
    have hsz : (Tryd.prog.info? 69).map (·.size) = some 2 := by kernel_rfl
    obtain ⟨j, hj, hjs⟩ := Option.map_eq_some_iff.1 hsz
    have hlies : liesAt Tryd.prog Tryd.prog.depth 69 (2 / Tryd.prog.cellsOf 69) 0 69 1 = true := by kernel_rfl
    have hto := Lib.run_to_unsafe (P := Tryd.prog) (w := w) ⟨b, 0, none⟩ Tryd.underlying66 Tryd.underlying109 hj (by rw [hjs]; decide) hsh (Nat.zero_lt_succ 1)
    have hfrom := Lib.run_from_unsafe (P := Tryd.prog) (w := w) ⟨b, 0, none⟩ Tryd.underlying109 Tryd.underlying66 hj hsh hlies
    have hesc : (callFunc 84 #[.pointer (some ⟨b, 0, none⟩)]).run Tryd.prog w = .ok (.value (.pointer (some ⟨b, 0, none⟩))) w := by
      rw [run_callFunc_extern Tryd.func84 (by kernel_rfl) (by kernel_rfl) (by kernel_rfl) (e := Extern.AbiNoEscape.same) (by kernel_rfl), Lib.run_noEscape]
      rfl
    clear hsh hj hjs hsz hlies
    go_enter Tryd.func64, Tryd.ntmps64
    go_wp2_with fail
    go_end0
    exact ⟨rfl, h.used _, (Below.refl B w).setCell (p := ⟨b, 0, none⟩) h.1 _, (Lib.OthersKept.refl _ _ w).setCell ⟨b, 0, none⟩ rfl _⟩
  · have h0 := h.cell0
    obtain ⟨j, hj, -⟩ := Option.map_eq_some_iff.1 (show (Tryd.prog.info? 69).map (·.size) = some 2 by kernel_rfl)
    have hneq := Lib.run_neq_ptr_same (P := Tryd.prog) w ⟨b, 0, none⟩ Tryd.underlying66 hj
    clear hj
    go_enter Tryd.func64, Tryd.ntmps64
    go_wp2_with fail
    go_end0
    exact ⟨rfl, h, Below.refl B _, Lib.OthersKept.refl _ _ _⟩

/-- Behind an append to the buffer, when it is stored. -/
theorem bld_end {w w1 w2 : World} {B b : Nat} {v v' : Value} {l m : List UInt8} (hB : B ≤ b) (hb1 : Below B w w1) (hk1 : Lib.OthersKept 5 (some b) w w1) (hBw : B ≤ w1.heap.size)
    (hbk : w1.heap[b]? = some (.cells #[.pointer (some ⟨b, 0, none⟩), v] 69 (0, 0))) (hne : v.ownBlock ≠ some b) (hown : w1.ownsRowF B 5 1 v (Lib.byteCells l).length (Lib.byteCells l)) (hgrow : w1.grownBy w2 v.ownBlock)
    (hown' : w2.ownsRowF B 5 1 v' (Lib.byteCells (l ++ m)).length (Lib.byteCells (l ++ m))) :
    BldPost w B b (l ++ m) (w2.setCell ⟨b, 1, none⟩ v') ∧ w2.cell? ⟨b, 0, none⟩ = some (.pointer (some ⟨b, 0, none⟩)) ∧ w2.cell? ⟨b, 1, none⟩ = some v ∧ w2.frozen? ⟨b, 1, none⟩ = false := by
  have hlt : b < w1.heap.size := by
    rcases Nat.lt_or_ge b w1.heap.size with h' | h'
    · exact h'
    · simp [Array.getElem?_eq_none h'] at hbk
  have hb2 : w2.heap[b]? = some (.cells #[.pointer (some ⟨b, 0, none⟩), v] 69 (0, 0)) := by
    rw [hgrow.block b hlt (fun e => hne e.symm)]
    exact hbk
  refine ⟨⟨.inr (Lib.BuilderAtF.put (T := 69) (e := 5) hB hb2 hown' (by decide)), ?_, (hk1.grown hgrow (Lib.ownsRowF_kind hown)).setCell ⟨b, 1, none⟩ rfl _⟩, ?_, ?_, Lib.frozen_of_heap hb2 1⟩
  · exact (hb1.grown hgrow hBw (fun k hk => (hown.lt k hk).1)).setCell (p := ⟨b, 1, none⟩) hB _
  · rw [Lib.cell_of_heap hb2]; rfl
  · rw [Lib.cell_of_heap hb2]; rfl
theorem shapeF {w : World} {B n : Nat} {v : Value} {xs : List Value} (h : w.ownsRowF B 5 1 v n xs) : ∃ ao cap, v = .slice ao n cap := by
  rcases h.2 with ⟨hv, h0⟩ | ⟨g, cap, cur, fz, hv, _⟩
  · exact ⟨none, 0, by rw [hv, h0]⟩
  · exact ⟨_, _, hv⟩
theorem cells_snoc (l : List UInt8) (c : UInt8) : Lib.byteCells l ++ [.int .u8 (c.toNat : Int)] = Lib.byteCells (l ++ [c]) := by rw [Lib.byteCells_append]; rfl
set_option maxHeartbeats 1000000 in
set_option maxRecDepth 100000 in
theorem wbyte_any (w : World) (B b : Nat) (l : List UInt8) (c : UInt8) (z : Int) (hz : z = (c.toNat : Int)) (h : Bld w B b l) (hlen : l.length ≤ 100000000) (hBw : B ≤ w.heap.size) :
    Calls Tryd.prog 80 #[.pointer (some ⟨b, 0, none⟩), .int .u8 z] w fun e w' => e = .returned .nilIface ∧ BldPost w B b (l ++ [c]) w' := by
  subst hz
  obtain ⟨i0, hi, hz0, hz1, hz2⟩ := info_parts infoByte9
  have Hi := hid (And.intro hi (And.intro hz0 (And.intro hz1 hz2)))
  clear hi hz0 hz1 hz2
  have hl9 := Lib.byteCells_length l
  have Hl := hid hl9
  clear hl9
  go_enter Tryd.func80, Tryd.ntmps80
  go_wp2_with fail
  refine (copyCheck_any B b _ w h).mono ?_
  rintro e w1 ⟨rfl, h1, hb1, hk1⟩
  obtain ⟨hB, v, hbk, hown, hne⟩ := h1
  have hsz := hb1.size
  have c0 : w1.cell? ⟨b, 0, none⟩ = some (.pointer (some ⟨b, 0, none⟩)) := by rw [Lib.cell_of_heap hbk]; rfl
  have c1 : w1.cell? ⟨b, 1, none⟩ = some v := by rw [Lib.cell_of_heap hbk]; rfl
  have hb1' := hb1.alloc (by omega) (.cells #[.int .u8 (c.toNat : Int)] 5)
  have hk1' := hk1.alloc (.cells #[.int .u8 (c.toNat : Int)] 5)
  have hbk' : (w1.alloc (.cells #[.int .u8 (c.toNat : Int)] 5)).heap[b]? = some (.cells #[.pointer (some ⟨b, 0, none⟩), v] 69 (0, 0)) := by
    rw [Lib.alloc_old w1 _ b (by
      rcases Nat.lt_or_ge b w1.heap.size with h' | h'
      · exact h'
      · simp [Array.getElem?_eq_none h'] at hbk)]
    exact hbk
  have HH := hid (And.intro hb1' (And.intro hk1' (And.intro hbk' hne)))
  have hown1 := hown.alloc (.cells #[.int .u8 (c.toNat : Int)] 5)
  clear hb1' hk1' hbk' hne hb1 hk1
  go_wp2_with (at_builtin; refine wpList_append_ownF _ rfl _ _ 67 rfl B 5 i0 (.int .u8 0) 1 1 Tryd.underlying67 Hi.out.1 Hi.out.2.1 Hi.out.2.2.1 Hi.out.2.2.2 rfl (by decide) _ _ _ rfl hown1 ⟨w1.heap.size, 0, none⟩ 1 1 [.int .u8 (c.toNat : Int)] rfl rfl ?c1 ?c2 ?c3 ?c4 ?c5 ?_)
  case c1 =>
    intro j u hj
    obtain ⟨ad, e, hc⟩ := Span.of_new w1 5 (0, 0) [.int .u8 (c.toNat : Int)] j u hj
    injection e with e
    subst e
    exact hc
  case c2 =>
    intro u hu
    rw [List.mem_singleton.1 hu]
    rfl
  case c3 => rw [Hl.out]; unfold maxLen; omega
  case c4 => rw [Hl.out]; omega
  case c5 => simp; omega
  intro v' w2 hown' hgrow _
  rw [cells_snoc] at hown'
  obtain ⟨hfin, d0, d1, f1⟩ := bld_end (m := [c]) hB HH.out.1 HH.out.2.1 (by simp; omega) HH.out.2.2.1 HH.out.2.2.2 hown1 hgrow (by
    have e : (Lib.byteCells (l ++ [c])).length = (Lib.byteCells l).length + 1 := by rw [Lib.byteCells_length, Lib.byteCells_length]; simp
    rw [e]; exact hown')
  obtain ⟨ao, cap, rfl⟩ := shapeF hown'
  have Fin := hid hfin
  clear hfin hown' hgrow hown1 hown
  go_wp2_with fail
  go_ret
  exact ⟨rfl, Fin.out⟩
set_option maxHeartbeats 1000000 in
set_option maxRecDepth 100000 in
theorem wstr_any (w : World) (B b : Nat) (l : List UInt8) (s : ByteArray) (h : Bld w B b l) (hlen : l.length ≤ 100000000) (hs : s.size ≤ 100000000) (hBw : B ≤ w.heap.size) :
    Calls Tryd.prog 42 #[.pointer (some ⟨b, 0, none⟩), .string s] w fun e w' => e = .returned (.tuple #[.int .i64 s.size, .nilIface]) ∧ BldPost w B b (l ++ s.data.toList) w' := by
  obtain ⟨i0, hi, hz0, hz1, hz2⟩ := info_parts infoByte9
  have Hi := hid (And.intro hi (And.intro hz0 (And.intro hz1 hz2)))
  clear hi hz0 hz1 hz2
  have hl9 := Lib.byteCells_length l
  have Hl := hid hl9
  clear hl9
  go_enter Tryd.func42, Tryd.ntmps42
  go_wp2_with fail
  refine (copyCheck_any B b _ w h).mono ?_
  rintro e w1 ⟨rfl, h1, hb1, hk1⟩
  obtain ⟨hB, v, hbk, hown, hne⟩ := h1
  have hsz := hb1.size
  have c0 : w1.cell? ⟨b, 0, none⟩ = some (.pointer (some ⟨b, 0, none⟩)) := by rw [Lib.cell_of_heap hbk]; rfl
  have c1 : w1.cell? ⟨b, 1, none⟩ = some v := by rw [Lib.cell_of_heap hbk]; rfl
  have HH := hid (And.intro hb1 (And.intro hk1 (And.intro hbk hne)))
  clear hbk hne hb1 hk1
  go_wp2_with (at_builtin; refine Lib.wpList_append_own_stringF _ rfl _ _ 67 9 rfl B 5 i0 Tryd.underlying67 Tryd.underlying9 Hi.out.1 Hi.out.2.1 Hi.out.2.2.1 Hi.out.2.2.2 _ _ _ rfl hown s rfl ?c3 ?c4 ?c5 ?_)
  case c3 => rw [Hl.out]; unfold maxLen; omega
  case c4 => rw [Hl.out]; omega
  case c5 => omega
  intro v' w2 hown' hgrow _
  rw [Lib.strCells_eq, ← Lib.byteCells_append] at hown'
  obtain ⟨hfin, d0, d1, f1⟩ := bld_end (m := s.data.toList) hB HH.out.1 HH.out.2.1 (by omega) HH.out.2.2.1 HH.out.2.2.2 hown hgrow (by
    have e : (Lib.byteCells (l ++ s.data.toList)).length = (Lib.byteCells l).length + s.size := by rw [Lib.byteCells_length, Lib.byteCells_length, List.length_append, Array.length_toList]; rfl
    rw [e]; exact hown')
  obtain ⟨ao, cap, rfl⟩ := shapeF hown'
  have Fin := hid hfin
  clear hfin hown' hgrow hown
  go_wp2_with fail
  go_ret2
  exact ⟨rfl, Fin.out⟩
set_option maxHeartbeats 1000000 in
set_option maxRecDepth 100000 in
theorem wrune_any (w : World) (B b : Nat) (l : List UInt8) (r : Int) (hr0 : -2147483648 ≤ r) (hr1 : r ≤ 2147483647) (h : Bld w B b l) (hlen : l.length ≤ 100000000) (hBw : B ≤ w.heap.size) :
    Calls Tryd.prog 74 #[.pointer (some ⟨b, 0, none⟩), .int .i32 r] w fun e w' => e = .returned (.tuple #[.int .i64 (Lib.runeCells r).length, .nilIface]) ∧ BldPost w B b (l ++ Lib.encodeRune r) w' := by
  have hl9 := Lib.byteCells_length l
  have hk4 := Lib.runeCells_le r
  have Hl := hid hl9
  clear hl9
  go_enter Tryd.func74, Tryd.ntmps74
  go_wp2_with fail
  refine (copyCheck_any B b _ w h).mono ?_
  rintro e w1 ⟨rfl, h1, hb1, hk1⟩
  obtain ⟨hB, v, hbk, hown, hne⟩ := h1
  have hsz := hb1.size
  obtain ⟨ao, cap, rfl⟩ := shapeF hown
  have c0 : w1.cell? ⟨b, 0, none⟩ = some (.pointer (some ⟨b, 0, none⟩)) := by rw [Lib.cell_of_heap hbk]; rfl
  have c1 : w1.cell? ⟨b, 1, none⟩ = some (.slice ao (Lib.byteCells l).length cap) := by rw [Lib.cell_of_heap hbk]; rfl
  rw [Hl.out] at c1
  have HH := hid (And.intro hb1 (And.intro hk1 (And.intro hbk hne)))
  clear hbk hne hb1 hk1
  go_wp2_with fail
  rw [← Hl.out]
  refine (Tryd.utf8_AppendRune_row B _ (Lib.byteCells l).length (Lib.byteCells l) r hr0 hr1 w1 hown (by rw [Hl.out]; omega) (by omega)).mono ?_
  rintro e w2 ⟨v', rfl, hown', o, hgrow⟩
  have hlt : b < w1.heap.size := by
    rcases Nat.lt_or_ge b w1.heap.size with h' | h'
    · exact h'
    · have := HH.out.2.2.1
      simp [Array.getElem?_eq_none h'] at this
  rw [← Lib.byteCells_encodeRune, ← Lib.byteCells_append] at hown'
  obtain ⟨hfin, d0, d1, f1⟩ := bld_end (m := Lib.encodeRune r) hB (HH.out.1.alloc (by omega) o) (HH.out.2.1.alloc o) (by simp; omega) (by rw [Lib.alloc_old w1 _ b hlt]; exact HH.out.2.2.1) HH.out.2.2.2 (hown.alloc o) hgrow (by
    have e : (Lib.byteCells (l ++ Lib.encodeRune r)).length = (Lib.byteCells l).length + (Lib.byteCells (Lib.encodeRune r)).length := by rw [Lib.byteCells_append, List.length_append]
    rw [e]; exact hown')
  have hq : (Lib.byteCells (Lib.encodeRune r)).length = (Lib.runeCells r).length := by rw [Lib.byteCells_encodeRune]
  rw [hq, Hl.out] at hown'
  rw [Hl.out] at d1
  obtain ⟨ao', cap', rfl⟩ := shapeF hown'
  have Fin := hid hfin
  clear hfin hown' hgrow hown hq
  rw [Hl.out]
  generalize hq9 : (Lib.runeCells r).length = q at *
  have Hq9 := hid hq9
  clear hq9
  go_wp2_with fail
  go_ret2
  refine ⟨?_, Fin.out⟩
  have e : ((l.length : Int) + (q : Int) - (l.length : Int)) = (q : Int) := by omega
  rw [Hq9.out]
  simp [e]

theorem blen_any (w : World) (B b : Nat) (l : List UInt8) (h : Bld w B b l) : Calls Tryd.prog 72 #[.pointer (some ⟨b, 0, none⟩)] w fun e w' => e = .returned (.int .i64 l.length) ∧ w = w' :=
  (Tryd.Builder_Len_f B b _ w h).mono fun _ _ ⟨h1, h2⟩ => ⟨by rw [h1, Lib.byteCells_length], h2.symm⟩
theorem bstr_any (w : World) (B b : Nat) (l : List UInt8) (h : Bld w B b l) (hBw : B ≤ w.heap.size) : Calls Tryd.prog 43 #[.pointer (some ⟨b, 0, none⟩)] w fun e w' => e = .returned (.string ⟨l.toArray⟩) ∧ Below B w w' :=
  (Tryd.Builder_String_any_f B b l w h hBw).mono fun _ _ ⟨h1, _, h2⟩ => ⟨h1, h2⟩
end Go.Proofs.YtgjffkblhhkjmaaDoor
