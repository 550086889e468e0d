/- What a law's parameter gives that is a row of items, where what is read is of bounded bulk. -/
import Derived.Test.YtpeldjihalldkaaDoorRows
import Derived.Test.YtpeldjihalldkaaDoorRA
import Derived.Test.YtpeldjihalldkaaDoorRF
namespace Go.Proofs.YtpeldjihalldkaaDoor
open Go Go.ChangeShapes Go.WideShapes Go.ChangeAt Go.RowKit

theorem bulk_part {H : Type} {d : DataW H} : ∀ {l : List (DataW H)}, d ∈ l → Rows.uptoBulk d ≤ Rows.uptoBulkAll l
  | [], h => by cases h
  | x :: r, h => by
    simp only [Rows.uptoBulkAll]
    rcases List.mem_cons.1 h with e | e
    · subst e; omega
    · have := bulk_part e; omega
theorem bulk_pos {H : Type} : ∀ d : DataW H, 1 ≤ Rows.uptoBulk d
  | .lit l => by cases l <;> simp [Rows.uptoBulk]
  | .nil => by simp [Rows.uptoBulk]
  | .ptr d => by simp [Rows.uptoBulk]
  | .slice _ _ => by simp [Rows.uptoBulk]
  | .agg _ => by simp [Rows.uptoBulk]
  | .iface _ _ => by simp [Rows.uptoBulk]
  | .map _ => by simp [Rows.uptoBulk]
  | .held _ => by simp [Rows.uptoBulk]
theorem bulk_len {H : Type} : ∀ l : List (DataW H), l.length ≤ Rows.uptoBulkAll l
  | [] => Nat.zero_le _
  | d :: r => by
    have := bulk_len r
    have := bulk_pos d
    simp only [Rows.uptoBulkAll, List.length_cons]
    omega
theorem upto_part {H : Type} {l : List (DataW H)} (hk : Rows.uptoSmall H l = true) {d : DataW H} (h : d ∈ l) : Rows.uptoBulk d ≤ 1048576 :=
  Nat.le_trans (bulk_part h) (of_decide_eq_true hk)
theorem upto_str {H : Type} {l : List (DataW H)} (hk : Rows.uptoSmall H l = true) {s : ByteArray} (h : DataW.lit (.string s.data.toList) ∈ l) : s.size ≤ 1048576 := by
  have h1 := upto_part hk h
  simp only [Rows.uptoBulk] at h1
  have h3 : s.data.toList.length = s.size := by rw [Array.length_toList]; rfl
  omega
section
variable {W : World} {H : Type} {enc : TypeId × Value → H}
/-- The elements, each as its cells, of bounded bulk. -/
theorem open_wideB {P : Program} {T E : TypeId} (hT : P.underlying T = some (.slice E)) (s : Nat) (hc : P.cellsOf E = s) (M : Nat) (Q : List Value → Prop)
    (hQ : ∀ n cs y, DataW.trod enc P W 0 (fun _ => true) true n E cs = some y → Rows.uptoBulk y.1 ≤ M → Q cs)
    {a : Option Addr} {len cap fuel : Nat} {x : DataW H × List MemPlace} (h : DataW.trod enc P W 0 (fun _ => true) true fuel T [.slice a len cap] = some x) (hb : Rows.uptoBulk x.1 ≤ M) :
    ∃ vs : List (List Value), vs.length = len ∧ len ≤ cap ∧ cap ≤ 9223372036854775807 ∧ len ≤ M ∧ (∀ (i : Nat) cs, vs[i]? = some cs → Q cs ∧ cs.length = s ∧ ∃ ad, a = some ad ∧ ∀ j u, cs[j]? = some u → W.cell? ((ad.add (i * s)).add j) = some u) := by
  rcases DataW.trod_slice hT h with ⟨hcs, _⟩ | ⟨ad, len', cap', elems, rest, n, _, hcs, hx, _, hl, hm, hlen, hel, _, _⟩
  · injection hcs with hcs
    injection hcs with h1 h2 h3
    subst h1 h2 h3
    exact ⟨[], rfl, Nat.le_refl _, by omega, Nat.zero_le _, by simp⟩
  · injection hcs with hcs
    injection hcs with h1 h2 h3
    subst h1 h2 h3
    rw [hx] at hb
    simp only [Rows.uptoBulk] at hb
    have hlen2 := bulk_len (elems.map (·.1))
    rw [List.length_map] at hlen2
    have each : ∀ i, i < len → ∃ cs, W.cells? 0 (ad.add (i * s)) s = some cs ∧ Q cs := by
      intro i hi
      have h1 := hel i hi
      rw [hc] at h1
      have hsome : elems[i]? = some elems[i] := List.getElem?_eq_getElem (by omega)
      have hbi := bulk_part (l := elems.map (·.1)) (d := (elems[i]).1) (List.mem_map.2 ⟨_, List.getElem_mem (by omega), rfl⟩)
      rw [hsome, Option.bind_eq_some_iff] at h1
      obtain ⟨cs', hcs, hy⟩ := h1
      exact ⟨cs', hcs, hQ _ _ _ hy (by omega)⟩
    refine ⟨(List.range len).map fun i => (W.cells? 0 (ad.add (i * s)) s).getD [], by simp, hl, by simpa [maxLen] using hm, by omega, ?_⟩
    intro i cs hi
    have hlt : i < len := by
      have := (List.getElem?_eq_some_iff.1 hi).1
      simpa using this
    obtain ⟨cs', h1, h2⟩ := each i hlt
    rw [List.getElem?_map, List.getElem?_range hlt] at hi
    simp only [Option.map_some, h1, Option.getD_some, Option.some.injEq] at hi
    subst hi
    obtain ⟨-, g2, g3⟩ := World.cells?_some h1
    refine ⟨h2, g2, ad, rfl, fun j u hj => ?_⟩
    have hjs : j < s := by
      have := (List.getElem?_eq_some_iff.1 hj).1
      omega
    rw [g3 j hjs]
    exact hj
theorem open_keys {a : Option Addr} {len cap fuel : Nat} {x : DataW H × List MemPlace} (h : DataW.trod enc Tryd.prog W 0 (fun _ => true) true fuel 27 [.slice a len cap] = some x) (hb : Rows.uptoBulk x.1 ≤ 1048576) :
    ∃ l : List Txt, RawsAt W a cap l ∧ l.length = len := by
  obtain ⟨vs, h1, h2, h3, h4, h5⟩ := open_wideB (enc := enc) Tryd.underlying27 1 (by kernel_rfl) 1048576 (fun cs => ∃ x : Txt, cs = [.string ⟨x.toArray⟩] ∧ x.length ≤ 9223372036854775807) (fun n cs y hy _ => by
    obtain ⟨s, e0, _, w0⟩ := DataW.trod_string Tryd.underlying9 hy
    refine ⟨s.data.toList, by rw [e0, Array.toArray_toList], ?_⟩
    unfold maxLen at w0
    rw [Array.length_toList]
    exact w0) h hb
  obtain ⟨l, hl, hq⟩ := pick_lists (Q := fun (x : Txt) cs => cs = [Value.string ⟨x.toArray⟩] ∧ x.length ≤ 9223372036854775807) vs (fun u hu => by
    obtain ⟨i, hi⟩ := List.getElem?_of_mem hu
    exact (h5 i u hi).1)
  refine ⟨l, ⟨by omega, h3, by omega, fun x hx => ?_, fun i x hi => ?_⟩, by omega⟩
  · obtain ⟨i, hi⟩ := List.getElem?_of_mem hx
    obtain ⟨_, _, _, g⟩ := hq i x hi
    exact g
  · obtain ⟨u, g1, rfl, _⟩ := hq i x hi
    obtain ⟨_, _, ad, e, hcell⟩ := h5 i _ g1
    refine ⟨ad, e, ?_⟩
    have := hcell 0 _ rfl
    rw [add_add] at this
    simpa using this
set_option maxRecDepth 100000 in
theorem item_fuel {cs : List Value} {fuel : Nat} {x : DataW H × List MemPlace} (h : DataW.trod enc Tryd.prog W 0 (fun _ => true) true fuel 69 cs = some x) (hb : Rows.uptoBulk x.1 ≤ 1048576) :
    ∃ (r : Itm) (B : Option Addr) (nb : Nat), cs = [.int .i64 r.kind, .int .i64 r.many, .int .u64 (r.mask : Int), .string ⟨r.num.toArray⟩, .string ⟨r.text.toArray⟩, .slice B r.keys.length nb] ∧ ItmOk r ∧ RawsAt W B nb r.keys := by
  obtain ⟨xs, n, rfl, hx, hl, hxl, hall⟩ := DataW.trod_struct Tryd.underlying69 h
  have hl6 : cs.length = 6 := by rw [hl]; kernel_rfl
  have c1 : Tryd.prog.cellsOf 3 = 1 := by kernel_rfl
  have c2 : Tryd.prog.cellsOf 23 = 1 := by kernel_rfl
  have c3 : Tryd.prog.cellsOf 9 = 1 := by kernel_rfl
  have c4 : Tryd.prog.cellsOf 27 = 1 := by kernel_rfl
  rw [hx] at hb
  simp only [Rows.uptoBulk] at hb
  match cs, hl6 with
  | [v0, v1, v2, v3, v4, v5], _ =>
    have hx6 : xs.length = 6 := hxl
    match xs, hx6 with
    | [x0, x1, x2, x3, x4, x5], _ =>
      have g0 := hall 0 _ rfl
      have g1 := hall 1 _ rfl
      have g2 := hall 2 _ rfl
      have g3 := hall 3 _ rfl
      have g4 := hall 4 _ rfl
      have g5 := hall 5 _ rfl
      simp only [List.getElem?_cons_zero, List.getElem?_cons_succ] at g0 g1 g2 g3 g4 g5
      have b5 := bulk_part (l := [x0.1, x1.1, x2.1, x3.1, x4.1, x5.1]) (d := x5.1) (by simp)
      have hb : Rows.uptoBulkAll [x0.1, x1.1, x2.1, x3.1, x4.1, x5.1] + 1 ≤ 1048576 := hb
      obtain ⟨a, e0, _, w0⟩ := DataW.trod_int Tryd.underlying3 g0
      obtain ⟨b, e1, _, w1⟩ := DataW.trod_int Tryd.underlying3 g1
      obtain ⟨c, e2, _, w2⟩ := DataW.trod_int Tryd.underlying23 g2
      obtain ⟨s, e3, _, w3⟩ := DataW.trod_string Tryd.underlying9 g3
      obtain ⟨u, e4, _, w4⟩ := DataW.trod_string Tryd.underlying9 g4
      injection e0 with e0
      injection e1 with e1
      injection e2 with e2
      injection e3 with e3
      injection e4 with e4
      subst e0 e1 e2 e3 e4
      have g5' : DataW.trod enc Tryd.prog W 0 (fun _ => true) true n 27 [v5] = some x5 := g5
      have hv5 : ∃ B len nb, v5 = .slice B len nb := by
        rcases DataW.trod_slice Tryd.underlying27 g5' with ⟨hcs, _⟩ | ⟨ad, len', cap', elems, rest, n, _, hcs, _⟩
        · injection hcs with hcs
          exact ⟨_, _, _, hcs⟩
        · injection hcs with hcs
          exact ⟨_, _, _, hcs⟩
      obtain ⟨B, len, nb, rfl⟩ := hv5
      obtain ⟨l, hk, hlen⟩ := open_keys g5' (by omega)
      have wa := wf_i64 w0
      have wb := wf_i64 w1
      have wc := wf_u64 w2
      unfold maxLen at w3 w4
      have l3 : s.data.toList.length = s.size := by rw [Array.length_toList]; rfl
      have l4 : u.data.toList.length = u.size := by rw [Array.length_toList]; rfl
      refine ⟨⟨a, b, c.toNat, s.data.toList, u.data.toList, l⟩, B, nb, ?_, ⟨wa.1, wa.2, wb.1, wb.2, by have := wc.2; dsimp only; omega, by dsimp only; omega, by dsimp only; omega⟩, hk⟩
      dsimp only
      rw [Array.toArray_toList, Array.toArray_toList, hlen, show ((c.toNat : Nat) : Int) = c from Int.toNat_of_nonneg wc.1]
theorem open_items {a : Option Addr} {len cap : Nat} {d : DataW H} {p : List MemPlace} (h : DataW.Trod enc Tryd.prog W 0 (fun _ => true) true 22 (.slice a len cap) d p) (hb : Rows.uptoBulk d ≤ 1048576) :
    ∃ l : List Itm, ItemsAt W a cap l ∧ l.length = len := by
  obtain ⟨fuel, hf⟩ := h
  obtain ⟨vs, h1, h2, h3, h4, h5⟩ := open_wideB (enc := enc) Tryd.underlying22 6 (by kernel_rfl) 1048576 (fun cs => ∃ r : Itm, ∃ (B : Option Addr) (nb : Nat), cs = [.int .i64 r.kind, .int .i64 r.many, .int .u64 (r.mask : Int), .string ⟨r.num.toArray⟩, .string ⟨r.text.toArray⟩, .slice B r.keys.length nb] ∧ ItmOk r ∧ RawsAt W B nb r.keys)
    (fun n cs y hy hb => item_fuel hy hb) hf hb
  obtain ⟨l, hl, hq⟩ := pick_lists (Q := fun (r : Itm) cs => ∃ (B : Option Addr) (nb : Nat), cs = [Value.int .i64 r.kind, .int .i64 r.many, .int .u64 (r.mask : Int), .string ⟨r.num.toArray⟩, .string ⟨r.text.toArray⟩, .slice B r.keys.length nb] ∧ ItmOk r ∧ RawsAt W B nb r.keys) vs (fun u hu => by
    obtain ⟨i, hi⟩ := List.getElem?_of_mem hu
    exact (h5 i u hi).1)
  refine ⟨l, ⟨by omega, h3, fun x hx => ?_, fun i x hi => ?_⟩, by omega⟩
  · obtain ⟨i, hi⟩ := List.getElem?_of_mem hx
    obtain ⟨_, _, _, _, _, g, _⟩ := hq i x hi
    exact g
  · obtain ⟨u, g1, B, nb, rfl, g2, g3⟩ := hq i x hi
    obtain ⟨_, _, ad, e, hcell⟩ := h5 i _ g1
    refine ⟨ad, e, B, nb, ?_, ?_, ?_, ?_, ?_, ?_, g3⟩
    · simpa [Addr.add] using hcell 0 _ rfl
    · simpa [Addr.add] using hcell 1 _ rfl
    · simpa [Addr.add] using hcell 2 _ rfl
    · simpa [Addr.add] using hcell 3 _ rfl
    · simpa [Addr.add] using hcell 4 _ rfl
    · simpa [Addr.add] using hcell 5 _ rfl
end
end Go.Proofs.YtpeldjihalldkaaDoor
