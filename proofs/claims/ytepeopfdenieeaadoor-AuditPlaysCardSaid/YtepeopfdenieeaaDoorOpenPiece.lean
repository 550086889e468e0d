/- What a law's parameters of the types []Piece, Setup and [2]int give. -/
import Derived.Test.YtepeopfdenieeaaDoorOpenRec
import Derived.Test.YtepeopfdenieeaaDoorOpenWide
import Derived.Test.YtepeopfdenieeaaDoorFew19
namespace Go.Proofs.YtepeopfdenieeaaDoor
open Go Go.ChangeShapes Go.WideShapes Go.ChangeAt Go.RowKit

/-- A piece at the address P. -/
def PieceAt (w : World) (P : Addr) (p : Pc) : Prop :=
  ∃ A c B d, w.cell? P = some (.int .i64 p.r.doc) ∧ w.cell? ⟨P.block, P.off + 1, none⟩ = some (.int .i64 p.r.out) ∧ w.cell? ⟨P.block, P.off + 2, none⟩ = some (.int .i64 p.r.len) ∧ w.cell? ⟨P.block, P.off + 3, none⟩ = some (.slice A p.r.holes.length c) ∧
    w.cell? ⟨P.block, P.off + 4, none⟩ = some (.slice B p.b.length d) ∧ w.cell? ⟨P.block, P.off + 5, none⟩ = some (.bool p.right) ∧
    Span w A (p.r.holes.map .string) ∧ p.r.holes.length ≤ c ∧ c ≤ 9223372036854775807 ∧ Span w B (u8s p.b) ∧ p.b.length ≤ d ∧ d ≤ 9223372036854775807
def PiecesAt (w : World) (A : Option Addr) (ps : List Pc) : Prop := ∀ (k : Nat) (p : Pc), ps[k]? = some p → ∃ ad, A = some ad ∧ PieceAt w (ad.add (k * 6)) p
theorem PieceAt.kept {w w' : World} {P : Addr} {p : Pc} (h : PieceAt w P p) (k : Kp [] w w') : PieceAt w' P p := by
  obtain ⟨A, c, B, d, h0, h1, h2, h3, h4, h5, h6, h7, h8, h9, h10⟩ := h
  exact ⟨A, c, B, d, k.cell h0 (by simp), k.cell h1 (by simp), k.cell h2 (by simp), k.cell h3 (by simp), k.cell h4 (by simp), k.cell h5 (by simp), h6.kept k, h7, h8, h9.kept k, h10⟩
theorem PiecesAt.kept {w w' : World} {A : Option Addr} {ps : List Pc} (h : PiecesAt w A ps) (k : Kp [] w w') : PiecesAt w' A ps := fun i p hi => by
  obtain ⟨ad, h1, h2⟩ := h i p hi
  exact ⟨ad, h1, h2.kept k⟩
section
variable {W : World} {H : Type} {enc : TypeId × Value → H}
set_option maxRecDepth 100000 in
theorem piece_fuel {cs : List Value} {fuel : Nat} {x : DataW H × List MemPlace} (h : DataW.trod enc Tryd.prog W 0 (fun _ => true) true fuel 61 cs = some x) :
    ∃ (p : Pc) (A : Option Addr) (c : Nat) (B : Option Addr) (d : Nat), cs = [.int .i64 p.r.doc, .int .i64 p.r.out, .int .i64 p.r.len, .slice A p.r.holes.length c, .slice B p.b.length d, .bool p.right] ∧ Span W A (p.r.holes.map .string) ∧ p.r.holes.length ≤ c ∧ c ≤ 9223372036854775807 ∧
      Span W B (u8s p.b) ∧ p.b.length ≤ d ∧ d ≤ 9223372036854775807 ∧ RecIn p.r := by
  obtain ⟨xs, n, rfl, _, hl, hx, hall⟩ := DataW.trod_struct Tryd.underlying61 h
  have hl6 : cs.length = 6 := by rw [hl]; kernel_rfl
  match cs, hl6 with
  | [v0, v1, v2, v3, v4, v5], _ =>
    have hx3 : xs.length = 3 := hx
    match xs, hx3 with
    | [x0, x1, x2], _ =>
      have g0 := hall 0 _ rfl
      have g1 := hall 1 _ rfl
      have g2 := hall 2 _ rfl
      have c0 : Tryd.prog.cellsOf 24 = 4 := by kernel_rfl
      have c1 : Tryd.prog.cellsOf 25 = 1 := by kernel_rfl
      have c2 : Tryd.prog.cellsOf 4 = 1 := by kernel_rfl
      have e0 : (([v0, v1, v2, v3, v4, v5] : List Value).drop 0).take (Tryd.prog.cellsOf 24) = [v0, v1, v2, v3] := by rw [c0]; rfl
      have e1 : (([v0, v1, v2, v3, v4, v5] : List Value).drop 4).take (Tryd.prog.cellsOf 25) = [v4] := by rw [c1]; rfl
      have e2 : (([v0, v1, v2, v3, v4, v5] : List Value).drop 5).take (Tryd.prog.cellsOf 4) = [v5] := by rw [c2]; rfl
      have g0' : DataW.trod enc Tryd.prog W 0 (fun _ => true) true n 24 [v0, v1, v2, v3] = some x0 := by rw [← e0]; exact g0
      have g1' : DataW.trod enc Tryd.prog W 0 (fun _ => true) true n 25 [v4] = some x1 := by rw [← e1]; exact g1
      have g2' : DataW.trod enc Tryd.prog W 0 (fun _ => true) true n 4 [v5] = some x2 := by rw [← e2]; exact g2
      obtain ⟨r, A, c, hcs, hs1, hs2, hs3, hin⟩ := rec_fuel g0'
      have hv4 : ∃ a len cap, v4 = .slice a len cap := by
        rcases DataW.trod_slice Tryd.underlying25 g1' with ⟨hcs, _⟩ | ⟨ad, len', cap', _, _, _, _, hcs, _⟩
        · injection hcs with hcs
          exact ⟨_, _, _, hcs⟩
        · injection hcs with hcs
          exact ⟨_, _, _, hcs⟩
      obtain ⟨B, len, cap, rfl⟩ := hv4
      obtain ⟨l, b1, b2, b3, b4⟩ := open_bytes Tryd.underlying25 Tryd.underlying5 (by kernel_rfl) ⟨_, g1'⟩
      obtain ⟨bo, hbo, _⟩ := DataW.trod_bool Tryd.underlying4 g2'
      injection hbo with hbo
      subst hbo b2
      injection hcs with h0 hcs
      injection hcs with h1 hcs
      injection hcs with h2 hcs
      injection hcs with h3 _
      subst h0 h1 h2 h3
      exact ⟨⟨r, l, bo⟩, A, c, B, cap, rfl, hs1, hs2, hs3, b1, b3, b4, hin⟩
theorem open_pieces {a : Option Addr} {len cap : Nat} {d : DataW H} {p : List MemPlace} (h : DataW.Trod enc Tryd.prog W 0 (fun _ => true) true 50 (.slice a len cap) d p) :
    ∃ ps : List Pc, PiecesAt W a ps ∧ ps.length = len ∧ len ≤ cap ∧ cap ≤ 9223372036854775807 ∧ ∀ p ∈ ps, RecIn p.r := by
  obtain ⟨fuel, hf⟩ := h
  obtain ⟨vs, h1, h2, h3, h4, _⟩ := open_wide (enc := enc) Tryd.underlying50 6 (by kernel_rfl) (fun cs => ∃ (p : Pc) (A : Option Addr) (c : Nat) (B : Option Addr) (d : Nat), cs = [.int .i64 p.r.doc, .int .i64 p.r.out, .int .i64 p.r.len, .slice A p.r.holes.length c, .slice B p.b.length d, .bool p.right] ∧ Span W A (p.r.holes.map .string) ∧ p.r.holes.length ≤ c ∧ c ≤ 9223372036854775807 ∧
      Span W B (u8s p.b) ∧ p.b.length ≤ d ∧ d ≤ 9223372036854775807 ∧ RecIn p.r)
    (fun n cs y hy => piece_fuel hy) hf
  obtain ⟨ps, e1, e2⟩ := pick_lists (Q := fun (p : Pc) (cs : List Value) => ∃ (A : Option Addr) (c : Nat) (B : Option Addr) (d : Nat), cs = [.int .i64 p.r.doc, .int .i64 p.r.out, .int .i64 p.r.len, .slice A p.r.holes.length c, .slice B p.b.length d, .bool p.right] ∧ Span W A (p.r.holes.map .string) ∧ p.r.holes.length ≤ c ∧ c ≤ 9223372036854775807 ∧
      Span W B (u8s p.b) ∧ p.b.length ≤ d ∧ d ≤ 9223372036854775807 ∧ RecIn p.r) vs (fun u hu => by
    obtain ⟨i, hi⟩ := List.getElem?_of_mem hu
    exact (h4 i u hi).1)
  refine ⟨ps, fun k p hk => ?_, by omega, h2, h3, fun p hp => ?_⟩
  · obtain ⟨u, g1, A, c, B, d, rfl, g2, g3, g4, g5, g6, g7, _⟩ := e2 k p hk
    obtain ⟨_, _, ad, rfl, hcell⟩ := h4 k _ g1
    refine ⟨ad, rfl, A, c, B, d, ?_, ?_, ?_, ?_, ?_, ?_, g2, g3, g4, g5, g6, g7⟩
    · simpa [Addr.add] using hcell 0 _ rfl
    · simpa [Addr.add] using hcell 1 _ rfl
    · simpa [Addr.add] using hcell 2 _ rfl
    · simpa [Addr.add] using hcell 3 _ rfl
    · simpa [Addr.add] using hcell 4 _ rfl
    · simpa [Addr.add] using hcell 5 _ rfl
  · obtain ⟨i, hi⟩ := List.getElem?_of_mem hp
    obtain ⟨_, _, _, _, _, _, _, _, _, _, _, _, _, g⟩ := e2 i p hi
    exact g
set_option maxRecDepth 100000 in
theorem open_setup {v : Value} {d : DataW H} {p : List MemPlace} (hok : ∃ cs, v = .agg cs ∧ cs.size = Tryd.prog.cellsOf 49) (h : DataW.Trod enc Tryd.prog W 0 (fun _ => true) true 49 v d p) :
    ∃ a b c e : Int, v = .agg #[.int .i64 a, .int .i64 b, .int .i64 c, .int .i64 e] ∧ (-9223372036854775808 ≤ a ∧ a ≤ 9223372036854775807) ∧ (-9223372036854775808 ≤ b ∧ b ≤ 9223372036854775807) ∧ (-9223372036854775808 ≤ c ∧ c ≤ 9223372036854775807) ∧ (-9223372036854775808 ≤ e ∧ e ≤ 9223372036854775807) := by
  obtain ⟨cs, rfl, hsz⟩ := hok
  obtain ⟨fuel, hf⟩ := h
  obtain ⟨xs, n, rfl, _, hl, hx, hall⟩ := DataW.trod_struct Tryd.underlying49 hf
  have h4 : Tryd.prog.cellsOf 49 = 4 := by kernel_rfl
  have hl4 : cs.toList.length = 4 := by rw [Array.length_toList, hsz, h4]
  have hx4 : xs.length = 4 := hx
  have c1 : Tryd.prog.cellsOf 3 = 1 := by kernel_rfl
  match hm : cs.toList, hl4, xs, hx4 with
  | [v0, v1, v2, v3], _, [x0, x1, x2, x3], _ =>
    have hcs : (Value.agg cs).cells.toList = [v0, v1, v2, v3] := hm
    rw [hcs] at hall
    have e0 : (([v0, v1, v2, v3] : List Value).drop 0).take (Tryd.prog.cellsOf 3) = [v0] := by rw [c1]; rfl
    have e1 : (([v0, v1, v2, v3] : List Value).drop 1).take (Tryd.prog.cellsOf 3) = [v1] := by rw [c1]; rfl
    have e2 : (([v0, v1, v2, v3] : List Value).drop 2).take (Tryd.prog.cellsOf 3) = [v2] := by rw [c1]; rfl
    have e3 : (([v0, v1, v2, v3] : List Value).drop 3).take (Tryd.prog.cellsOf 3) = [v3] := by rw [c1]; rfl
    have g0 : DataW.trod enc Tryd.prog W 0 (fun _ => true) true n 3 [v0] = some x0 := by rw [← e0]; exact hall 0 _ rfl
    have g1 : DataW.trod enc Tryd.prog W 0 (fun _ => true) true n 3 [v1] = some x1 := by rw [← e1]; exact hall 1 _ rfl
    have g2 : DataW.trod enc Tryd.prog W 0 (fun _ => true) true n 3 [v2] = some x2 := by rw [← e2]; exact hall 2 _ rfl
    have g3 : DataW.trod enc Tryd.prog W 0 (fun _ => true) true n 3 [v3] = some x3 := by rw [← e3]; exact hall 3 _ rfl
    obtain ⟨a, y0, _, w0⟩ := DataW.trod_int Tryd.underlying3 g0
    obtain ⟨b, y1, _, w1⟩ := DataW.trod_int Tryd.underlying3 g1
    obtain ⟨c, y2, _, w2⟩ := DataW.trod_int Tryd.underlying3 g2
    obtain ⟨e, y3, _, w3⟩ := DataW.trod_int Tryd.underlying3 g3
    injection y0 with y0
    injection y1 with y1
    injection y2 with y2
    injection y3 with y3
    refine ⟨a, b, c, e, ?_, wf_i64 w0, wf_i64 w1, wf_i64 w2, wf_i64 w3⟩
    rw [show cs = cs.toList.toArray from by simp, hm, y0, y1, y2, y3]
theorem okWide_pair {base : Nat} {v : Value} (h : Value.okWide Tryd.prog W .any base 73 v) : ∃ cs, v = .agg cs := by
  simp only [Value.okWide, Tryd.underlying73] at h
  obtain ⟨cs, h1, _⟩ := h
  exact ⟨cs, h1⟩
set_option maxRecDepth 100000 in
theorem open_pair {v : Value} {d : DataW H} {p : List MemPlace} (hok : ∃ cs, v = .agg cs) (h : DataW.Trod enc Tryd.prog W 0 (fun _ => true) true 73 v d p) :
    ∃ a b : Int, v = .agg #[.int .i64 a, .int .i64 b] ∧ (-9223372036854775808 ≤ a ∧ a ≤ 9223372036854775807) ∧ (-9223372036854775808 ≤ b ∧ b ≤ 9223372036854775807) := by
  obtain ⟨cs, rfl⟩ := hok
  obtain ⟨fuel, hf⟩ := h
  obtain ⟨xs, n, rfl, _, hl, hx, hall⟩ := DataW.trod_array Tryd.underlying73 hf
  have c1 : Tryd.prog.cellsOf 3 = 1 := by kernel_rfl
  have hl2 : cs.toList.length = 2 := by
    have h2 : Tryd.prog.cellsOf 73 = 2 := by kernel_rfl
    exact hl.trans h2
  match hm : cs.toList, hl2, xs, hx with
  | [v0, v1], _, [x0, x1], _ =>
    have hcs : (Value.agg cs).cells.toList = [v0, v1] := hm
    rw [hcs] at hall
    have e0 : (([v0, v1] : List Value).drop (0 * Tryd.prog.cellsOf 3)).take (Tryd.prog.cellsOf 3) = [v0] := by rw [c1]; rfl
    have e1 : (([v0, v1] : List Value).drop (1 * Tryd.prog.cellsOf 3)).take (Tryd.prog.cellsOf 3) = [v1] := by rw [c1]; rfl
    have g0 : DataW.trod enc Tryd.prog W 0 (fun _ => true) true n 3 [v0] = some x0 := by rw [← e0]; exact hall 0 (by omega)
    have g1 : DataW.trod enc Tryd.prog W 0 (fun _ => true) true n 3 [v1] = some x1 := by rw [← e1]; exact hall 1 (by omega)
    obtain ⟨a, y0, _, w0⟩ := DataW.trod_int Tryd.underlying3 g0
    obtain ⟨b, y1, _, w1⟩ := DataW.trod_int Tryd.underlying3 g1
    injection y0 with y0
    injection y1 with y1
    refine ⟨a, b, ?_, wf_i64 w0, wf_i64 w1⟩
    rw [show cs = cs.toList.toArray from by simp, hm, y0, y1]
end
end Go.Proofs.YtepeopfdenieeaaDoor
