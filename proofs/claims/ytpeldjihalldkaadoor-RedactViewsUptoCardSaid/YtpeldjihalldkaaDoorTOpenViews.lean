/- What parameters of the types Policy, Two, [2]uint64 give, where what is read is of bounded bulk. -/
import Derived.Test.YtpeldjihalldkaaDoorTOpen
import Derived.Test.YtpeldjihalldkaaDoorTMask
namespace Go.Proofs.YtpeldjihalldkaaDoor
open Go Go.ChangeShapes Go.WideShapes Go.ChangeAt Go.RowKit

section
variable {W : World} {H : Type} {enc : TypeId × Value → H}
theorem bulk_text {s : ByteArray} (h : Rows.uptoBulk (H := H) (.lit (.string s.data.toList)) ≤ 1048576) : s.data.toList.length ≤ 1048576 := by
  simp only [Rows.uptoBulk] at h
  omega
set_option maxRecDepth 100000 in
theorem step_fuel {cs : List Value} {fuel : Nat} {x : DataW H × List MemPlace} (h : DataW.trod enc Tryd.prog W 0 (fun _ => true) true fuel 42 cs = some x) (hb : Rows.uptoBulk x.1 ≤ 1048576) :
    ∃ r : StI, cs = [.int .i64 r.1, .string ⟨r.2.1.toArray⟩, .int .i64 r.2.2] ∧ r.2.1.length ≤ 1048576 := by
  obtain ⟨xs, n, rfl, hx, hl, hxl, hall⟩ := DataW.trod_struct Tryd.underlying42 h
  have hl3 : cs.length = 3 := by rw [hl]; kernel_rfl
  have c1 : Tryd.prog.cellsOf 3 = 1 := by kernel_rfl
  have c2 : Tryd.prog.cellsOf 9 = 1 := by kernel_rfl
  rw [hx] at hb
  simp only [Rows.uptoBulk] at hb
  match cs, hl3 with
  | [v0, v1, v2], _ =>
    have hx3 : xs.length = 3 := hxl
    match xs, hx3 with
    | [x0, x1, x2], _ =>
      have g0 := hall 0 _ rfl
      have g1 := hall 1 _ rfl
      have g2 := hall 2 _ rfl
      simp only [List.getElem?_cons_zero, List.getElem?_cons_succ] at g0 g1 g2
      have b1 := bulk_part (l := [x0.1, x1.1, x2.1]) (d := x1.1) (by simp)
      have hb : Rows.uptoBulkAll [x0.1, x1.1, x2.1] + 1 ≤ 1048576 := hb
      obtain ⟨a, e0, _, w0⟩ := DataW.trod_int Tryd.underlying3 g0
      obtain ⟨s, e1, f1, w1⟩ := DataW.trod_string Tryd.underlying9 g1
      obtain ⟨z, e2, _, w2⟩ := DataW.trod_int Tryd.underlying3 g2
      injection e0 with e0
      injection e1 with e1
      injection e2 with e2
      subst e0 e1 e2
      refine ⟨(a, s.data.toList, z), ?_, ?_⟩
      · first | rfl | (dsimp only; rw [Array.toArray_toList])
      · dsimp only
        refine bulk_text (H := H) ?_
        have e : x1.1 = .lit (.string s.data.toList) := by rw [f1]
        rw [← e]
        omega
theorem open_path {a : Option Addr} {len cap fuel : Nat} {x : DataW H × List MemPlace} (h : DataW.trod enc Tryd.prog W 0 (fun _ => true) true fuel 40 [.slice a len cap] = some x) (hb : Rows.uptoBulk x.1 ≤ 1048576) :
    ∃ l : List StI, PathAt W a cap l ∧ l.length = len ∧ ∀ s ∈ l, s.2.1.length ≤ 1048576 := by
  obtain ⟨vs, h1, h2, h3, h4, h5⟩ := open_wideB (enc := enc) Tryd.underlying40 3 (by kernel_rfl) 1048576 (fun cs => ∃ r : StI, cs = [.int .i64 r.1, .string ⟨r.2.1.toArray⟩, .int .i64 r.2.2] ∧ r.2.1.length ≤ 1048576) (fun n cs y hy hb => step_fuel hy hb) h hb
  obtain ⟨l, hl, hq⟩ := pick_lists (Q := fun (r : StI) cs => cs = [Value.int .i64 r.1, .string ⟨r.2.1.toArray⟩, .int .i64 r.2.2] ∧ r.2.1.length ≤ 1048576) vs (fun u hu => by
    obtain ⟨i, hi⟩ := List.getElem?_of_mem hu
    exact (h5 i u hi).1)
  have hsh : ∀ s ∈ l, s.2.1.length ≤ 1048576 := fun s hs => by
    obtain ⟨i, hi⟩ := List.getElem?_of_mem hs
    obtain ⟨_, _, _, g⟩ := hq i s hi
    exact g
  refine ⟨l, ⟨by omega, h3, fun s hs => Nat.le_trans (hsh s hs) (by decide), fun i s hi => ?_⟩, by omega, hsh⟩
  obtain ⟨u, g1, rfl, _⟩ := hq i s hi
  obtain ⟨_, _, ad, e, hcell⟩ := h5 i _ g1
  refine ⟨ad, e, ?_, ?_, ?_⟩
  · simpa [Addr.add] using hcell 0 _ rfl
  · simpa [Addr.add] using hcell 1 _ rfl
  · simpa [Addr.add] using hcell 2 _ rfl
set_option maxRecDepth 100000 in
theorem mark_fuel {cs : List Value} {fuel : Nat} {x : DataW H × List MemPlace} (h : DataW.trod enc Tryd.prog W 0 (fun _ => true) true fuel 87 cs = some x) (hb : Rows.uptoBulk x.1 ≤ 1048576) :
    ∃ (m : List StI × Nat) (B : Option Addr) (cb : Nat), cs = [.slice B m.1.length cb, .int .u64 (m.2 : Int)] ∧ PathAt W B cb m.1 ∧ m.2 < 18446744073709551616 ∧ ∀ s ∈ m.1, s.2.1.length ≤ 1048576 := by
  obtain ⟨xs, n, rfl, hx, hl, hxl, hall⟩ := DataW.trod_struct Tryd.underlying87 h
  have hl2 : cs.length = 2 := by rw [hl]; kernel_rfl
  have c1 : Tryd.prog.cellsOf 40 = 1 := by kernel_rfl
  have c2 : Tryd.prog.cellsOf 23 = 1 := by kernel_rfl
  rw [hx] at hb
  simp only [Rows.uptoBulk] at hb
  match cs, hl2 with
  | [v0, v1], _ =>
    have hx2 : xs.length = 2 := hxl
    match xs, hx2 with
    | [x0, x1], _ =>
      have g0 := hall 0 _ rfl
      have g1 := hall 1 _ rfl
      simp only [List.getElem?_cons_zero, List.getElem?_cons_succ] at g0 g1
      have b0 := bulk_part (l := [x0.1, x1.1]) (d := x0.1) (by simp)
      have hb : Rows.uptoBulkAll [x0.1, x1.1] + 1 ≤ 1048576 := hb
      have g0' : DataW.trod enc Tryd.prog W 0 (fun _ => true) true n 40 [v0] = some x0 := g0
      obtain ⟨c, e1, _, w1⟩ := DataW.trod_int Tryd.underlying23 g1
      injection e1 with e1
      subst e1
      have hv0 : ∃ B len nb, v0 = .slice B len nb := by
        rcases DataW.trod_slice Tryd.underlying40 g0' with ⟨hcs, _⟩ | ⟨ad, len', cap', elems, rest, n, _, hcs, _⟩
        · injection hcs with hcs
          exact ⟨_, _, _, hcs⟩
        · injection hcs with hcs
          exact ⟨_, _, _, hcs⟩
      obtain ⟨B, len, cb, rfl⟩ := hv0
      obtain ⟨l, hp, hlen, hsh⟩ := open_path g0' (by omega)
      have wc := wf_u64 w1
      refine ⟨(l, c.toNat), B, cb, ?_, hp, by have := wc.2; dsimp only; omega, hsh⟩
      dsimp only
      rw [hlen, show ((c.toNat : Nat) : Int) = c from Int.toNat_of_nonneg wc.1]
theorem open_marks {a : Option Addr} {len cap fuel : Nat} {x : DataW H × List MemPlace} (h : DataW.trod enc Tryd.prog W 0 (fun _ => true) true fuel 50 [.slice a len cap] = some x) (hb : Rows.uptoBulk x.1 ≤ 1048576) :
    ∃ ms : List (List StI × Nat), MarksAt W a cap ms ∧ ms.length = len ∧ ∀ m ∈ ms, ∀ s ∈ m.1, s.2.1.length ≤ 1048576 := by
  obtain ⟨vs, h1, h2, h3, h4, h5⟩ := open_wideB (enc := enc) Tryd.underlying50 2 (by kernel_rfl) 1048576 (fun cs => ∃ m : List StI × Nat, ∃ (B : Option Addr) (cb : Nat), cs = [.slice B m.1.length cb, .int .u64 (m.2 : Int)] ∧ PathAt W B cb m.1 ∧ m.2 < 18446744073709551616 ∧ ∀ s ∈ m.1, s.2.1.length ≤ 1048576) (fun n cs y hy hb => mark_fuel hy hb) h hb
  obtain ⟨l, hl, hq⟩ := pick_lists (Q := fun (m : List StI × Nat) cs => ∃ (B : Option Addr) (cb : Nat), cs = [Value.slice B m.1.length cb, .int .u64 (m.2 : Int)] ∧ PathAt W B cb m.1 ∧ m.2 < 18446744073709551616 ∧ ∀ s ∈ m.1, s.2.1.length ≤ 1048576) vs (fun u hu => by
    obtain ⟨i, hi⟩ := List.getElem?_of_mem hu
    exact (h5 i u hi).1)
  refine ⟨l, ⟨by omega, h3, fun m hm => ?_, fun i m hi => ?_⟩, by omega, fun m hm => ?_⟩
  · obtain ⟨i, hi⟩ := List.getElem?_of_mem hm
    obtain ⟨_, _, _, _, _, _, g, _⟩ := hq i m hi
    exact g
  · obtain ⟨u, g1, B, cb, rfl, g2, _⟩ := hq i m hi
    obtain ⟨_, _, ad, e, hcell⟩ := h5 i _ g1
    refine ⟨ad, e, B, cb, ?_, ?_, g2⟩
    · simpa [Addr.add] using hcell 0 _ rfl
    · simpa [Addr.add] using hcell 1 _ rfl
  · obtain ⟨i, hi⟩ := List.getElem?_of_mem hm
    obtain ⟨_, _, _, _, _, _, _, g⟩ := hq i m hi
    exact g
set_option maxRecDepth 100000 in
theorem open_policy {v : Value} {d : DataW H} {p : List MemPlace} (hok : ∃ cs, v = .agg cs ∧ cs.size = Tryd.prog.cellsOf 52) (h : DataW.Trod enc Tryd.prog W 0 (fun _ => true) true 52 v d p) (hb : Rows.uptoBulk d ≤ 1048576) :
    ∃ (Ac : Option Addr) (cc : Nat) (C : List Txt) (Am : Option Addr) (cm : Nat) (ms : List (List StI × Nat)) (tok : Txt) (fu qu : Int), v = .agg #[.slice Ac C.length cc, .slice Am ms.length cm, .string ⟨tok.toArray⟩, .int .i64 fu, .int .i64 qu] ∧
      RawsAt W Ac cc C ∧ MarksAt W Am cm ms ∧ (∀ m ∈ ms, ∀ s ∈ m.1, s.2.1.length ≤ 1048576) ∧ tok.length ≤ 1048576 := by
  obtain ⟨cs, rfl, _⟩ := hok
  obtain ⟨fuel, hf⟩ := h
  obtain ⟨xs, n, rfl, hx, hl, hxl, hall⟩ := DataW.trod_struct Tryd.underlying52 hf
  have hl5 : cs.toList.length = 5 := by
    have h2 : Tryd.prog.cellsOf 52 = 5 := by kernel_rfl
    exact hl.trans h2
  have c1 : Tryd.prog.cellsOf 27 = 1 := by kernel_rfl
  have c2 : Tryd.prog.cellsOf 50 = 1 := by kernel_rfl
  have c3 : Tryd.prog.cellsOf 9 = 1 := by kernel_rfl
  have c4 : Tryd.prog.cellsOf 3 = 1 := by kernel_rfl
  have hx := (Prod.mk.inj hx).1
  rw [hx] at hb
  simp only [Rows.uptoBulk] at hb
  match hm : cs.toList, hl5, xs, hxl with
  | [v0, v1, v2, v3, v4], _, [x0, x1, x2, x3, x4], _ =>
    have hcs : (Value.agg cs).cells.toList = [v0, v1, v2, v3, v4] := hm
    rw [hcs] at hall
    have g0 := hall 0 _ rfl
    have g1 := hall 1 _ rfl
    have g2 := hall 2 _ rfl
    have g3 := hall 3 _ rfl
    have g4 := hall 4 _ rfl
    simp only [List.getElem?_cons_zero, List.getElem?_cons_succ] at g0 g1 g2 g3 g4
    have b0 := bulk_part (l := [x0.1, x1.1, x2.1, x3.1, x4.1]) (d := x0.1) (by simp)
    have b1 := bulk_part (l := [x0.1, x1.1, x2.1, x3.1, x4.1]) (d := x1.1) (by simp)
    have b2 := bulk_part (l := [x0.1, x1.1, x2.1, x3.1, x4.1]) (d := x2.1) (by simp)
    have hb : Rows.uptoBulkAll [x0.1, x1.1, x2.1, x3.1, x4.1] + 1 ≤ 1048576 := hb
    have g0' : DataW.trod enc Tryd.prog W 0 (fun _ => true) true n 27 [v0] = some x0 := g0
    have g1' : DataW.trod enc Tryd.prog W 0 (fun _ => true) true n 50 [v1] = some x1 := g1
    obtain ⟨s, e2, f2, _⟩ := DataW.trod_string Tryd.underlying9 g2
    obtain ⟨fu, e3, _, _⟩ := DataW.trod_int Tryd.underlying3 g3
    obtain ⟨qu, e4, _, _⟩ := DataW.trod_int Tryd.underlying3 g4
    injection e2 with e2
    injection e3 with e3
    injection e4 with e4
    have hv0 : ∃ B len nb, v0 = .slice B len nb := by
      rcases DataW.trod_slice Tryd.underlying27 g0' with ⟨hcs, _⟩ | ⟨ad, len', cap', elems, rest, n, _, hcs, _⟩
      · injection hcs with hcs
        exact ⟨_, _, _, hcs⟩
      · injection hcs with hcs
        exact ⟨_, _, _, hcs⟩
    have hv1 : ∃ B len nb, v1 = .slice B len nb := by
      rcases DataW.trod_slice Tryd.underlying50 g1' with ⟨hcs, _⟩ | ⟨ad, len', cap', elems, rest, n, _, hcs, _⟩
      · injection hcs with hcs
        exact ⟨_, _, _, hcs⟩
      · injection hcs with hcs
        exact ⟨_, _, _, hcs⟩
    obtain ⟨Ac, nc, cc, rfl⟩ := hv0
    obtain ⟨Am, nm, cm, rfl⟩ := hv1
    obtain ⟨C, hC, hCl⟩ := open_keys g0' (by omega)
    obtain ⟨ms, hms, hml, hsh⟩ := open_marks g1' (by omega)
    refine ⟨Ac, cc, C, Am, cm, ms, s.data.toList, fu, qu, ?_, hC, hms, hsh, bulk_text (H := H) ?_⟩
    · rw [show cs = cs.toList.toArray from by simp, hm, e2, e3, e4, hCl, hml, Array.toArray_toList]
    · have e : x2.1 = .lit (.string s.data.toList) := by rw [f2]
      rw [← e]
      omega
set_option maxRecDepth 100000 in
theorem open_two {v : Value} {d : DataW H} {p : List MemPlace} (hok : ∃ cs, v = .agg cs ∧ cs.size = Tryd.prog.cellsOf 54) (h : DataW.Trod enc Tryd.prog W 0 (fun _ => true) true 54 v d p) (hb : Rows.uptoBulk d ≤ 1048576) :
    ∃ (A : Option Addr) (c : Nat) (l : List Itm) (A' : Option Addr) (c' : Nat) (l' : List Itm), v = .agg #[.slice A l.length c, .slice A' l'.length c'] ∧ ItemsAt W A c l ∧ ItemsAt W A' c' l' := by
  obtain ⟨cs, rfl, _⟩ := hok
  obtain ⟨fuel, hf⟩ := h
  obtain ⟨xs, n, rfl, hx, hl, hxl, hall⟩ := DataW.trod_struct Tryd.underlying54 hf
  have hl2 : cs.toList.length = 2 := by
    have h2 : Tryd.prog.cellsOf 54 = 2 := by kernel_rfl
    exact hl.trans h2
  have c1 : Tryd.prog.cellsOf 22 = 1 := by kernel_rfl
  have hx := (Prod.mk.inj hx).1
  rw [hx] at hb
  simp only [Rows.uptoBulk] at hb
  match hm : cs.toList, hl2, xs, hxl with
  | [v0, v1], _, [x0, x1], _ =>
    have hcs : (Value.agg cs).cells.toList = [v0, v1] := hm
    rw [hcs] at hall
    have g0 := hall 0 _ rfl
    have g1 := hall 1 _ rfl
    simp only [List.getElem?_cons_zero, List.getElem?_cons_succ] at g0 g1
    have b0 := bulk_part (l := [x0.1, x1.1]) (d := x0.1) (by simp)
    have b1 := bulk_part (l := [x0.1, x1.1]) (d := x1.1) (by simp)
    have hb : Rows.uptoBulkAll [x0.1, x1.1] + 1 ≤ 1048576 := hb
    have g0' : DataW.trod enc Tryd.prog W 0 (fun _ => true) true n 22 [v0] = some x0 := g0
    have g1' : DataW.trod enc Tryd.prog W 0 (fun _ => true) true n 22 [v1] = some x1 := g1
    have hv0 : ∃ B len nb, v0 = .slice B len nb := by
      rcases DataW.trod_slice Tryd.underlying22 g0' with ⟨hcs, _⟩ | ⟨ad, len', cap', elems, rest, n, _, hcs, _⟩
      · injection hcs with hcs
        exact ⟨_, _, _, hcs⟩
      · injection hcs with hcs
        exact ⟨_, _, _, hcs⟩
    have hv1 : ∃ B len nb, v1 = .slice B len nb := by
      rcases DataW.trod_slice Tryd.underlying22 g1' with ⟨hcs, _⟩ | ⟨ad, len', cap', elems, rest, n, _, hcs, _⟩
      · injection hcs with hcs
        exact ⟨_, _, _, hcs⟩
      · injection hcs with hcs
        exact ⟨_, _, _, hcs⟩
    obtain ⟨A, na, c, rfl⟩ := hv0
    obtain ⟨A', na', c', rfl⟩ := hv1
    obtain ⟨l, hl1, hl2⟩ := open_items (d := x0.1) (p := x0.2) ⟨n, g0'⟩ (by omega)
    obtain ⟨l', hl1', hl2'⟩ := open_items (d := x1.1) (p := x1.2) ⟨n, g1'⟩ (by omega)
    refine ⟨A, c, l, A', c', l', ?_, hl1, hl1'⟩
    rw [show cs = cs.toList.toArray from by simp, hm, hl2, hl2']
set_option maxRecDepth 100000 in
theorem okWide_arr2 {base : Nat} {v : Value} (h : Value.okWide Tryd.prog W .any base 55 v) : ∃ cs, v = .agg cs := by
  simp only [Value.okWide, Tryd.underlying55] at h
  obtain ⟨cs, h1, _⟩ := h
  exact ⟨cs, h1⟩
set_option maxRecDepth 100000 in
theorem open_arr2 {v : Value} {d : DataW H} {p : List MemPlace} (hok : ∃ cs, v = .agg cs) (h : DataW.Trod enc Tryd.prog W 0 (fun _ => true) true 55 v d p) :
    ∃ a b : Int, v = .agg #[.int .u64 a, .int .u64 b] ∧ (0 ≤ a ∧ a ≤ 18446744073709551615) ∧ (0 ≤ b ∧ b ≤ 18446744073709551615) := by
  obtain ⟨cs, rfl⟩ := hok
  obtain ⟨fuel, hf⟩ := h
  obtain ⟨xs, n, rfl, _, hl, hx, hall⟩ := DataW.trod_array Tryd.underlying55 hf
  have c1 : Tryd.prog.cellsOf 23 = 1 := by kernel_rfl
  have hl2 : cs.toList.length = 2 := by
    have h2 : Tryd.prog.cellsOf 55 = 2 := by kernel_rfl
    exact hl.trans h2
  match hm : cs.toList, hl2, xs, hx with
  | [v0, v1], _, [x0, x1], _ =>
    have hcs : (Value.agg cs).cells.toList = [v0, v1] := hm
    rw [hcs] at hall
    have e0 : (([v0, v1] : List Value).drop (0 * Tryd.prog.cellsOf 23)).take (Tryd.prog.cellsOf 23) = [v0] := by rw [c1]; rfl
    have e1 : (([v0, v1] : List Value).drop (1 * Tryd.prog.cellsOf 23)).take (Tryd.prog.cellsOf 23) = [v1] := by rw [c1]; rfl
    have g0 : DataW.trod enc Tryd.prog W 0 (fun _ => true) true n 23 [v0] = some x0 := by rw [← e0]; exact hall 0 (by omega)
    have g1 : DataW.trod enc Tryd.prog W 0 (fun _ => true) true n 23 [v1] = some x1 := by rw [← e1]; exact hall 1 (by omega)
    obtain ⟨a, y0, _, w0⟩ := DataW.trod_int Tryd.underlying23 g0
    obtain ⟨b, y1, _, w1⟩ := DataW.trod_int Tryd.underlying23 g1
    injection y0 with y0
    injection y1 with y1
    refine ⟨a, b, ?_, wf_u64 w0, wf_u64 w1⟩
    rw [show cs = cs.toList.toArray from by simp, hm, y0, y1]
end
end Go.Proofs.YtpeldjihalldkaaDoor
