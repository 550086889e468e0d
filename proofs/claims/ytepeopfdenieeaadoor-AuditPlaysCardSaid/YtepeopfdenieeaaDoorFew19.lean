/- The law's 'few' of layer 19: a piece of at most 20 holes, of 60 bytes each, and of 100 bytes. -/
import Derived.Test.YtepeopfdenieeaaDoorFew17
import Derived.Test.YtepeopfdenieeaaDoorCut
import Derived.Deep.DeepCutAuto
namespace Go.Proofs.YtepeopfdenieeaaDoor
open Go Go.RowKit

structure Pc where
  r : Rec
  b : List UInt8
  right : Bool
/-- The value v is this piece in the world w. -/
def PcIs (w : World) (p : Pc) (v : Value) : Prop :=
  ∃ A c B d, v = .agg #[.int .i64 p.r.doc, .int .i64 p.r.out, .int .i64 p.r.len, .slice A p.r.holes.length c, .slice B p.b.length d, .bool p.right] ∧ Span w A (p.r.holes.map .string) ∧ p.r.holes.length ≤ c ∧ c ≤ 9223372036854775807 ∧
    Span w B (u8s p.b) ∧ p.b.length ≤ d ∧ d ≤ 9223372036854775807
theorem PcIs.kept {w w' : World} {p : Pc} {v : Value} (h : PcIs w p v) (k : Kp [] w w') : PcIs w' p v := by
  obtain ⟨A, c, B, d, h1, h2, h3, h4, h5, h6, h7⟩ := h
  exact ⟨A, c, B, d, h1, h2.kept k, h3, h4, h5.kept k, h6, h7⟩
def cut60 (s : ByteArray) : ByteArray := if 60 < s.size then s.extract 0 60 else s
theorem size_cut60 (s : ByteArray) : (cut60 s).size ≤ 60 := by
  unfold cut60
  split
  · rw [size_extract _ _ (by omega)]; omega
  · omega
def fewPH (hs : List ByteArray) (k : Nat) : List ByteArray := (hs.take k).map cut60
theorem fewPH_succ (hs : List ByteArray) (k : Nat) (h : k < hs.length) : fewPH hs (k + 1) = fewPH hs k ++ [cut60 hs[k]] := by
  unfold fewPH
  rw [List.take_add_one, List.getElem?_eq_getElem h, List.map_append]
  rfl
theorem length_fewPH (hs : List ByteArray) (k : Nat) (h : k ≤ hs.length) : (fewPH hs k).length = k := by simp [fewPH]; omega
/-- That piece. -/
def fewP (p : Pc) : Pc := ⟨⟨p.r.doc, p.r.out, if p.right then ((p.b.take 100).length : Int) else p.r.len, fewPH p.r.holes (min p.r.holes.length 20)⟩, p.b.take 100, p.right⟩
theorem size_fewPH (hs : List ByteArray) (k : Nat) : ∀ s ∈ fewPH hs k, s.size ≤ 60 := by
  intro s hs'
  obtain ⟨x, _, rfl⟩ := List.mem_map.1 hs'
  exact size_cut60 _
def FewPPost (w : World) (p : Pc) (e : Ending) (w' : World) : Prop := ∃ v, e = .returned v ∧ PcIs w' (fewP p) v ∧ Kp [] w w'
/-- The same; the holes lie in a block of the call's own, the bytes where they lay. -/
def FewPOwn (w : World) (p : Pc) (B : Option Addr) (d : Nat) (e : Ending) (w' : World) : Prop :=
  ∃ A c, e = .returned (.agg #[.int .i64 (fewP p).r.doc, .int .i64 (fewP p).r.out, .int .i64 (fewP p).r.len, .slice A (fewP p).r.holes.length c, .slice B (fewP p).b.length d, .bool (fewP p).right]) ∧
    Own w' 9 (.slice A (fewP p).r.holes.length c) (fewP p).r.holes.length ((fewP p).r.holes.map .string) ∧ c ≤ 9223372036854775807 ∧ Span w' B (u8s (fewP p).b) ∧ (fewP p).b.length ≤ d ∧ d ≤ 9223372036854775807 ∧ Kp [] w w'
theorem FewPOwn.post {w w' : World} {p : Pc} {B : Option Addr} {d : Nat} {e : Ending} (h : FewPOwn w p B d e w') : FewPPost w p e w' := by
  obtain ⟨A, c, rfl, ho, hc, h1, h2, h3, hk⟩ := h
  obtain ⟨A', c', e1, sp, g1, -, -⟩ := ho.shape
  injection e1 with e1 e2 e3
  subst e1 e3
  exact ⟨_, rfl, ⟨A, c, B, d, rfl, sp, g1, hc, h1, h2, h3⟩, hk⟩
theorem PcIs.parts {w : World} {p : Pc} {A B : Option Addr} {c d : Nat} (h : PcIs w p (.agg #[.int .i64 p.r.doc, .int .i64 p.r.out, .int .i64 p.r.len, .slice A p.r.holes.length c, .slice B p.b.length d, .bool p.right])) :
    Span w A (p.r.holes.map .string) ∧ p.r.holes.length ≤ c ∧ c ≤ 9223372036854775807 ∧ Span w B (u8s p.b) ∧ p.b.length ≤ d ∧ d ≤ 9223372036854775807 := by
  obtain ⟨A', c', B', d', e, h1, h2, h3, h4, h5, h6⟩ := h
  injection e with e
  have e := congrArg Array.toList e
  simp only [List.cons.injEq, and_true, true_and] at e
  obtain ⟨e1, e2⟩ := e
  injection e1 with e1 _ e3
  injection e2 with e4 _ e5
  subst e1 e3 e4 e5
  exact ⟨h1, h2, h3, h4, h5, h6⟩
theorem PcIs.value {w : World} {p : Pc} {v : Value} (h : PcIs w p v) : ∃ A c B d, v = .agg #[.int .i64 p.r.doc, .int .i64 p.r.out, .int .i64 p.r.len, .slice A p.r.holes.length c, .slice B p.b.length d, .bool p.right] := by
  obtain ⟨A, c, B, d, h, _⟩ := h
  exact ⟨A, c, B, d, h⟩

set_option maxRecDepth 100000 in
set_option maxHeartbeats 4000000 in
theorem fewp_own (w : World) (p : Pc) (A : Option Addr) (c : Nat) (B : Option Addr) (d : Nat) (hp : PcIs w p (.agg #[.int .i64 p.r.doc, .int .i64 p.r.out, .int .i64 p.r.len, .slice A p.r.holes.length c, .slice B p.b.length d, .bool p.right])) (hz : ∀ s ∈ p.r.holes, s.size ≤ 9223372036854775807) :
    Calls Tryd.prog 28 #[.agg #[.int .i64 p.r.doc, .int .i64 p.r.out, .int .i64 p.r.len, .slice A p.r.holes.length c, .slice B p.b.length d, .bool p.right]] w (FewPOwn w p B d) := by
  obtain ⟨hsp, hc, hc2, hsb, hd, hd2⟩ := hp.parts
  clear hp
  obtain ⟨n, hn⟩ : ∃ n, n = p.r.holes.length := ⟨_, rfl⟩
  obtain ⟨m, hm⟩ : ∃ m, m = p.b.length := ⟨_, rfl⟩
  rw [← hn] at hc ⊢
  rw [← hm] at hd ⊢
  have Hn := hid hn
  have Hm := hid hm
  clear hn hm
  go_enter Tryd.func28, Tryd.ntmps28
  go_wp2_with fail
  obtain ⟨w2, hw2, B1, B2, K2, hs2⟩ : ∃ w2, w2 = (w.alloc (.cells #[.int .i64 p.r.doc, .int .i64 p.r.out, .int .i64 p.r.len, .slice A n c, .slice B m d, .bool p.right] 61)).alloc (.cells #[.int .i64 0, .int .i64 0, .int .i64 0, .slice none 0 0, .slice none 0 0, .bool false] 61) ∧
      Cells w2 w.heap.size 61 [.int .i64 p.r.doc, .int .i64 p.r.out, .int .i64 p.r.len, .slice A n c, .slice B m d, .bool p.right] ∧ Cells w2 (w.heap.size + 1) 61 [.int .i64 0, .int .i64 0, .int .i64 0, .slice none 0 0, .slice none 0 0, .bool false] ∧ Kp [] w w2 ∧ w2.heap.size = w.heap.size + 2 :=
    ⟨_, rfl, (Cells.fresh _ _ _).alloc _, Cells.fresh1 _ _ _ _, ((Kp.refl _ _).alloc _).alloc _, by simp⟩
  rw [← hw2]
  clear hw2
  obtain ⟨S, hS⟩ : ∃ S, S = w.heap.size := ⟨_, rfl⟩
  rw [← hS] at B1 B2 hs2 ⊢
  have HS := hid hS
  clear hS
  have o3 : Own (w2.alloc (.cells #[] 9)) 9 (.slice (some ⟨S + 1 + 1, 0, none⟩) 0 0) 0 [] := by
    have := Own.of_cells (Cells.fresh w2 9 []) (Nat.zero_le _)
    rwa [hs2] at this
  have n3 : New w2 (w2.alloc (.cells #[] 9)) (.slice (some ⟨S + 1 + 1, 0, none⟩) 0 0) := ⟨(Kp.refl _ _).alloc _, by intro g hg; have : S + 1 + 1 = g := (by simpa [Value.ownBlock] using hg); omega⟩
  generalize w2.alloc (.cells #[] 9) = w3 at *
  have Hs2 := hid hs2
  clear hs2
  go_loopw [3, 4] (fun v i wr => ∃ k : Nat, k ≤ n ∧ k ≤ 20 ∧ i = .int .i64 k ∧ Own wr 9 v k ((fewPH p.r.holes k).map .string) ∧ New w2 wr v) (fun _ i _ => n - (intOf i).toNat)
  case atStart => exact ⟨0, by omega, by omega, rfl, o3, n3⟩
  case round =>
    clear o3 n3
    obtain ⟨k, hk, hk2, rfl, ho, hnw⟩ := hrel
    have b1 := B1.keep hnw.kp (by simp)
    have C3 := b1.cell 3
    simp only [List.getElem?_cons_zero, List.getElem?_cons_succ] at C3
    by_cases hlt : k < n ∧ k < 20
    · obtain ⟨hlt, hlt2⟩ := hlt
      have hkl : k < p.r.holes.length := by rw [← Hn.out]; exact hlt
      obtain ⟨ad, hA, hcl⟩ := (hsp.kept (K2.nil hnw.kp)).get (j := k) (by simpa using hkl)
      subst hA
      simp only [List.getElem_map] at hcl
      have hsucc := fewPH_succ p.r.holes k hkl
      have hz1 := hz _ (List.getElem_mem hkl)
      obtain ⟨s, hs1⟩ : ∃ s, s = p.r.holes[k] := ⟨_, rfl⟩
      rw [← hs1] at hcl hz1 hsucc
      have Hsucc := hid hsucc
      clear hs1 hsucc b1
      have close : ∀ (t : ByteArray), cut60 s = t → ∀ v1 w1, Own w1 9 v1 (k + 1) ((fewPH p.r.holes k).map .string ++ [.string t]) → Own w1 9 v1 (k + 1) ((fewPH p.r.holes (k + 1)).map .string) := by
        intro t ht v1 w1 h
        rw [Hsucc.out, List.map_append, ht]
        exact h
      have Close := hid close
      clear close
      by_cases h1 : 60 < s.size
      · have Ht : Hid (cut60 s = s.extract 0 60) := hid (by rw [cut60, if_pos h1])
        have hsz := size_extract s 60 (by omega)
        go_wp2_with (at_builtin; go_must (refine wpList_append1 rfl _ _ 22 rfl 9 (.string ⟨#[]⟩) 16 Tryd.underlying22 infoStr rfl _ _ _ rfl (ho.kept ((Kp.refl _ _).alloc _)) _ 1 1 [.string (s.extract 0 60)] rfl (Span.of_new wr _ _ _) rfl (one_string _) ?_ ?_ ?_))
        · omega
        · omega
        intro v1 w1 ho1 hk1 hb1
        go_wp2_with fail
        go_roundw
        case rel => exact ⟨k + 1, by omega, by omega, by go_num, Close.out _ Ht.out _ _ ho1, (hnw.kept ((Kp.refl _ _).alloc _)).append hk1 hb1 (by simp)⟩
        case measure => simp [intOf]; omega
      · have Ht : Hid (cut60 s = s) := hid (by rw [cut60, if_neg h1])
        go_wp2_with (at_builtin; go_must (refine wpList_append1 rfl _ _ 22 rfl 9 (.string ⟨#[]⟩) 16 Tryd.underlying22 infoStr rfl _ _ _ rfl (ho.kept ((Kp.refl _ _).alloc _)) _ 1 1 [.string s] rfl (Span.of_new wr _ _ _) rfl (one_string _) ?_ ?_ ?_))
        · omega
        · omega
        intro v1 w1 ho1 hk1 hb1
        go_wp2_with fail
        go_roundw
        case rel => exact ⟨k + 1, by omega, by omega, by go_num, Close.out _ Ht.out _ _ ho1, (hnw.kept ((Kp.refl _ _).alloc _)).append hk1 hb1 (by simp)⟩
        case measure => simp [intOf]; omega
    · have hkm0 : k = min p.r.holes.length 20 := by have := Hn.out; omega
      have Hkm := hid hkm0
      obtain ⟨A3, c3, rfl, hsp3, hc3, -, hb3⟩ := ho.shape
      have hc4 : c3 ≤ 9223372036854775807 := by
        obtain ⟨-, h2⟩ := ho
        rcases h2 with ⟨h2, -⟩ | ⟨g, cap, cur, h2, -, -, -, h3, -⟩
        · injection h2 with _ _ h2; omega
        · injection h2 with _ _ h2; simp only [maxLen] at h3; omega
      have b2 := B2.keep hnw.kp (by simp)
      have hneA : ∀ ad, A3 = some ad → S + 1 < ad.block := fun ad h => by have := hnw.blk _ (hb3 ad h).2; have := Hs2.out; omega
      have hkw := K2.nil hnw.kp
      have hlk : (fewPH p.r.holes k).length = k := length_fewPH _ _ (by have := Hn.out; omega)
      have hneO : ∀ g, (Value.slice A3 k c3).ownBlock = some g → S + 1 < g := fun g hg => by have := hnw.blk g hg; have := Hs2.out; omega
      have HneO := hid hneO
      clear hneO
      have HneA := hid hneA
      have Hlk := hid hlk
      have hS1 := b1.lt
      -- the row of holes is stored
      obtain ⟨w4, hw4, d1, d2, ks⟩ : ∃ w4, w4 = wr.setCell ⟨S, 3, none⟩ (.slice A3 k c3) ∧ Cells w4 S 61 [.int .i64 p.r.doc, .int .i64 p.r.out, .int .i64 p.r.len, .slice A3 k c3, .slice B m d, .bool p.right] ∧
          Cells w4 (S + 1) 61 [.int .i64 0, .int .i64 0, .int .i64 0, .slice none 0 0, .slice none 0 0, .bool false] ∧ Kp [S, S + 1] wr w4 :=
        ⟨_, rfl, b1.put 3 _, b2.other (by simp) _, (Kp.refl _ _).setCell (fun _ => by simp) _⟩
      have F3 := b1.free 3
      have Hw4 := hid hw4
      have hb4 : (.slice B m d : Value) = .slice B m d := rfl
      clear hkm0 hb3 hneA hlk hw4 hb4
      rcases (show ¬ k < n ∨ (k < n ∧ ¬ k < 20) from by omega) with hx | ⟨hx1, hx2⟩
      all_goals
        go_upto_region 10 with fail
        rw [← Hw4.out]
        have e4 := d1.cell 4
        have f4 := d1.free 4
        simp only [List.getElem?_cons_zero, List.getElem?_cons_succ] at e4
        go_upto_if 40 with fail
        go_cut [] (fun wx => ∃ m' : Nat, m' = min m 100 ∧ Cells wx S 61 [.int .i64 p.r.doc, .int .i64 p.r.out, .int .i64 p.r.len, .slice A3 k c3, .slice B m' d, .bool p.right] ∧
          Cells wx (S + 1) 61 [.int .i64 0, .int .i64 0, .int .i64 0, .slice none 0 0, .slice none 0 0, .bool false] ∧ Kp [S, S + 1] wr wx)
        case first =>
          by_cases h1 : 100 < m
          · go_wp2_with fail
            go_meet
            exact ⟨100, by omega, d1.put 4 _, d2.other (by simp) _, ks.setCell (fun _ => by simp) _⟩
          · go_wp2_with fail
            go_meet
            exact ⟨m, by omega, d1, d2, ks⟩
        case rest =>
          clear d1 d2 ks e4 f4 Hw4
          obtain ⟨m', hm', d1, d2, ks⟩ := hcut
          have e5 := d1.cell 5
          have e4 := d1.cell 4
          have f2 := d1.free 2
          have e2 := d1.cell 2
          simp only [List.getElem?_cons_zero, List.getElem?_cons_succ] at e5 e4 e2
          have Hm' := hid hm'
          clear hm'
          obtain ⟨R, hR⟩ : ∃ R, R = p.right := ⟨_, rfl⟩
          rw [← hR] at d1 e5 ⊢
          have HR := hid hR
          clear hR
          go_upto_if 46 with fail
          go_cut [] (fun wx => ∃ z : Int, z = (if R = true then (m' : Int) else p.r.len) ∧ Cells wx S 61 [.int .i64 p.r.doc, .int .i64 p.r.out, .int .i64 z, .slice A3 k c3, .slice B m' d, .bool R] ∧
            Cells wx (S + 1) 61 [.int .i64 0, .int .i64 0, .int .i64 0, .slice none 0 0, .slice none 0 0, .bool false] ∧ Kp [S, S + 1] wr wx)
          case first =>
            cases R with
            | true =>
              go_wp2_with fail
              go_meet
              exact ⟨m', rfl, d1.put 2 _, d2.other (by simp) _, ks.setCell (fun _ => by simp) _⟩
            | false =>
              go_wp2_with fail
              go_meet
              exact ⟨p.r.len, rfl, d1, d2, ks⟩
          case rest =>
            clear d1 d2 ks e4 e5 f2 e2
            obtain ⟨z, hz0, d1, d2, ks⟩ := hcut
            have Hz := hid hz0
            clear hz0
            have e0 := d1.cell 0
            have e1 := d1.cell 1
            have e2 := d1.cell 2
            have e3 := d1.cell 3
            have e4 := d1.cell 4
            have e5 := d1.cell 5
            have f0 := d2.free 0
            have f1 := d2.free 1
            have f2 := d2.free 2
            have f3 := d2.free 3
            have f4 := d2.free 4
            have f5 := d2.free 5
            have g0 := d2.cell 0
            have g1 := d2.cell 1
            have g2 := d2.cell 2
            have g3 := d2.cell 3
            have g4 := d2.cell 4
            have g5 := d2.cell 5
            simp only [List.getElem?_cons_zero, List.getElem?_cons_succ] at e0 e1 e2 e3 e4 e5 g0 g1 g2 g3 g4 g5
            go_wp2_with fail
            have hS := HS.out
            have hkz := ks
            obtain ⟨wf, hwf, C4, hs4, hk4⟩ : ∃ wf, wf = (((((wc.setCell ⟨S + 1, 0, none⟩ (.int .i64 p.r.doc)).setCell ⟨S + 1, 1, none⟩ (.int .i64 p.r.out)).setCell ⟨S + 1, 2, none⟩ (.int .i64 z)).setCell ⟨S + 1, 3, none⟩ (.slice A3 k c3)).setCell ⟨S + 1, 4, none⟩ (.slice B m' d)).setCell ⟨S + 1, 5, none⟩ (.bool R) ∧
                Cells wf (S + 1) 61 [.int .i64 p.r.doc, .int .i64 p.r.out, .int .i64 z, .slice A3 k c3, .slice B m' d, .bool R] ∧ Own wf 9 (.slice A3 k c3) k ((fewPH p.r.holes k).map .string) ∧ Kp [] w wf := by
              have ks2 := (((((ks.setCell (p := ⟨S + 1, 0, none⟩) (fun _ => by simp) (.int .i64 p.r.doc)).setCell (p := ⟨S + 1, 1, none⟩) (fun _ => by simp) (.int .i64 p.r.out)).setCell (p := ⟨S + 1, 2, none⟩) (fun _ => by simp) (.int .i64 z)).setCell (p := ⟨S + 1, 3, none⟩) (fun _ => by simp) (.slice A3 k c3)).setCell (p := ⟨S + 1, 4, none⟩) (fun _ => by simp) (.slice B m' d)).setCell (p := ⟨S + 1, 5, none⟩) (fun _ => by simp) (.bool R)
              refine ⟨_, rfl, (((((d2.put 0 _).put 1 _).put 2 _).put 3 _).put 4 _).put 5 _, ?_, ?_⟩
              · exact ho.keep ks2 (fun g hg hm => by have := HneO.out g hg; simp at hm; omega)
              · exact hkw.trans ks2 (by intro x hx hl; simp at hx; omega)
            have fin : FewPOwn w p B d (.returned (.agg #[.int .i64 p.r.doc, .int .i64 p.r.out, .int .i64 z, .slice A3 k c3, .slice B m' d, .bool R])) wf := by
              have e0 : (fewP p).r.holes = fewPH p.r.holes k := by
                show fewPH p.r.holes (min p.r.holes.length 20) = _
                rw [← Hkm.out]
              have e1 : (fewP p).r.holes.length = k := by rw [e0]; exact Hlk.out
              have e2 : (fewP p).b.length = m' := by
                show (p.b.take 100).length = m'
                rw [List.length_take, ← Hm.out, Hm'.out]; omega
              refine ⟨A3, c3, ?_, ?_, hc4, ?_, ?_, hd2, hk4⟩
              · rw [e1, e2]
                have e3 : (fewP p).r.len = z := by
                  show (if p.right then ((p.b.take 100).length : Int) else p.r.len) = z
                  rw [Hz.out, HR.out]
                  have : (p.b.take 100).length = m' := e2
                  rw [this]
                rw [e3, HR.out]
                rfl
              · rw [e1, e0]; exact hs4
              · exact (hsb.kept hk4).take8 100
              · rw [e2]; have := Hm'.out; omega
            have Fin2 := hid fin
            have HC4 := hid C4
            have Hwf := hid hwf
            clear hwf C4 hs4 hk4 fin hS hkz
            go_wp2_with fail
            rw [← Hwf.out]
            exact bodyPost_ret (results_cell_row rfl _ _ (S + 1) 61 _ _ _ rfl HC4.out Tryd.underlying61 rfl (by kernel_rfl)) rfl Fin2.out
theorem fewp_any (w : World) (p : Pc) (v : Value) (hp : PcIs w p v) (hz : ∀ s ∈ p.r.holes, s.size ≤ 9223372036854775807) :
    Calls Tryd.prog 28 #[v] w (FewPPost w p) := by
  obtain ⟨A, c, B, d, rfl⟩ := hp.value
  exact (fewp_own w p A c B d hp hz).mono fun _ _ h => h.post
end Go.Proofs.YtepeopfdenieeaaDoor
