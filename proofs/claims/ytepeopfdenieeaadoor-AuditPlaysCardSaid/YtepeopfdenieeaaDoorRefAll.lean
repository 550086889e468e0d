/- The document's answer: the records that bytes begin with, one behind the other. -/
import Derived.Test.YtepeopfdenieeaaDoorRefTake
import Derived.Test.YtepeopfdenieeaaDoorAll
namespace Go.Proofs.YtepeopfdenieeaaDoor
open Go Go.RowKit

set_option maxRecDepth 100000 in
set_option maxHeartbeats 2000000 in
theorem rall_any (w : World) (A : Option Addr) (n c : Nat) (l : List UInt8) (hs : Span w A (u8s l)) (hn : l.length = n) (hc : n ≤ c) (hc2 : c ≤ 9223372036854775807) (hm : n ≤ 1099511627776) :
    Calls Tryd.prog 23 #[.slice A n c] w (AllPost w l) := by
  have Hn := hid hn
  clear hn
  go_enter Tryd.func23, Tryd.ntmps23
  go_wp2_with fail
  go_loopw [4, 5] (fun v i wr => ∃ (k : Nat) (rs : List Rec) (m : List UInt8), k ≤ n ∧ i = .int .i64 k ∧ l = putAll rs ++ m ∧ (putAll rs).length = k ∧ (∀ r ∈ rs, mayOf r = 0) ∧ RecsOwn wr v rs ∧ New w wr v) (fun _ i _ => n - (intOf i).toNat)
  case atStart => exact ⟨0, [], l, by omega, rfl, rfl, rfl, by simp, RecsOwn.of_empty (Cells.fresh _ _ _), ⟨(Kp.refl _ _).alloc _, by simp [Value.ownBlock]⟩⟩
  case round =>
    obtain ⟨k, rs, m, hk, rfl, hl, hpl, hmay, ho, hnw⟩ := hrel
    have hm2 : l.drop k = m := by rw [hl, ← hpl, List.drop_left]
    have hml : m.length = n - k := by rw [← hm2, List.length_drop, Hn.out]
    have hsm : Span wr (cutA A k c 1) (u8s m) := by
      rw [← hm2]
      exact (hs.kept hnw.kp).cut8 k (by rw [Hn.out]; exact hc)
    have hcnt := putAll_len rs
    rw [hpl] at hcnt
    have Hl := hid hl
    have Hpl := hid hpl
    have Hml := hid hml
    have Hmay := hid hmay
    clear hl hpl hm2 hml hmay
    go_wp2_with fail
    refine (rtake_any wr _ (n - k) (c - k) m hsm Hml.out (by omega) (by omega)).mono ?_
    rintro e w1 (⟨r, v1, hb, rfl, ⟨B, d, rfl, hB, hd1, hd2, hnew⟩, hk1⟩ | ⟨hno, rfl, hk1⟩)
    · obtain ⟨hmr, t, ht⟩ := hb
      have hrec : RecNew wr w1 r (.agg #[.int .i64 r.doc, .int .i64 r.out, .int .i64 r.len, .slice B r.holes.length d]) := ⟨B, d, rfl, hB, hd1, hd2, hnew⟩
      obtain ⟨p, hp⟩ : ∃ p, p = (putB r).length := ⟨_, rfl⟩
      rw [← hp]
      have hp22 := putB_len r
      rw [← hp] at hp22
      have hkp : k + p ≤ n := by
        have h1 := Hml.out
        rw [ht, List.length_append, ← hp] at h1
        omega
      have ho1 := ho.kept hk1
      obtain ⟨xs, hx⟩ := ho1
      have hk2 := ((Kp.refl [] w1).alloc (.cells (recCells r B d).toArray 24)).alloc (.cells (recCells r B d).toArray 24)
      have hx2 := hx.1.kept hk2
      have hnw2 := (hnw.kept hk1).kept hk2
      have hsN : Span ((w1.alloc (.cells (recCells r B d).toArray 24)).alloc (.cells (recCells r B d).toArray 24)) (some ⟨w1.heap.size + 1, 0, none⟩) (recCells r B d) := Span.of_cells (Cells.fresh1 _ _ _ _)
      have hB2 := hB.kept hk2
      have Ht := hid ht
      have Hp := hid hp
      have hx1 := RecsX.kept hx hk2
      have hdis : r.holes ≠ [] → ∀ ad, B = some ad → u4.ownBlock ≠ some ad.block := fun _ ad he hb => by
        have h1 := hnew ad he
        have h2 := ho.lt _ hb
        omega
      have hsn := fun v2 w2 (a : OwnN w2 24 4 v2 (rs.length + 1) (xs ++ recCells r B d)) b c => hx1.snoc a b c hB2 hd1 hd2 hdis
      have Hsn := hid hsn
      clear hsn hdis ht hp
      go_wp2_with (at_builtin; go_must (refine wpList_appendN rfl _ _ 35 rfl 24 _ 4 48 Tryd.underlying35 infoRec rfl (by omega) _ rs.length xs rfl hx2 _ 1 1 (recCells r B d) rfl hsN rfl (recCells_one _ _ _) ?_ ?_ ?_))
      · omega
      · omega
      intro v2 w2 ho2 hk3 hb3
      go_wp2_with fail
      go_roundw
      case rel =>
        refine ⟨k + p, rs ++ [r], t, by omega, by go_num, ?_, ?_, ?_, Hsn.out _ _ ho2 hk3 (by simpa using hb3), hnw2.append hk3 hb3 (by simp)⟩
        · rw [putAll_snoc, Hl.out, Ht.out, List.append_assoc]
        · rw [putAll_snoc, List.length_append, Hpl.out, Hp.out]
        · intro q hq
          rcases List.mem_append.1 hq with hq | hq
          · exact Hmay.out q hq
          · rw [List.mem_singleton.1 hq]; exact hmr
      case measure => simp [intOf]; omega
    · have hrows : Rows l rs m := ⟨Hmay.out, Hl.out, hno⟩
      have hk2 := hk1.alloc (.cells #[.int .i64 0, .int .i64 0, .int .i64 0, .slice none 0 0] 24)
      have fin : AllPost w l (.returned (.tuple #[u4, .int .i64 (k : Nat)])) (w1.alloc (.cells #[.int .i64 0, .int .i64 0, .int .i64 0, .slice none 0 0] 24)) := ⟨rs, m, u4, hrows, by rw [Hpl.out], ho.kept hk2, hnw.kp.nil hk2, hnw.blk⟩
      unfold zeroRec
      have Fin := hid fin
      clear fin hrows hno
      go_wp2_with fail
      go_ret2
      exact Fin.out
end Go.Proofs.YtepeopfdenieeaaDoor
