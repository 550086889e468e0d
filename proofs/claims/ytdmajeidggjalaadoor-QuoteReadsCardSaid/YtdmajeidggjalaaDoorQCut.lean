/- quote.Cut. -/
import Derived.Test.YtdmajeidggjalaaDoorQValid
import Derived.Deep.Cut
import Derived.Lib.OthersKept
namespace Go.Proofs.YtdmajeidggjalaaDoor
open Go Go.RowKit

theorem fromN_eq (n : Nat) (f : Int) : min (max f 0) (n : Int) = ((fromN n f : Nat) : Int) := by unfold fromN; omega
theorem toN_eq (n : Nat) (f t : Int) : min (max t ((fromN n f : Nat) : Int)) (n : Int) = ((toN n f t : Nat) : Int) := by unfold toN; omega
theorem extract_list (s : ByteArray) (i j : Nat) : s.extract i j = ⟨((s.data.toList.take j).drop i).toArray⟩ := by
  apply ByteArray.ext
  rw [ByteArray.data_extract]
  apply Array.toList_inj.1
  rw [Array.toList_extract]
  simp [List.extract, List.drop_take]
set_option maxHeartbeats 1600000 in
set_option maxRecDepth 100000 in
theorem qcut_any (w : World) (s : ByteArray) (f t : Int) (hs : s.size < 9223372036854775000) :
    Calls Tryd.prog 18 #[.string s, .int .i64 f, .int .i64 t] w fun e w' => e = .returned (.string ⟨(cutL s.data.toList f t).toArray⟩) ∧ Kp [] w w' := by
  obtain ⟨L, hL⟩ : ∃ L, L = s.data.toList := ⟨_, rfl⟩
  have hlen : L.length = s.size := by rw [hL, Array.length_toList]; rfl
  have hr := qrunes_any w s (by omega)
  rw [← hL] at hr ⊢
  obtain ⟨n, hn⟩ : ∃ n, n = (partsL L).length := ⟨_, rfl⟩
  rw [← hn] at hr
  have hnl : n ≤ s.size := by rw [hn, ← hlen]; exact (length_parts_le L).1
  have e1 := fromN_eq n f
  have e2 := toN_eq n f t
  obtain ⟨a, ha⟩ : ∃ a, a = fromN n f := ⟨_, rfl⟩
  obtain ⟨b, hb⟩ : ∃ b, b = toN n f t := ⟨_, rfl⟩
  rw [← ha] at e1 e2
  rw [← hb] at e2
  have hab : a ≤ b := by rw [hb, ha]; unfold toN fromN; omega
  have hbn : b ≤ n := by rw [hb]; unfold toN; omega
  have hcut : cutL L f t = cutN L a b := by unfold cutL; rw [← hn, ← ha, ← hb]
  have Hhid := hid (And.intro hL (And.intro hn (And.intro hcut (And.intro ha hb))))
  clear hL hn hcut ha hb
  go_enter Tryd.func18, Tryd.ntmps18
  go_wp2_with fail
  refine hr.mono ?_
  rintro e w1 ⟨rfl, k1⟩
  go_wp2_with fail
  go_loopw [8, 9, 10] (fun vb ve vk wr => ∃ (pos k x : Nat), wr.heap[w1.heap.size]? = some (.stringIter s pos) ∧ Kp [] w wr ∧ w.heap.size ≤ w1.heap.size ∧ pos = offs L k ∧ k ≤ b ∧ vk = .int .i64 (k : Int) ∧
    vb = .int .i64 (x : Int) ∧ x = (if a < k then offs L a else s.size) ∧ ve = .int .i64 (s.size : Int)) (fun _ _ _ wr => s.size - wr.iterPos w1.heap.size)
  case atStart =>
    refine ⟨0, 0, s.size, ?_, k1.alloc _, k1.size, rfl, by omega, rfl, rfl, rfl, rfl⟩
    exact World.iter_heap w1 s 0
  case round =>
    obtain ⟨pos, k, x, hit, hk, hsz1, hpos, hkb, rfl, rfl, hx, rfl⟩ := hrel
    have Hx := hid (And.intro hx hpos)
    have hpl := offs_le L k
    rw [← hpos] at hpl
    have hab1 : offs L a ≤ s.size := by rw [← hlen]; exact offs_le L a
    have hxs : x ≤ s.size := by rw [hx]; split <;> omega
    by_cases hp : pos < s.size
    · have hnx : ∀ ty, (Instr.next (.pointer (some ⟨w1.heap.size, 0, none⟩)) true ty).run Tryd.prog wr = _ := fun ty => Lib.run_next_any_at wr w1.heap.size s pos ty hit hp
      obtain ⟨o1, o2, o3⟩ := offs_step (l := L) (k := k) (by omega)
      have hwd : wd (L.drop pos) = (Utf8.decode s pos).2 := by unfold wd; rw [Hhid.out.1, Lib.decodeL_drop]
      rw [← hpos, hwd] at o2
      have hw1 : 1 ≤ (Utf8.decode s pos).2 := Lib.decode_width_pos s pos hp
      have hit2 := Lib.iterAt_heap wr w1.heap.size s pos (pos + (Utf8.decode s pos).2) hit
      have hk2 := Kp.of_below (Lib.below_iterAt hk.below hsz1 s (pos + (Utf8.decode s pos).2))
      have Ho := hid (And.intro o1 (And.intro o2 o3))
      have Hi2 := hid (And.intro hit2 hk2)
      have Hit := hid hit
      clear o1 o2 o3 hwd hx hpos hit hit2 hk2
      by_cases hka : k = a
      · by_cases hkb2 : k = b
        · subst hkb2
          subst hka
          go_wp2_with fail
          go_ret
          refine ⟨?_, Hi2.out.2⟩
          have e : cutN L k k = [] := by
            unfold cutN
            rw [List.drop_eq_nil_of_le (by rw [List.length_take]; omega)]
          rw [Hhid.out.2.2.1, e]
          rfl
        · subst hka
          have H3 := hid (show k + 1 ≤ b by omega)
          go_wp2_with fail
          go_roundw
          case rel =>
            refine ⟨pos + (Utf8.decode s pos).2, k + 1, pos, Hi2.out.1, Hi2.out.2, hsz1, Ho.out.2.1.symm, H3.out, by go_num, rfl, ?_, rfl⟩
            rw [if_pos (by omega)]
            exact Hx.out.2
          case measure =>
            simp only [World.iterPos, Hi2.out.1, Hit.out]
            omega
      · by_cases hkb2 : k = b
        · subst hkb2
          have hxo : x = offs L a := by rw [Hx.out.1, if_pos (by omega)]
          have hxp : x ≤ pos := by rw [hxo, Hx.out.2]; exact offs_mono L (by omega)
          have emin : min (x : Int) (pos : Int) = (x : Int) := by omega
          have Hxo := hid hxo
          clear hxo
          go_wp2_with fail
          go_ret
          refine ⟨?_, Hi2.out.2⟩
          rw [Hhid.out.2.2.1]
          have e : cutN L a k = (s.data.toList.take pos).drop x := by rw [Hxo.out, Hx.out.2, Hhid.out.1]; rfl
          rw [e, ← extract_list]
          rfl
        · have H3 := hid (show k + 1 ≤ b by omega)
          go_wp2_with fail
          go_roundw
          case rel =>
            refine ⟨pos + (Utf8.decode s pos).2, k + 1, x, Hi2.out.1, Hi2.out.2, hsz1, Ho.out.2.1.symm, H3.out, by go_num, rfl, ?_, rfl⟩
            rw [Hx.out.1]
            by_cases hak : a < k
            · rw [if_pos hak, if_pos (by omega)]
            · rw [if_neg hak, if_neg (by omega)]
          case measure =>
            simp only [World.iterPos, Hi2.out.1, Hit.out]
            omega
    · have hnx : ∀ ty, (Instr.next (.pointer (some ⟨w1.heap.size, 0, none⟩)) true ty).run Tryd.prog wr = _ := fun ty => Lib.run_next_end_at wr w1.heap.size s pos ty hit hp
      have hnk : n ≤ k := by rw [Hhid.out.2.1]; exact offs_end (by rw [← hpos]; omega)
      have hkb2 : k = b := by omega
      have hxo : x = offs L a := by
        rw [hx]
        split
        · rfl
        · rw [offs_all (by rw [← Hhid.out.2.1]; omega)]
          omega
      have Hxo := hid hxo
      have emin : min (x : Int) (s.size : Int) = (x : Int) := by omega
      clear hx hpos hxo
      subst hkb2
      go_wp2_with fail
      go_ret
      refine ⟨?_, hk⟩
      rw [Hhid.out.2.2.1]
      have e : cutN L a k = (s.data.toList.take s.size).drop x := by
        rw [Hxo.out]
        unfold cutN
        rw [offs_all (k := k) (by rw [← Hhid.out.2.1]; omega), hlen, Hhid.out.1]
      rw [e, ← extract_list]
      rfl
end Go.Proofs.YtdmajeidggjalaaDoor
