/- The document's answer for layer 3: Parts and Cut. -/
import Derived.Test.YtaaikjedagnjbaaQParts
import Derived.Deep.Cut
import Derived.Lib.OthersKept
import Derived.Test.YtaaikjedagnjbaaRefRune
import Derived.Test.YtaaikjedagnjbaaText
namespace Go.Proofs.Ytaaikjedagnjbaa
open Go Go.RowKit

theorem fromN_eq (n : Nat) (f : Int) : min (max f 0) (n : Int) = ((fromN n f : Nat) : Int) := by unfold fromN; omega
theorem toN_eq (n : Nat) (f t : Int) : min (max t ((fromN n f : Nat) : Int)) (n : Int) = ((toN n f t : Nat) : Int) := by unfold toN; omega
theorem extract_list (s : ByteArray) (i j : Nat) : s.extract i j = ⟨((s.data.toList.take j).drop i).toArray⟩ := by
  apply ByteArray.ext
  rw [ByteArray.data_extract]
  apply Array.toList_inj.1
  rw [Array.toList_extract]
  simp [List.extract, List.drop_take]
theorem infoStr : (Try.prog.info? 9).map (fun i => (i.zero, i.size, i.bytes)) = some (some (.string ⟨#[]⟩), 1, 16) := by kernel_rfl
theorem one_string (x : ByteArray) : ∀ u ∈ [Value.string x], u.oneCell' = true := by
  intro u hu
  rw [List.mem_singleton.1 hu]
  rfl
def strV (l : List UInt8) : Value := .string ⟨l.toArray⟩
theorem rune_wd (s : ByteArray) (i : Nat) : max (runeAt s i).2 1 = wd (s.data.toList.drop i) ∧ ((runeAt s i).2 = 0 ↔ Bad (s.data.toList.drop i)) ∧ (¬ Bad (s.data.toList.drop i) → runeAt s i = Lib.decodeL (s.data.toList.drop i)) := by
  unfold wd Bad
  rw [Lib.decodeL_drop, runeAt_decode]
  have hw := Lib.width_pos s i
  by_cases h : Utf8.decode s i = (65533, 1)
  · rw [if_pos h, h]
    exact ⟨rfl, ⟨fun _ => ⟨rfl, rfl⟩, fun _ => rfl⟩, fun h2 => absurd ⟨rfl, rfl⟩ h2⟩
  · rw [if_neg h]
    have hn : ¬ ((Utf8.decode s i).1 = 65533 ∧ (Utf8.decode s i).2 = 1) := fun h2 => h (Prod.ext h2.1 h2.2)
    exact ⟨by omega, ⟨fun h2 => by omega, fun h2 => absurd h2 hn⟩, fun _ => rfl⟩
def PartsPost (w : World) (L : List UInt8) (e : Ending) (w' : World) : Prop := ∃ v, e = .returned v ∧ Own w' 9 v (partsL L).length ((partsL L).map strV) ∧ New w w' v
set_option maxRecDepth 100000 in
set_option maxHeartbeats 1600000 in
theorem rparts_any (w : World) (s : ByteArray) (hs : s.size ≤ 1000000000) : Calls Try.prog 19 #[.string s] w (PartsPost w s.data.toList) := by
  obtain ⟨L, hL⟩ : ∃ L, L = s.data.toList := ⟨_, rfl⟩
  have hlen : L.length = s.size := by rw [hL, Array.length_toList]; rfl
  have hrw := fun i => rune_wd s i
  rw [← hL] at hrw ⊢
  have HL := hid hL
  have Hrw := hid hrw
  clear hL hrw
  go_enter Try.func19, Try.ntmps19
  have ho0 : Own (w.alloc (.cells (#[] : Array Value) 9)) 9 (.slice (some ⟨w.heap.size, 0, none⟩) 0 0) 0 [] := Own.of_cells (Cells.fresh w 9 []) (by simp)
  have hn0 : New w (w.alloc (.cells (#[] : Array Value) 9)) (.slice (some ⟨w.heap.size, 0, none⟩) 0 0) := ⟨(Kp.refl _ _).alloc _, by intro g hg; simp [Value.ownBlock] at hg; omega⟩
  have H0 := hid (And.intro ho0 hn0)
  clear ho0 hn0
  go_wp2_with fail
  go_loopw [3, 4] (fun v va wr => ∃ k : Nat, va = .int .i64 ((offs L k : Nat) : Int) ∧ k ≤ (partsL L).length ∧ Own wr 9 v k (((partsL L).take k).map strV) ∧ New w wr v) (fun _ va _ => s.size - (intOf va).toNat)
  case atStart => exact ⟨0, rfl, by omega, H0.out.1, H0.out.2⟩
  case round =>
    obtain ⟨k, rfl, hk, ho, hnw⟩ := hrel
    have hle := offs_le L k
    obtain ⟨p, hp⟩ : ∃ p, p = offs L k := ⟨_, rfl⟩
    rw [← hp] at hle ⊢
    have Hp := hid hp
    have hkl := length_parts_le L
    by_cases hlt : p < s.size
    · obtain ⟨o1, o2, o3⟩ := offs_step (l := L) (k := k) (by omega)
      obtain ⟨r1, r2, r3⟩ := Hrw.out p
      rw [← hp] at o2 o3
      have hwl := wd_le (L.drop p) (by
        intro e
        have := congrArg List.length e
        rw [List.length_drop] at this
        simp at this
        omega)
      rw [List.length_drop] at hwl
      have htk : ((partsL L).take (k + 1)).map strV = ((partsL L).take k).map strV ++ [strV ((L.drop p).take (wd (L.drop p)))] := by
        have e : (partsL L).take (k + 1) = (partsL L).take k ++ [(L.drop p).take (wd (L.drop p))] := by
          obtain ⟨h8, h9⟩ := List.getElem?_eq_some_iff.1 o3
          rw [← h9]
          exact (List.take_append_getElem h8).symm
        rw [e, List.map_append]
        rfl
      have hex : strV ((L.drop p).take (wd (L.drop p))) = .string (s.extract p (p + wd (L.drop p))) := by
        unfold strV
        rw [extract_list, ← HL.out, List.drop_take]
        have e : p + wd (L.drop p) - p = wd (L.drop p) := by omega
        rw [e]
      rw [hex] at htk
      have hwp := wd_pos (L.drop p)
      obtain ⟨d, hd⟩ : ∃ d, d = wd (L.drop p) := ⟨_, rfl⟩
      rw [← hd] at htk o2 r1 hwl hwp
      have Htk := hid (And.intro htk (And.intro o2 (And.intro o3 hd)))
      clear htk o2 o3 hd hex r2 r3 hp
      go_wp2_with fail
      refine (rune_any _ s p hlt (by omega)).mono ?_
      rintro e w2 ⟨rfl, rfl⟩
      obtain ⟨x, hx⟩ : ∃ x, x = (runeAt s p).1 := ⟨_, rfl⟩
      obtain ⟨n, hn⟩ : ∃ n, n = (runeAt s p).2 := ⟨_, rfl⟩
      rw [← hn] at r1
      rw [← hx, ← hn]
      have hmx : max (n : Int) 1 = (d : Int) := by omega
      clear hx hn r1
      go_wp2_with (at_builtin; go_must (refine wpList_append1 rfl _ _ 35 rfl 9 (.string ⟨#[]⟩) 16 Try.underlying35 infoStr rfl _ _ _ rfl (ho.kept ((Kp.refl _ _).alloc _)) _ 1 1 [.string (s.extract p (p + d))] rfl (Span.of_new _ _ _ _) rfl (one_string _) ?_ ?_ ?_))
      · omega
      · omega
      intro v1 w1 ho1 hk1 hb1
      go_wp2_with fail
      go_roundw
      case rel =>
        refine ⟨k + 1, ?_, by omega, ?_, (hnw.kept ((Kp.refl _ _).alloc _)).append hk1 hb1 (by simp)⟩
        · rw [Htk.out.2.1]
          go_num
        · rw [Htk.out.1, List.map_take]; exact ho1
      case measure => simp [intOf]; omega
    · have hkn := offs_end (l := L) (k := k) (by omega)
      have hkk : k = (partsL L).length := by omega
      have ht : (partsL L).take k = partsL L := List.take_of_length_le (by omega)
      rw [ht, hkk] at ho
      have Ho := hid (And.intro ho hnw)
      clear ho hnw ht hkk hp
      go_wp2_with fail
      go_ret
      exact ⟨_, rfl, Ho.out.1, Ho.out.2⟩
theorem cutN_succ (L : List UInt8) (a i : Nat) (ha : a ≤ i) (h : i < (partsL L).length) : cutN L a (i + 1) = cutN L a i ++ (partsL L)[i] := by
  rw [cutN_parts _ _ _ (by omega), cutN_parts _ _ _ ha, ← List.take_append_getElem h, List.drop_append_of_le_length (by rw [List.length_take]; omega), List.flatten_append]
  simp
theorem cutN_same (L : List UInt8) (a : Nat) : cutN L a a = [] := by
  unfold cutN
  exact List.drop_eq_nil_of_le (by rw [List.length_take]; omega)
theorem cutN_len (L : List UInt8) (a b : Nat) : (cutN L a b).length ≤ L.length := by
  unfold cutN
  rw [List.length_drop, List.length_take]
  omega
set_option maxRecDepth 100000 in
set_option maxHeartbeats 1600000 in
theorem rcut_any (w : World) (s : ByteArray) (f t : Int) (hs : s.size ≤ 1000000000) :
    Calls Try.prog 20 #[.string s, .int .i64 f, .int .i64 t] w fun e w' => e = .returned (.string ⟨(cutL s.data.toList f t).toArray⟩) ∧ Kp [] w w' := by
  obtain ⟨L, hL⟩ : ∃ L, L = s.data.toList := ⟨_, rfl⟩
  have hlen : L.length = s.size := by rw [hL, Array.length_toList]; rfl
  have hr := rparts_any w s hs
  rw [← hL] at hr ⊢
  have hkl := length_parts_le L
  obtain ⟨n, hn⟩ : ∃ n, n = (partsL L).length := ⟨_, rfl⟩
  unfold PartsPost at hr
  rw [← hn] at hr hkl
  have e1 := fromN_eq n f
  have e2 := toN_eq n f t
  obtain ⟨a, ha⟩ : ∃ a, a = fromN n f := ⟨_, rfl⟩
  obtain ⟨b, hb⟩ : ∃ b, b = toN n f t := ⟨_, rfl⟩
  rw [← ha] at e1 e2
  rw [← hb] at e2
  have hab : a ≤ b := by rw [hb, ha]; unfold toN fromN; omega
  have hbn : b ≤ n := by rw [hb]; unfold toN; omega
  have hcut : cutL L f t = cutN L a b := by unfold cutL; rw [← hn, ← ha, ← hb]
  have Hhid := hid (And.intro hL (And.intro hn (And.intro hcut (And.intro ha hb))))
  clear hL hn hcut ha hb
  go_enter Try.func20, Try.ntmps20
  go_wp2_with fail
  refine hr.mono ?_
  rintro e w1 ⟨v, rfl, ho, hnw⟩
  obtain ⟨A, c, rfl, hsp, hc, hl, hA⟩ := ho.shape
  have Hsp := hid (And.intro hsp hnw)
  have Hl := hid hl
  clear hsp ho hnw hA hl
  go_wp2_with fail
  go_loopw [8, 9] (fun vo vi wr => wr = w1 ∧ ∃ i : Nat, vi = .int .i64 (i : Int) ∧ a ≤ i ∧ i ≤ b ∧ vo = .string ⟨(cutN L a i).toArray⟩) (fun _ vi _ => b - (intOf vi).toNat)
  case atStart => exact ⟨rfl, a, rfl, by omega, hab, by rw [cutN_same]⟩
  case round =>
    obtain ⟨rfl, i, rfl, hai, hib, rfl⟩ := hrel
    by_cases hlt : i < b
    · have hin : i < (partsL L).length := by rw [← Hhid.out.2.1]; omega
      obtain ⟨ad, rfl, hcell⟩ := Hsp.out.1.get (j := i) (by rw [List.length_map]; exact hin)
      rw [List.getElem_map] at hcell
      unfold strV at hcell
      have hlen2 := cutN_len L a i
      have hpl : ((partsL L)[i]).length ≤ L.length := by
        have h8 := congrArg List.length (cutN_succ L a i hai hin)
        have h9 := cutN_len L a (i + 1)
        rw [List.length_append] at h8
        omega
      have hadd := fun W => run_add_text (P := Try.prog) (cutN L a i) (partsL L)[i] (cutN L a (i + 1)) (cutN_succ L a i hai hin) (by omega) W
      have i1 : (i : Int) < (n : Int) := by omega
      go_wp2_with fail
      go_roundw
      case rel => exact ⟨trivial, i + 1, by go_num, by omega, by omega, rfl⟩
      case measure => simp [intOf]; omega
    · obtain rfl : i = b := by omega
      go_wp2_with fail
      go_ret
      exact ⟨by rw [Hhid.out.2.2.1]; rfl, Hsp.out.2.kp⟩
end Go.Proofs.Ytaaikjedagnjbaa
