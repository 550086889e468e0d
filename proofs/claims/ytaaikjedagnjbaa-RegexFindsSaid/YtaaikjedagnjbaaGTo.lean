/- A machine's to. -/
import Derived.Test.YtaaikjedagnjbaaGNext
import Derived.Test.YtaaikjedagnjbaaGLin
namespace Go.Proofs.Ytaaikjedagnjbaa
open Go Go.RowKit Go.Lib

set_option maxRecDepth 100000 in
set_option maxHeartbeats 6400000 in
theorem to_any (w : World) (mb : Nat) (E R : Nat → Prop) (M : List St) (h : MachAt w mb E R M) (_ : M.length ≤ 1000000) (hR : ∀ x, R x → x < w.heap.size) (i k : Nat) (st : St) (hst : M[i]? = some st) (hnx : st.nx.length ≤ 1000000) :
    Calls Try.prog 42 #[.pointer (some ⟨mb, 0, none⟩), .int .i64 (i : Int), .int .i64 (k : Int)] w fun e w' => e = .returned (.tuple #[]) ∧ ∃ E', MachAt w' mb E' R (M.set i { st with nx := st.nx ++ [k] }) ∧ Grew w E w' E' := by
  obtain ⟨v0, cs, h1, h2, h3, h4, h5, h6, h7⟩ := h.ex
  have him : i < M.length := (List.getElem?_eq_some_iff.1 hst).1
  obtain ⟨c, hc⟩ : ∃ c, cs[i]? = some c := ⟨_, List.getElem?_eq_getElem (by omega)⟩
  obtain ⟨A0, c0, rfl, hsp0, hc0, hc1, hA0⟩ := h2.shape
  have hx2 := stcs_at cs i c hc
  obtain ⟨ad, rfl, y2⟩ := hsp0 _ _ (hx2 2 (by decide))
  obtain ⟨e4, -⟩ := hA0 ad rfl
  obtain ⟨sb, of, pr⟩ := ad
  injection e4 with e7 e5 e6
  subst e5 e6
  clear e7
  have ha : ∀ j, (⟨sb, 0, none⟩ : Addr).add (3 * i + j + 1) = ⟨sb, 3 * i + j + 1, none⟩ := fun j => by simp [Addr.add]
  rw [show 3 * i + 2 = 3 * i + 1 + 1 from rfl, ha 1] at y2
  have hci := h6 i st c hst hc
  have hfin := fun w1 v' k01 hv' hb hone => mach_next (w := w) (w1 := w1) (k := k) (v' := v') h.own h.lt h.apart hR h1 h2 h3 (fun e => h4 (by rw [e]; rfl)) (h5 sb rfl) (fun i st c a b => ⟨(h6 i st c a b).1, (h6 i st c a b).2.1, (h6 i st c a b).2.2.1, (h6 i st c a b).2.2.2.1, (h6 i st c a b).2.2.2.2.1, (h6 i st c a b).2.2.2.2.2.1, fun g hg => ⟨((h6 i st c a b).2.2.2.2.2.2 g hg).1, ((h6 i st c a b).2.2.2.2.2.2 g hg).2.1, fun e => ((h6 i st c a b).2.2.2.2.2.2 g hg).2.2 (by rw [e]; rfl)⟩⟩) h7 hst hc k01 hv' hb hone
  have hnm : mb ∉ c.n.ownBlock.toList := fun hm => ((hci.2.2.2.2.2.2 mb (Option.mem_toList.1 hm)).2.1) rfl
  have hns : sb ∉ c.n.ownBlock.toList := fun hm => ((hci.2.2.2.2.2.2 sb (Option.mem_toList.1 hm)).2.2) rfl
  have hbl : ∃ cur, Cells w sb 75 cur ∧ 3 * i + 2 < cur.length := by
    obtain ⟨hl, hsh⟩ := h2
    rcases hsh with ⟨h1, _⟩ | ⟨gb, cap, cur, e, _, hcur, hn, _, hs, _⟩
    · cases h1
    · injection e with e1 e2 e3
      injection e1 with e1
      injection e1 with e1
      subst e1
      have hcc : Cells w sb 75 cur.toList := by simpa [Cells] using hcur
      refine ⟨_, hcc, ?_⟩
      rw [Array.length_toList, hs]
      have : M.length * 3 ≤ cap * 3 := Nat.mul_le_mul_right _ hn
      omega
  obtain ⟨cur, hcur, hclt⟩ := hbl
  have HBL := hid hcur
  have HLT := hid hclt
  have HO := hid hci.2.2.1
  have HFN := hid hfin
  have x0 := h1.cell 0
  simp only [List.getElem?_cons_zero] at x0
  obtain ⟨n, hn⟩ : ∃ n, n = M.length := ⟨_, rfl⟩
  obtain ⟨nn, hnn⟩ : ∃ n, n = st.nx.length := ⟨_, rfl⟩
  rw [← hn] at x0 him
  rw [← hnn] at HO hnx
  have e3 : i * 3 = 3 * i := Nat.mul_comm _ _
  have jn : (i : Int) < (n : Int) := by omega
  replace y2 : w.cell? ⟨sb, 3 * i + 2, none⟩ = some c.n := y2
  obtain ⟨An, cn, hcn, -, -, -, -⟩ := hci.2.2.1.shape
  rw [← hnn] at hcn
  rw [hcn] at y2
  have HCN := hid (And.intro hcn hnn)
  clear h h1 h2 h3 h4 h5 h6 h7 hst hc hsp0 hc0 hc1 hA0 hx2 hci hfin hR hcur hclt ha hn hnn
  rw [hcn] at HO
  clear hcn
  go_enter Try.func42, Try.ntmps42
  go_upto_region 0 with fail
  refine lin_start (fun W' => Kp c.n.ownBlock.toList w W') (Stays.kp _ _) (by kernel_rfl) (Kp.refl _ _).drew (fun hSS hS => ?_)
  refine lin_val (i := 0) (v := ?_) rfl (by kernel_rfl) (by kernel_rfl) (by kernel_rfl) (by kernel_rfl) (fun _ _ _ h => h) hSS hS rfl (fun W' hSw => ?_) ?_
  rotate_left
  · go_simp; first | done | with_reducible rfl
  try simp only [Act.put, List.setIfInBounds_toArray, List.set_cons_zero, List.set_cons_succ]
  refine lin_val (i := 1) (v := ?_) rfl (by kernel_rfl) (by kernel_rfl) (by kernel_rfl) (by kernel_rfl) (fun _ _ _ h => h) hSS hS rfl (fun W' hSw => ?_) ?_
  rotate_left
  · go_simp; first | done | with_reducible rfl
  try simp only [Act.put, List.setIfInBounds_toArray, List.set_cons_zero, List.set_cons_succ]
  refine lin_val (i := 2) (v := ?_) rfl (by kernel_rfl) (by kernel_rfl) (by kernel_rfl) (by kernel_rfl) (fun _ _ _ h => h) hSS hS rfl (fun W' hSw => ?_) ?_
  rotate_left
  · go_simp; first | done | with_reducible rfl
  try simp only [Act.put, List.setIfInBounds_toArray, List.set_cons_zero, List.set_cons_succ]
  refine lin_val (i := 3) (v := ?_) rfl (by kernel_rfl) (by kernel_rfl) (by kernel_rfl) (by kernel_rfl) (fun _ _ _ h => h) hSS hS rfl (fun W' hSw => ?_) ?_
  rotate_left
  · have x0 := hSw.cell x0 hnm; go_simp; first | done | with_reducible rfl
  try simp only [Act.put, List.setIfInBounds_toArray, List.set_cons_zero, List.set_cons_succ]
  refine lin_val (i := 4) (v := ?_) rfl (by kernel_rfl) (by kernel_rfl) (by kernel_rfl) (by kernel_rfl) (fun _ _ _ h => h) hSS hS rfl (fun W' hSw => ?_) ?_
  rotate_left
  · go_simp; first | done | with_reducible rfl
  try simp only [Act.put, List.setIfInBounds_toArray, List.set_cons_zero, List.set_cons_succ]
  refine lin_val (i := 5) (v := ?_) rfl (by kernel_rfl) (by kernel_rfl) (by kernel_rfl) (by kernel_rfl) (fun _ _ _ h => h) hSS hS rfl (fun W' hSw => ?_) ?_
  rotate_left
  · go_simp; first | done | with_reducible rfl
  try simp only [Act.put, List.setIfInBounds_toArray, List.set_cons_zero, List.set_cons_succ]
  refine lin_val (i := 6) (v := ?_) rfl (by kernel_rfl) (by kernel_rfl) (by kernel_rfl) (by kernel_rfl) (fun _ _ _ h => h) hSS hS rfl (fun W' hSw => ?_) ?_
  rotate_left
  · go_simp; first | done | with_reducible rfl
  try simp only [Act.put, List.setIfInBounds_toArray, List.set_cons_zero, List.set_cons_succ]
  refine lin_val (i := 7) (v := ?_) rfl (by kernel_rfl) (by kernel_rfl) (by kernel_rfl) (by kernel_rfl) (fun _ _ _ h => h) hSS hS rfl (fun W' hSw => ?_) ?_
  rotate_left
  · go_simp; first | done | with_reducible rfl
  try simp only [Act.put, List.setIfInBounds_toArray, List.set_cons_zero, List.set_cons_succ]
  refine lin_val (i := 8) (v := ?_) rfl (by kernel_rfl) (by kernel_rfl) (by kernel_rfl) (by kernel_rfl) (fun _ _ _ h => h) hSS hS rfl (fun W' hSw => ?_) ?_
  rotate_left
  · have x0 := hSw.cell x0 hnm; go_simp; first | done | with_reducible rfl
  try simp only [Act.put, List.setIfInBounds_toArray, List.set_cons_zero, List.set_cons_succ]
  refine lin_val (i := 9) (v := ?_) rfl (by kernel_rfl) (by kernel_rfl) (by kernel_rfl) (by kernel_rfl) (fun _ _ _ h => h) hSS hS rfl (fun W' hSw => ?_) ?_
  rotate_left
  · go_simp; first | done | with_reducible rfl
  try simp only [Act.put, List.setIfInBounds_toArray, List.set_cons_zero, List.set_cons_succ]
  refine lin_val (i := 10) (v := ?_) rfl (by kernel_rfl) (by kernel_rfl) (by kernel_rfl) (by kernel_rfl) (fun _ _ _ h => h) hSS hS rfl (fun W' hSw => ?_) ?_
  rotate_left
  · go_simp; first | done | with_reducible rfl
  try simp only [Act.put, List.setIfInBounds_toArray, List.set_cons_zero, List.set_cons_succ]
  refine lin_val (i := 11) (v := ?_) rfl (by kernel_rfl) (by kernel_rfl) (by kernel_rfl) (by kernel_rfl) (fun _ _ _ h => h) hSS hS rfl (fun W' hSw => ?_) ?_
  rotate_left
  · go_simp; first | done | with_reducible rfl
  try simp only [Act.put, List.setIfInBounds_toArray, List.set_cons_zero, List.set_cons_succ]
  refine lin_val (i := 12) (v := ?_) rfl (by kernel_rfl) (by kernel_rfl) (by kernel_rfl) (by kernel_rfl) (fun _ _ _ h => h) hSS hS rfl (fun W' hSw => ?_) ?_
  rotate_left
  · have y2 := hSw.cell y2 hns; go_simp; first | done | with_reducible rfl
  try simp only [Act.put, List.setIfInBounds_toArray, List.set_cons_zero, List.set_cons_succ]
  refine lin_val (i := 13) (v := ?_) rfl (by kernel_rfl) (by kernel_rfl) (by kernel_rfl) (by kernel_rfl) (fun _ _ _ h => h) hSS hS rfl (fun W' hSw => ?_) ?_
  rotate_left
  · go_simp; first | done | with_reducible rfl
  try simp only [Act.put, List.setIfInBounds_toArray, List.set_cons_zero, List.set_cons_succ]
  refine lin_list (i := 14) (by kernel_rfl) rfl (fun w8 k8 Q2 hQ => ?_)
  have hk8 : Kp [] w w8 := (Kp.refl _ _).drew.nil k8
  clear k8
  go_wp2_with fail
  refine hQ.out _ _ ((hk8.alloc _).mono (by simp)) (fun hS8 => ?_)
  clear hQ hS
  obtain ⟨w9, hw9⟩ : ∃ w9, w9 = w8.alloc (.cells #[.int .i64 (k : Int)] 3) := ⟨_, rfl⟩
  have hspY : Span w9 (some ⟨w8.heap.size, 0, none⟩) [.int .i64 (k : Int)] := by rw [hw9]; exact Span.of_new w8 3 _ _
  have H9 : Hid (Kp [] w w9) := hid (by rw [hw9]; exact hk8.alloc _)
  rw [← hw9] at hS8 ⊢
  clear hw9 hk8
  try simp only [Act.put, List.setIfInBounds_toArray, List.set_cons_zero, List.set_cons_succ]
  refine lin_list (i := 15) (by kernel_rfl) rfl (fun w10 k10 Q2 hQ => ?_)
  have ho10 := HO.out.kept (H9.out.nil k10)
  have hspY10 := hspY.kept k10
  have H10 := hid (H9.out.nil k10)
  clear k10 hspY
  go_wp2_with (at_builtin; go_must (refine wpList_append1 rfl _ _ 43 rfl 3 (.int .i64 0) 8 Try.underlying43 intInfo rfl _ nn (ints st.nx) rfl ho10 _ 1 1 [.int .i64 (k : Int)] rfl hspY10 rfl (by intro u hu; rw [List.mem_singleton.1 hu]; rfl) ?_ ?_ ?_))
  · omega
  · omega
  intro v' w11 ho11 hk11 hb11
  have hk011 : Kp c.n.ownBlock.toList w w11 := (H10.out.mono (by simp)).trans hk11 (fun x hx _ => by rw [HCN.out.1]; exact hx)
  have H11 := hid (And.intro hk011 (And.intro ho11 (And.intro hb11 H10.out.size)))
  clear ho11 hk11 hb11 ho10 hspY10 hk011
  go_wp2_with fail
  refine hQ.out _ _ H11.out.1 (fun hS11 => ?_)
  clear hQ hS8
  try simp only [Act.put, List.setIfInBounds_toArray, List.set_cons_zero, List.set_cons_succ]
  refine lin_val (i := 16) (v := ?_) rfl (by kernel_rfl) (by kernel_rfl) (by kernel_rfl) (by kernel_rfl) (fun _ _ _ h => h) hSS hS11 rfl (fun W' hSw => ?_) ?_
  rotate_left
  · go_simp; first | done | with_reducible rfl
  try simp only [Act.put, List.setIfInBounds_toArray, List.set_cons_zero, List.set_cons_succ]
  refine lin_val (i := 17) (v := ?_) rfl (by kernel_rfl) (by kernel_rfl) (by kernel_rfl) (by kernel_rfl) (fun _ _ _ h => h) hSS hS11 rfl (fun W' hSw => ?_) ?_
  rotate_left
  · go_simp; first | done | with_reducible rfl
  try simp only [Act.put, List.setIfInBounds_toArray, List.set_cons_zero, List.set_cons_succ]
  refine lin_last (i := 18) (by kernel_rfl) rfl (by kernel_rfl) (fun wb kb K hK => ?_)
  have hkb := H11.out.1.nil kb
  have hgc := HBL.out.keep hkb hns
  have fr := hgc.free (3 * i + 2)
  obtain ⟨v0', o0⟩ : ∃ u, wb.cell? ⟨sb, 3 * i + 2, none⟩ = some u := ⟨_, hgc.cell (3 * i + 2) |>.trans (List.getElem?_eq_getElem HLT.out)⟩
  have HKB := hid (And.intro hkb (H11.out.2.1.kept kb))
  obtain ⟨A2, c2, rfl, -⟩ := H11.out.2.1.shape
  go_simp
  refine hK.out _ _ ?_
  clear hK K kb hkb hgc fr o0 hS11 hSS
  have hfin := HFN.out wb (.slice A2 (nn + 1) c2) HKB.out.1 (by rw [← HCN.out.2, show ints (st.nx ++ [k]) = ints st.nx ++ [.int .i64 (k : Int)] by simp [ints]]; exact HKB.out.2) (by
    rcases H11.out.2.2.1 with h | h
    · left; rw [h, HCN.out.1]
    · exact .inr ⟨_, h, H11.out.2.2.2⟩) rfl
  have HE := hid hfin
  clear hfin
  go_wp2_with fail
  first | go_end0 | (simp only [Exit.inBlock, Exit.then]; refine bodyPost_ret (results_none rfl _ _ _) rfl ?_) | refine bodyPost_ret (results_none rfl _ _ _) rfl ?_
  exact ⟨rfl, HE.out⟩
end Go.Proofs.Ytaaikjedagnjbaa
