/- rounded of layer 2. -/
import Derived.Test.YtampgimmodomoaaDoorDScaled
import Derived.Test.YtampgimmodomoaaDoorDRowv
import Derived.Test.YtampgimmodomoaaDoorDGround
namespace Go.Proofs.YtampgimmodomoaaDoor
open Go Go.RowKit Go.Lib

/-- A row of bytes that begins with h, and may be written there. -/
def HeadR (w : World) (g : Nat) (h : List UInt8) : Prop := ∃ cs : Array Value, w.heap[g]? = some (.cells cs 5 (cs.size, cs.size + 1)) ∧ cs.toList.take h.length = u8s h
theorem HeadR.of_bytes (w : World) (h : List UInt8) : HeadR (bytesWorld w 5 ⟨h.toArray⟩) w.heap.size h := by
  refine ⟨_, bytesWorld_at_new w 5 ⟨h.toArray⟩, ?_⟩
  unfold bytesCells
  rw [Array.toList_append, Array.toList_map]
  show List.take h.length (h.map (fun b => Value.int .u8 b.toNat) ++ _) = _
  rw [List.take_left' (by simp)]
  rfl
section
variable {w w' : World} {g : Nat} {h : List UInt8}
theorem HeadR.le (k : HeadR w g h) : ∃ cs : Array Value, w.heap[g]? = some (.cells cs 5 (cs.size, cs.size + 1)) ∧ cs.toList.take h.length = u8s h ∧ h.length ≤ cs.size := by
  obtain ⟨cs, h1, h2⟩ := k
  have h3 := congrArg List.length h2
  rw [List.length_take, length_u8s] at h3
  exact ⟨cs, h1, h2, by simp at h3; omega⟩
theorem HeadR.cell (k : HeadR w g h) {j : Nat} (hj : j < h.length) : w.cell? ⟨g, j, none⟩ = some (.int .u8 (h[j].toNat : Int)) := by
  obtain ⟨cs, h1, h2, h3⟩ := k.le
  have h4 : cs.toList[j]? = (u8s h)[j]? := by rw [← h2, List.getElem?_take, if_pos hj]
  rw [u8s_get h j hj] at h4
  simp only [World.cell?, h1]
  simpa using h4
theorem HeadR.free (k : HeadR w g h) {j : Nat} (hj : j < h.length) : w.frozen? ⟨g, j, none⟩ = false := by
  obtain ⟨cs, h1, h2, h3⟩ := k.le
  simp only [World.frozen?, h1]
  rw [decide_eq_false (show ¬ cs.size ≤ j by omega)]
  rfl
theorem HeadR.put (k : HeadR w g h) (j : Nat) (c : UInt8) : HeadR (w.setCell ⟨g, j, none⟩ (.int .u8 (c.toNat : Int))) g (h.set j c) := by
  obtain ⟨cs, h1, h2, h3⟩ := k.le
  refine ⟨cs.setIfInBounds j (.int .u8 (c.toNat : Int)), ?_, ?_⟩
  · simp [World.setCell, Array.getElem?_modify, h1]
  · rw [List.length_set, Array.toList_setIfInBounds, List.take_set, h2, u8s_set]
    rfl
theorem HeadR.kept (k : HeadR w g h) (hk : Kp [] w w') : HeadR w' g h := by
  obtain ⟨cs, h1, h2⟩ := k
  exact ⟨cs, (hk.block g (Array.getElem?_eq_some_iff.1 h1).1 (by simp)).trans h1, h2⟩
theorem HeadR.span (k : HeadR w g h) : Span w (some ⟨g, 0, none⟩) (u8s h) := fun j u hj => ⟨_, rfl, by
  have hjl : j < h.length := by
    have := (List.getElem?_eq_some_iff.1 hj).1
    rwa [length_u8s] at this
  have hc := k.cell hjl
  rw [u8s_get h j hjl] at hj
  rw [← hj, ← hc]
  rcases Nat.eq_zero_or_pos j with h0 | h0
  · subst h0; simp [Addr.add]
  · simp [Addr.add, Nat.ne_of_gt h0]⟩
end
theorem trim_zeros {l : List UInt8} (hl : Digs l) : (trimB l 48).isEmpty = decide (val l = 0) := by
  have e : trimB l 48 = dstr (val (trimRightB l 48)) := by
    have h1 : Digs (trimRightB l 48) := by
      intro c hc
      unfold trimRightB at hc
      rw [List.mem_reverse] at hc
      exact hl c (List.mem_reverse.1 ((List.dropWhile_suffix _).subset hc))
    exact trimLeft_dstr _ h1
  have hs : ∃ n, l = trimRightB l 48 ++ List.replicate n 48 := by
    unfold trimRightB
    have h1 := List.takeWhile_append_dropWhile (p := (· == 48)) (l := l.reverse)
    refine ⟨(l.reverse.takeWhile (· == 48)).length, ?_⟩
    have h2 : l.reverse.takeWhile (· == 48) = List.replicate (l.reverse.takeWhile (· == 48)).length 48 := by
      rw [List.eq_replicate_iff]
      refine ⟨rfl, fun b hb => ?_⟩
      have := List.all_takeWhile (p := (· == (48 : UInt8))) (l := l.reverse)
      rw [List.all_eq_true] at this
      simpa using this b hb
    have h3 := congrArg List.reverse h1
    rw [List.reverse_append, List.reverse_reverse] at h3
    have h4 : (l.reverse.takeWhile (· == 48)).reverse = List.replicate (l.reverse.takeWhile (· == 48)).length 48 := by
      conv => lhs; rw [h2]
      rw [List.reverse_replicate]
    exact h3.symm.trans (congrArg _ h4)
  obtain ⟨n, hn⟩ := hs
  have hv : val l = val (trimRightB l 48) * 10 ^ n := by
    conv => lhs; rw [hn]
    rw [val_append, val_zeros, List.length_replicate, Nat.add_zero]
  rw [e, hv]
  by_cases h0 : val (trimRightB l 48) = 0
  · rw [h0, Nat.zero_mul]; rfl
  · have h1 : dstr (val (trimRightB l 48)) ≠ [] := fun h => h0 (dstr_nil.1 h)
    have h2 : val (trimRightB l 48) * 10 ^ n ≠ 0 := Nat.mul_ne_zero h0 (Nat.ne_of_gt (n10 n))
    rw [decide_eq_false h2]
    cases hd : dstr (val (trimRightB l 48)) with
    | nil => exact absurd hd h1
    | cons _ _ => rfl
def RndPost (w : World) (O : List UInt8) (more : Bool) (e : Ending) (w' : World) : Prop := ∃ K : List UInt8, e = .returned (.tuple #[.string ⟨K.toArray⟩, .int .i64 ((rndT (val O) : Nat) : Int)]) ∧ Digs K ∧ val K = rndK (val O) more ∧ K.length ≤ O.length + 1 ∧ Kp [] w w'
set_option maxRecDepth 100000 in
set_option maxHeartbeats 12800000 in
theorem rounded_any (w : World) (O : List UInt8) (hO : Digs O) (hl : O.length ≤ 10000) (more : Bool) :
    Calls Tryd.prog 73 #[.string ⟨O.toArray⟩, .bool more] w (RndPost w O more) := by
  have hOs : (⟨O.toArray⟩ : ByteArray).size = O.length := size_mk _
  have qt := fun W => trim0 O hO W
  have hdl : (dstr (val O)).length ≤ O.length := length_dstr_le (val_lt O hO)
  have hiff := length_dstr_iff (n := val O) (k := 34)
  obtain ⟨Q, hQ⟩ : ∃ Q, Q = dstr (val O) := ⟨_, rfl⟩
  rw [← hQ] at qt hdl hiff
  have hQs : (⟨Q.toArray⟩ : ByteArray).size = Q.length := size_mk _
  have w1 : IntKind.i64.wrap ((O.length : Int) - (Q.length : Int)) = (O.length : Int) - (Q.length : Int) := IntWalk.i64_in _ (by omega)
  by_cases hbig : val O < 10 ^ 34
  · have hQ34 : Q.length ≤ 34 := hiff.2 hbig
    obtain ⟨z, hz⟩ : ∃ z : Int, z = (O.length : Int) - (Q.length : Int) + 34 := ⟨_, rfl⟩
    have w2 : IntKind.i64.wrap ((O.length : Int) - (Q.length : Int) + 34) = z := by rw [IntWalk.i64_in _ (by omega)]; exact hz.symm
    have b1 : decide ((O.length : Int) ≤ z) = true := decide_eq_true (by omega)
    have HF : Hid (RndPost w O more (.returned (.tuple #[.string ⟨O.toArray⟩, .int .i64 0])) w) := hid ⟨O, by rw [show rndT (val O) = 0 by unfold rndT; rw [if_pos hbig]]; rfl, hO, by unfold rndK; rw [if_pos hbig], Nat.le_succ _, Kp.refl _ _⟩
    clear hQ hiff hbig hO hz
    go_enter Tryd.func73, Tryd.ntmps73
    go_wp2_with fail
    (with_reducible refine (qt _).mono ?_)
    rintro e w5 ⟨rfl, rfl⟩
    clear qt
    go_wp2_with fail
    go_ret2
    exact HF.out
  · obtain ⟨t, ht, t0, tl9, hlt, hv1, hv2, hv3⟩ := rnd_parts hO (Nat.le_of_not_lt hbig)
    rw [← hQ] at hlt
    obtain ⟨a, ha⟩ : ∃ a, a = O.length - t := ⟨_, rfl⟩
    rw [← ha] at hv1 hv2 hv3
    have w2 : IntKind.i64.wrap ((O.length : Int) - (Q.length : Int) + 34) = (a : Int) := by rw [IntWalk.i64_in _ (by omega)]; omega
    have haO : a < O.length := by omega
    have b1 : decide (O.length ≤ a) = false := decide_eq_false (by omega)
    obtain ⟨c, tl, hct⟩ : ∃ c tl, O.drop a = c :: tl := by
      cases h : O.drop a with
      | nil => rw [h] at hv3; simp at hv3; omega
      | cons c tl => exact ⟨c, tl, rfl⟩
    have hup := rnd_up hO (Nat.le_of_not_lt hbig) more ht (c := c) (tl := tl) (by rw [← ha]; exact hct) _ rfl
    rw [← ha] at hup
    have hkept := rnd_kept hO (Nat.le_of_not_lt hbig) more
    rw [ht, ← ha] at hkept
    obtain ⟨up, hupD⟩ : ∃ up, up = rndUp (val O) t more := ⟨_, rfl⟩
    rw [← hupD] at hup hkept
    have htd : Digs tl := fun x hx => hO.drop a x (by rw [hct]; simp [hx])
    have hcd : Dig c := hO.drop a c (by rw [hct]; simp)
    have hHd : Digs (48 :: O.take a) := fun x hx => by
      rcases List.mem_cons.1 hx with rfl | hx
      · decide
      · exact hO.take a x hx
    obtain ⟨H, hH⟩ : ∃ H, H = 48 :: O.take a := ⟨_, rfl⟩
    have hHl : H.length = a + 1 := by rw [hH, List.length_cons, List.length_take]; omega
    have hHv : val H = val (O.take a) := by rw [hH, val_cons]; simp
    rw [← hH] at hHd
    rw [← hHv] at hup hkept
    have hH0 : H.getD 0 0 = 48 := by rw [hH]; rfl
    have htz := trim_zeros htd
    have hx1 := extract_mk O 0 a
    rw [List.drop_zero] at hx1
    have hx2 := extract_mk O a O.length
    rw [List.take_length, hct] at hx2
    have hadd := fun W => run_add_text (P := Tryd.prog) [48] (O.take a) H hH (by simp; omega) W
    have hcv := fun W => conv_bytes W H (a + 1) hHl.symm
    obtain ⟨E, hE⟩ : ∃ E, E = O.take a := ⟨_, rfl⟩
    rw [← hE] at hx1
    simp only [← hE] at hadd
    obtain ⟨m, hm⟩ : ∃ m, m = c.toNat := ⟨_, rfl⟩
    have hm9 : m < 256 := by rw [hm]; exact UInt8.toNat_lt _
    have i0 := byteAt (c :: tl) 0 m (by simp) hm
    obtain ⟨F, hF⟩ : ∃ F, F = c :: tl := ⟨_, rfl⟩
    have hFl : F.length = t := by rw [hF, ← hct]; exact hv3
    have hFs : (⟨F.toArray⟩ : ByteArray).size = F.length := size_mk _
    have hx3 := extract_mk F 1 F.length
    rw [List.take_length, show F.drop 1 = tl by rw [hF]; rfl] at hx3
    rw [← hF] at i0 hx2
    have hF0 : F ≠ [] := by rw [hF]; simp
    have htl9 : tl.length ≤ 10000 := by have := congrArg List.length hF; rw [List.length_cons] at this; omega
    have i1 : (0 : Int) < (F.length : Int) := by omega
    have i2 : (1 : Int) ≤ (F.length : Int) := by omega
    have i3 : (0 : Int) ≤ (a : Int) := by omega
    have i4 : (a : Int) ≤ (O.length : Int) := by omega
    have HT := hid (And.intro ht (And.intro hkept (And.intro hup (And.intro hm (And.intro htz (And.intro hH0 (And.intro hHd (And.intro hHl (And.intro hFl hFs)))))))))
    have Hx3 := hid hx3
    have Hi0 := hid i0
    have hlF : F.length ≤ 10000 := by omega
    have HaO := hid (And.intro haO (And.intro t0 tl9))
    clear hQ hiff hbig hO ht t0 tl9 hlt hv1 hv2 hv3 ha hct hup hkept hupD htd hcd hHd hH hHl hHv hH0 htz hE hm hF hFl hx3 i0
    go_enter Tryd.func73, Tryd.ntmps73
    go_wp2_with fail
    (with_reducible refine (qt _).mono ?_)
    rintro e w5 ⟨rfl, rfl⟩
    clear qt
    go_wp2_with fail
    refine lin_start (fun _ => True) Stays.true (by kernel_rfl) trivial (fun hSS hS => ?_)
    refine lin_val (i := 0) (v := ?_) rfl (by kernel_rfl) (by kernel_rfl) (by kernel_rfl) (fun _ _ _ h => h) hSS hS rfl (fun w hSw => ?_) ?_
    rotate_left
    · go_simp; first | done | with_reducible rfl
    simp only [Act.put, List.setIfInBounds_toArray, List.set_cons_zero, List.set_cons_succ]
    refine lin_val (i := 1) (v := ?_) rfl (by kernel_rfl) (by kernel_rfl) (by kernel_rfl) (fun _ _ _ h => h) hSS hS rfl (fun w hSw => ?_) ?_
    rotate_left
    · go_simp; first | done | with_reducible rfl
    simp only [Act.put, List.setIfInBounds_toArray, List.set_cons_zero, List.set_cons_succ]
    refine lin_val (i := 2) (v := ?_) rfl (by kernel_rfl) (by kernel_rfl) (by kernel_rfl) (fun _ _ _ h => h) hSS hS rfl (fun w hSw => ?_) ?_
    rotate_left
    · go_simp; first | done | with_reducible rfl
    simp only [Act.put, List.setIfInBounds_toArray, List.set_cons_zero, List.set_cons_succ]
    refine lin_val (i := 3) (v := ?_) rfl (by kernel_rfl) (by kernel_rfl) (by kernel_rfl) (fun _ _ _ h => h) hSS hS rfl (fun w hSw => ?_) ?_
    rotate_left
    · go_simp; first | done | with_reducible rfl
    simp only [Act.put, List.setIfInBounds_toArray, List.set_cons_zero, List.set_cons_succ]
    refine lin_val (i := 5) (v := ?_) rfl (by kernel_rfl) (by kernel_rfl) (by kernel_rfl) (fun _ _ _ h => h) hSS hS rfl (fun w hSw => ?_) ?_
    rotate_left
    · go_simp; first | done | with_reducible rfl
    simp only [Act.put, List.setIfInBounds_toArray, List.set_cons_zero, List.set_cons_succ]
    refine lin_val (i := 6) (v := ?_) rfl (by kernel_rfl) (by kernel_rfl) (by kernel_rfl) (fun _ _ _ h => h) hSS hS rfl (fun w hSw => ?_) ?_
    rotate_left
    · go_simp; first | done | with_reducible rfl
    simp only [Act.put, List.setIfInBounds_toArray, List.set_cons_zero, List.set_cons_succ]
    refine lin_val (i := 7) (v := ?_) rfl (by kernel_rfl) (by kernel_rfl) (by kernel_rfl) (fun _ _ _ h => h) hSS hS rfl (fun w hSw => ?_) ?_
    rotate_left
    · go_simp; first | done | with_reducible rfl
    simp only [Act.put, List.setIfInBounds_toArray, List.set_cons_zero, List.set_cons_succ]
    refine lin_step (i := 4) (by kernel_rfl) rfl (fun wa ka K hK => ?_)
    go_simp
    refine hK.out _ _ trivial (fun hS1 => ?_)
    clear hK K hS1
    try simp only [Act.put, List.setIfInBounds_toArray, List.set_cons_zero, List.set_cons_succ]
    refine lin_val (i := 8) (v := ?_) rfl (by kernel_rfl) (by kernel_rfl) (by kernel_rfl) (fun _ _ _ h => h) hSS trivial rfl (fun w hSw => ?_) ?_
    rotate_left
    · go_simp; first | done | with_reducible rfl
    simp only [Act.put, List.setIfInBounds_toArray, List.set_cons_zero, List.set_cons_succ]
    refine lin_val (i := 9) (v := ?_) rfl (by kernel_rfl) (by kernel_rfl) (by kernel_rfl) (fun _ _ _ h => h) hSS trivial rfl (fun w hSw => ?_) ?_
    rotate_left
    · go_simp; first | done | with_reducible rfl
    simp only [Act.put, List.setIfInBounds_toArray, List.set_cons_zero, List.set_cons_succ]
    refine lin_done (by kernel_rfl) (fun wn kn => ?_) _
    clear hS hSS
    have hn0 := (HeadR.of_bytes wa H).kept kn
    have hkw : Kp [] w5 wn := (((Kp.refl [] w5).drew.nil ka).nil (kp_bytes wa ⟨H.toArray⟩)).nil kn
    obtain ⟨g, hg⟩ : ∃ g, g = wa.heap.size := ⟨_, rfl⟩
    obtain ⟨cap, hcap⟩ : ∃ cap, cap = grownCap wa (a + 1) 0 5 := ⟨_, rfl⟩
    have hgw : w5.heap.size ≤ g := by rw [hg]; exact ka.size
    rw [← hg] at hn0
    simp only [← hg, ← hcap]
    have HN := hid (And.intro hn0 (And.intro hkw hgw))
    clear hn0 hkw hgw hg hcap ka kn hcv hadd hx1 hx2 w1 w2 b1 hQs hdl
    obtain ⟨t2, b2⟩ : ∃ x, ((m : Int) == 53) = x := ⟨_, rfl⟩
    have B2 := hid b2
    obtain ⟨g1, b3⟩ : ∃ x, decide ((53 : Int) < (m : Int)) = x := ⟨_, rfl⟩
    have B3 := hid b3
    have i0 := Hi0.out
    go_upto_if 38 with fail
    clear b2 b3
    go_cut [1, 10, 38] (fun v1 v10 _ wx => v1 = .bool more ∧ v10 = .bool up ∧ (wx = wn ∨ wx = wn.drew))
    case first =>
      cases t2 with
      | false =>
        have hu : up = g1 := by
          have hm53 : m ≠ 53 := by
            intro e
            have := B2.out
            rw [beq_eq_false_iff_ne] at this
            exact this (by rw [e]; rfl)
          rw [HT.out.2.2.1, if_neg (fun e => hm53 (by rw [HT.out.2.2.2.1, e]; rfl)), ← B3.out, ← HT.out.2.2.2.1]
          by_cases h : 53 < m
          · rw [decide_eq_true h, decide_eq_true (by omega)]
          · rw [decide_eq_false h, decide_eq_false (by omega)]
        have Hu := hid hu
        clear hu
        go_wp2_with fail
        go_meet
        exact ⟨rfl, by rw [Hu.out], .inl rfl⟩
      | true =>
        have hm53 : m = 53 := by
          have := B2.out
          rw [beq_iff_eq] at this
          omega
        have hu := HT.out.2.2.1
        rw [if_pos (UInt8.toNat_inj.1 (by rw [← HT.out.2.2.2.1, hm53]; rfl))] at hu
        have Hu := hid hu
        clear hu hm53
        cases more with
        | true =>
          have h1 : up = true := by rw [Hu.out]; rfl
          have H1 := hid h1
          clear h1
          go_wp2_with fail
          go_meet
          exact ⟨rfl, by rw [H1.out], .inl rfl⟩
        | false =>
          have qz := fun W => Tryd.strings_Trim_one ⟨tl.toArray⟩ 48 (by decide) W (by rw [size_mk]; omega)
          have hx3 := Hx3.out
          obtain ⟨Z, hZ⟩ : ∃ Z, Z = trimB tl 48 := ⟨_, rfl⟩
          have qz2 : ∀ W, Calls Tryd.prog 100 #[.string ⟨tl.toArray⟩, .string ⟨#[48]⟩] W fun e w' => e = .returned (.string ⟨Z.toArray⟩) ∧ (w' = W ∨ w' = W.drew) := fun W => by rw [hZ]; exact qz W
          have hZe := HT.out.2.2.2.2.1
          rw [← hZ] at hZe
          clear qz hZ
          by_cases hv0 : val tl = 0
          · rw [decide_eq_true hv0] at hZe
            have hZ0 : Z = [] := List.isEmpty_iff.1 hZe
            subst hZ0
            have haH : a < H.length := by rw [HT.out.2.2.2.2.2.2.2.1]; omega
            have hcell := HN.out.1.cell haH
            have hdH := dig_range (HT.out.2.2.2.2.2.2.1 _ (List.getElem_mem haH))
            have hpar : val H % 2 = (H[a].toNat - 48) % 2 := by
              have h1 := List.take_append_getElem haH
              rw [List.take_of_length_le (i := a + 1) (by rw [HT.out.2.2.2.2.2.2.2.1]; exact Nat.le_refl _)] at h1
              have h2 := val_snoc (H.take a) H[a]
              rw [h1] at h2
              omega
            obtain ⟨d, hd⟩ : ∃ d, d = H[a].toNat := ⟨_, rfl⟩
            rw [← hd] at hcell hdH hpar
            obtain ⟨x, hx⟩ : ∃ x, x = d - 48 := ⟨_, rfl⟩
            rw [← hx] at hpar
            have u1 : IntKind.u8.wrap ((d : Int) - 48) = (x : Int) := by rw [show (d : Int) - 48 = (x : Int) by omega]; exact IntWalk.u8_in _ (by omega)
            have hcd : wn.drew.cell? ⟨g, a, none⟩ = some (.int .u8 (d : Int)) := hcell
            have ia : (a : Int) < ((a + 1 : Nat) : Int) := by omega
            obtain ⟨y, hy⟩ : ∃ y, y = x % 2 := ⟨_, rfl⟩
            have u2 : IntKind.u8.wrap (Int.tmod (x : Int) 2) = (y : Int) := by rw [show Int.tmod (x : Int) 2 = (y : Int) by rw [hy]; rfl]; exact IntWalk.u8_in _ (by omega)
            have u3 : Int.tmod (x : Int) 2 = (y : Int) := by rw [hy]; rfl
            have h9 : up = decide (y = 1) := by
              rw [Hu.out, hpar, ← hy, decide_eq_false (fun h => h hv0)]
              rfl
            have b9 : ((y : Int) == 1) = up := by
              rw [h9]
              by_cases h : y = 1
              · rw [decide_eq_true h, h]; rfl
              · rw [decide_eq_false h, beq_eq_false_iff_ne]; omega
            have hy2 : y < 2 := by omega
            clear hZe hv0 hpar hd hdH hx hy h9 Hu
            go_wp2_with fail
            (with_reducible refine (qz2 _).mono ?_)
            rintro e w6 ⟨rfl, rfl | rfl⟩
            all_goals
              go_wp2_with fail
              go_meet
              first | exact ⟨rfl, rfl, .inl rfl⟩ | exact ⟨rfl, rfl, .inr rfl⟩
          · rw [decide_eq_false hv0] at hZe
            have h1 : up = true := by rw [Hu.out, decide_eq_true hv0]; rfl
            have H1 := hid h1
            clear h1 hv0 Hu
            go_wp2_with fail
            (with_reducible refine (qz2 _).mono ?_)
            rintro e w6 ⟨rfl, rfl | rfl⟩
            all_goals
              go_wp2_with fail
              go_meet
              first | exact ⟨rfl, by rw [H1.out], .inl rfl⟩ | exact ⟨rfl, by rw [H1.out], .inr rfl⟩
    case rest =>
      obtain ⟨rfl, rfl, hwx⟩ := hcut
      have hn2 : HeadR wc g H := by
        rcases hwx with rfl | rfl
        · exact HN.out.1
        · exact HN.out.1
      have hk2 : Kp [] w5 wc := by
        rcases hwx with rfl | rfl
        · exact HN.out.2.1
        · exact HN.out.2.1.drew
      have HN2 := hid (And.intro hn2 hk2)
      have hgw := HN.out.2.2
      have Hgw := hid hgw
      clear hwx hn2 hk2 hgw
      go_wp2_with fail
      go_loopw [10, 11] (fun v10 v11 wr => Kp [] w5 wr ∧ ((v10 = .bool true ∧ up = true ∧ ∃ (i : Nat) (h : List UInt8), v11 = .int .i64 (i : Int) ∧ IncI H h i ∧ HeadR wr g h) ∨
        (v10 = .bool false ∧ ∃ (h : List UInt8) (z : Int), v11 = .int .i64 z ∧ Digs h ∧ val h = val H + (if up then 1 else 0) ∧ h.length = a + 1 ∧ HeadR wr g h))) (fun v10 v11 _ => match v10 with | .bool true => (intOf v11).toNat + 1 | _ => 0)
      case atStart =>
        refine ⟨HN2.out.2, ?_⟩
        cases hu : up with
        | true =>
          refine .inl ⟨rfl, rfl, a, H, rfl, ?_, HN2.out.1⟩
          have h1 := IncI.start (H := H) (fun e => by have := HT.out.2.2.2.2.2.2.2.1; rw [e] at this; simp at this)
          rw [HT.out.2.2.2.2.2.2.2.1, Nat.add_sub_cancel] at h1
          exact h1
        | false => exact .inr ⟨rfl, H, a, rfl, HT.out.2.2.2.2.2.2.1, by rw [if_neg (by simp), Nat.add_zero], HT.out.2.2.2.2.2.2.2.1, HN2.out.1⟩
      case round =>
        obtain ⟨hkp, ⟨rfl, hut, i, h, rfl, hI, hh⟩ | ⟨rfl, h, z, rfl, hd, hv, hlen, hh⟩⟩ := hrel
        · have hia : i < a + 1 := by have := hI.1; rw [HT.out.2.2.2.2.2.2.2.1] at this; exact this
          obtain ⟨hhl, hhg⟩ := hI.get
          have hih : i < h.length := by rw [hhl, HT.out.2.2.2.2.2.2.2.1]; exact hia
          have hc := hh.cell hih
          have hf := hh.free hih
          have hgi : h[i] = H.getD i 0 := by
            rw [← hhg, List.getD_eq_getElem?_getD, List.getElem?_eq_getElem hih]
            rfl
          rw [hgi] at hc
          obtain ⟨ch, hch⟩ : ∃ ch, ch = H.getD i 0 := ⟨_, rfl⟩
          rw [← hch] at hc
          have ii : (i : Int) < ((a + 1 : Nat) : Int) := by omega
          have ii0 : (0 : Int) ≤ (i : Int) := by omega
          by_cases h9 : ch = 57
          · have hi0 : i ≠ 0 := by
              intro e
              rw [e, HT.out.2.2.2.2.2.1] at hch
              rw [hch] at h9
              cases h9
            obtain ⟨j, rfl⟩ : ∃ j, i = j + 1 := ⟨i - 1, by omega⟩
            have hnx := hI.next (by rw [← hch]; exact h9)
            have hput := hh.put (j + 1) 48
            have hks := hkp.setCell (p := ⟨g, j + 1, none⟩) (fun hlt => absurd hlt (by show ¬ g < w5.heap.size; have := Hgw.out; omega)) (.int .u8 (((48 : UInt8).toNat : Nat) : Int))
            have HQ := hid (And.intro hnx (And.intro hput (And.intro hks hut)))
            have hc57 : wr.cell? ⟨g, j + 1, none⟩ = some (.int .u8 57) := by rw [hc, h9]; rfl
            clear hnx hput hks hut hc hgi hch h9 hh hI hkp hhg hhl hih
            go_wp2_with fail
            go_roundw
            case rel => exact ⟨HQ.out.2.2.1, .inl ⟨rfl, HQ.out.2.2.2, j, h.set (j + 1) 48, by go_num, HQ.out.1, HQ.out.2.1⟩⟩
            case measure => simp [intOf]
          · obtain ⟨e1, e2, e3, e4⟩ := hI.done HT.out.2.2.2.2.2.2.1 (by rw [← hch]; exact h9)
            rw [← hch] at e1 e2 e3 e4
            have hput := hh.put i (ch + 1)
            rw [e4] at hput
            obtain ⟨d, hd⟩ : ∃ d, d = ch.toNat := ⟨_, rfl⟩
            rw [← hd] at hc hput
            have hd9 : d < 256 := by rw [hd]; exact UInt8.toNat_lt _
            have hd255 : d ≠ 255 := by
              have h1 : (ch + 1).toNat < 256 := UInt8.toNat_lt _
              omega
            have hne : d ≠ 57 := fun e => h9 (UInt8.toNat_inj.1 (by rw [← hd, e]; rfl))
            have bne : ((d : Int) == 57) = false := by rw [beq_eq_false_iff_ne]; omega
            have u1 : IntKind.u8.wrap ((d : Int) + 1) = ((d + 1 : Nat) : Int) := by rw [IntWalk.u8_in _ (by omega)]; rfl
            have hks := hkp.setCell (p := ⟨g, i, none⟩) (fun hlt => absurd hlt (by show ¬ g < w5.heap.size; have := Hgw.out; omega)) (.int .u8 ((d + 1 : Nat) : Int))
            have HQ := hid (And.intro e1 (And.intro e2 (And.intro e3 (And.intro hput (And.intro hks hut)))))
            have hla := HT.out.2.2.2.2.2.2.2.1
            have Hla := hid hla
            clear e1 e2 e3 e4 hput hks hut hgi hch h9 hh hI hkp hhg hhl hih hne hd hd255 hla
            go_wp2_with fail
            go_roundw
            case rel => exact ⟨HQ.out.2.2.2.2.1, .inr ⟨rfl, h.set i (ch + 1), (i : Int) - 1, by go_num, HQ.out.1, by rw [HQ.out.2.1, HQ.out.2.2.2.2.2]; rfl, HQ.out.2.2.1.trans Hla.out, HQ.out.2.2.2.1⟩⟩
            case measure => simp [intOf]
        · have htx := run_text (P := Tryd.prog) (src := 32) (e := 5) (dst := 9) Tryd.underlying32 Tryd.underlying5 Tryd.underlying9 hh.span (a + 1) cap hlen
          have hKl : h.length ≤ O.length + 1 := by have := HaO.out.1; omega
          have HZ := hid (And.intro hd (And.intro hv (And.intro hkp hKl)))
          have hFl := HT.out.2.2.2.2.2.2.2.2.1
          rw [← HT.out.1] at hFl
          have HFl := hid hFl
          have hfs := HT.out.2.2.2.2.2.2.2.2.2
          clear hd hv hkp hh hKl hlen hFl
          go_wp2_with fail
          go_ret2
          exact ⟨h, by rw [← HFl.out]; rfl, HZ.out.1, by rw [HZ.out.2.1, HT.out.2.1], HZ.out.2.2.2, HZ.out.2.2.1⟩
end Go.Proofs.YtampgimmodomoaaDoor
