/- Parse of the document's answer for layer 12. -/
import Derived.Test.YtaaikjedagnjbaaRN
import Derived.Test.YtaaikjedagnjbaaRO
namespace Go.Proofs.Ytaaikjedagnjbaa
open Go Go.RowKit Go.Lib

theorem parse_re {re : ByteArray} (h : re.size ≤ 100) : reR re = parseR (cps re) := by
  unfold reR
  rw [if_neg (by omega)]
  rfl
theorem code_re {re : ByteArray} (h : re.size ≤ 100) (hn : parseR (cps re) = none) : codeR re = 32 := by
  unfold codeR
  rw [if_neg (by omega), parse_re h, hn]
  rfl
set_option maxRecDepth 100000 in
set_option maxHeartbeats 6400000 in
theorem parsed_any (w : World) (re : ByteArray) (hv : okS re) (hs : re.size ≤ 1000) : Calls Try.prog 12 #[.string re] w (ParseP re w) := by
  obtain ⟨z, hz⟩ : ∃ z, z = re.size := ⟨_, rfl⟩
  have hle : decide (z ≤ 100) = decide (z ≤ 100) := rfl
  by_cases hbig : 100 < re.size
  · have i0 : (100 : Int) < (re.size : Int) := by omega
    have i1 : decide ((100 : Int) < (re.size : Int)) = true := decide_eq_true i0
    have HC : Hid (codeR re = 3 ∧ reR re = none) := hid ⟨by unfold codeR; rw [if_pos hbig], by unfold reR; rw [if_pos hbig]⟩
    clear hle hz hv hs
    go_enter Try.func12, Try.ntmps12
    go_wp2_with fail
    go_ret2
    exact ⟨⟨none, 0, 0, by rw [HC.out.1]; rfl, fun r h => by rw [HC.out.2] at h; cases h⟩, Kp.refl _ _⟩
  · have i0 : ¬ (100 : Int) < (re.size : Int) := by omega
    have i1 : decide ((100 : Int) < (re.size : Int)) = false := decide_eq_false i0
    have i2 : decide (100 < re.size) = false := decide_eq_false hbig
    have qr := runes_any w re hv (by omega)
    have HS : Hid (re.size ≤ 100) := hid (by omega)
    clear hle hz hv hs hbig
    go_enter Try.func12, Try.ntmps12
    go_wp2_with fail
    (with_reducible refine qr.mono ?_)
    clear qr
    rintro e w1 ⟨v, rfl, hown, hnew⟩
    obtain ⟨A, c, rfl, hsp, hc, -, hA⟩ := hown.shape
    obtain ⟨L, hL⟩ : ∃ L, L = cps re := ⟨_, rfl⟩
    have hL' : cpsL re.data.toList = L := hL.symm
    rw [hL'] at hsp hc hA hown ⊢
    have hl100 : L.length ≤ 100 := by
      have := cps_len re.data.toList
      rw [hL'] at this
      have h2 : re.data.toList.length = re.size := rfl
      have := HS.out
      omega
    have hsm : ∀ x ∈ L, x ≤ 2000000 := fun x hx => by rw [← hL'] at hx; have := cps_lt _ x hx; omega
    obtain ⟨rb, hrb⟩ : ∃ g, g = w1.heap.size := ⟨_, rfl⟩
    obtain ⟨w2, hw2⟩ : ∃ w2, w2 = w1.alloc (.cells #[.slice A L.length c, .int .i64 0, .int .i64 0, .slice none 0 0, .bool false] 46) := ⟨_, rfl⟩
    have k2 : Kp [] w1 w2 := by rw [hw2]; exact (Kp.refl _ _).alloc _
    have c2 : Cells w2 rb 46 [.slice A L.length c, .int .i64 ((0 : Nat) : Int), .int .i64 ((0 : Nat) : Int), .slice none 0 0, .bool false] := by rw [hw2, hrb]; exact Cells.fresh w1 46 _
    have rd2 : RdS w2 rb A c L 0 0 false (.slice none 0 0) 0 [] := ⟨c2, hsp.kept k2, fun ad e => by
        have h6 := hown.lt _ (by rw [(hA ad e).2])
        exact ⟨by omega, (fun h => by cases h), Nat.lt_of_lt_of_le h6 k2.size⟩, Nat.zero_le _, OwnN.nil _ _ _, (fun h => by cases h)⟩
    have pre : PreR w2 rb A c L 0 0 (.slice none 0 0) [] (fun _ => False) [] := ⟨rd2, PartsAt.nil _ _, (fun x h => h.elim), by omega, hsm, by simp only [List.length_nil]; omega, by omega⟩
    have q := ralt_top w2 rb A c L (.slice none 0 0) [] (fun _ => False) [] pre
    have H2 := hid (And.intro hnew (And.intro k2 (And.intro hL (And.intro hrb c2.lt))))
    have HW := hid (And.intro hw2 hrb)
    clear hown hnew hsp hA hL hL' hrb hw2 k2 c2 rd2 pre hsm
    go_wp2_with fail
    rw [← HW.out.1]
    try rw [← HW.out.2]
    (with_reducible refine q.mono ?_)
    clear q HW
    rintro e w3 ⟨k, a', d', bad, v', n', cs', rfl, r3, g3, ⟨p1, -, p3, p4, p5⟩, hb1, hb2⟩
    have kall : Kp [] w w3 := by
      obtain ⟨S, hS, kk⟩ := g3.kq
      refine (H2.out.1.kp.nil H2.out.2.1).trans kk fun x hx hl => ?_
      rcases hS x hx with h | h
      · cases h
      · have := H2.out.2.2.2.1
        have := H2.out.1.kp.size
        omega
    obtain ⟨x0, x1, -, x3, x4⟩ := r3.five
    have hle3 := r3.le
    obtain ⟨m, hm⟩ : ∃ m, m = L.length := ⟨_, rfl⟩
    rw [← hm] at x0 hle3
    have HM := hid hm
    have HK := hid kall
    have H3 := hid r3
    clear kall r3 hm g3 p1 p4 p5
    cases bad with
    | true =>
      have HN := hid (hb1 rfl)
      clear hb1 hb2
      go_wp2_with fail
      go_quiet (fail)
      generalize nq = n1 at *
      go_wp2_with fail
      go_ret2
      have hpn : parseR (cps re) = none := by
        rw [← H2.out.2.2.1]
        unfold parseR
        rw [show altR 0 L = none from HN.out]
        rfl
      refine ⟨⟨none, 0, 0, by rw [code_re HS.out hpn]; rfl, fun r h => by rw [parse_re HS.out, hpn] at h; cases h⟩, HK.out.nil ((Kp.refl _ _).drewN _)⟩
    | false =>
      have HY := hid (hb2 rfl)
      clear hb1 hb2
      by_cases heq : a' = m
      · have e0 : ((a' : Int) != (m : Int)) = false := by rw [heq]; simp
        obtain ⟨A3, c3, rfl, -, hc3, -, -⟩ := OwnN.shape H3.out.own
        have HE := hid heq
        clear heq
        go_wp2_with fail
        go_quiet (fail)
        generalize nq = n1 at *
        obtain ⟨w4, hw4⟩ : ∃ w4, w4 = w3.drewN n1 := ⟨_, rfl⟩
        have k4 : Kp [] w3 w4 := by rw [hw4]; exact (Kp.refl _ _).drewN _
        rw [← hw4]
        have r4 := H3.out.kept k4
        obtain ⟨-, -, -, x3, -⟩ := r4.five
        have H4 := hid (And.intro r4 k4)
        clear hw4 r4 k4
        go_wp2_with fail
        go_ret2
        obtain ⟨e1, Q, re', f2, f3, f4, f5, f6⟩ := HY.out
        have hk := f6 (by trivial)
        have hpr : parseR (cps re) = some re' := by
          rw [← H2.out.2.2.1]
          unfold parseR
          have f4 : altR 0 L = some (re', L.drop a') := f4
          rw [f4]
          show (if L.drop a' = [] then some re' else none) = _
          rw [if_pos (List.drop_eq_nil_of_le (by have := HM.out; have := HE.out; omega))]
        obtain ⟨A', c', e', s2, _, _, h5⟩ := OwnN.shape H4.out.1.own
        injection e' with e7 e8 e9
        subst e7 e9
        refine ⟨⟨A3, n', c3, by rw [code_some (by rw [parse_re HS.out, hpr])]; rfl, fun r h => ?_⟩, HK.out.nil H4.out.2⟩
        rw [parse_re HS.out, hpr] at h
        injection h with h
        subst h
        refine ⟨⟨A3, c3, n', cs', [] ++ Q, rfl, s2, fun ad e => (h5 ad e).1, (f3.kept H4.out.2).later (Kq.refl _ _) (fun x hx => hx.elim), f2, by omega, by have := HM.out; simp only [List.length_nil] at p3; omega, ?_⟩⟩
        rw [← hk, Nat.add_sub_cancel]
        exact f5
      · have e0 : ((a' : Int) != (m : Int)) = true := bne_iff_ne.2 (by omega)
        have HE := hid heq
        clear heq
        go_wp2_with fail
        go_quiet (fail)
        generalize nq = n1 at *
        go_wp2_with fail
        go_ret2
        obtain ⟨e1, Q, re', f2, f3, f4, f5, f6⟩ := HY.out
        have hpn : parseR (cps re) = none := by
          rw [← H2.out.2.2.1]
          unfold parseR
          have f4 : altR 0 L = some (re', L.drop a') := f4
          rw [f4]
          show (if L.drop a' = [] then some re' else none) = _
          rw [if_neg]
          intro hnil
          have := List.drop_eq_nil_iff.1 hnil
          have := HM.out
          have := HE.out
          omega
        refine ⟨⟨none, 0, 0, by rw [code_re HS.out hpn]; rfl, fun r h => by rw [parse_re HS.out, hpn] at h; cases h⟩, HK.out.nil ((Kp.refl _ _).drewN _)⟩
end Go.Proofs.Ytaaikjedagnjbaa
