/- A machine's spread: a state and those to which it goes on at once are put into a set. -/
import Derived.Test.YtaaikjedagnjbaaRA
import Derived.Test.YtaaikjedagnjbaaGPut
import Derived.Deep.DeepCutAuto
import Derived.Laws.EntriesVeiled
namespace Go.Proofs.Ytaaikjedagnjbaa
open Go Go.RowKit Go.Lib

theorem run_equalIn_func {P : Program} (w : World) (d : Nat) {t : TypeId} {ps rs : Array TypeId} {vd : Bool} (h : P.underlying t = some (.func ps rs vd)) (F : FuncId) (cap : Array Value) :
    (Op.equalIn (d + 1) t (.func (.func F) #[] cap) .nilFunc).run P w = .ok false w := by
  simp [Op.equalIn, run_underlying h]
theorem run_equalIn_nilFunc {P : Program} (w : World) (d : Nat) {t : TypeId} {ps rs : Array TypeId} {vd : Bool} (h : P.underlying t = some (.func ps rs vd)) :
    (Op.equalIn (d + 1) t .nilFunc .nilFunc).run P w = .ok true w := by
  simp [Op.equalIn, run_underlying h]
theorem run_equal_func {P : Program} (w : World) {t : TypeId} {ps rs : Array TypeId} {vd : Bool} (h : P.underlying t = some (.func ps rs vd)) (F : FuncId) (cap : Array Value) :
    (Op.equal t (.func (.func F) #[] cap) .nilFunc).run P w = .ok false w := run_equalIn_func w 9999 h F cap
theorem run_equal_nilFunc {P : Program} (w : World) {t : TypeId} {ps rs : Array TypeId} {vd : Bool} (h : P.underlying t = some (.func ps rs vd)) :
    (Op.equal t .nilFunc .nilFunc).run P w = .ok true w := run_equalIn_nilFunc w 9999 h
theorem run_neq_func {P : Program} (w : World) {t : TypeId} {ps rs : Array TypeId} {vd : Bool} (h : P.underlying t = some (.func ps rs vd)) (F : FuncId) (cap : Array Value) :
    (binOp .neq t (.func (.func F) #[] cap) .nilFunc).run P w = .ok (.bool true) w := by
  simp only [binOp]
  simp [run_equal_func w h F cap]
theorem run_neq_nilFunc {P : Program} (w : World) {t : TypeId} {ps rs : Array TypeId} {vd : Bool} (h : P.underlying t = some (.func ps rs vd)) :
    (binOp .neq t .nilFunc .nilFunc).run P w = .ok (.bool false) w := by
  simp only [binOp]
  simp [run_equal_nilFunc w h]
def bools (B : List Bool) : List Value := B.map Value.bool
theorem bools_at {B : List Bool} {i : Nat} {b : Bool} (h : B[i]? = some b) : (bools B)[i]? = some (.bool b) := by simp [bools, h]
theorem bools_set (B : List Bool) (i : Nat) (b : Bool) : (bools B).set i (.bool b) = bools (B.set i b) := by simp [bools, List.map_set]
/-- A set of states in memory. -/
def SetAt (w : World) (g c : Nat) (B : List Bool) : Prop := Own w 4 (.slice (some ⟨g, 0, none⟩) B.length c) B.length (bools B)
/-- A state's cells. -/
theorem MachAt.state {w : World} {mb : Nat} {E R : Nat → Prop} {M : List St} (h : MachAt w mb E R M) {i : Nat} {st : St} (hst : M[i]? = some st) :
    ∃ sb cap, ∃ c : Stc, w.cell? ⟨mb, 0, none⟩ = some (.slice (some ⟨sb, 0, none⟩) M.length cap) ∧ w.cell? ⟨sb, 3 * i, none⟩ = some c.t ∧ w.cell? ⟨sb, 3 * i + 1, none⟩ = some c.h ∧ w.cell? ⟨sb, 3 * i + 2, none⟩ = some c.n ∧ E sb ∧ cap ≤ 9223372036854775807 ∧
      TkAt w (fun x => E x ∨ R x) c.t st.tk ∧ WhAt w (fun x => E x ∨ R x) c.h st.wh ∧ Own w 3 c.n st.nx.length (ints st.nx) ∧ ∀ g, c.n.ownBlock = some g → E g := by
  obtain ⟨v0, cs, h1, h2, h3, h4, h5, h6, h7⟩ := h.ex
  have him : i < M.length := (List.getElem?_eq_some_iff.1 hst).1
  obtain ⟨c, hc⟩ : ∃ c, cs[i]? = some c := ⟨_, List.getElem?_eq_getElem (by omega)⟩
  obtain ⟨A0, c0, rfl, hsp0, hc0, hc1, hA0⟩ := h2.shape
  have hx := stcs_at cs i c hc
  obtain ⟨ad, rfl, y0⟩ := hsp0 _ _ (hx 0 (by decide))
  obtain ⟨ad', e', y1⟩ := hsp0 _ _ (hx 1 (by decide))
  injection e' with e'
  subst e'
  obtain ⟨ad', e', y2⟩ := hsp0 _ _ (hx 2 (by decide))
  injection e' with e'
  subst e'
  obtain ⟨e4, -⟩ := hA0 ad rfl
  obtain ⟨sb, of, pr⟩ := ad
  injection e4 with e7 e5 e6
  subst e5 e6
  clear e7
  have ha : ∀ j, (⟨sb, 0, none⟩ : Addr).add (j + 1) = ⟨sb, j + 1, none⟩ := fun j => by simp [Addr.add]
  have ha0 : (⟨sb, 0, none⟩ : Addr).add (3 * i + 0) = ⟨sb, 3 * i, none⟩ := by
    cases i with
    | zero => rfl
    | succ i => simp [Addr.add]
  rw [ha0] at y0
  rw [ha] at y1
  rw [show 3 * i + 2 = (3 * i + 1) + 1 from rfl, ha] at y2
  have hci := h6 i st c hst hc
  have x0 := h1.cell 0
  simp only [List.getElem?_cons_zero] at x0
  exact ⟨sb, c0, c, x0, y0, y1, y2, h5 sb rfl, hc1, hci.1, hci.2.1, hci.2.2.1, fun g hg => (hci.2.2.2.2.2.2 g hg).1⟩
/-- Whether spread goes no further. -/
def stopB (st : St) (at_ n : Nat) : Bool := st.tk.isSome || match st.wh with
  | none => false
  | some f => !f at_ n
theorem stop_no {M : List St} {at_ n i : Nat} {st : St} (hst : M[i]? = some st) (h : stopB st at_ n = true) (q' : Nat) : ¬ Ep M at_ n i q' := by
  rintro ⟨st', a1, a2, a3, a4⟩
  rw [hst] at a1
  injection a1 with a1
  subst a1
  unfold stopB at h
  rw [a2] at h
  cases hw : st.wh with
  | none => rw [hw] at h; cases h
  | some f =>
    rw [hw] at h
    have := a3 f hw
    simp [this] at h
theorem stop_go {M : List St} {at_ n i k : Nat} {st : St} (hst : M[i]? = some st) (h : stopB st at_ n = false) (hk : k ∈ st.nx) : Ep M at_ n i k := by
  unfold stopB at h
  refine ⟨st, hst, ?_, fun g hg => ?_, hk⟩
  · cases ht : st.tk with
    | none => rfl
    | some f => rw [ht] at h; cases h
  · rw [hg] at h
    cases ht : st.tk with
    | none => rw [ht] at h; simpa using h
    | some f => rw [ht] at h; cases h
set_option maxRecDepth 100000 in
set_option maxHeartbeats 6400000 in
theorem spread_any (M : List St) (mb : Nat) (E R : Nat → Prop) (g c at_ n : Nat) (hRg : R g) (hat : at_ ≤ 1000000) (hn : n ≤ 1000000) (hM : M.length ≤ 1000000) (hwf : ∀ (q : Nat) st, M[q]? = some st → ∀ k ∈ st.nx, k < M.length) (hnx : ∀ (q : Nat) st, M[q]? = some st → st.nx.length ≤ 1000000) :
    ∀ (k : Nat) (w : World) (B : List Bool) (i : Nat), lacks B < k → MachAt w mb E R M → (∀ x, R x → x < w.heap.size) → SetAt w g c B → B.length = M.length → i < M.length →
    Calls Try.prog 35 #[.pointer (some ⟨mb, 0, none⟩), .slice (some ⟨g, 0, none⟩) M.length c, .int .i64 (i : Int), .int .i64 (at_ : Int), .int .i64 (n : Int)] w fun e w' => e = .returned (.tuple #[]) ∧ ∃ B', Spr M at_ n B i B' ∧ SetAt w' g c B' ∧ Kp [g] w w' := by
  intro k
  have nf1 : ∀ F cap w, (binOp .neq 72 (.func (.func F) #[] cap) .nilFunc).run Try.prog w = .ok (.bool true) w := fun F cap w => run_neq_func w Try.underlying72 F cap
  have nf2 : ∀ w, (binOp .neq 72 .nilFunc .nilFunc).run Try.prog w = .ok (.bool false) w := fun w => run_neq_nilFunc w Try.underlying72
  have nf3 : ∀ F cap w, (binOp .neq 73 (.func (.func F) #[] cap) .nilFunc).run Try.prog w = .ok (.bool true) w := fun F cap w => run_neq_func w Try.underlying73 F cap
  have nf4 : ∀ w, (binOp .neq 73 .nilFunc .nilFunc).run Try.prog w = .ok (.bool false) w := fun w => run_neq_nilFunc w Try.underlying73
  induction k with
  | zero => intro w B i h; exact absurd h (Nat.not_lt_zero _)
  | succ k ih =>
    intro w B i hk hm hR hset hBM hi
    obtain ⟨b, hb⟩ : ∃ b, B[i]? = some b := ⟨_, List.getElem?_eq_getElem (by omega)⟩
    obtain ⟨g', e', hgl, hcell, hfr, -⟩ := Own.at hset (by omega)
    injection e' with e'
    injection e' with e'
    subst e'
    have y0 : w.cell? ⟨g, i, none⟩ = some (.bool b) := (hcell i (by omega)).trans (bools_at hb)
    have f0 := hfr i (by omega)
    obtain ⟨N, hN⟩ : ∃ N, N = M.length := ⟨_, rfl⟩
    have b0 : (i : Int) < (N : Int) := by omega
    have b1 : i < N := by omega
    have b2 : decide ((i : Int) < (N : Int)) = true := decide_eq_true b0
    have b3 : decide (i < N) = true := decide_eq_true b1
    cases b with
    | true =>
      have HX := hid (And.intro hset hb)
      rw [← hN]
      clear hk hm hR hset hBM hi hb hgl hcell hfr hN ih
      go_enter Try.func35, Try.ntmps35
      go_wp2_with fail
      first | go_end0 | (simp only [Exit.inBlock, Exit.then]; refine bodyPost_ret (results_none rfl _ _ _) rfl ?_) | refine bodyPost_ret (results_none rfl _ _ _) rfl ?_
      exact ⟨rfl, B, spr_there HX.out.2, HX.out.1, Kp.refl _ _⟩
    | false =>
      obtain ⟨st, hst⟩ : ∃ st, M[i]? = some st := ⟨_, List.getElem?_eq_getElem hi⟩
      obtain ⟨w1, hw1⟩ : ∃ w1, w1 = w.setCell ⟨g, i, none⟩ (.bool true) := ⟨_, rfl⟩
      have k1 : Kp [g] w w1 := by rw [hw1]; exact (Kp.refl _ _).setCell (fun _ => by simp) _
      have hset1 : SetAt w1 g c (B.set i true) := by
        unfold SetAt
        rw [hw1, List.length_set, ← bools_set]
        exact Own.put hset (by omega) _
      have m1 := hm.keep (⟨[g], fun x hx => by rw [List.mem_singleton.1 hx]; exact hRg, k1⟩ : Kq R w w1) (fun _ a => a) (fun _ a => .inl a) hR
      have hR1 : ∀ x, R x → x < w1.heap.size := fun x hx => Nat.lt_of_lt_of_le (hR x hx) k1.size
      obtain ⟨sb, cap, sc, x0, s0, s1, s2, hEs, hcap, ht, hh, hn0, hEn⟩ := m1.state hst
      rw [← hN] at x0
      obtain ⟨w2, hw2⟩ : ∃ w2, w2 = w1.alloc (.cells #[sc.t, sc.h, sc.n] 75) := ⟨_, rfl⟩
      have k2 : Kp [] w1 w2 := by rw [hw2]; exact (Kp.refl _ _).alloc _
      have c2 : Cells w2 w1.heap.size 75 [sc.t, sc.h, sc.n] := by rw [hw2]; exact Cells.fresh w1 75 _
      obtain ⟨gs, hgs⟩ : ∃ g, g = w1.heap.size := ⟨_, rfl⟩
      rw [← hgs] at c2
      obtain ⟨Ax, cx, hnv, hspx, hcx, hlx, hAx⟩ := hn0.shape
      have haxg : ∀ ad, Ax = some ad → ad.block ≠ g := fun ad e hb => m1.apart _ (hEn _ (hAx ad e).2) (by rw [hb]; exact hRg)
      obtain ⟨tv, htv⟩ : ∃ v, v = sc.t := ⟨_, rfl⟩
      obtain ⟨hv, hhv⟩ : ∃ v, v = sc.h := ⟨_, rfl⟩
      obtain ⟨nn, hnn⟩ : ∃ n, n = st.nx.length := ⟨_, rfl⟩
      rw [← htv] at ht s0 hw2 c2
      rw [← hhv] at hh s1 hw2 c2
      rw [hnv, ← hnn] at s2 hw2 c2
      rw [← hnn] at hcx
      have e3 : i * 3 = 3 * i := Nat.mul_comm _ _
      have hlk : lacks (B.set i true) < k := Nat.lt_of_lt_of_le (lacks_set B i hb) (Nat.le_of_lt_succ hk)
      have hspan := hspx.kept k2
      have t0 := c2.cell 0
      have t1 := c2.cell 1
      have t2 := c2.cell 2
      simp only [List.getElem?_cons_zero, List.getElem?_cons_succ] at t0 t1 t2
      have hnnb : nn ≤ 1000000 := by rw [hnn]; exact hnx i st hst
      have HM := hid (And.intro (m1.keep (Kq.of k2) (fun _ a => a) (fun _ a => .inl a) hR1) (And.intro (fun x hx => Nat.lt_of_lt_of_le (hR1 x hx) k2.size) (And.intro (Own.kept hset1 k2) (And.intro (k1.nil k2) (And.intro hlk (And.intro hst (And.intro hBM (And.intro hi (And.intro hN hnn)))))))))
      have HS := hid (And.intro hspan (And.intro hcx (And.intro c2 (And.intro (show w.heap.size ≤ gs by rw [hgs]; exact k1.size) (And.intro ih haxg)))))
      have HT := hid (And.intro (TkAt.later ht (Kq.of k2) (fun x hx => .inl hx)) (WhAt.later hh (Kq.of k2) (fun x hx => .inl hx)))
      have HW1 := hid hw1
      have HW2 := hid hw2
      have HGS := hid hgs
      rw [← hN]
      clear hk hm hR hset hBM hi hb hgl hcell hfr hN ih hst hw1 k1 hset1 m1 hR1 hEs ht hh hn0 hw2 k2 c2 hgs hnv hspx hcx hlx htv hhv hnn hlk hspan hAx hEn haxg
      go_enter Try.func35, Try.ntmps35
      go_upto_region 2 with fail
      rw [← HW1.out]
      clear y0 f0 HW1
      go_cut [10] (fun v wx => v = .pointer (some ⟨gs, 0, none⟩) ∧ wx = w2)
      case first =>
        have htv : tv = .nilFunc ∨ ∃ F cap, tv = .func (.func F) #[] cap := by
          have := HT.out.1
          cases hk : st.tk with
          | none => rw [hk] at this; exact .inl this
          | some f => rw [hk] at this; obtain ⟨F, cap, e, -⟩ := this; exact .inr ⟨F, cap, e⟩
        have hhv : hv = .nilFunc ∨ ∃ F cap, hv = .func (.func F) #[] cap := by
          have := HT.out.2
          cases hk : st.wh with
          | none => rw [hk] at this; exact .inl this
          | some f => rw [hk] at this; obtain ⟨F, cap, e, -⟩ := this; exact .inr ⟨F, cap, e⟩
        clear HM HS HT
        rcases htv with rfl | ⟨F, cp, rfl⟩ <;> rcases hhv with rfl | ⟨F', cp', rfl⟩
        all_goals go_wp2_with fail
        all_goals
          go_meet
          exact ⟨by rw [HGS.out], HW2.out.symm⟩
      case rest =>
        obtain ⟨rfl, hwc⟩ := hcut
        subst wc
        clear HW2 HGS x0 s0 s1 s2
        go_upto_region 3 with fail
        go_cut [42] (fun v wx => v = .bool (stopB st at_ n) ∧ Kp [] w2 wx)
        case first =>
          obtain ⟨ht, hh⟩ := HT.out
          clear HM HS HT
          cases htk : st.tk with
          | some f =>
            rw [htk] at ht
            obtain ⟨F, cap, rfl, -⟩ := ht
            have hs : Hid (stopB st at_ n = true) := hid (by unfold stopB; rw [htk]; rfl)
            clear htk hh
            go_wp2_with fail
            go_meet
            exact ⟨by rw [hs.out], Kp.refl _ _⟩
          | none =>
            rw [htk] at ht
            have ht : tv = .nilFunc := ht
            subst ht
            cases hwk : st.wh with
            | none =>
              rw [hwk] at hh
              have hh : hv = .nilFunc := hh
              subst hh
              have hs : Hid (stopB st at_ n = false) := hid (by unfold stopB; rw [htk, hwk]; rfl)
              clear htk hwk
              go_wp2_with fail
              go_meet
              exact ⟨by rw [hs.out], Kp.refl _ _⟩
            | some f =>
              rw [hwk] at hh
              obtain ⟨F, cp, rfl, hent, hF⟩ := hh
              have qF := hF w2 (Kq.refl _ _) at_ n hat hn
              have hs : Hid (stopB st at_ n = !f at_ n) := hid (by unfold stopB; rw [htk, hwk]; rfl)
              obtain ⟨r, hr⟩ : ∃ r, r = f at_ n := ⟨_, rfl⟩
              rw [← hr] at qF hs
              have hent2 := fun w => hent (#[.int .i64 (at_ : Int), .int .i64 (n : Int)] ++ cp) w
              clear hF htk hwk hr hent
              go_wp2_with fail
              (with_reducible refine qF.mono ?_)
              clear qF
              rintro e w3 ⟨rfl, hk3⟩
              have HK := hid hk3
              clear hk3
              go_wp2_with fail
              go_meet
              exact ⟨by rw [hs.out], HK.out⟩
        case rest =>
          obtain ⟨rfl, hkc⟩ := hcut
          have HC := hid hkc
          have t2 := hkc.cell t2 (by simp)
          clear hkc t0 t1
          obtain ⟨sp, hsp⟩ : ∃ b, b = stopB st at_ n := ⟨_, rfl⟩
          rw [← hsp]
          have HSP := hid hsp
          clear hsp
          cases sp with
          | true =>
            go_wp2_with fail
            first | go_end0 | (simp only [Exit.inBlock, Exit.then]; refine bodyPost_ret (results_none rfl _ _ _) rfl ?_) | refine bodyPost_ret (results_none rfl _ _ _) rfl ?_
            obtain ⟨m2, hR2, set2, k02, hlk, hst, hBM, hi, hN, hnn⟩ := HM.out
            exact ⟨rfl, _, spr_stop (by rw [hBM]; exact hi) (stop_no hst HSP.out.symm), Own.kept set2 HC.out, k02.nil HC.out⟩
          | false =>
            clear HT
            go_wp2_with fail
            go_loopg [46] nn (fun gg v46 wx => ∃ (j : Nat) (Bj : List Bool), v46 = .int .i64 (j : Int) ∧ j + gg = nn ∧ Kp [g] w2 wx ∧ SetAt wx g c Bj ∧ SprJ M at_ n (B.set i true) i (st.nx.take j) Bj)
            case atStart =>
              obtain ⟨m2, hR2, set2, k02, hlk, hst, hBM, hi, hN, hnn⟩ := HM.out
              exact ⟨0, _, rfl, by omega, HC.out.mono (by simp), Own.kept set2 HC.out, .start M at_ n _ i⟩
            case round =>
              obtain ⟨j, Bj, rfl, hjg, hkj, hsj, hpj⟩ := hrel
              have HJ := hid (And.intro hkj (And.intro hsj hpj))
              clear hkj hsj hpj
              cases gk with
              | zero =>
                obtain rfl : j = nn := by omega
                go_wp2_with fail
                first | go_end0 | (simp only [Exit.inBlock, Exit.then]; refine bodyPost_ret (results_none rfl _ _ _) rfl ?_) | refine bodyPost_ret (results_none rfl _ _ _) rfl ?_
                obtain ⟨m2, hR2, set2, k02, hlk, hst, hBM, hi, hN, hnn⟩ := HM.out
                obtain ⟨hkj, hsj, hpj⟩ := HJ.out
                rw [hnn, List.take_length] at hpj
                exact ⟨rfl, Bj, spr_end (by rw [hBM]; exact hi) hst hpj, hsj, (k02.mono (by simp)).trans hkj (fun x hx _ => hx)⟩
              | succ gg =>
                obtain ⟨m2, hR2, set2, k02, hlk, hst, hBM, hi, hN, hnn⟩ := HM.out
                obtain ⟨hspan, hcx, c2, hgsw, ih, haxg⟩ := HS.out
                obtain ⟨hkj, hsj, hpj⟩ := HJ.out
                obtain ⟨x, hx⟩ : ∃ x, st.nx[j]? = some x := ⟨_, List.getElem?_eq_getElem (by omega)⟩
                have hxm : x ∈ st.nx := List.mem_of_getElem? hx
                have hxl := hwf i st hst x hxm
                obtain ⟨ax, rfl, yx⟩ := hspan j (.int .i64 (x : Int)) (by simp [ints, hx])
                have yx := hkj.cell yx (by rw [add_block]; simpa using haxg ax rfl)
                have mj := m2.keep (⟨[g], fun x hx => by rw [List.mem_singleton.1 hx]; exact hRg, hkj⟩ : Kq R w2 wr) (fun _ a => a) (fun _ a => .inl a) hR2
                have hRj : ∀ x, R x → x < wr.heap.size := fun x hx => Nat.lt_of_lt_of_le (hR2 x hx) hkj.size
                have hlB : Bj.length = M.length := by rw [hpj.len, List.length_set]; exact hBM
                have hlack : lacks Bj < k := Nat.lt_of_le_of_lt (lacks_mono _ _ hpj.len hpj.mono) hlk
                have q := ih wr Bj x hlack mj hRj hsj hlB hxl
                rw [← hN] at q
                have HQ := hid (And.intro (stop_go hst HSP.out.symm hxm) (And.intro hx (And.intro hkj hpj)))
                have j0 : (j : Int) < (nn : Int) := by omega
                have j1 : decide ((j : Int) < (nn : Int)) = true := decide_eq_true j0
                have j2 : j < nn := by omega
                have j3 : decide (j < nn) = true := decide_eq_true j2
                have iw : IntKind.i64.wrap ((j : Int) + 1) = (j : Int) + 1 := IntWalk.i64_in _ (by omega)
                clear m2 hR2 set2 k02 hlk hst hBM hi hN hnn hspan hcx c2 hgsw ih haxg hkj hsj hpj hx hxm hxl mj hRj hlB hlack
                go_wp2_with fail
                (with_reducible refine q.mono ?_)
                clear q yx
                rintro e w5 ⟨rfl, B5, sp5, set5, k5⟩
                have H5 := hid (And.intro sp5 (And.intro set5 k5))
                clear sp5 set5 k5
                go_wp2_with fail
                go_roundg gg
                case measure => omega
                case rel =>
                  obtain ⟨hep, hx, hkj, hpj⟩ := HQ.out
                  refine ⟨j + 1, B5, rfl, by omega, hkj.trans H5.out.2.2 (fun x hx _ => hx), H5.out.2.1, ?_⟩
                  rw [List.take_add_one, hx]
                  exact hpj.next hep H5.out.1
end Go.Proofs.Ytaaikjedagnjbaa
