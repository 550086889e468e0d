/- one, Match: the document's answer. -/
import Derived.Test.YtpeldjihalldkaaDoorTPlaceSame
import Derived.Test.YtpeldjihalldkaaDoorRG
import Derived.Test.YtpeldjihalldkaaDoorTBuilt
namespace Go.Proofs.YtpeldjihalldkaaDoor
open Go Go.RowKit Go.Lib

/-- A step of a pattern: kind, key, number. -/
abbrev StI := Int × Txt × Int
def StAt (w : World) (P : Addr) (s : StI) : Prop :=
  w.cell? P = some (.int .i64 s.1) ∧ w.cell? ⟨P.block, P.off + 1, none⟩ = some (.string ⟨s.2.1.toArray⟩) ∧ w.cell? ⟨P.block, P.off + 2, none⟩ = some (.int .i64 s.2.2)
structure PathAt (w : World) (A : Option Addr) (c : Nat) (l : List StI) : Prop where
  le : l.length ≤ c
  top : c ≤ 9223372036854775807
  short : ∀ s ∈ l, s.2.1.length ≤ 9223372036854775807
  at_ : ∀ (i : Nat) s, l[i]? = some s → ∃ ad, A = some ad ∧ StAt w (ad.add (i * 3)) s
theorem PathAt.kept {w w' : World} {A : Option Addr} {c : Nat} {l : List StI} (h : PathAt w A c l) (k : Kp [] w w') : PathAt w' A c l :=
  ⟨h.le, h.top, h.short, fun i s hs => by obtain ⟨ad, e, h0, h1, h2⟩ := h.at_ i s hs; exact ⟨ad, e, k.cell h0 (by simp), k.cell h1 (by simp), k.cell h2 (by simp)⟩⟩
theorem step_eql (a a' : Int) (l l' : Txt) (z z' : Int) (w : World) : (binOp .eql 42 (.agg #[.int .i64 a, .string ⟨l.toArray⟩, .int .i64 z]) (.agg #[.int .i64 a', .string ⟨l'.toArray⟩, .int .i64 z'])).run Tryd.prog w = .ok (.bool (decide (a = a' ∧ l = l' ∧ z = z'))) w := by
  by_cases h1 : a = a'
  · subst h1
    by_cases h2 : l = l'
    · subst h2
      simp [go_sem]
      by_cases h3 : z = z' <;> simp [h3]
    · simp [go_sem, h2]
  · simp [go_sem, h1]
attribute [go_sem ↓ high] step_eql
/-- Whether a step of a pattern leads to one of a place. -/
def oneB (t : StI) (s : Stp) : Bool := if t.1 = 3 then decide (s.1 = 1) else if t.1 = 4 then decide (s.1 = 2) else decide (t.1 = (s.1 : Int) ∧ t.2.1 = s.2.1 ∧ t.2.2 = (s.2.2 : Int))
set_option maxRecDepth 100000 in
theorem one_any (w : World) (t1 : Int) (tx : Txt) (tn : Int) (s1 : Nat) (sx : Txt) (sn : Nat) :
    Calls Tryd.prog 107 #[.agg #[.int .i64 t1, .string ⟨tx.toArray⟩, .int .i64 tn], .agg #[.int .i64 (s1 : Int), .string ⟨sx.toArray⟩, .int .i64 (sn : Int)]] w fun e w' => e = .returned (.bool (oneB (t1, tx, tn) (s1, sx, sn))) ∧ Kp [] w w' := by
  have hk : Kp [] w ((w.alloc (.cells #[.int .i64 t1, .string ⟨tx.toArray⟩, .int .i64 tn] 42)).alloc (.cells #[.int .i64 (s1 : Int), .string ⟨sx.toArray⟩, .int .i64 (sn : Int)] 42)) := ((Kp.refl _ _).alloc _).alloc _
  have HK := hid hk
  clear hk
  by_cases h3 : t1 = 3
  · have e : oneB (t1, tx, tn) (s1, sx, sn) = ((s1 : Int) == 1) := by
      unfold oneB
      rw [if_pos h3, Bool.eq_iff_iff, beq_iff_eq, decide_eq_true_eq]
      dsimp only
      omega
    rw [e]
    clear e
    have z3 : (t1 == 3) = true := by rw [h3]; rfl
    clear h3
    go_enter Tryd.func107, Tryd.ntmps107
    go_wp2_with fail
    go_ret
    exact ⟨rfl, HK.out⟩
  · have z3 : (t1 == 3) = false := beq_eq_false_iff_ne.2 h3
    by_cases h4 : t1 = 4
    · have e : oneB (t1, tx, tn) (s1, sx, sn) = ((s1 : Int) == 2) := by
        unfold oneB
        rw [if_neg h3, if_pos h4, Bool.eq_iff_iff, beq_iff_eq, decide_eq_true_eq]
        dsimp only
        omega
      rw [e]
      clear e
      have z4 : (t1 == 4) = true := by rw [h4]; rfl
      clear h3 h4
      go_enter Tryd.func107, Tryd.ntmps107
      go_wp2_with fail
      go_ret
      exact ⟨rfl, HK.out⟩
    · have e : oneB (t1, tx, tn) (s1, sx, sn) = decide (t1 = (s1 : Int) ∧ tx = sx ∧ tn = (sn : Int)) := by
        unfold oneB
        rw [if_neg h3, if_neg h4]
      rw [e]
      obtain ⟨b, hb⟩ : ∃ b, b = decide (t1 = (s1 : Int) ∧ tx = sx ∧ tn = (sn : Int)) := ⟨_, rfl⟩
      rw [← hb]
      have zb := hb.symm
      have z4 : (t1 == 4) = false := beq_eq_false_iff_ne.2 h4
      clear e h3 h4 hb
      go_enter Tryd.func107, Tryd.ntmps107
      go_wp2_with fail
      go_ret
      exact ⟨rfl, HK.out⟩
/-- The next row: to how many steps of a place the pattern's steps up to one may lead. -/
def nx (t : StI) (at_ : List Stp) (row : Nat → Bool) : Nat → Bool
  | 0 => if t.1 = 5 then row 0 else false
  | k + 1 => if t.1 = 5 then (row (k + 1) || nx t at_ row k) else (row k && (match at_[k]? with | some s => oneB t s | none => false))
def rowB (at_ : List Stp) (l : List StI) : Nat → Bool := l.foldl (fun row t => nx t at_ row) (fun k => decide (k = 0))
def matchB (l : List StI) (at_ : List Stp) : Bool := rowB at_ l at_.length
theorem rowB_take (at_ : List Stp) (l : List StI) (i : Nat) (t : StI) (h : l[i]? = some t) : rowB at_ (l.take (i + 1)) = nx t at_ (rowB at_ (l.take i)) := by
  unfold rowB
  rw [List.take_add_one, h]
  show (l.take i ++ [t]).foldl _ _ = _
  rw [List.foldl_append]
  rfl
def bools (f : Nat → Bool) (n : Nat) : List Value := (List.range n).map fun k => Value.bool (f k)
theorem bools_len (f : Nat → Bool) (n : Nat) : (bools f n).length = n := by simp [bools]
theorem bools_at (f : Nat → Bool) (n k : Nat) (h : k < n) : (bools f n)[k]? = some (.bool (f k)) := by
  unfold bools
  rw [List.getElem?_map, List.getElem?_range h]
  rfl
theorem bools_congr {f g : Nat → Bool} {n : Nat} (h : ∀ k, k < n → f k = g k) : bools f n = bools g n := by
  refine List.ext_getElem? fun k => ?_
  rcases Nat.lt_or_ge k n with hk | hk
  · rw [bools_at f n k hk, bools_at g n k hk, h k hk]
  · rw [List.getElem?_eq_none (by rw [bools_len]; exact hk), List.getElem?_eq_none (by rw [bools_len]; exact hk)]
theorem bools_set (f : Nat → Bool) (n k : Nat) (b : Bool) (h : k < n) : (bools f n).set k (.bool b) = bools (fun j => if j = k then b else f j) n := by
  refine List.ext_getElem? fun j => ?_
  rw [List.getElem?_set]
  rcases Nat.lt_or_ge j n with hj | hj
  · rw [bools_at (fun j => if j = k then b else f j) n j hj]
    by_cases hjk : k = j
    · subst hjk
      rw [if_pos rfl, if_pos (by rw [bools_len]; exact h), if_pos rfl]
    · rw [if_neg hjk, if_neg (fun e => hjk e.symm), bools_at f n j hj]
  · rw [List.getElem?_eq_none (l := bools (fun j => if j = k then b else f j) n) (by rw [bools_len]; exact hj), if_neg (by omega), List.getElem?_eq_none (by rw [bools_len]; exact hj)]
theorem bools_false (n : Nat) : List.replicate n (Value.bool false) = bools (fun _ => false) n := by
  refine List.ext_getElem? fun j => ?_
  rcases Nat.lt_or_ge j n with hj | hj
  · rw [bools_at _ n j hj, List.getElem?_replicate, if_pos hj]
  · rw [List.getElem?_replicate, if_neg (by omega), List.getElem?_eq_none (by rw [bools_len]; exact hj)]
theorem bools_step {F : Nat → Bool} {n k : Nat} {b : Bool} (h : F k = b) : bools (fun j => if j < k + 1 then F j else false) n = bools (fun j => if j = k then b else if j < k then F j else false) n :=
  bools_congr fun j _ => by
    by_cases h1 : j = k
    · subst h1; rw [if_pos (by omega), if_pos rfl, h]
    · rw [if_neg h1]
      by_cases h2 : j < k
      · rw [if_pos h2, if_pos (by omega)]
      · rw [if_neg h2, if_neg (by omega)]
theorem boolInfo : (Tryd.prog.info? 4).map (fun i => (i.zero, i.size, i.bytes)) = some (some (.bool false), 1, 1) := by kernel_rfl
set_option maxRecDepth 100000 in
set_option maxHeartbeats 25600000 in
theorem match_any (w : World) (A : Option Addr) (c : Nat) (l : List StI) (hl : PathAt w A c l) (T : Nat → Prop) (v : Value) (at_ : List Stp) (hat : StepsAt w T v at_) (hsz : at_.length ≤ 1000000) :
    Calls Tryd.prog 92 #[.slice A l.length c, v] w fun e w' => e = .returned (.bool (matchB l at_)) ∧ Kp [] w w' := by
  obtain ⟨B, d, rfl, m1, m2, c2⟩ := hat.cells
  obtain ⟨N, hN⟩ : ∃ N, N = l.length := ⟨_, rfl⟩
  obtain ⟨n, hn⟩ : ∃ n, n = at_.length := ⟨_, rfl⟩
  have l1 := hl.le
  have l2 := hl.top
  obtain ⟨R, hR⟩ : ∃ R, R = matchB l at_ := ⟨_, rfl⟩
  rw [← hN] at l1
  rw [← hn] at m1 hsz
  rw [← hN, ← hn, ← hR]
  have HL := hid (And.intro hl (And.intro c2 (And.intro hN (And.intro hn hR))))
  have ws : IntKind.i64.wrap ((n : Int) + 1) = ((n + 1 : Nat) : Int) := IntWalk.i64_in _ (by omega)
  obtain ⟨n1, hn1⟩ : ∃ n1, n1 = n + 1 := ⟨_, rfl⟩
  rw [← hn1] at ws
  have HN1 := hid hn1
  have hn1b : n1 ≤ 1000001 := by omega
  have hn1p : (0 : Int) < (n1 : Int) := by omega
  clear hl hat c2 hN hn hR hn1
  go_enter Tryd.func92, Tryd.ntmps92
  go_wp2_with (at_make; go_must (refine wpList_make1 rfl _ _ 142 rfl 4 (.bool false) 1 Tryd.underlying142 boolInfo rfl .i64 .i64 (n1 : Int) (n1 : Int) n1 rfl rfl rfl rfl (by omega) (by omega) ?_))
  intro w1 Z hZ hc1 k1
  have hZ2 : Z = bools (fun _ => false) n1 := by rw [hZ.out, bools_false]
  subst hZ2
  have f0 := hc1.free 0
  have o0 := (hc1.cell 0).trans (bools_at _ n1 0 (by omega))
  have H1 := hid (And.intro hc1 k1)
  clear hc1 k1 hZ
  go_wp2_with fail
  go_loopw [5, 6] (fun vr vi wr => ∃ (i g : Nat), i ≤ N ∧ vi = .int .i64 (i : Int) ∧ vr = .slice (some ⟨g, 0, none⟩) n1 n1 ∧ Cells wr g 4 (bools (rowB at_ (l.take i)) n1) ∧ w.heap.size ≤ g ∧ Kp [] w wr) (fun _ vi _ => N - (RowKit.intOf vi).toNat)
  case atStart =>
    refine ⟨0, w.heap.size, Nat.zero_le _, rfl, rfl, ?_, Nat.le_refl _, H1.out.2.fresh (kp_put (Kp.refl _ _) _ _ (.inr (by simp)) _) (Nat.le_refl _)⟩
    have h := H1.out.1.put 0 (.bool true)
    rw [bools_set _ _ _ _ (by omega)] at h
    have e : bools (rowB at_ (l.take 0)) n1 = bools (fun j => if j = 0 then true else false) n1 := bools_congr fun k _ => by
      show decide (k = 0) = _
      by_cases h : k = 0
      · rw [if_pos h, decide_eq_true h]
      · rw [if_neg h, decide_eq_false h]
    rw [e]
    exact h
  case round =>
    obtain ⟨i, g, hi, rfl, rfl, hcg, hgw, hk⟩ := hrel
    obtain ⟨hl, c2, hN, hn, hR⟩ := HL.out
    by_cases hlt : i < N
    · obtain ⟨t, ht⟩ : ∃ t, l[i]? = some t := ⟨_, List.getElem?_eq_getElem (by omega)⟩
      obtain ⟨t1, tx, tn⟩ := t
      obtain ⟨ad, rfl, p0, p1, p2⟩ := (hl.kept hk).at_ i _ ht
      dsimp only at p0 p1 p2
      have htk := rowB_take at_ l i _ ht
      obtain ⟨row, hrow⟩ : ∃ row, row = rowB at_ (l.take i) := ⟨_, rfl⟩
      rw [← hrow] at hcg htk
      have z1 : decide ((i : Int) < (N : Int)) = true := decide_eq_true (by omega)
      have z1n : decide (i < N) = true := decide_eq_true hlt
      have jn : (i : Int) < (N : Int) := by omega
      obtain ⟨wo, hwo⟩ : ∃ wo : World, wo = wr := ⟨_, rfl⟩
      rw [← hwo] at hk hcg p0 p1 p2 ⊢
      have HO := hid (And.intro hk (And.intro hcg (And.intro htk (And.intro hgw (And.intro p0 (And.intro p1 p2))))))
      have HIL := hid (And.intro hi hlt)
      clear hwo hl c2 hN hn hR ht hrow hk hcg htk hgw p0 p1 p2 hi hlt
      go_wp2_with (at_make; go_must (refine wpList_make1 rfl _ _ 142 rfl 4 (.bool false) 1 Tryd.underlying142 boolInfo rfl .i64 .i64 (n1 : Int) (n1 : Int) n1 rfl rfl rfl rfl (by omega) (by omega) ?_))
      intro w2 Z hZ hc2 k2
      have hZ2 : Z = bools (fun _ => false) n1 := by rw [hZ.out, bools_false]
      subst hZ2
      obtain ⟨gN, hgN⟩ : ∃ gN, gN = wo.heap.size := ⟨_, rfl⟩
      rw [← hgN] at hc2
      try simp only [← hgN]
      have HGN0 := hid hgN
      have H2 := hid (And.intro hc2 k2)
      clear hc2 k2 hZ hgN
      go_wp2_with fail
      go_loopw [8] (fun vk wx => ∃ k : Nat, k ≤ n1 ∧ vk = .int .i64 (k : Int) ∧ Kp [] wo wx ∧ Cells wx gN 4 (bools (fun j => if j < k then nx (t1, tx, tn) at_ row j else false) n1)) (fun vk _ => n1 - (RowKit.intOf vk).toNat)
      case atStart => exact ⟨0, Nat.zero_le _, rfl, H2.out.2, by
        have e : bools (fun j => if j < 0 then nx (t1, tx, tn) at_ row j else false) n1 = bools (fun _ => false) n1 := bools_congr fun k _ => by rw [if_neg (Nat.not_lt_zero _)]
        rw [e]
        exact H2.out.1⟩
      case round =>
        obtain ⟨k, hkn, rfl, hkx, hcN⟩ := hrel
        obtain ⟨hk, hcg, htk, hgw, p0, p1, p2⟩ := HO.out
        obtain ⟨wi, hwi⟩ : ∃ wi : World, wi = wr := ⟨_, rfl⟩
        rw [← hwi] at hkx hcN ⊢
        clear hwi
        by_cases hlt2 : k < n1
        · have HKW := hid hkx
          have hcg := hcg.keep hkx (by simp)
          replace p0 := hkx.cell p0 (by simp); replace p1 := hkx.cell p1 (by simp); replace p2 := hkx.cell p2 (by simp)
          have hgl := (Array.getElem?_eq_some_iff.1 HO.out.2.1).1
          have HR := hid (And.intro hkx hcN)
          have HKN := hid hlt2
          have HGN : Hid (wo.heap.size ≤ gN) := hid (by rw [HGN0.out]; exact Nat.le_refl _)
          have z2 : decide ((k : Int) ≤ (n : Int)) = true := decide_eq_true (by have := HN1.out; omega)
          have z2n : decide (k ≤ n) = true := decide_eq_true (by have := HN1.out; omega)
          have jk : (k : Int) < (n1 : Int) := by omega
          have rk := (hcg.cell k).trans (bools_at row n1 k hlt2)
          have fN := hcN.free k
          obtain ⟨vN0, oN⟩ : ∃ u, wi.cell? ⟨gN, k, none⟩ = some u := ⟨_, (hcN.cell k).trans (List.getElem?_eq_getElem (by rw [bools_len]; exact hlt2))⟩
          by_cases h5 : t1 = 5
          · have z5 : (t1 == 5) = true := by rw [h5]; rfl
            obtain ⟨br, hbr⟩ : ∃ b, b = row k := ⟨_, rfl⟩
            rw [← hbr] at rk
            have fin : ∀ b, nx (t1, tx, tn) at_ row k = b → ∀ w', w' = wi.setCell ⟨gN, k, none⟩ (.bool b) → Kp [] wo w' ∧ Cells w' gN 4 (bools (fun j => if j < k + 1 then nx (t1, tx, tn) at_ row j else false) n1) := by
              intro b hb w' hw'
              subst hw'
              refine ⟨HR.out.1.fresh (kp_put (Kp.refl _ _) _ _ (.inr (by simp)) _) HGN.out, ?_⟩
              have := HR.out.2.put k (.bool b)
              rw [bools_set _ _ _ _ HKN.out] at this
              rw [bools_step hb]
              exact this
            have FIN := hid fin
            clear fin hcg hcN hkx hk htk hgw hgl p1 p2
            cases br with
            | true =>
              have hnx : nx (t1, tx, tn) at_ row k = true := by
                cases k with
                | zero => unfold nx; rw [if_pos h5]; exact hbr.symm
                | succ k => unfold nx; rw [if_pos h5, ← hbr]; rfl
              have HNX := hid hnx
              clear h5 hbr hnx
              go_wp2_with fail
              go_roundw
              case rel => exact ⟨k + 1, HKN.out, by go_num, (FIN.out true HNX.out _ rfl).1, (FIN.out true HNX.out _ rfl).2⟩
              case measure => have := HKN.out; simp [RowKit.intOf]; omega
            | false =>
              by_cases hk0 : k = 0
              · have hnx : nx (t1, tx, tn) at_ row k = false := by
                  subst hk0
                  unfold nx; rw [if_pos h5]; exact hbr.symm
                have HNX := hid hnx
                have z6 : decide ((0 : Int) < (k : Int)) = false := decide_eq_false (by omega)
                have z6n : decide (0 < k) = false := decide_eq_false (by omega)
                clear h5 hbr hnx hk0
                go_wp2_with fail
                go_roundw
                case rel => exact ⟨k + 1, HKN.out, by go_num, (FIN.out false HNX.out _ rfl).1, (FIN.out false HNX.out _ rfl).2⟩
                case measure => have := HKN.out; simp [RowKit.intOf]; omega
              · obtain ⟨kj, hkj⟩ : ∃ kj, kj = k - 1 := ⟨_, rfl⟩
                have hnx : nx (t1, tx, tn) at_ row k = nx (t1, tx, tn) at_ row kj := by
                  have e : k = kj + 1 := by omega
                  rw [e]
                  conv => lhs; unfold nx
                  rw [if_pos h5, ← e, ← hbr]
                  rfl
                obtain ⟨bj, hbj⟩ : ∃ b, b = nx (t1, tx, tn) at_ row kj := ⟨_, rfl⟩
                rw [← hbj] at hnx
                have rj : wi.cell? ⟨gN, kj, none⟩ = some (.bool bj) := by
                  have := (HR.out.2.cell kj).trans (bools_at _ n1 kj (by omega))
                  rw [if_pos (by omega), ← hbj] at this
                  exact this
                have z6 : decide ((0 : Int) < (k : Int)) = true := decide_eq_true (by omega)
                have z6n : decide (0 < k) = true := decide_eq_true (by omega)
                have wk : IntKind.i64.wrap ((k : Int) - 1) = (kj : Int) := by rw [IntWalk.i64_in _ (by omega)]; omega
                have jj : (kj : Int) < (n1 : Int) := by omega
                have HNX := hid hnx
                clear h5 hbr hnx hk0 hkj hbj
                go_wp2_with fail
                go_roundw
                case rel => exact ⟨k + 1, HKN.out, by go_num, (FIN.out bj HNX.out _ rfl).1, (FIN.out bj HNX.out _ rfl).2⟩
                case measure => have := HKN.out; simp [RowKit.intOf]; omega
          · have z5 : (t1 == 5) = false := beq_eq_false_iff_ne.2 h5
            clear rk fN oN
            by_cases hk0 : k = 0
            · have hnx : nx (t1, tx, tn) at_ row k = false := by
                subst hk0
                unfold nx; rw [if_neg h5]
              have HNX := hid hnx
              have HRW := hid hcg
              have z6 : decide ((0 : Int) < (k : Int)) = false := decide_eq_false (by omega)
              have z6n : decide (0 < k) = false := decide_eq_false (by omega)
              clear h5 hnx hk0 hcg hcN hkx hk htk hgw hgl p1 p2
              go_upto_region 12 with fail
              refine lin_start (fun w' => Kp [] wi w') (Stays.kp _ _) (by kernel_rfl) (Kp.refl _ _).drew (fun hSS hS => ?_)
              refine lin_val (i := 0) (v := ?_) rfl (by kernel_rfl) (by kernel_rfl) (by kernel_rfl) (fun _ _ _ h => h) hSS hS rfl (fun w hSw => ?_) ?_
              rotate_left
              · have q0 := hSw; go_simp; first | done | with_reducible rfl
              simp only [Act.put, List.setIfInBounds_toArray, List.set_cons_zero, List.set_cons_succ]
              refine lin_val (i := 1) (v := ?_) rfl (by kernel_rfl) (by kernel_rfl) (by kernel_rfl) (fun _ _ _ h => h) hSS hS rfl (fun w hSw => ?_) ?_
              rotate_left
              · have q0 := hSw; go_simp; first | done | with_reducible rfl
              simp only [Act.put, List.setIfInBounds_toArray, List.set_cons_zero, List.set_cons_succ]
              refine lin_val (i := 2) (v := ?_) rfl (by kernel_rfl) (by kernel_rfl) (by kernel_rfl) (fun _ _ _ h => h) hSS hS rfl (fun w hSw => ?_) ?_
              rotate_left
              · have q0 := hSw; go_simp; first | done | with_reducible rfl
              simp only [Act.put, List.setIfInBounds_toArray, List.set_cons_zero, List.set_cons_succ]
              refine lin_val (i := 3) (v := ?_) rfl (by kernel_rfl) (by kernel_rfl) (by kernel_rfl) (fun _ _ _ h => h) hSS hS rfl (fun w hSw => ?_) ?_
              rotate_left
              · have q0 := hSw; go_simp; first | done | with_reducible rfl
              simp only [Act.put, List.setIfInBounds_toArray, List.set_cons_zero, List.set_cons_succ]
              refine lin_val (i := 4) (v := ?_) rfl (by kernel_rfl) (by kernel_rfl) (by kernel_rfl) (fun _ _ _ h => h) hSS hS rfl (fun w hSw => ?_) ?_
              rotate_left
              · have q0 := hSw; go_simp; first | done | with_reducible rfl
              simp only [Act.put, List.setIfInBounds_toArray, List.set_cons_zero, List.set_cons_succ]
              refine lin_not (i := 5) rfl (by kernel_rfl) (by kernel_rfl) (by kernel_rfl) (fun _ _ _ h => h) hSS hS rfl ?_
              simp only [Act.put, List.setIfInBounds_toArray, List.set_cons_zero, List.set_cons_succ]
              refine lin_not (i := 6) rfl (by kernel_rfl) (by kernel_rfl) (by kernel_rfl) (fun _ _ _ h => h) hSS hS rfl ?_
              simp only [Act.put, List.setIfInBounds_toArray, List.set_cons_zero, List.set_cons_succ]
              refine lin_not (i := 7) rfl (by kernel_rfl) (by kernel_rfl) (by kernel_rfl) (fun _ _ _ h => h) hSS hS rfl ?_
              simp only [Act.put, List.setIfInBounds_toArray, List.set_cons_zero, List.set_cons_succ]
              refine lin_not (i := 8) rfl (by kernel_rfl) (by kernel_rfl) (by kernel_rfl) (fun _ _ _ h => h) hSS hS rfl ?_
              simp only [Act.put, List.setIfInBounds_toArray, List.set_cons_zero, List.set_cons_succ]
              refine lin_not (i := 9) rfl (by kernel_rfl) (by kernel_rfl) (by kernel_rfl) (fun _ _ _ h => h) hSS hS rfl ?_
              simp only [Act.put, List.setIfInBounds_toArray, List.set_cons_zero, List.set_cons_succ]
              refine lin_val (i := 10) (v := ?_) rfl (by kernel_rfl) (by kernel_rfl) (by kernel_rfl) (fun _ _ _ h => h) hSS hS rfl (fun w hSw => ?_) ?_
              rotate_left
              · have q0 := hSw; go_simp; first | done | with_reducible rfl
              simp only [Act.put, List.setIfInBounds_toArray, List.set_cons_zero, List.set_cons_succ]
              refine lin_val (i := 11) (v := ?_) rfl (by kernel_rfl) (by kernel_rfl) (by kernel_rfl) (fun _ _ _ h => h) hSS hS rfl (fun w hSw => ?_) ?_
              rotate_left
              · have q0 := hSw; go_simp; first | done | with_reducible rfl
              simp only [Act.put, List.setIfInBounds_toArray, List.set_cons_zero, List.set_cons_succ]
              refine lin_not (i := 12) rfl (by kernel_rfl) (by kernel_rfl) (by kernel_rfl) (fun _ _ _ h => h) hSS hS rfl ?_
              simp only [Act.put, List.setIfInBounds_toArray, List.set_cons_zero, List.set_cons_succ]
              refine lin_not (i := 13) rfl (by kernel_rfl) (by kernel_rfl) (by kernel_rfl) (fun _ _ _ h => h) hSS hS rfl ?_
              simp only [Act.put, List.setIfInBounds_toArray, List.set_cons_zero, List.set_cons_succ]
              refine lin_not (i := 14) rfl (by kernel_rfl) (by kernel_rfl) (by kernel_rfl) (fun _ _ _ h => h) hSS hS rfl ?_
              simp only [Act.put, List.setIfInBounds_toArray, List.set_cons_zero, List.set_cons_succ]
              refine lin_not (i := 15) rfl (by kernel_rfl) (by kernel_rfl) (by kernel_rfl) (fun _ _ _ h => h) hSS hS rfl ?_
              simp only [Act.put, List.setIfInBounds_toArray, List.set_cons_zero, List.set_cons_succ]
              refine lin_not (i := 16) rfl (by kernel_rfl) (by kernel_rfl) (by kernel_rfl) (fun _ _ _ h => h) hSS hS rfl ?_
              simp only [Act.put, List.setIfInBounds_toArray, List.set_cons_zero, List.set_cons_succ]
              refine lin_not (i := 17) rfl (by kernel_rfl) (by kernel_rfl) (by kernel_rfl) (fun _ _ _ h => h) hSS hS rfl ?_
              simp only [Act.put, List.setIfInBounds_toArray, List.set_cons_zero, List.set_cons_succ]
              refine lin_not (i := 18) rfl (by kernel_rfl) (by kernel_rfl) (by kernel_rfl) (fun _ _ _ h => h) hSS hS rfl ?_
              simp only [Act.put, List.setIfInBounds_toArray, List.set_cons_zero, List.set_cons_succ]
              refine lin_not (i := 19) rfl (by kernel_rfl) (by kernel_rfl) (by kernel_rfl) (fun _ _ _ h => h) hSS hS rfl ?_
              simp only [Act.put, List.setIfInBounds_toArray, List.set_cons_zero, List.set_cons_succ]
              refine lin_not (i := 20) rfl (by kernel_rfl) (by kernel_rfl) (by kernel_rfl) (fun _ _ _ h => h) hSS hS rfl ?_
              simp only [Act.put, List.setIfInBounds_toArray, List.set_cons_zero, List.set_cons_succ]
              refine lin_not (i := 21) rfl (by kernel_rfl) (by kernel_rfl) (by kernel_rfl) (fun _ _ _ h => h) hSS hS rfl ?_
              simp only [Act.put, List.setIfInBounds_toArray, List.set_cons_zero, List.set_cons_succ]
              refine lin_val (i := 22) (v := ?_) rfl (by kernel_rfl) (by kernel_rfl) (by kernel_rfl) (fun _ _ _ h => h) hSS hS rfl (fun w hSw => ?_) ?_
              rotate_left
              · have q0 := hSw; go_simp; first | done | with_reducible rfl
              simp only [Act.put, List.setIfInBounds_toArray, List.set_cons_zero, List.set_cons_succ]
              refine lin_val (i := 23) (v := ?_) rfl (by kernel_rfl) (by kernel_rfl) (by kernel_rfl) (fun _ _ _ h => h) hSS hS rfl (fun w hSw => ?_) ?_
              rotate_left
              · have q0 := hSw; go_simp; first | done | with_reducible rfl
              simp only [Act.put, List.setIfInBounds_toArray, List.set_cons_zero, List.set_cons_succ]
              refine lin_last (i := 24) (by kernel_rfl) rfl (by kernel_rfl) (fun wb kb K hK => ?_)
              have hkb : Kp [] wi wb := (Kp.refl _ _).drew.nil kb
              have hgc := HR.out.2.keep hkb (by simp)
              have f0 := hgc.free k
              obtain ⟨v0, o0⟩ : ∃ u, wb.cell? ⟨gN, k, none⟩ = some u := ⟨_, (hgc.cell k).trans (List.getElem?_eq_getElem (by rw [bools_len]; exact HKN.out))⟩
              go_simp
              refine hK.out _ _ ?_
              have HKB := hid (And.intro hkb hgc)
              clear hK K kb hkb hS hSS f0 o0 hgc
              clear HRW
              go_wp2_with fail
              go_roundw
              case rel =>
                obtain ⟨hkx, hcN⟩ := HR.out
                refine ⟨k + 1, by omega, by go_num, (HKW.out.nil HKB.out.1).fresh (kp_put (Kp.refl _ _) _ _ (.inr (by simp)) _) HGN.out, ?_⟩
                have := HKB.out.2.put k (.bool false)
                rw [bools_set _ _ _ _ HKN.out] at this
                rw [bools_step HNX.out]
                exact this
              case measure => simp [RowKit.intOf]; omega
            · obtain ⟨kj, hkj⟩ : ∃ kj, kj = k - 1 := ⟨_, rfl⟩
              obtain ⟨s, hs⟩ : ∃ s, at_[kj]? = some s := ⟨_, List.getElem?_eq_getElem (by have := HN1.out; have := HL.out.2.2.2.1; omega)⟩
              have hnx : nx (t1, tx, tn) at_ row k = (row kj && oneB (t1, tx, tn) s) := by
                have e : k = kj + 1 := by omega
                rw [e]
                conv => lhs; unfold nx
                rw [if_neg h5, hs]
              obtain ⟨bj, hbj⟩ : ∃ b, b = row kj := ⟨_, rfl⟩
              rw [← hbj] at hnx
              have rj := (hcg.cell kj).trans (bools_at row n1 kj (by omega))
              rw [← hbj] at rj
              have z6 : decide ((0 : Int) < (k : Int)) = true := decide_eq_true (by omega)
              have z6n : decide (0 < k) = true := decide_eq_true (by omega)
              have wk : IntKind.i64.wrap ((k : Int) - 1) = (kj : Int) := by rw [IntWalk.i64_in _ (by omega)]; omega
              have jj : (kj : Int) < (n1 : Int) := by omega
              have jj2 : (kj : Int) < (n : Int) := by have := HN1.out; omega
              have HRW := hid hcg
              have e3 : kj * 3 = 3 * kj := Nat.mul_comm _ _
              cases bj with
              | false =>
                have HNX := hid (show nx (t1, tx, tn) at_ row k = false by rw [hnx]; rfl)
                clear h5 hnx hk0 hcg hcN hkx hk htk hgw hgl p1 p2 hkj hs hbj
                go_upto_region 12 with fail
                refine lin_start (fun w' => w'.cell? ⟨g, kj, none⟩ = some (Value.bool false) ∧ Kp [] wi w') ((Stays.cell _ _).and ((Stays.kp _ _))) (by kernel_rfl) ⟨rj, (Kp.refl _ _).drew⟩ (fun hSS hS => ?_)
                refine lin_val (i := 0) (v := ?_) rfl (by kernel_rfl) (by kernel_rfl) (by kernel_rfl) (fun _ _ _ h => h) hSS hS rfl (fun w hSw => ?_) ?_
                rotate_left
                · obtain ⟨q0, q1⟩ := hSw; go_simp; first | done | with_reducible rfl
                simp only [Act.put, List.setIfInBounds_toArray, List.set_cons_zero, List.set_cons_succ]
                refine lin_val (i := 1) (v := ?_) rfl (by kernel_rfl) (by kernel_rfl) (by kernel_rfl) (fun _ _ _ h => h) hSS hS rfl (fun w hSw => ?_) ?_
                rotate_left
                · obtain ⟨q0, q1⟩ := hSw; go_simp; first | done | with_reducible rfl
                simp only [Act.put, List.setIfInBounds_toArray, List.set_cons_zero, List.set_cons_succ]
                refine lin_val (i := 2) (v := ?_) rfl (by kernel_rfl) (by kernel_rfl) (by kernel_rfl) (fun _ _ _ h => h) hSS hS rfl (fun w hSw => ?_) ?_
                rotate_left
                · obtain ⟨q0, q1⟩ := hSw; go_simp; first | done | with_reducible rfl
                simp only [Act.put, List.setIfInBounds_toArray, List.set_cons_zero, List.set_cons_succ]
                refine lin_val (i := 3) (v := ?_) rfl (by kernel_rfl) (by kernel_rfl) (by kernel_rfl) (fun _ _ _ h => h) hSS hS rfl (fun w hSw => ?_) ?_
                rotate_left
                · obtain ⟨q0, q1⟩ := hSw; go_simp; first | done | with_reducible rfl
                simp only [Act.put, List.setIfInBounds_toArray, List.set_cons_zero, List.set_cons_succ]
                refine lin_val (i := 4) (v := ?_) rfl (by kernel_rfl) (by kernel_rfl) (by kernel_rfl) (fun _ _ _ h => h) hSS hS rfl (fun w hSw => ?_) ?_
                rotate_left
                · obtain ⟨q0, q1⟩ := hSw; go_simp; first | done | with_reducible rfl
                simp only [Act.put, List.setIfInBounds_toArray, List.set_cons_zero, List.set_cons_succ]
                refine lin_val (i := 5) (v := ?_) rfl (by kernel_rfl) (by kernel_rfl) (by kernel_rfl) (fun _ _ _ h => h) hSS hS rfl (fun w hSw => ?_) ?_
                rotate_left
                · obtain ⟨q0, q1⟩ := hSw; go_simp; first | done | with_reducible rfl
                simp only [Act.put, List.setIfInBounds_toArray, List.set_cons_zero, List.set_cons_succ]
                refine lin_val (i := 6) (v := ?_) rfl (by kernel_rfl) (by kernel_rfl) (by kernel_rfl) (fun _ _ _ h => h) hSS hS rfl (fun w hSw => ?_) ?_
                rotate_left
                · obtain ⟨q0, q1⟩ := hSw; go_simp; first | done | with_reducible rfl
                simp only [Act.put, List.setIfInBounds_toArray, List.set_cons_zero, List.set_cons_succ]
                refine lin_val (i := 7) (v := ?_) rfl (by kernel_rfl) (by kernel_rfl) (by kernel_rfl) (fun _ _ _ h => h) hSS hS rfl (fun w hSw => ?_) ?_
                rotate_left
                · obtain ⟨q0, q1⟩ := hSw; go_simp; first | done | with_reducible rfl
                simp only [Act.put, List.setIfInBounds_toArray, List.set_cons_zero, List.set_cons_succ]
                refine lin_val (i := 8) (v := ?_) rfl (by kernel_rfl) (by kernel_rfl) (by kernel_rfl) (fun _ _ _ h => h) hSS hS rfl (fun w hSw => ?_) ?_
                rotate_left
                · obtain ⟨q0, q1⟩ := hSw; go_simp; first | done | with_reducible rfl
                simp only [Act.put, List.setIfInBounds_toArray, List.set_cons_zero, List.set_cons_succ]
                refine lin_val (i := 9) (v := ?_) rfl (by kernel_rfl) (by kernel_rfl) (by kernel_rfl) (fun _ _ _ h => h) hSS hS rfl (fun w hSw => ?_) ?_
                rotate_left
                · obtain ⟨q0, q1⟩ := hSw; go_simp; first | done | with_reducible rfl
                simp only [Act.put, List.setIfInBounds_toArray, List.set_cons_zero, List.set_cons_succ]
                refine lin_val (i := 10) (v := ?_) rfl (by kernel_rfl) (by kernel_rfl) (by kernel_rfl) (fun _ _ _ h => h) hSS hS rfl (fun w hSw => ?_) ?_
                rotate_left
                · obtain ⟨q0, q1⟩ := hSw; go_simp; first | done | with_reducible rfl
                simp only [Act.put, List.setIfInBounds_toArray, List.set_cons_zero, List.set_cons_succ]
                refine lin_val (i := 11) (v := ?_) rfl (by kernel_rfl) (by kernel_rfl) (by kernel_rfl) (fun _ _ _ h => h) hSS hS rfl (fun w hSw => ?_) ?_
                rotate_left
                · obtain ⟨q0, q1⟩ := hSw; go_simp; first | done | with_reducible rfl
                simp only [Act.put, List.setIfInBounds_toArray, List.set_cons_zero, List.set_cons_succ]
                refine lin_not (i := 12) rfl (by kernel_rfl) (by kernel_rfl) (by kernel_rfl) (fun _ _ _ h => h) hSS hS rfl ?_
                simp only [Act.put, List.setIfInBounds_toArray, List.set_cons_zero, List.set_cons_succ]
                refine lin_not (i := 13) rfl (by kernel_rfl) (by kernel_rfl) (by kernel_rfl) (fun _ _ _ h => h) hSS hS rfl ?_
                simp only [Act.put, List.setIfInBounds_toArray, List.set_cons_zero, List.set_cons_succ]
                refine lin_not (i := 14) rfl (by kernel_rfl) (by kernel_rfl) (by kernel_rfl) (fun _ _ _ h => h) hSS hS rfl ?_
                simp only [Act.put, List.setIfInBounds_toArray, List.set_cons_zero, List.set_cons_succ]
                refine lin_not (i := 15) rfl (by kernel_rfl) (by kernel_rfl) (by kernel_rfl) (fun _ _ _ h => h) hSS hS rfl ?_
                simp only [Act.put, List.setIfInBounds_toArray, List.set_cons_zero, List.set_cons_succ]
                refine lin_not (i := 16) rfl (by kernel_rfl) (by kernel_rfl) (by kernel_rfl) (fun _ _ _ h => h) hSS hS rfl ?_
                simp only [Act.put, List.setIfInBounds_toArray, List.set_cons_zero, List.set_cons_succ]
                refine lin_not (i := 17) rfl (by kernel_rfl) (by kernel_rfl) (by kernel_rfl) (fun _ _ _ h => h) hSS hS rfl ?_
                simp only [Act.put, List.setIfInBounds_toArray, List.set_cons_zero, List.set_cons_succ]
                refine lin_not (i := 18) rfl (by kernel_rfl) (by kernel_rfl) (by kernel_rfl) (fun _ _ _ h => h) hSS hS rfl ?_
                simp only [Act.put, List.setIfInBounds_toArray, List.set_cons_zero, List.set_cons_succ]
                refine lin_not (i := 19) rfl (by kernel_rfl) (by kernel_rfl) (by kernel_rfl) (fun _ _ _ h => h) hSS hS rfl ?_
                simp only [Act.put, List.setIfInBounds_toArray, List.set_cons_zero, List.set_cons_succ]
                refine lin_not (i := 20) rfl (by kernel_rfl) (by kernel_rfl) (by kernel_rfl) (fun _ _ _ h => h) hSS hS rfl ?_
                simp only [Act.put, List.setIfInBounds_toArray, List.set_cons_zero, List.set_cons_succ]
                refine lin_not (i := 21) rfl (by kernel_rfl) (by kernel_rfl) (by kernel_rfl) (fun _ _ _ h => h) hSS hS rfl ?_
                simp only [Act.put, List.setIfInBounds_toArray, List.set_cons_zero, List.set_cons_succ]
                refine lin_val (i := 22) (v := ?_) rfl (by kernel_rfl) (by kernel_rfl) (by kernel_rfl) (fun _ _ _ h => h) hSS hS rfl (fun w hSw => ?_) ?_
                rotate_left
                · obtain ⟨q0, q1⟩ := hSw; go_simp; first | done | with_reducible rfl
                simp only [Act.put, List.setIfInBounds_toArray, List.set_cons_zero, List.set_cons_succ]
                refine lin_val (i := 23) (v := ?_) rfl (by kernel_rfl) (by kernel_rfl) (by kernel_rfl) (fun _ _ _ h => h) hSS hS rfl (fun w hSw => ?_) ?_
                rotate_left
                · obtain ⟨q0, q1⟩ := hSw; go_simp; first | done | with_reducible rfl
                simp only [Act.put, List.setIfInBounds_toArray, List.set_cons_zero, List.set_cons_succ]
                refine lin_last (i := 24) (by kernel_rfl) rfl (by kernel_rfl) (fun wb kb K hK => ?_)
                have hkb : Kp [] wi wb := (Kp.refl _ _).drew.nil kb
                have hgc := HR.out.2.keep hkb (by simp)
                have f0 := hgc.free k
                obtain ⟨v0, o0⟩ : ∃ u, wb.cell? ⟨gN, k, none⟩ = some u := ⟨_, (hgc.cell k).trans (List.getElem?_eq_getElem (by rw [bools_len]; exact HKN.out))⟩
                go_simp
                refine hK.out _ _ ?_
                have HKB := hid (And.intro hkb hgc)
                clear hK K kb hkb hS hSS f0 o0 hgc
                clear HRW
                go_wp2_with fail
                go_roundw
                case rel =>
                  obtain ⟨hkx, hcN⟩ := HR.out
                  refine ⟨k + 1, by omega, by go_num, (HKW.out.nil HKB.out.1).fresh (kp_put (Kp.refl _ _) _ _ (.inr (by simp)) _) HGN.out, ?_⟩
                  have := HKB.out.2.put k (.bool false)
                  rw [bools_set _ _ _ _ HKN.out] at this
                  rw [bools_step HNX.out]
                  exact this
                case measure => simp [RowKit.intOf]; omega
              | true =>
                obtain ⟨s1, sx, sn⟩ := s
                obtain ⟨gQ, rfl, u0, u1, u2⟩ := HL.out.2.1 kj _ hs
                replace u0 := (hk.nil hkx).cell u0 (by simp); replace u1 := (hk.nil hkx).cell u1 (by simp); replace u2 := (hk.nil hkx).cell u2 (by simp)
                have qone := fun W => one_any W t1 tx tn s1 sx sn
                obtain ⟨b1, hb1⟩ : ∃ b, b = oneB (t1, tx, tn) (s1, sx, sn) := ⟨_, rfl⟩
                simp only [← hb1] at qone
                have HNX := hid (show nx (t1, tx, tn) at_ row k = b1 by rw [hnx, hb1]; rfl)
                clear h5 hnx hk0 hcg hcN hkx hk htk hgw hgl hkj hs hbj hb1
                go_upto_region 12 with fail
                refine lin_start (fun w' => w'.cell? ⟨g, kj, none⟩ = some (Value.bool true) ∧ w'.cell? (ad.add (i * 3)) = some (Value.int .i64 t1) ∧ w'.cell? ⟨(ad.add (i * 3)).block, (ad.add (i * 3)).off + 1, none⟩ = some (Value.string ⟨tx.toArray⟩) ∧ w'.cell? ⟨(ad.add (i * 3)).block, (ad.add (i * 3)).off + 2, none⟩ = some (Value.int .i64 tn) ∧ w'.cell? ⟨gQ, 3 * kj, none⟩ = some (Value.int .i64 (s1 : Int)) ∧ w'.cell? ⟨gQ, 3 * kj + 1, none⟩ = some (Value.string ⟨sx.toArray⟩) ∧ w'.cell? ⟨gQ, 3 * kj + 2, none⟩ = some (Value.int .i64 (sn : Int)) ∧ Kp [] wi w') ((Stays.cell _ _).and ((Stays.cell _ _).and ((Stays.cell _ _).and ((Stays.cell _ _).and ((Stays.cell _ _).and ((Stays.cell _ _).and ((Stays.cell _ _).and ((Stays.kp _ _))))))))) (by kernel_rfl) ⟨rj, p0, p1, p2, u0, u1, u2, (Kp.refl _ _).drew⟩ (fun hSS hS => ?_)
                refine lin_val (i := 0) (v := ?_) rfl (by kernel_rfl) (by kernel_rfl) (by kernel_rfl) (fun _ _ _ h => h) hSS hS rfl (fun w hSw => ?_) ?_
                rotate_left
                · obtain ⟨q0, q1, q2, q3, q4, q5, q6, q7⟩ := hSw; go_simp; first | done | with_reducible rfl
                simp only [Act.put, List.setIfInBounds_toArray, List.set_cons_zero, List.set_cons_succ]
                refine lin_val (i := 1) (v := ?_) rfl (by kernel_rfl) (by kernel_rfl) (by kernel_rfl) (fun _ _ _ h => h) hSS hS rfl (fun w hSw => ?_) ?_
                rotate_left
                · obtain ⟨q0, q1, q2, q3, q4, q5, q6, q7⟩ := hSw; go_simp; first | done | with_reducible rfl
                simp only [Act.put, List.setIfInBounds_toArray, List.set_cons_zero, List.set_cons_succ]
                refine lin_val (i := 2) (v := ?_) rfl (by kernel_rfl) (by kernel_rfl) (by kernel_rfl) (fun _ _ _ h => h) hSS hS rfl (fun w hSw => ?_) ?_
                rotate_left
                · obtain ⟨q0, q1, q2, q3, q4, q5, q6, q7⟩ := hSw; go_simp; first | done | with_reducible rfl
                simp only [Act.put, List.setIfInBounds_toArray, List.set_cons_zero, List.set_cons_succ]
                refine lin_val (i := 3) (v := ?_) rfl (by kernel_rfl) (by kernel_rfl) (by kernel_rfl) (fun _ _ _ h => h) hSS hS rfl (fun w hSw => ?_) ?_
                rotate_left
                · obtain ⟨q0, q1, q2, q3, q4, q5, q6, q7⟩ := hSw; go_simp; first | done | with_reducible rfl
                simp only [Act.put, List.setIfInBounds_toArray, List.set_cons_zero, List.set_cons_succ]
                refine lin_val (i := 4) (v := ?_) rfl (by kernel_rfl) (by kernel_rfl) (by kernel_rfl) (fun _ _ _ h => h) hSS hS rfl (fun w hSw => ?_) ?_
                rotate_left
                · obtain ⟨q0, q1, q2, q3, q4, q5, q6, q7⟩ := hSw; go_simp; first | done | with_reducible rfl
                simp only [Act.put, List.setIfInBounds_toArray, List.set_cons_zero, List.set_cons_succ]
                refine lin_val (i := 5) (v := ?_) rfl (by kernel_rfl) (by kernel_rfl) (by kernel_rfl) (fun _ _ _ h => h) hSS hS rfl (fun w hSw => ?_) ?_
                rotate_left
                · obtain ⟨q0, q1, q2, q3, q4, q5, q6, q7⟩ := hSw; go_simp; first | done | with_reducible rfl
                simp only [Act.put, List.setIfInBounds_toArray, List.set_cons_zero, List.set_cons_succ]
                refine lin_val (i := 6) (v := ?_) rfl (by kernel_rfl) (by kernel_rfl) (by kernel_rfl) (fun _ _ _ h => h) hSS hS rfl (fun w hSw => ?_) ?_
                rotate_left
                · obtain ⟨q0, q1, q2, q3, q4, q5, q6, q7⟩ := hSw; go_simp; first | done | with_reducible rfl
                simp only [Act.put, List.setIfInBounds_toArray, List.set_cons_zero, List.set_cons_succ]
                refine lin_val (i := 7) (v := ?_) rfl (by kernel_rfl) (by kernel_rfl) (by kernel_rfl) (fun _ _ _ h => h) hSS hS rfl (fun w hSw => ?_) ?_
                rotate_left
                · obtain ⟨q0, q1, q2, q3, q4, q5, q6, q7⟩ := hSw; go_simp; first | done | with_reducible rfl
                simp only [Act.put, List.setIfInBounds_toArray, List.set_cons_zero, List.set_cons_succ]
                refine lin_val (i := 8) (v := ?_) rfl (by kernel_rfl) (by kernel_rfl) (by kernel_rfl) (fun _ _ _ h => h) hSS hS rfl (fun w hSw => ?_) ?_
                rotate_left
                · obtain ⟨q0, q1, q2, q3, q4, q5, q6, q7⟩ := hSw; go_simp; first | done | with_reducible rfl
                simp only [Act.put, List.setIfInBounds_toArray, List.set_cons_zero, List.set_cons_succ]
                refine lin_val (i := 9) (v := ?_) rfl (by kernel_rfl) (by kernel_rfl) (by kernel_rfl) (fun _ _ _ h => h) hSS hS rfl (fun w hSw => ?_) ?_
                rotate_left
                · obtain ⟨q0, q1, q2, q3, q4, q5, q6, q7⟩ := hSw; go_simp; first | done | with_reducible rfl
                simp only [Act.put, List.setIfInBounds_toArray, List.set_cons_zero, List.set_cons_succ]
                refine lin_val (i := 10) (v := ?_) rfl (by kernel_rfl) (by kernel_rfl) (by kernel_rfl) (fun _ _ _ h => h) hSS hS rfl (fun w hSw => ?_) ?_
                rotate_left
                · obtain ⟨q0, q1, q2, q3, q4, q5, q6, q7⟩ := hSw; go_simp; first | done | with_reducible rfl
                simp only [Act.put, List.setIfInBounds_toArray, List.set_cons_zero, List.set_cons_succ]
                refine lin_val (i := 11) (v := ?_) rfl (by kernel_rfl) (by kernel_rfl) (by kernel_rfl) (fun _ _ _ h => h) hSS hS rfl (fun w hSw => ?_) ?_
                rotate_left
                · obtain ⟨q0, q1, q2, q3, q4, q5, q6, q7⟩ := hSw; go_simp; first | done | with_reducible rfl
                simp only [Act.put, List.setIfInBounds_toArray, List.set_cons_zero, List.set_cons_succ]
                refine lin_val (i := 12) (v := ?_) rfl (by kernel_rfl) (by kernel_rfl) (by kernel_rfl) (fun _ _ _ h => h) hSS hS rfl (fun w hSw => ?_) ?_
                rotate_left
                · obtain ⟨q0, q1, q2, q3, q4, q5, q6, q7⟩ := hSw; go_simp; first | done | with_reducible rfl
                simp only [Act.put, List.setIfInBounds_toArray, List.set_cons_zero, List.set_cons_succ]
                refine lin_val (i := 13) (v := ?_) rfl (by kernel_rfl) (by kernel_rfl) (by kernel_rfl) (fun _ _ _ h => h) hSS hS rfl (fun w hSw => ?_) ?_
                rotate_left
                · obtain ⟨q0, q1, q2, q3, q4, q5, q6, q7⟩ := hSw; go_simp; first | done | with_reducible rfl
                simp only [Act.put, List.setIfInBounds_toArray, List.set_cons_zero, List.set_cons_succ]
                refine lin_val (i := 14) (v := ?_) rfl (by kernel_rfl) (by kernel_rfl) (by kernel_rfl) (fun _ _ _ h => h) hSS hS rfl (fun w hSw => ?_) ?_
                rotate_left
                · obtain ⟨q0, q1, q2, q3, q4, q5, q6, q7⟩ := hSw; go_simp; first | done | with_reducible rfl
                simp only [Act.put, List.setIfInBounds_toArray, List.set_cons_zero, List.set_cons_succ]
                refine lin_val (i := 15) (v := ?_) rfl (by kernel_rfl) (by kernel_rfl) (by kernel_rfl) (fun _ _ _ h => h) hSS hS rfl (fun w hSw => ?_) ?_
                rotate_left
                · obtain ⟨q0, q1, q2, q3, q4, q5, q6, q7⟩ := hSw; go_simp; first | done | with_reducible rfl
                simp only [Act.put, List.setIfInBounds_toArray, List.set_cons_zero, List.set_cons_succ]
                refine lin_val (i := 16) (v := ?_) rfl (by kernel_rfl) (by kernel_rfl) (by kernel_rfl) (fun _ _ _ h => h) hSS hS rfl (fun w hSw => ?_) ?_
                rotate_left
                · obtain ⟨q0, q1, q2, q3, q4, q5, q6, q7⟩ := hSw; go_simp; first | done | with_reducible rfl
                simp only [Act.put, List.setIfInBounds_toArray, List.set_cons_zero, List.set_cons_succ]
                refine lin_val (i := 17) (v := ?_) rfl (by kernel_rfl) (by kernel_rfl) (by kernel_rfl) (fun _ _ _ h => h) hSS hS rfl (fun w hSw => ?_) ?_
                rotate_left
                · obtain ⟨q0, q1, q2, q3, q4, q5, q6, q7⟩ := hSw; go_simp; first | done | with_reducible rfl
                simp only [Act.put, List.setIfInBounds_toArray, List.set_cons_zero, List.set_cons_succ]
                refine lin_val (i := 18) (v := ?_) rfl (by kernel_rfl) (by kernel_rfl) (by kernel_rfl) (fun _ _ _ h => h) hSS hS rfl (fun w hSw => ?_) ?_
                rotate_left
                · obtain ⟨q0, q1, q2, q3, q4, q5, q6, q7⟩ := hSw; go_simp; first | done | with_reducible rfl
                simp only [Act.put, List.setIfInBounds_toArray, List.set_cons_zero, List.set_cons_succ]
                refine lin_val (i := 19) (v := ?_) rfl (by kernel_rfl) (by kernel_rfl) (by kernel_rfl) (fun _ _ _ h => h) hSS hS rfl (fun w hSw => ?_) ?_
                rotate_left
                · obtain ⟨q0, q1, q2, q3, q4, q5, q6, q7⟩ := hSw; go_simp; first | done | with_reducible rfl
                simp only [Act.put, List.setIfInBounds_toArray, List.set_cons_zero, List.set_cons_succ]
                refine lin_val (i := 20) (v := ?_) rfl (by kernel_rfl) (by kernel_rfl) (by kernel_rfl) (fun _ _ _ h => h) hSS hS rfl (fun w hSw => ?_) ?_
                rotate_left
                · obtain ⟨q0, q1, q2, q3, q4, q5, q6, q7⟩ := hSw; go_simp; first | done | with_reducible rfl
                simp only [Act.put, List.setIfInBounds_toArray, List.set_cons_zero, List.set_cons_succ]
                refine lin_call (i := 21) rfl (by kernel_rfl) (by kernel_rfl) (by kernel_rfl) (fun _ _ _ h => h) hSS hS rfl (fun w _ => qone w) (fun w hSw => ?_) ?_
                · obtain ⟨q0, q1, q2, q3, q4, q5, q6, q7⟩ := hSw; go_simp
                simp only [Act.put, List.setIfInBounds_toArray, List.set_cons_zero, List.set_cons_succ]
                refine lin_val (i := 22) (v := ?_) rfl (by kernel_rfl) (by kernel_rfl) (by kernel_rfl) (fun _ _ _ h => h) hSS hS rfl (fun w hSw => ?_) ?_
                rotate_left
                · obtain ⟨q0, q1, q2, q3, q4, q5, q6, q7⟩ := hSw; go_simp; first | done | with_reducible rfl
                simp only [Act.put, List.setIfInBounds_toArray, List.set_cons_zero, List.set_cons_succ]
                refine lin_val (i := 23) (v := ?_) rfl (by kernel_rfl) (by kernel_rfl) (by kernel_rfl) (fun _ _ _ h => h) hSS hS rfl (fun w hSw => ?_) ?_
                rotate_left
                · obtain ⟨q0, q1, q2, q3, q4, q5, q6, q7⟩ := hSw; go_simp; first | done | with_reducible rfl
                simp only [Act.put, List.setIfInBounds_toArray, List.set_cons_zero, List.set_cons_succ]
                refine lin_last (i := 24) (by kernel_rfl) rfl (by kernel_rfl) (fun wb kb K hK => ?_)
                have hkb : Kp [] wi wb := (Kp.refl _ _).drew.nil kb
                have hgc := HR.out.2.keep hkb (by simp)
                have f0 := hgc.free k
                obtain ⟨v0, o0⟩ : ∃ u, wb.cell? ⟨gN, k, none⟩ = some u := ⟨_, (hgc.cell k).trans (List.getElem?_eq_getElem (by rw [bools_len]; exact HKN.out))⟩
                go_simp
                refine hK.out _ _ ?_
                have HKB := hid (And.intro hkb hgc)
                clear hK K kb hkb hS hSS f0 o0 hgc
                clear HRW
                go_wp2_with fail
                go_roundw
                case rel =>
                  obtain ⟨hkx, hcN⟩ := HR.out
                  refine ⟨k + 1, by omega, by go_num, (HKW.out.nil HKB.out.1).fresh (kp_put (Kp.refl _ _) _ _ (.inr (by simp)) _) HGN.out, ?_⟩
                  have := HKB.out.2.put k (.bool b1)
                  rw [bools_set _ _ _ _ HKN.out] at this
                  rw [bools_step HNX.out]
                  exact this
                case measure => simp [RowKit.intOf]; omega
        · have hkE : k = n1 := by omega
          have z2 : decide ((k : Int) ≤ (n : Int)) = false := decide_eq_false (by have := HN1.out; omega)
          have z2n : decide (k ≤ n) = false := decide_eq_false (by have := HN1.out; omega)
          have hcF : Cells wi gN 4 (bools (rowB at_ (l.take (i + 1))) n1) := by
            have e : bools (rowB at_ (l.take (i + 1))) n1 = bools (fun j => if j < k then nx (t1, tx, tn) at_ row j else false) n1 := bools_congr fun j hj => by rw [htk, if_pos (by omega)]
            rw [e]
            exact hcN
          have HE := hid (And.intro hcF (And.intro (hk.nil hkx) (show w.heap.size ≤ gN by rw [HGN0.out]; exact hk.size)))
          clear hcF hcN hkx hk htk hgw hcg p0 p1 p2 hkE hlt2 hkn
          go_wp2_with fail
          go_roundw
          case rel => exact ⟨i + 1, gN, HIL.out.2, by go_num, rfl, HE.out.1, HE.out.2.2, HE.out.2.1⟩
          case measure => have := HIL.out.2; simp [RowKit.intOf]; omega
    · have hiE : i = N := by omega
      have hRr : rowB at_ (l.take i) n = R := by rw [hR, hiE, hN, List.take_length]; unfold matchB; rw [hn]
      have o1 := (hcg.cell n).trans (bools_at _ n1 n (by have := HN1.out; omega))
      rw [hRr] at o1
      have z1 : decide ((i : Int) < (N : Int)) = false := decide_eq_false (by omega)
      have z1n : decide (i < N) = false := decide_eq_false hlt
      have jn : (n : Int) < (n1 : Int) := by have := HN1.out; omega
      have HE := hid hk
      clear hl c2 hN hn hR hcg hgw hk hiE hRr hlt hi
      go_wp2_with fail
      go_ret
      exact ⟨rfl, HE.out⟩
end Go.Proofs.YtpeldjihalldkaaDoor
