/- MeterPlays: any numbers are noted of any kinds as the document says, or refused; and what is told then. -/
import Derived.Test.YtgoojndpondkmaaMShown
import Derived.Test.YtgoojndpondkmaaMOrderLaw
import Derived.Test.YtgoojndpondkmaaMOpen
import Derived.Test.YtgoojndpondkmaaMRefNote
import Derived.Test.YtgoojndpondkmaaMRefAll
namespace Go.Proofs.Ytgoojndpondkmaa
open Go Go.RowKit

/-- Behind k notes. -/
def SI (k : Int) (ls : List (List Int)) : Prop := ∀ l ∈ ls, (l.length : Int) ≤ k ∧ (∀ n ∈ l, 0 ≤ n) ∧ (dOf l).ok k
theorem SI.small {k : Int} {ls : List (List Int)} (h : SI k ls) (hk : k ≤ 1000) : Small ls := fun l hl => by
  obtain ⟨h1, h2, h3⟩ := h l hl
  unfold Dl.ok at h3
  exact ⟨by omega, h2, by omega⟩
theorem SI.ok {k : Int} {ls : List (List Int)} (h : SI k ls) : ∀ d ∈ ls.map dOf, d.ok k := fun d hd => by
  obtain ⟨l, hl, rfl⟩ := List.mem_map.1 hd
  exact (h l hl).2.2
theorem SI.zero (K : Nat) : SI 0 (List.replicate K []) := fun l hl => by
  rw [List.eq_of_mem_replicate hl]
  exact ⟨by simp, by simp, ok_zero 0 (by omega)⟩
theorem SI.note {k : Int} {ls : List (List Int)} (h : SI k ls) (a n : Int) : SI (k + 1) (rnoteL ls a n) := by
  intro l hl
  have hok : (dOf l).ok (k + 1) := by
    have := ok_noteD (k := a) (n := n) h.ok (dOf l) (by rw [← map_rnote]; exact List.mem_map_of_mem hl)
    exact this
  refine ⟨?_, ?_, hok⟩
  all_goals
    unfold rnoteL at hl
    split at hl
    · rename_i h0
      obtain ⟨h1, h2, h3, h4⟩ := noteE_ok h0
      rw [List.length_map] at h2
      have hm : ls.getD a.toNat [] ∈ ls := by rw [List.getD_eq_getElem?_getD, List.getElem?_eq_getElem h2]; exact List.getElem_mem h2
      rcases List.mem_or_eq_of_mem_set hl with hl | rfl
      · have := h l hl
        first
          | exact this.2.1
          | omega
      · have := h _ hm
        first
          | (intro x hx; rcases List.mem_append.1 hx with hx | hx; exact this.2.1 x hx; rw [List.mem_singleton.1 hx]; exact h3)
          | (rw [List.length_append, List.length_singleton]; omega)
    · have := h l hl
      first
        | exact this.2.1
        | omega
theorem RMAt.beside_meter {w w' : World} {B y a : Nat} {gs : List Nat} {ds : List Dl} {ls : List (List Int)} (h : RMAt w B y ls) (hA : MAt w a gs ds) (k : Kp (a :: gs) w w') : RMAt w' B y ls := by
  obtain ⟨xs, hx⟩ := hA.cells
  refine h.keep k ?_
  intro s hs
  rcases List.mem_cons.1 hs with e | e
  · exact ⟨_, _, e ▸ hx, by decide, by decide, by decide⟩
  · rcases hA with ⟨v, _, _, h3⟩ | ⟨rfl, _, _⟩
    · obtain ⟨d, hd⟩ := h3.mem e
      exact ⟨_, _, hd, by decide, by decide, by decide⟩
    · cases e
theorem RMAt.beside_one {w w' : World} {B y a : Nat} {gs : List Nat} {ds : List Dl} {ls : List (List Int)} (h : RMAt w B y ls) (hA : MAt w a gs ds) (k : Kp [a] w w') : RMAt w' B y ls := h.beside_meter hA (k.mono (by simp))
theorem MAt.beside_ref {w w' : World} {a : Nat} {gs S : List Nat} {ds : List Dl} (h : MAt w a gs ds) (k : Kp S w w') (hS : ∀ s ∈ S, ∃ cs, Cells w s 69 cs) : MAt w' a gs ds := by
  refine h.keep k (fun hm => ?_) (fun g hg hm => ?_) (fun s hs => ?_)
  · obtain ⟨cs, hc⟩ := hS a hm
    obtain ⟨xs, hx⟩ := h.cells
    exact hx.ne hc (by decide) rfl
  · obtain ⟨cs, hc⟩ := hS g hm
    rcases h with ⟨v, _, _, h3⟩ | ⟨rfl, _, _⟩
    · obtain ⟨d, hd⟩ := h3.mem hg
      exact hd.ne hc (by decide) rfl
    · cases hg
  · obtain ⟨cs, hc⟩ := hS s hs
    exact ⟨_, _, hc, by decide⟩
theorem kp_ref {w w1 w2 : World} {S : List Nat} (k1 : Kp [] w w1) (k2 : Kp S w1 w2) (hS : ∀ s ∈ S, w.heap.size ≤ s) : Kp [] w w2 := k1.trans k2 (by
  intro y hy hl
  have := hS y hy
  omega)

set_option maxRecDepth 100000 in
set_option maxHeartbeats 4000000 in
theorem plays_any (w : World) (kinds : Int) (_ : -9223372036854775808 ≤ kinds ∧ kinds ≤ 9223372036854775807) (A : Option Addr) (n c : Nat) (l : List (Int × Int)) (hl : PairsAt w A l) (hn : l.length = n) (_hc : n ≤ c) (_hm : c ≤ 9223372036854775807) :
    Calls Try.prog 4 #[.int .i64 kinds, .slice A n c] w (YesPost w) := by
  have Hn := hid hn
  clear hn
  go_enter Try.func4, Try.ntmps4
  go_wp2_with fail
  refine (mshown_any w).mono ?_
  rintro e w1 ⟨rfl, hk1⟩
  go_wp2_with fail
  refine (mnew_any w1 kinds).mono ?_
  rintro e w2 ⟨rfl, hM2, hk2⟩
  go_wp2_with fail
  refine (rmnew_any w2 kinds).mono ?_
  rintro e w3 ⟨y, rfl, hR3, hk3, hy⟩
  have hM3 := hM2.kept hk3
  have kw3 := (hk1.nil hk2).nil hk3
  have s1 := hk1.size
  have s2 := (hk1.nil hk2).size
  have hK := kindsOf_le kinds
  have hR3 : RMAt w3 w.heap.size y (List.replicate (kindsOf kinds) []) := by
    obtain ⟨v, vs, h0, h1, h2, h3⟩ := hR3
    exact ⟨v, vs, fun g hg => by have := h0 g hg; omega, h1, h2, h3⟩
  have hz : List.replicate (kindsOf kinds) Dl.zero = (List.replicate (kindsOf kinds) []).map dOf := by rw [List.map_replicate]; rfl
  rw [hz] at hM3
  have hy0 : w.heap.size ≤ y := by omega
  have hI0 := SI.zero (kindsOf kinds)
  have hlen0 : (List.replicate (kindsOf kinds) ([] : List Int)).length = kindsOf kinds := by rw [List.length_replicate]
  generalize List.replicate (kindsOf kinds) ([] : List Int) = L0 at *
  generalize kindsOf kinds = K at *
  generalize w1.heap.size = S0 at *
  have Hlen0 := hid hlen0
  clear hM2 hk1 hk2 hk3 hy s2 hz hlen0
  go_wp2_with fail
  go_loopw [6, 8] (fun m i wr => ∃ k S gs ls, k ≤ n ∧ k ≤ 100 ∧ i = .int .i64 (k : Nat) ∧ m = .pointer (some ⟨S, 0, none⟩) ∧ MAt wr S gs (ls.map dOf) ∧ w.heap.size ≤ S ∧ (∀ g ∈ gs, w.heap.size ≤ g) ∧ RMAt wr w.heap.size y ls ∧ ls.length = K ∧ SI (k : Nat) ls ∧ Kp [] w wr) (fun _ i _ => n - (intOf i).toNat)
  case atStart => exact ⟨0, S0, [], L0, by omega, by omega, rfl, rfl, hM3, s1, by simp, hR3, Hlen0.out, hI0, kw3⟩
  case round =>
    clear hM3 hR3 kw3 hI0
    obtain ⟨k, S, gs, ls, hk, hk1, rfl, rfl, hM, hS, na, hR, hlen, hI, kw⟩ := hrel
    have Hlen := hid hlen
    have Hna := hid na
    have hl32 : ls.length ≤ 32 := by omega
    have hd32 : (ls.map dOf).length ≤ 32 := by rw [List.length_map]; omega
    clear hlen na
    by_cases hlt : k < n ∧ k < 100
    · obtain ⟨hlt, hlt2⟩ := hlt
      have hkl : k < l.length := by rw [Hn.out]; omega
      obtain ⟨g, o, rfl, x0, x1, x2, x3⟩ := hl k _ (List.getElem?_eq_getElem hkl)
      obtain ⟨p, hp⟩ : ∃ p, p = l[k] := ⟨_, rfl⟩
      rw [← hp] at x0 x1 x2 x3
      have XX := hid (And.intro x0 x1)
      unfold In64 at x2 x3
      have hsm := hI.small (by omega)
      have hok := hI.ok
      have HI := hid (And.intro hsm (And.intro hok hI))
      have i1 : (0 : Int) ≤ (k : Int) := by omega
      have i2 : (k : Int) < (n : Int) := by omega
      clear hp hkl x0 x1 hsm hok hI
      have q99 : ((k : Int) % 9 == 8) = true ∨ ((k : Int) % 9 == 8) = false := by
        cases h : ((k : Int) % 9 == 8)
        · exact .inr rfl
        · exact .inl rfl
      rcases q99 with q9 | q9
      focus
        go_wp2_with fail
        refine (clone_any wr S gs (ls.map dOf) 200 hM hd32 (by omega) (by omega) (fun d hd => (HI.out.2.1 d hd).mono (by omega))).mono ?_
        rintro e w4 ⟨T, ts, gs4, rfl, hT, hM4, k4, hT0, ts0, n4, hap⟩
        have hR4 := hR.beside_one hM k4
        have kw4 := kp_new (gs := []) kw k4 hS (by simp)
        have hsz := kw.size
        have n44 : ∀ g ∈ gs4, w.heap.size ≤ g := fun g hg => by
          rcases n4 g hg with h | h
          · exact Hna.out g h
          · omega
        have hTw : w.heap.size ≤ T := by omega
        have htw : ∀ g ∈ ts, w.heap.size ≤ g := fun g hg => by have := ts0 g hg; omega
        have hne : T ≠ S := by have := hM.lt; omega
        have Hap := hid hap
        have Hw := hid (And.intro hTw (And.intro htw n44))
        clear hM hR k4 kw hT0 ts0 n4 hap hsz hTw htw n44
        go_wp2_with fail
        refine (note_any w4 S gs4 (ls.map dOf) 0 7 200 hM4 hd32 (fun d hd => (HI.out.2.1 d hd).mono (by omega)) (by omega) (by omega)).mono ?_
        rintro e W ⟨rfl, gs5, hM5, k5, n5⟩
        have hT := hT.beside_all hM4 k5 hne Hap.out
        have hR := hR4.beside_meter hM4 k5
        have kw := kp_new kw4 k5 hS Hw.out.2.2
        have Hts := hid Hw.out.2.1
        have hTw := Hw.out.1
        clear hM4 hR4 kw4 hM5 k5 n5 hne Hap Hw Hna hS gs gs4 gs5
        go_wp2_with fail
      rotate_left
      focus
        go_wp2_with fail
        obtain ⟨W, rfl⟩ : ∃ W : World, W = wr := ⟨_, rfl⟩
        obtain ⟨T, rfl⟩ : ∃ T : Nat, T = S := ⟨_, rfl⟩
        obtain ⟨ts, rfl⟩ : ∃ ts : List Nat, ts = gs := ⟨_, rfl⟩
        have hT := hM
        have hTw := hS
        have Hts := Hna
        clear hM hS Hna
      all_goals
        have x0 := kw.cell XX.out.1 (by simp)
        have x1 := kw.cell XX.out.2 (by simp)
        go_region_held3 (fun w' => w'.cell? ⟨g, o + k * 2, none⟩ = some (.int .i64 p.1) ∧ w'.cell? ⟨g, o + k * 2 + 1, none⟩ = some (.int .i64 p.2)) (first | exact ⟨v0, v1⟩ | exact ⟨z0, z1⟩ | go_keep)
          (first
            | (go_at_call 8; refine (note_any _ T ts (ls.map dOf) p.1 p.2 200 (hT.kept ((Kp.refl [] W).drew)) hd32 (fun d hd => (HI.out.2.1 d hd).mono (by omega)) (by omega) x3.2).mono ?_; rintro e w5 ⟨rfl, ts5, hT5, k5, n5⟩; have kw5 := kp_new kw.drew k5 hTw Hts.out; have z0 := kw5.cell XX.out.1 (by simp); have z1 := kw5.cell XX.out.2 (by simp); have hR5 := (hR.kept ((Kp.refl [] W).drew)).beside_meter (hT.kept ((Kp.refl [] W).drew)) k5)
            | (go_at_call 15; refine (rnote_any _ _ y ls p.1 p.2 hR5 HI.out.1 hl32 x3.2).mono ?_; rintro e w6 ⟨rfl, hR6, S6, hS6, k6⟩; have kw6 := kp_ref kw5 k6 (fun s hs => (hS6 s hs).1); have v0 := kw6.cell XX.out.1 (by simp); have v1 := kw6.cell XX.out.2 (by simp)))
        have hT6 := hT5.beside_ref k6 (fun s hs => (hS6 s hs).2)
        have nt5 : ∀ g ∈ ts5, w.heap.size ≤ g := fun g hg => by
          rcases n5 g hg with h | h
          · exact Hts.out g h
          · have := kw.size; simp only [World.size_drew] at h; omega
        rw [← map_rnote] at hT6
        have hI6 := SI.note HI.out.2.2 p.1 p.2
        have hlen6 : (rnoteL ls p.1 p.2).length = K := by rw [length_rnote]; exact Hlen.out
        have x0 := kw6.cell XX.out.1 (by simp)
        have x1 := kw6.cell XX.out.2 (by simp)
        clear hT hR kw hT5 k5 n5 kw5 z0 z1 hR5 k6 hS6 v0 v1 S6
        generalize hE : noteE (ls.map dOf) p.1 p.2 = E
        clear hE
        generalize rnoteL ls p.1 p.2 = ls6 at *
        have hl6 : ls6.length ≤ 32 := by omega
        have hd6 : (ls6.map dOf).length ≤ 32 := by rw [List.length_map]; exact hl6
        have hsm6 := hI6.small (by omega)
        have Hlen6 := hid hlen6
        have HI6 := hid (And.intro hI6 hsm6)
        have Hnt5 := hid nt5
        clear hlen6 hI6 hsm6 nt5 HI Hts hd32 hl32 Hlen
        go_wp2_with fail
        refine (of_any w6 T ts5 (ls6.map dOf) p.1 hT6 hd6).mono ?_
        rintro e w7 ⟨d, hd, rfl, ts7, hT7, k7, n7⟩
        have kw7 := kp_new (gs := []) kw6 k7 hTw (by simp)
        have hR7 := hR6.beside_one hT6 k7
        have nt7 : ∀ g ∈ ts7, w.heap.size ≤ g := fun g hg => by
          rcases n7 g hg with h | h
          · exact Hnt5.out g h
          · have := kw6.size; omega
        have x0 := kw7.cell XX.out.1 (by simp)
        have x1 := kw7.cell XX.out.2 (by simp)
        have Hd := hid hd
        have Hnt7 := hid nt7
        clear hd hT6 hR6 kw6 k7 n7 nt7
        go_wp2_with fail
        refine (rof_any w7 w.heap.size y ls6 p.1 hR7 HI6.out.2 hl6).mono ?_
        rintro e w8 ⟨d8, hd8, rfl, k8⟩
        have e8 : d8 = d := hd8.trans Hd.out.symm
        clear hd8
        subst e8
        have hT8 := hT7.kept k8
        have hR8 := hR7.kept k8
        have kw8 := kw7.nil k8
        clear hT7 hR7 kw7 k8
        go_wp2_with fail
        go_roundw
        case rel => exact ⟨k + 1, T, ts7, ls6, by omega, by omega, by go_num, rfl, hT8, hTw, Hnt7.out, hR8, Hlen6.out, by simpa using HI6.out.1, kw8⟩
        case measure => simp [intOf]; omega
    · have hlt' : (k < n ∧ 100 ≤ k) ∨ n ≤ k := by omega
      have hsm := hI.small (by omega)
      have Hsm := hid hsm
      clear hlt hI hsm
      rcases hlt' with ⟨hlt1, hlt2⟩ | hlt1
      all_goals
        go_wp2_with fail
        refine (mall_any wr S gs (ls.map dOf) hM hd32).mono ?_
        rintro e w3 ⟨va, rfl, ⟨oa, va3⟩, gs3, hM3, k3, n3⟩
        have hR3 := hR.beside_one hM k3
        have kw3 := kp_new (gs := []) kw k3 hS (by simp)
        clear hM hR kw k3 n3 hM3
        go_wp2_with fail
        refine (rall_any w3 w.heap.size y ls hR3 Hsm.out hl32).mono ?_
        rintro e w4 ⟨vb, rfl, ⟨ob, vb4⟩, k4⟩
        have kw4 := kw3.nil k4
        have oa4 := oa.kept k4
        clear hR3 kw3 k4 oa va3 vb4
        go_wp2_with fail
        refine (same_any w4 va vb (ls.map dOf) oa4 ob (by omega)).mono ?_
        rintro e w5 ⟨rfl, k5⟩
        have kw5 := kw4.nil k5
        go_wp2_with fail
        go_ret
        exact ⟨rfl, kw5⟩
end Go.Proofs.Ytgoojndpondkmaa
