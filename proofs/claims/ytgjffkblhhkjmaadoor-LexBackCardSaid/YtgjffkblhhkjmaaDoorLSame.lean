/- Same of two rows of tokens: true where they are the same; where they are not as long it answers. -/
import Derived.Test.YtgjffkblhhkjmaaDoorLPlaces
namespace Go.Proofs.YtgjffkblhhkjmaaDoor
open Go Go.RowKit Go.Lib

/-- A row of tokens, as it is handed on. -/
structure TkRow (w : World) (A : Option Addr) (c : Nat) (l : List Tk) : Prop where
  le : l.length ≤ c
  top : c ≤ 9223372036854775807
  span : Span w A (toksC l)
  at_ : ∀ (i : Nat) t, l[i]? = some t → ∃ g, A = some ⟨g, 0, none⟩ ∧ TkAt w g l
theorem TkRow.kept {w w' : World} {A : Option Addr} {c : Nat} {l : List Tk} (h : TkRow w A c l) (k : Kp [] w w') : TkRow w' A c l :=
  ⟨h.le, h.top, h.span.kept k, fun i t hi => by obtain ⟨g, hg, hat⟩ := h.at_ i t hi; exact ⟨g, hg, hat.kept k⟩⟩
theorem TkRow.of {w : World} {v : Value} {l : List Tk} (ho : OwnN w 49 6 v l.length (toksC l)) : ∃ A c, v = .slice A l.length c ∧ TkRow w A c l := by
  obtain ⟨A, c, rfl, hsp, hc, hc2, -⟩ := ho.shape
  refine ⟨A, c, rfl, hc, hc2, hsp, fun i t hi => ?_⟩
  obtain ⟨g, c', hv, _, _, hcell⟩ := own_at ho (toks_ne hi)
  injection hv with hv
  exact ⟨g, hv, TkAt.of hcell⟩
theorem SameT.at_ {l m : List Tk} (h : SameT l m) (i : Nat) (t u : Tk) (ht : l[i]? = some t) (hu : m[i]? = some u) : u.kind = t.kind ∧ u.text = t.text ∧ u.num = t.num := by
  have := congrArg (fun x => x[i]?) h
  simp only [List.getElem?_map, ht, hu, Option.map_some] at this
  injection this with this
  injection this with h1 this
  injection this with h2 h3
  exact ⟨h1.symm, h2.symm, h3.symm⟩
set_option maxRecDepth 100000 in
set_option maxHeartbeats 12800000 in
theorem same10_any (w : World) (A : Option Addr) (c : Nat) (l : List Tk) (hl : TkRow w A c l) (B : Option Addr) (d : Nat) (m : List Tk) (hm : TkRow w B d m) (H : SameT l m ∨ l.length ≠ m.length) :
    Calls Tryd.prog 28 #[.slice A l.length c, .slice B m.length d] w fun e w' => (∃ b, e = .returned (.bool b) ∧ (SameT l m → b = true)) ∧ Kp [] w w' := by
  have l1 := hl.le
  have l2 := hl.top
  have m1 := hm.le
  have m2 := hm.top
  have HL := hid hl
  have HM := hid hm
  rcases Classical.em (l.length = m.length) with hn | hn
  · have hs := H.resolve_right (fun h => h hn)
    have HS := hid hs
    obtain ⟨n, hn2⟩ : ∃ n, n = l.length := ⟨_, rfl⟩
    rw [← hn, ← hn2]
    rw [← hn2] at l1
    rw [← hn, ← hn2] at m1
    have Hn := hid (And.intro hn2 hn)
    clear hn hn2 hs H hl hm
    go_enter Tryd.func28, Tryd.ntmps28
    go_wp2_with fail
    go_loopw [5] (fun vi wr => ∃ i : Nat, vi = .int .i64 (i : Int) ∧ i ≤ n ∧ Kp [] w wr) (fun vi _ => n - (intOf vi).toNat)
    case atStart => exact ⟨0, rfl, Nat.zero_le _, Kp.refl _ _⟩
    case round =>
      obtain ⟨i, rfl, hi, hk⟩ := hrel
      by_cases hlt : i < n
      · obtain ⟨t, ht⟩ : ∃ t, l[i]? = some t := ⟨_, List.getElem?_eq_getElem (by rw [← Hn.out.1]; exact hlt)⟩
        obtain ⟨u, hu⟩ : ∃ u, m[i]? = some u := ⟨_, List.getElem?_eq_getElem (by rw [← Hn.out.2, ← Hn.out.1]; exact hlt)⟩
        obtain ⟨g, rfl, hat⟩ := HL.out.at_ i t ht
        obtain ⟨h, rfl, hbt⟩ := HM.out.at_ i u hu
        have hat := hat.kept hk
        have hbt := hbt.kept hk
        obtain ⟨s1, s2, s3⟩ := HS.out.at_ i t u ht hu
        have a0 := hat i _ ht 0 _ rfl
        have a2 := hat i _ ht 2 _ rfl
        have a3 := hat i _ ht 3 _ rfl
        have a4 := hat i _ ht 4 _ rfl
        have a5 := hat i _ ht 5 _ rfl
        have b0 := hbt i _ hu 0 _ rfl
        have b2 := hbt i _ hu 2 _ rfl
        have b3 := hbt i _ hu 3 _ rfl
        have b4 := hbt i _ hu 4 _ rfl
        have b5 := hbt i _ hu 5 _ rfl
        rw [s1] at b0
        rw [s2] at b2
        rw [s3] at b3 b4 b5
        clear s1 s2 s3 hat hbt ht hu
        generalize hdt : t.num = nd at *
        generalize t.kind = kk at *
        generalize t.text = xx at *
        generalize tN nd = nb at *
        generalize tL nd = nl at *
        generalize tS nd = nz at *
        clear hdt
        simp only [Nat.add_zero] at a0 b0
        have HK := hid hk
        have z1 : (i : Int) < (n : Int) := by omega
        have e6 : i * 6 = 6 * i := Nat.mul_comm _ _
        clear hk
        go_wp2_with fail
        go_quiet (fail)
        generalize nq = n1 at *
        go_wp2_with fail
        go_roundw
        case rel => exact ⟨i + 1, by go_num, by omega, HK.out.drewN _⟩
        case measure => simp [intOf]; omega
      · have hin : i = n := by omega
        have z1 : decide ((i : Int) < (n : Int)) = false := decide_eq_false (by omega)
        have z1n : decide (i < n) = false := decide_eq_false hlt
        have HK := hid hk
        clear hk hin
        go_wp2_with fail
        go_ret
        exact ⟨⟨_, rfl, fun _ => rfl⟩, HK.out⟩
  · have z1 : (l.length == m.length) = false := by rw [beq_eq_false_iff_ne]; exact hn
    have z2 : ((l.length : Int) == (m.length : Int)) = false := by rw [beq_eq_false_iff_ne]; omega
    have Hn := hid hn
    clear hn H hl hm
    go_enter Tryd.func28, Tryd.ntmps28
    go_wp2_with fail
    go_ret
    exact ⟨⟨_, rfl, fun h => absurd (same_len h) Hn.out⟩, Kp.refl _ _⟩
end Go.Proofs.YtgjffkblhhkjmaaDoor
