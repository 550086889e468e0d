/- The parts of a pattern, as the document's answer keeps them; what they stand for; places reached. -/
import Derived.Test.YtaaikjedagnjbaaRI
import Derived.BigQuiet
import Derived.Test.YtaaikjedagnjbaaRE
import Derived.Deep.DeepCutAuto
namespace Go.Proofs.Ytaaikjedagnjbaa
open Go Go.RowKit Go.Lib

/-- A part. -/
structure Pt where
  kind : Nat
  kids : List Nat
  items : List (Int × Int)
  neg : Bool
/-- Whether a rune is in some items. -/
def inI2 (l : List (Int × Int)) (c : Int) : Bool := l.any fun p => decide (p.1 ≤ c) && decide (c ≤ p.2)
def altL : List Re → Re
  | [] => .eps
  | r :: rs => rs.foldl Re.alt r
def seqL (rs : List Re) : Re := rs.foldl Re.seq .eps
/-- The part k stands for a pattern. -/
inductive RepR (P : List Pt) : Nat → Re → Prop
  | alt {k : Nat} {kids : List Nat} {rs : List Re} (h : P[k]? = some ⟨97, kids, [], false⟩) (hl : kids.length = rs.length) (h0 : rs ≠ []) (hk : ∀ (i k' : Nat) (r' : Re), kids[i]? = some k' → rs[i]? = some r' → RepR P k' r') : RepR P k (altL rs)
  | seq {k : Nat} {kids : List Nat} {rs : List Re} (h : P[k]? = some ⟨115, kids, [], false⟩) (hl : kids.length = rs.length) (hk : ∀ (i k' : Nat) (r' : Re), kids[i]? = some k' → rs[i]? = some r' → RepR P k' r') : RepR P k (seqL rs)
  | star {k k' : Nat} {r : Re} (h : P[k]? = some ⟨42, [k'], [], false⟩) (hk : RepR P k' r) : RepR P k (.star r)
  | plus {k k' : Nat} {r : Re} (h : P[k]? = some ⟨43, [k'], [], false⟩) (hk : RepR P k' r) : RepR P k (.plus r)
  | opt {k k' : Nat} {r : Re} (h : P[k]? = some ⟨63, [k'], [], false⟩) (hk : RepR P k' r) : RepR P k (.opt r)
  | dot {k : Nat} (h : P[k]? = some ⟨46, [], [], false⟩) : RepR P k (.cls fun x => decide (x ≠ 10))
  | bol {k : Nat} (h : P[k]? = some ⟨94, [], [], false⟩) : RepR P k .bol
  | eol {k : Nat} (h : P[k]? = some ⟨36, [], [], false⟩) : RepR P k .eol
  | cls {k : Nat} {items : List (Int × Int)} {neg : Bool} {f : Nat → Bool} (h : P[k]? = some ⟨99, [], items, neg⟩) (hf : ∀ c : Nat, f c = (inI2 items (c : Int) != neg)) : RepR P k (.cls f)
theorem RepR.more {P : List Pt} {k : Nat} {r : Re} (h : RepR P k r) (Q : List Pt) : RepR (P ++ Q) k r := by
  have up : ∀ {k : Nat} {p : Pt}, P[k]? = some p → (P ++ Q)[k]? = some p := fun {k p} h => by
    rw [List.getElem?_append_left (List.getElem?_eq_some_iff.1 h).1]; exact h
  induction h with
  | alt h hl h0 _ ih => exact .alt (up h) hl h0 ih
  | seq h hl _ ih => exact .seq (up h) hl ih
  | star h _ ih => exact .star (up h) ih
  | plus h _ ih => exact .plus (up h) ih
  | opt h _ ih => exact .opt (up h) ih
  | dot h => exact .dot (up h)
  | bol h => exact .bol (up h)
  | eol h => exact .eol (up h)
  | cls h hf => exact .cls (up h) hf
theorem altL_snoc {rs : List Re} (h : rs ≠ []) (r : Re) : altL (rs ++ [r]) = .alt (altL rs) r := by
  cases rs with
  | nil => exact absurd rfl h
  | cons x rs => show (rs ++ [r]).foldl Re.alt x = _; rw [List.foldl_append]; rfl
theorem seqL_snoc (rs : List Re) (r : Re) : seqL (rs ++ [r]) = .seq (seqL rs) r := by unfold seqL; rw [List.foldl_append]; rfl

/-- Places reached from some by a pattern. -/
def FromP (S : List Nat) (r : Re) (B B' : List Bool) : Prop := B'.length = S.length + 1 ∧ ∀ j : Nat, B'[j]? = some true ↔ ∃ i : Nat, B[i]? = some true ∧ Mt S r i j
section
variable {S : List Nat} {B B' : List Bool}
theorem orL_true {X Y : List Bool} (h : X.length = Y.length) (j : Nat) : (orL X Y)[j]? = some true ↔ X[j]? = some true ∨ Y[j]? = some true := by
  rcases Nat.lt_or_ge j X.length with hj | hj
  · obtain ⟨x, hx⟩ : ∃ x, X[j]? = some x := ⟨_, List.getElem?_eq_getElem hj⟩
    obtain ⟨y, hy⟩ : ∃ y, Y[j]? = some y := ⟨_, List.getElem?_eq_getElem (by omega)⟩
    rw [orL_at hx hy, hx, hy]
    cases x <;> cases y <;> simp
  · rw [List.getElem?_eq_none (by rw [orL_len h]; exact hj), List.getElem?_eq_none hj, List.getElem?_eq_none (by omega)]
    simp
/-- Nothing yet. -/
theorem fromP_none (n : Nat) (j : Nat) : ¬ (List.replicate n false)[j]? = some true := by
  rw [List.getElem?_replicate]
  split <;> simp
theorem fromP_opt {r : Re} {B1 : List Bool} (hB : B.length = S.length + 1) (h : FromP S r B B1) : FromP S (.opt r) B (orL B B1) := by
  have hl : B.length = B1.length := by rw [hB, h.1]
  refine ⟨by rw [orL_len hl, hB], fun j => ?_⟩
  rw [orL_true hl, h.2]
  constructor
  · rintro (h1 | ⟨i, h1, h2⟩)
    · exact ⟨j, h1, .opt0 j⟩
    · exact ⟨i, h1, .opt1 h2⟩
  · rintro ⟨i, h1, h2⟩
    rcases mt_opt.1 h2 with rfl | h2
    · exact .inl h1
    · exact .inr ⟨i, h1, h2⟩
theorem fromP_seq {a b : Re} {B1 B2 : List Bool} (h : FromP S a B B1) (h' : FromP S b B1 B2) : FromP S (.seq a b) B B2 := by
  refine ⟨h'.1, fun j => ?_⟩
  rw [h'.2]
  constructor
  · rintro ⟨m, h1, h2⟩
    obtain ⟨i, h3, h4⟩ := (h.2 m).1 h1
    exact ⟨i, h3, .seq h4 h2⟩
  · rintro ⟨i, h1, h2⟩
    obtain ⟨m, h3, h4⟩ := mt_seq.1 h2
    exact ⟨m, (h.2 m).2 ⟨i, h1, h3⟩, h4⟩
theorem fromP_eps (hB : B.length = S.length + 1) : FromP S .eps B B := ⟨hB, fun j => ⟨fun h => ⟨j, h, .eps j⟩, fun ⟨i, h, hm⟩ => by rw [mt_eps.1 hm]; exact h⟩⟩
theorem fromP_alt {a b : Re} {B1 B2 : List Bool} (h : FromP S a B B1) (h' : FromP S b B B2) : FromP S (.alt a b) B (orL B1 B2) := by
  have hl : B1.length = B2.length := by rw [h.1, h'.1]
  refine ⟨by rw [orL_len hl, h.1], fun j => ?_⟩
  rw [orL_true hl, h.2, h'.2]
  constructor
  · rintro (⟨i, h1, h2⟩ | ⟨i, h1, h2⟩)
    · exact ⟨i, h1, .altl h2⟩
    · exact ⟨i, h1, .altr h2⟩
  · rintro ⟨i, h1, h2⟩
    rcases mt_alt.1 h2 with h2 | h2
    · exact .inl ⟨i, h1, h2⟩
    · exact .inr ⟨i, h1, h2⟩
theorem orL_none {n : Nat} {X : List Bool} (h : X.length = n) : orL (List.replicate n false) X = X := by
  refine List.ext_getElem? fun j => ?_
  rcases Nat.lt_or_ge j n with hj | hj
  · obtain ⟨x, hx⟩ : ∃ x, X[j]? = some x := ⟨_, List.getElem?_eq_getElem (by omega)⟩
    rw [orL_at (List.getElem?_eq_some_iff.2 ⟨by rw [List.length_replicate]; exact hj, List.getElem_replicate ..⟩ : (List.replicate n false)[j]? = some false) hx, hx]
    rfl
  · rw [List.getElem?_eq_none (by rw [orL_len (by rw [List.length_replicate]; omega), List.length_replicate]; exact hj), List.getElem?_eq_none (by omega)]
/-- The loop of '*' and '+': out so far, more still to come. -/
structure LoopI (S : List Nat) (r q : Re) (B out more : List Bool) : Prop where
  lo : out.length = S.length + 1
  lm : more.length = S.length + 1
  ok : ∀ j : Nat, out[j]? = some true ∨ more[j]? = some true → ∃ i : Nat, B[i]? = some true ∧ Mt S q i j
  step : ∀ i j : Nat, out[i]? = some true → Mt S r i j → out[j]? = some true ∨ more[j]? = some true
  base : ∀ i j : Nat, B[i]? = some true → Mt S r i j → out[j]? = some true ∨ more[j]? = some true
theorem star_more {r : Re} {i j k : Nat} (h : Mt S (.star r) i j) : Mt S r j k → Mt S (.star r) i k := by
  intro hk
  have : ∀ {a : Re} {x y : Nat}, Mt S a x y → a = .star r → Mt S r y k → Mt S (.star r) x k := by
    intro a x y h
    induction h with
    | star0 i => intro e h2; injection e with e; subst e; exact .star1 h2 (.star0 _)
    | star1 h1 _ _ ih => intro e h2; injection e with e; subst e; exact .star1 h1 (ih rfl h2)
    | _ => intro e; cases e
  exact this h rfl hk
theorem star_closed {r : Re} {X : Nat → Prop} (hX : ∀ i j, X i → Mt S r i j → X j) {i j : Nat} (h : Mt S (.star r) i j) : X i → X j := by
  have : ∀ {a : Re} {x y : Nat}, Mt S a x y → a = .star r → X x → X y := by
    intro a x y h
    induction h with
    | star0 i => intro _ h2; exact h2
    | star1 h1 _ _ ih => intro e h2; injection e with e; subst e; exact ih rfl (hX _ _ h2 h1)
    | _ => intro e; cases e
  exact this h rfl
theorem loop_star {r : Re} {B1 : List Bool} (hB : B.length = S.length + 1) (h : FromP S r B B1) : LoopI S r (.star r) B B B1 :=
  ⟨hB, h.1, fun j hj => by
    rcases hj with hj | hj
    · exact ⟨j, hj, .star0 j⟩
    · obtain ⟨i, h1, h2⟩ := (h.2 j).1 hj
      exact ⟨i, h1, .star1 h2 (.star0 _)⟩,
   fun i j hi hm => .inr ((h.2 j).2 ⟨i, hi, hm⟩), fun i j hi hm => .inr ((h.2 j).2 ⟨i, hi, hm⟩)⟩
theorem loop_plus {r : Re} {B1 : List Bool} (h : FromP S r B B1) : LoopI S r (.plus r) B (List.replicate (S.length + 1) false) B1 :=
  ⟨List.length_replicate, h.1, fun j hj => by
    rcases hj with hj | hj
    · exact absurd hj (fromP_none _ j)
    · obtain ⟨i, h1, h2⟩ := (h.2 j).1 hj
      exact ⟨i, h1, .plus h2 (.star0 _)⟩,
   fun i j hi _ => absurd hi (fromP_none _ i), fun i j hi hm => .inr ((h.2 j).2 ⟨i, hi, hm⟩)⟩
theorem loop_step {r q : Re} {out more m2 : List Bool} (hq : q = .star r ∨ q = .plus r) (h : LoopI S r q B out more) (hm : FromP S r more m2) : LoopI S r q B (orL out more) m2 := by
  have hl : out.length = more.length := by rw [h.lo, h.lm]
  refine ⟨by rw [orL_len hl, h.lo], hm.1, fun j hj => ?_, fun i j hi hr => ?_, fun i j hi hr => ?_⟩
  · rcases hj with hj | hj
    · exact h.ok j ((orL_true hl j).1 hj)
    · obtain ⟨i, h1, h2⟩ := (hm.2 j).1 hj
      obtain ⟨i0, h3, h4⟩ := h.ok i (.inr h1)
      refine ⟨i0, h3, ?_⟩
      rcases hq with rfl | rfl
      · exact star_more h4 h2
      · obtain ⟨x, h5, h6⟩ := mt_plus.1 h4
        exact .plus h5 (star_more h6 h2)
  · rcases (orL_true hl i).1 hi with h1 | h1
    · exact .inl ((orL_true hl j).2 (h.step i j h1 hr))
    · exact .inr ((hm.2 j).2 ⟨i, h1, hr⟩)
  · exact .inl ((orL_true hl j).2 (h.base i j hi hr))
theorem newB_le {X Y : List Bool} (hl : X.length = Y.length) (h : newB X Y = false) (j : Nat) (hj : X[j]? = some true) : Y[j]? = some true := by
  have h1 := newB_false.1 h j hj
  have hlt := (List.getElem?_eq_some_iff.1 hj).1
  obtain ⟨y, hy⟩ : ∃ y, Y[j]? = some y := ⟨_, List.getElem?_eq_getElem (by omega)⟩
  cases y
  · exact absurd hy h1
  · exact hy
theorem loop_end_star {r : Re} {out more : List Bool} (h : LoopI S r (.star r) B out more) (hB : ∀ j : Nat, B[j]? = some true → out[j]? = some true) (he : newB more out = false) : FromP S (.star r) B out := by
  have hl : more.length = out.length := by rw [h.lo, h.lm]
  refine ⟨h.lo, fun j => ⟨fun hj => h.ok j (.inl hj), fun ⟨i, h1, h2⟩ => ?_⟩⟩
  exact star_closed (X := fun i => out[i]? = some true) (fun i j hi hr => by
    rcases h.step i j hi hr with h3 | h3
    · exact h3
    · exact newB_le hl he j h3) h2 (hB i h1)
theorem loop_end_plus {r : Re} {out more : List Bool} (h : LoopI S r (.plus r) B out more) (he : newB more out = false) : FromP S (.plus r) B out := by
  have hl : more.length = out.length := by rw [h.lo, h.lm]
  refine ⟨h.lo, fun j => ⟨fun hj => h.ok j (.inl hj), fun ⟨i, h1, h2⟩ => ?_⟩⟩
  obtain ⟨x, h3, h4⟩ := mt_plus.1 h2
  refine star_closed (X := fun i => out[i]? = some true) (fun i j hi hr => ?_) h4 ?_
  · rcases h.step i j hi hr with h5 | h5
    · exact h5
    · exact newB_le hl he j h5
  · rcases h.base i x h1 h3 with h5 | h5
    · exact h5
    · exact newB_le hl he x h5
/-- How many places are still out: fewer at each turn of the loop. -/
def restB (X : List Bool) : Nat := X.countP fun b => !b
theorem rest_less : ∀ {X Y : List Bool}, X.length = Y.length → newB Y X = true → restB (orL X Y) < restB X
  | [], [], _, h => by cases h
  | x :: X, y :: Y, hl, h => by
    have hl' : X.length = Y.length := by simpa using hl
    have hle : ∀ {X Y : List Bool}, X.length = Y.length → restB (orL X Y) ≤ restB X := by
      intro X
      induction X with
      | nil => intro Y _; cases Y <;> exact Nat.le_refl _
      | cons x X ih =>
        intro Y hl
        cases Y with
        | nil => cases hl
        | cons y Y =>
          have := ih (Y := Y) (by simpa using hl)
          show restB ((x || y) :: orL X Y) ≤ restB (x :: X)
          unfold restB at *
          rw [List.countP_cons, List.countP_cons]
          cases x <;> cases y <;> simp <;> omega
    have h : ((y && !x) || newB Y X) = true := h
    show restB ((x || y) :: orL X Y) < restB (x :: X)
    have h1 := hle hl'
    rcases Bool.or_eq_true_iff.1 h with h2 | h2
    · unfold restB at *
      rw [List.countP_cons, List.countP_cons]
      cases x <;> cases y <;> simp at h2 ⊢
      omega
    · have h3 := rest_less hl' h2
      unfold restB at *
      rw [List.countP_cons, List.countP_cons]
      cases x <;> cases y <;> simp <;> omega
end
end Go.Proofs.Ytaaikjedagnjbaa

/- holds of the document's answer for layer 12. -/
namespace Go.Proofs.Ytaaikjedagnjbaa
open Go Go.RowKit Go.Lib

theorem itemsV_at : ∀ (l : List (Int × Int)) (i : Nat) (s : Int × Int), l[i]? = some s → (itemsV l)[2 * i]? = some (.int .i64 s.1) ∧ (itemsV l)[2 * i + 1]? = some (.int .i64 s.2)
  | [], _, _, h => by cases h
  | d :: r, 0, s, h => by
    injection h with h
    subst h
    exact ⟨rfl, rfl⟩
  | d :: r, i + 1, s, h => by
    have := itemsV_at r i s h
    exact this
/-- Whether a part takes a rune. -/
def holdB (k : Nat) (items : List (Int × Int)) (neg : Bool) (c : Int) : Bool := if k = 46 then c != 10 else (inI2 items c != neg)
set_option maxRecDepth 100000 in
set_option maxHeartbeats 6400000 in
theorem holds_any (w : World) (k : Nat) (A1 A2 : Option Addr) (n1 c1 c2 : Nat) (items : List (Int × Int)) (neg : Bool) (c : Int) (hs : Span w A2 (itemsV items)) (hA : ∀ ad, A2 = some ad → ad = ⟨ad.block, 0, none⟩) (hl : items.length ≤ 100000) :
    Calls Try.prog 45 #[.agg #[.int .u8 (k : Int), .slice A1 n1 c1, .slice A2 items.length c2, .bool neg], .int .i64 c] w fun e w' => e = .returned (.bool (holdB k items neg c)) ∧ Kp [] w w' := by
  obtain ⟨n, hn⟩ : ∃ n, n = items.length := ⟨_, rfl⟩
  rw [← hn] at hl ⊢
  obtain ⟨g0, hg0⟩ : ∃ g, g = w.heap.size := ⟨_, rfl⟩
  obtain ⟨wB, hwB⟩ : ∃ wB, wB = w.alloc (.cells #[.int .u8 (k : Int), .slice A1 n1 c1, .slice A2 n c2, .bool neg] 63) := ⟨_, rfl⟩
  have kB : Kp [] w wB := by rw [hwB]; exact (Kp.refl _ _).alloc _
  have cB : Cells wB g0 63 (partCs k (.slice A1 n1 c1) (.slice A2 n c2) neg) := by rw [hwB, hg0]; exact Cells.fresh w 63 _
  have y0 := cB.cell 0
  have y1 := cB.cell 1
  have y2 := cB.cell 2
  have y3 := cB.cell 3
  unfold partCs at y0 y1 y2 y3
  simp only [List.getElem?_cons_zero, List.getElem?_cons_succ] at y0 y1 y2 y3
  have HS := hid (And.intro (hs.kept kB) (And.intro hA (And.intro hn kB)))
  clear hs hA hn kB cB
  go_enter Try.func45, Try.ntmps45
  go_upto_region 1 with fail
  rw [← hwB, ← hg0]
  clear hwB hg0
  by_cases h46 : k = 46
  · have e0 : ((k : Int) == 46) = true := beq_iff_eq.2 (by omega)
    have HB : Hid (holdB k items neg c = (c != 10)) := hid (by unfold holdB; rw [if_pos h46])
    clear h46
    go_wp2_with fail
    go_ret
    exact ⟨by rw [HB.out]; rfl, HS.out.2.2.2⟩
  · have e0 : ((k : Int) == 46) = false := beq_eq_false_iff_ne.2 (by omega)
    have HB : Hid (holdB k items neg c = (inI2 items c != neg)) := hid (by unfold holdB; rw [if_neg h46])
    clear h46
    go_wp2_with fail
    go_loopg [5, 6] n (fun gg v5 v6 wx => wx = wB ∧ ∃ i : Nat, v6 = .int .i64 (i : Int) ∧ i + gg = n ∧ v5 = .bool (inI2 (items.take i) c))
    case atStart => exact ⟨rfl, 0, rfl, by omega, rfl⟩
    case round =>
      obtain ⟨hw, i, rfl, hig, rfl⟩ := hrel
      have hw2 := hw.symm
      subst hw2
      clear hw
      obtain ⟨b, hb⟩ : ∃ b, b = inI2 (items.take i) c := ⟨_, rfl⟩
      rw [← hb]
      have HI := hid hb
      clear hb
      cases gk with
      | zero =>
        obtain rfl : i = n := by omega
        have hfull : inI2 items c = b := by rw [HI.out, HS.out.2.2.1, List.take_length]
        have HF := hid hfull
        clear hfull
        cases b <;> cases neg
        all_goals go_wp2_with fail
        all_goals
          go_ret
          exact ⟨by rw [HB.out, HF.out]; rfl, HS.out.2.2.2⟩
      | succ gg =>
        obtain ⟨s, hsi⟩ : ∃ s, items[i]? = some s := ⟨_, List.getElem?_eq_getElem (by have := HS.out.2.2.1; omega)⟩
        obtain ⟨p0, p1⟩ := itemsV_at items i s hsi
        obtain ⟨ad, rfl, z0⟩ := HS.out.1 _ _ p0
        obtain ⟨ad', e', z1⟩ := HS.out.1 _ _ p1
        injection e' with e'
        subst e'
        have e4 := HS.out.2.1 _ rfl
        obtain ⟨sb, of, pr⟩ := ad
        injection e4 with e7 e5 e6
        subst e5 e6
        clear e7
        have ha : ∀ j, (⟨sb, 0, none⟩ : Addr).add (2 * i + j + 1) = ⟨sb, 2 * i + j + 1, none⟩ := fun j => by simp [Addr.add]
        have ha0 : (⟨sb, 0, none⟩ : Addr).add (2 * i) = ⟨sb, 2 * i, none⟩ := by
          cases i with
          | zero => rfl
          | succ i => simp [Addr.add]
        rw [show 2 * i + 1 = 2 * i + 0 + 1 from rfl, ha 0] at z1
        rw [ha0] at z0
        obtain ⟨lo, hi⟩ := s
        obtain ⟨d1, hd1⟩ : ∃ x, x = decide (lo ≤ c) := ⟨_, rfl⟩
        obtain ⟨d2, hd2⟩ : ∃ x, x = decide (c ≤ hi) := ⟨_, rfl⟩
        have g1 := hd1.symm
        have g2 := hd2.symm
        have hst : inI2 (items.take (i + 1)) c = (b || (d1 && d2)) := by
          unfold inI2
          rw [List.take_add_one, hsi, List.any_append, HI.out, hd1, hd2]
          simp [inI2]
        have HST := hid hst
        have b0 : (i : Int) < (n : Int) := by omega
        have b1 : decide ((i : Int) < (n : Int)) = true := decide_eq_true b0
        have b2 : i < n := by omega
        have b3 : decide (i < n) = true := decide_eq_true b2
        have e2 : i * 2 = 2 * i := Nat.mul_comm _ _
        have iw : IntKind.i64.wrap ((i : Int) + 1) = (i : Int) + 1 := IntWalk.i64_in _ (by omega)
        clear p0 p1 ha ha0 hsi hd1 hd2 hst
        simp only [Nat.add_zero] at z0 z1
        cases b with
        | true =>
          go_wp2_with fail
          go_roundg gg
          case measure => omega
          case rel => exact ⟨rfl, i + 1, rfl, by omega, by rw [HST.out]; rfl⟩
        | false =>
          cases d1 with
          | false =>
            go_wp2_with fail
            go_roundg gg
            case measure => omega
            case rel => exact ⟨rfl, i + 1, rfl, by omega, by rw [HST.out]; rfl⟩
          | true =>
            cases d2 with
            | false =>
              go_wp2_with fail
              go_roundg gg
              case measure => omega
              case rel => exact ⟨rfl, i + 1, rfl, by omega, by rw [HST.out]; rfl⟩
            | true =>
              go_wp2_with fail
              go_roundg gg
              case measure => omega
              case rel => exact ⟨rfl, i + 1, rfl, by omega, by rw [HST.out]; rfl⟩
end Go.Proofs.Ytaaikjedagnjbaa

/- Parts in memory. -/
namespace Go.Proofs.Ytaaikjedagnjbaa
open Go Go.RowKit Go.Lib

/-- A part in memory: its rows lie outside of X. -/
def PtAt (w : World) (X : Nat → Prop) (p : Pt) (g : List Value) : Prop :=
  ∃ A1 c1 A2 c2, g = partCs p.kind (.slice A1 p.kids.length c1) (.slice A2 p.items.length c2) p.neg ∧ Span w A1 (ints p.kids) ∧ Span w A2 (itemsV p.items) ∧ (∀ ad, A1 = some ad → ad.block < w.heap.size ∧ ¬ X ad.block) ∧ (∀ ad, A2 = some ad → ad = ⟨ad.block, 0, none⟩ ∧ ad.block < w.heap.size ∧ ¬ X ad.block) ∧ p.kids.length ≤ 100000 ∧ p.items.length ≤ 100000
theorem PtAt.len {w : World} {X : Nat → Prop} {p : Pt} {g : List Value} (h : PtAt w X p g) : g.length = 4 := by
  obtain ⟨_, _, _, _, rfl, _⟩ := h
  rfl
def PartsAt (w : World) (X : Nat → Prop) (P : List Pt) (cs : List Value) : Prop := ∃ gs : List (List Value), cs = gs.flatten ∧ gs.length = P.length ∧ ∀ (i : Nat) p g, P[i]? = some p → gs[i]? = some g → PtAt w X p g
section
variable {w w' : World} {X X' : Nat → Prop} {P : List Pt} {cs : List Value}
theorem PtAt.later {p : Pt} {g : List Value} (h : PtAt w X p g) (k : Kq X w w') (hX : ∀ x, X' x → X x ∨ w.heap.size ≤ x) : PtAt w' X' p g := by
  obtain ⟨A1, c1, A2, c2, rfl, s1, s2, b1, b2, l1, l2⟩ := h
  obtain ⟨S, hS, kk⟩ := k
  refine ⟨A1, c1, A2, c2, rfl, s1.keep kk fun ad e hm => (b1 ad e).2 (hS _ hm), s2.keep kk fun ad e hm => (b2 ad e).2.2 (hS _ hm), fun ad e => ⟨Nat.lt_of_lt_of_le (b1 ad e).1 kk.size, fun hx => ?_⟩, fun ad e => ⟨(b2 ad e).1, Nat.lt_of_lt_of_le (b2 ad e).2.1 kk.size, fun hx => ?_⟩, l1, l2⟩
  · rcases hX _ hx with h | h
    · exact (b1 ad e).2 h
    · have := (b1 ad e).1; omega
  · rcases hX _ hx with h | h
    · exact (b2 ad e).2.2 h
    · have := (b2 ad e).2.1; omega
theorem PartsAt.later (h : PartsAt w X P cs) (k : Kq X w w') (hX : ∀ x, X' x → X x ∨ w.heap.size ≤ x) : PartsAt w' X' P cs := by
  obtain ⟨gs, h1, h2, h3⟩ := h
  exact ⟨gs, h1, h2, fun i p g hp hg => (h3 i p g hp hg).later k hX⟩
theorem PartsAt.kept (h : PartsAt w X P cs) (k : Kp [] w w') : PartsAt w' X P cs := h.later (Kq.of k) fun _ hx => .inl hx
theorem PartsAt.nil (w : World) (X : Nat → Prop) : PartsAt w X [] [] := ⟨[], rfl, rfl, fun i p g h => by cases h⟩
theorem PartsAt.snoc (h : PartsAt w X P cs) {p : Pt} {g : List Value} (hg : PtAt w X p g) : PartsAt w X (P ++ [p]) (cs ++ g) := by
  obtain ⟨gs, h1, h2, h3⟩ := h
  refine ⟨gs ++ [g], by rw [List.flatten_append, h1]; simp, by rw [List.length_append, List.length_append, h2]; rfl, fun i q g' hq hg' => ?_⟩
  rcases Nat.lt_or_ge i P.length with hi | hi
  · rw [List.getElem?_append_left hi] at hq
    rw [List.getElem?_append_left (by omega)] at hg'
    exact h3 i q g' hq hg'
  · have hie : i = P.length := by
      have := (List.getElem?_eq_some_iff.1 hq).1
      rw [List.length_append, List.length_singleton] at this
      omega
    subst hie
    rw [List.getElem?_append_right (Nat.le_refl _), Nat.sub_self] at hq
    rw [List.getElem?_append_right (by omega), h2, Nat.sub_self] at hg'
    injection hq with hq
    injection hg' with hg'
    subst hq hg'
    exact hg
theorem flat4 : ∀ (gs : List (List Value)), (∀ g ∈ gs, g.length = 4) → ∀ (i : Nat) (g : List Value), gs[i]? = some g → ∀ j, j < 4 → gs.flatten[4 * i + j]? = g[j]?
  | [], _, _, _, h, _, _ => by cases h
  | x :: gs, hl, i, g, h, j, hj => by
    have hx := hl x List.mem_cons_self
    cases i with
    | zero =>
      injection h with h
      subst h
      rw [List.flatten_cons, Nat.mul_zero, Nat.zero_add, List.getElem?_append_left (by omega)]
    | succ i =>
      have ih := flat4 gs (fun y hy => hl y (List.mem_cons_of_mem _ hy)) i g h j hj
      rw [List.flatten_cons, List.getElem?_append_right (by omega), hx, ← ih]
      congr 1
      omega
/-- One part's cells. -/
theorem PartsAt.at (h : PartsAt w X P cs) {i : Nat} {p : Pt} (hp : P[i]? = some p) : ∃ A1 c1 A2 c2, (cs[4 * i]? = some (.int .u8 (p.kind : Int)) ∧ cs[4 * i + 1]? = some (.slice A1 p.kids.length c1) ∧ cs[4 * i + 2]? = some (.slice A2 p.items.length c2) ∧ cs[4 * i + 3]? = some (.bool p.neg)) ∧ Span w A1 (ints p.kids) ∧ Span w A2 (itemsV p.items) ∧ (∀ ad, A2 = some ad → ad = ⟨ad.block, 0, none⟩) ∧ p.kids.length ≤ 100000 ∧ p.items.length ≤ 100000 := by
  obtain ⟨gs, h1, h2, h3⟩ := h
  have hi := (List.getElem?_eq_some_iff.1 hp).1
  obtain ⟨g, hg⟩ : ∃ g, gs[i]? = some g := ⟨_, List.getElem?_eq_getElem (by omega)⟩
  have h4 : ∀ g ∈ gs, g.length = 4 := fun g hg => by
    obtain ⟨j, hj⟩ := List.mem_iff_getElem?.1 hg
    have hjl := (List.getElem?_eq_some_iff.1 hj).1
    exact (h3 j _ g (List.getElem?_eq_getElem (by omega)) hj).len
  have hf := flat4 gs h4 i g hg
  obtain ⟨A1, c1, A2, c2, rfl, s1, s2, b1, b2, l1, l2⟩ := h3 i p g hp hg
  subst h1
  exact ⟨A1, c1, A2, c2, ⟨hf 0 (by decide), hf 1 (by decide), hf 2 (by decide), hf 3 (by decide)⟩, s1, s2, fun ad e => (b2 ad e).1, l1, l2⟩
/-- A row of parts in memory, at its place. -/
theorem parts_cell {Al : Option Addr} (hs : Span w Al cs) (hA : ∀ ad, Al = some ad → ad = ⟨ad.block, 0, none⟩) {i : Nat} {a b c d : Value} (h : cs[4 * i]? = some a ∧ cs[4 * i + 1]? = some b ∧ cs[4 * i + 2]? = some c ∧ cs[4 * i + 3]? = some d) :
    ∃ pb, Al = some ⟨pb, 0, none⟩ ∧ w.cell? ⟨pb, 4 * i, none⟩ = some a ∧ w.cell? ⟨pb, 4 * i + 1, none⟩ = some b ∧ w.cell? ⟨pb, 4 * i + 2, none⟩ = some c ∧ w.cell? ⟨pb, 4 * i + 3, none⟩ = some d := by
  obtain ⟨h0, h1, h2, h3⟩ := h
  obtain ⟨ad, e, z0⟩ := hs _ _ h0
  obtain ⟨ad1, e1, z1⟩ := hs _ _ h1
  obtain ⟨ad2, e2, z2⟩ := hs _ _ h2
  obtain ⟨ad3, e3, z3⟩ := hs _ _ h3
  subst e
  injection e1 with e1
  injection e2 with e2
  injection e3 with e3
  subst e1 e2 e3
  have e4 := hA _ rfl
  obtain ⟨sb, of, pr⟩ := ad
  injection e4 with e7 e5 e6
  subst e5 e6
  have ha : ∀ j, (⟨sb, 0, none⟩ : Addr).add (4 * i + j + 1) = ⟨sb, 4 * i + j + 1, none⟩ := fun j => by simp [Addr.add]
  have ha0 : (⟨sb, 0, none⟩ : Addr).add (4 * i) = ⟨sb, 4 * i, none⟩ := by
    cases i with
    | zero => rfl
    | succ i => simp [Addr.add]
  rw [ha0] at z0
  have z1 : w.cell? ((⟨sb, 0, none⟩ : Addr).add (4 * i + 0 + 1)) = some b := z1
  have z2 : w.cell? ((⟨sb, 0, none⟩ : Addr).add (4 * i + 1 + 1)) = some c := z2
  have z3 : w.cell? ((⟨sb, 0, none⟩ : Addr).add (4 * i + 2 + 1)) = some d := z3
  rw [ha 0] at z1
  rw [ha 1] at z2
  rw [ha 2] at z3
  exact ⟨sb, rfl, z0, z1, z2, z3⟩
end
end Go.Proofs.Ytaaikjedagnjbaa

/- What a method of the document's reader leaves; rep over atom. -/
namespace Go.Proofs.Ytaaikjedagnjbaa
open Go Go.RowKit Go.Lib

/-- The blocks that a reader's method may write. -/
def ownX (v : Value) (rb : Nat) : Nat → Prop := fun x => ownP v x ∨ x = rb
/-- And those that lie about, and must not come into parts. -/
def ownY (v : Value) (rb : Nat) (Y : Nat → Prop) : Nat → Prop := fun x => ownX v rb x ∨ Y x
/-- What it leaves: bad, if the document's grammar has none here; else the part k, and the reader behind it. x: how many parts more than three for each rune. -/
structure PostR (w : World) (rb : Nat) (AR : Option Addr) (cR : Nat) (L : List Nat) (a d : Nat) (v : Value) (P : List Pt) (Y : Nat → Prop) (res : Option (Re × List Nat)) (x : Nat) (last adv : Bool) (e : Ending) (w' : World) : Prop where
  ex : ∃ (k a' d' : Nat) (bad : Bool) (v' : Value) (n' : Nat) (cs' : List Value), e = .returned (.int .i64 (k : Int)) ∧ RdS w' rb AR cR L a' d' bad v' n' cs' ∧ Rew w (ownP v) rb w' (ownP v') ∧ (a ≤ a' ∧ (adv = true → bad = false → a < a') ∧ n' + 3 * a ≤ P.length + 3 * a' + x ∧ d ≤ d' ∧ d' ≤ 7) ∧
    (bad = true → res = none) ∧ (bad = false → d' = d ∧ ∃ Q re, n' = (P ++ Q).length ∧ PartsAt w' (ownY v' rb Y) (P ++ Q) cs' ∧ res = some (re, L.drop a') ∧ RepR (P ++ Q) k re ∧ (last = true → k + 1 = n'))
/-- What it is given. -/
structure PreR (w : World) (rb : Nat) (AR : Option Addr) (cR : Nat) (L : List Nat) (a d : Nat) (v : Value) (P : List Pt) (Y : Nat → Prop) (cs : List Value) : Prop where
  rd : RdS w rb AR cR L a d false v P.length cs
  parts : PartsAt w (ownY v rb Y) P cs
  old : ∀ x, Y x → x < w.heap.size
  len : L.length ≤ 1000
  small : ∀ x ∈ L, x ≤ 2000000
  room : P.length + 3 * (L.length - a) ≤ 50000
  deep : d ≤ 6
theorem ownX_later {w w' : World} {v v' : Value} {rb : Nat} (h : Rew w (ownP v) rb w' (ownP v')) : ∀ x, ownX v' rb x → ownX v rb x ∨ w.heap.size ≤ x := fun x hx => by
  rcases hx with hx | hx
  · rcases h.own x hx with h1 | h1
    · exact .inl (.inl h1)
    · exact .inr h1
  · exact .inl (.inr hx)
/-- The parts before are as they were. -/
theorem PartsAt.rew {w w' : World} {v v' : Value} {rb : Nat} {Y : Nat → Prop} {P : List Pt} {cs : List Value} (h : PartsAt w (ownY v rb Y) P cs) (r : Rew w (ownP v) rb w' (ownP v')) : PartsAt w' (ownY v' rb Y) P cs :=
  h.later (r.kq.mono fun _ hx => .inl hx) fun x hx => by
    rcases hx with hx | hx
    · rcases ownX_later r x hx with h1 | h1
      · exact .inl (.inl h1)
      · exact .inr h1
    · exact .inl (.inr hx)
/-- A local row of places, kept while the reader goes on. -/
theorem Rew.cells2 {w w' : World} {v v' : Value} {rb g : Nat} {t : TypeId} {cs : List Value} (r : Rew w (ownP v) rb w' (ownP v')) (hc : Cells w g t cs) (hv : ¬ ownP v g) (hb : g ≠ rb) : Cells w' g t cs := r.cells hc hv hb
theorem Rew.list {w w' : World} {v v' : Value} {rb : Nat} (r : Rew w (ownP v) rb w' (ownP v')) : Kp (rb :: v.ownBlock.toList) w w' := by
  obtain ⟨S, hS, k⟩ := r.kq
  refine k.mono fun x hx => ?_
  rcases hS x hx with h | h
  · exact List.mem_cons_of_mem _ (Option.mem_toList.2 h)
  · rw [h]; exact List.mem_cons_self
/-- A part more behind the parts: put's own post, told of parts. -/
theorem parts_put {w w' : World} {v v' : Value} {rb : Nat} {Y : Nat → Prop} {P : List Pt} {cs : List Value} (h : PartsAt w (ownY v rb Y) P cs) (r : Rew w (ownP v) rb w' (ownP v')) {k : Nat} {K : List Nat} {I : List (Int × Int)} {neg : Bool} {A1 A2 : Option Addr} {c1 c2 : Nat}
    (s1 : Span w A1 (ints K)) (s2 : Span w A2 (itemsV I)) (b1 : ∀ ad, A1 = some ad → ad.block < w.heap.size ∧ ¬ ownY v rb Y ad.block) (b2 : ∀ ad, A2 = some ad → ad = ⟨ad.block, 0, none⟩ ∧ ad.block < w.heap.size ∧ ¬ ownY v rb Y ad.block) (l1 : K.length ≤ 100000) (l2 : I.length ≤ 100000) :
    PartsAt w' (ownY v' rb Y) (P ++ [⟨k, K, I, neg⟩]) (cs ++ partCs k (.slice A1 K.length c1) (.slice A2 I.length c2) neg) := by
  have hp : PtAt w (ownY v rb Y) ⟨k, K, I, neg⟩ (partCs k (.slice A1 K.length c1) (.slice A2 I.length c2) neg) := ⟨A1, c1, A2, c2, rfl, s1, s2, b1, b2, l1, l2⟩
  exact (h.snoc hp).rew r
theorem PreR.fresh {w : World} {rb : Nat} {AR : Option Addr} {cR : Nat} {L : List Nat} {a d : Nat} {v v1 : Value} {P : List Pt} {Y : Nat → Prop} {cs : List Value} {g : Nat} (h : PreR w rb AR cR L a d v P Y cs) (h1 : w.heap.size ≤ g) (h2 : ¬ ownP v1 g) : ¬ ownY v1 rb Y g := by
  have hrb := h.rd.cell.lt
  rintro ((hh | hh) | hh)
  · exact h2 hh
  · have hh : g = rb := hh
    omega
  · have := h.old g hh
    omega
/-- What atom does at a depth. -/
def AtomRC (d : Nat) (a : Nat) : Prop := ∀ (w : World) (rb : Nat) (AR : Option Addr) (cR : Nat) (L : List Nat) (v : Value) (P : List Pt) (Y : Nat → Prop) (cs : List Value), PreR w rb AR cR L a d v P Y cs →
  Calls Try.prog 46 #[.pointer (some ⟨rb, 0, none⟩)] w (PostR w rb AR cR L a d v P Y (atomR d (L.drop a)) 0 false true)
end Go.Proofs.Ytaaikjedagnjbaa

/- The document's reader: rep. (printed by tools/gengfrep.py) -/
namespace Go.Proofs.Ytaaikjedagnjbaa
open Go Go.RowKit Go.Lib

theorem among3 (x : Nat) : amongB ⟨#[42, 43, 63]⟩ (x : Int) = decide (x = 42 ∨ x = 43 ∨ x = 63) := by
  unfold amongB
  rw [Bool.eq_iff_iff, decide_eq_true_eq]
  simp
  omega
def repS (p : Re × List Nat) : Re × List Nat := signR p.1 p.2
theorem sign_none {re : Re} {x : Nat} {l : List Nat} (h : ¬ (x = 42 ∨ x = 43 ∨ x = 63)) : signR re (x :: l) = (re, x :: l) := by
  rw [sign_cons, if_neg (by omega), if_neg (by omega), if_neg (by omega)]
set_option maxRecDepth 100000 in
set_option maxHeartbeats 12800000 in
theorem rep_any (d a : Nat) (hat : AtomRC d a) (w : World) (rb : Nat) (AR : Option Addr) (cR : Nat) (L : List Nat) (v : Value) (P : List Pt) (Y : Nat → Prop) (cs : List Value) (h : PreR w rb AR cR L a d v P Y cs) :
    Calls Try.prog 38 #[.pointer (some ⟨rb, 0, none⟩)] w (PostR w rb AR cR L a d v P Y ((atomR d (L.drop a)).map repS) 0 false true) := by
  have q := hat w rb AR cR L v P Y cs h
  have hL := h.len
  have hroom := h.room
  have H := hid h
  clear h
  go_enter Try.func38, Try.ntmps38
  go_wp2_with fail
  (with_reducible refine q.mono ?_)
  clear q
  rintro e w1 ⟨k, a1, d1, bad, v1, n1, cs1, rfl, r1, g1, ⟨p1, p2, p3, p4, p5⟩, hb1, hb2⟩
  have HN := hid (And.intro p1 (And.intro p3 (And.intro p4 p5)))
  obtain ⟨x0, x1, -, -, x4⟩ := r1.five
  have hle := r1.le
  obtain ⟨m, hm⟩ : ∃ m, m = L.length := ⟨_, rfl⟩
  rw [← hm] at x0 hle hL
  have HM := hid hm
  clear hm hroom
  cases bad with
  | true =>
    have HP := hid (And.intro r1 (And.intro g1 (hb1 rfl)))
    clear r1 g1 hb1 hb2 p1 p2 p3 p4 p5
    go_wp2_with fail
    go_quiet (fail)
    generalize nq = n2 at *
    go_wp2_with fail
    go_ret
    obtain ⟨r1, g1, hb1⟩ := HP.out
    have k2 : Kp [] w1 (w1.drewN n2) := (Kp.refl _ _).drewN _
    exact ⟨k, a1, d1, true, v1, n1, cs1, rfl, r1.kept k2, g1.trans (Rew.of_kept _ _ k2), ⟨HN.out.1, (fun _ h => by cases h), HN.out.2⟩, (fun _ => by rw [hb1]; rfl), (fun h => by cases h)⟩
  | false =>
    obtain ⟨e1, Q, re, e2, e3, e4, e5, -⟩ := hb2 rfl
    have HP := hid (And.intro r1 (And.intro g1 (And.intro (p2 rfl rfl) (And.intro e1 (And.intro e2 (And.intro e3 (And.intro e4 e5)))))))
    clear r1 g1 hb1 hb2 p1 p2 p3 p4 p5 e1 e2 e3 e4 e5
    by_cases hlt : a1 < m
    · obtain ⟨x, hx⟩ : ∃ x, L[a1]? = some x := ⟨_, List.getElem?_eq_getElem (by have := HM.out; omega)⟩
      obtain ⟨ad, rfl, y⟩ := HP.out.1.rune hx
      have HX := hid hx
      have i0 : (a1 : Int) < (m : Int) := by omega
      have i1 : decide ((a1 : Int) < (m : Int)) = true := decide_eq_true i0
      have i2 : decide (a1 < m) = true := decide_eq_true hlt
      clear hx
      obtain ⟨b, hb⟩ : ∃ b, b = amongB ⟨#[42, 43, 63]⟩ (x : Int) := ⟨_, rfl⟩
      have qa : ∀ W, Calls Try.prog 47 #[.int .i64 (x : Int), .string ⟨#[42, 43, 63]⟩] W fun e w' => e = .returned (.bool b) ∧ w' = W := fun W => by
        rw [hb]; exact among_any W x _ (by decide)
      have HB : Hid (b = decide (x = 42 ∨ x = 43 ∨ x = 63)) := hid (by rw [hb, among3])
      have HQ := hid qa
      clear hb qa
      go_wp2_with fail
      go_quiet ((go_at_call 47; exact Calls.quiet_of_same (HQ.out _)))
      generalize nq = n2 at *
      cases b with
      | false =>
        go_wp2_with fail
        go_ret
        obtain ⟨r1, g1, hlt2, e1, e2, e3, e4, e5⟩ := HP.out
        have k2 : Kp [] w1 (w1.drewN n2) := (Kp.refl _ _).drewN _
        have hnx : ¬ (x = 42 ∨ x = 43 ∨ x = 63) := of_decide_eq_false HB.out.symm
        refine ⟨k, a1, d1, false, v1, n1, cs1, rfl, r1.kept k2, g1.trans (Rew.of_kept _ _ k2), ⟨HN.out.1, fun _ _ => hlt2, HN.out.2⟩, (fun h => by cases h), fun _ => ⟨e1, Q, re, e2, e3.kept k2, ?_, e5, fun h => by cases h⟩⟩
        rw [e4, drop_at HX.out]
        show some (repS (re, _)) = _
        unfold repS
        rw [sign_none hnx]
      | true =>
        have hxx : x = 42 ∨ x = 43 ∨ x = 63 := of_decide_eq_true HB.out.symm
        obtain ⟨w2, hw2⟩ : ∃ w2, w2 = w1.drewN n2 := ⟨_, rfl⟩
        have k2 : Kp [] w1 w2 := by rw [hw2]; exact (Kp.refl _ _).drewN _
        rw [← hw2]
        have r2 := HP.out.1.kept k2
        obtain ⟨-, x1, -, -, -⟩ := r2.five
        have fr := r2.cell.free 1
        obtain ⟨a2, ha2⟩ : ∃ k, k = a1 + 1 := ⟨_, rfl⟩
        have iw : IntKind.i64.wrap ((a1 : Int) + 1) = (a2 : Int) := by rw [IntWalk.i64_in _ (by omega)]; omega
        have iw2 : IntKind.i64.wrap ((a2 : Int) - 1) = (a1 : Int) := by rw [IntWalk.i64_in _ (by omega)]; omega
        have cv : IntKind.u8.wrap (x : Int) = (x : Int) := by rcases hxx with rfl | rfl | rfl <;> decide
        have r3 := r2.at (a' := a2) (by have := HM.out; omega)
        obtain ⟨w3, hw3⟩ : ∃ w3, w3 = w2.setCell ⟨rb, 1, none⟩ (.int .i64 (a2 : Int)) := ⟨_, rfl⟩
        rw [← hw3] at r3
        have k3 : Kp [rb] w2 w3 := by rw [hw3]; exact (Kp.refl _ _).setCell (fun _ => by simp) _
        have g3 : Rew w (ownP v) rb w3 (ownP v1) := (HP.out.2.1.trans (Rew.of_kept _ _ k2)).trans (Rew.of_kp _ _ k3)
        have H3 := hid (And.intro r3 (And.intro g3 (And.intro ((Rew.of_kept (ownP v1) rb k2).trans (Rew.of_kp _ _ k3)) (And.intro hxx ha2))))
        have HW3 := hid hw3
        clear hw2 r2 k2 r3 k3 g3 hw3 hxx ha2
        go_upto_region 4 with fail
        rw [← HW3.out]
        clear HW3 fr
        obtain ⟨x0, x1, -, -, -⟩ := H3.out.1.five
        rw [← HM.out] at x0
        obtain ⟨ad1, e1, y⟩ := H3.out.1.rune HX.out
        injection e1 with e1
        subst e1
        have hnT : n1 ≤ 100000 := by have := HN.out; have := HM.out; have := H.out.room; omega
        refine lin_start (fun W' => (W'.cell? ⟨rb, 0, none⟩ = some (.slice (some ad) m cR) ∧ W'.cell? ⟨rb, 1, none⟩ = some (.int .i64 (a2 : Int))) ∧ W'.cell? (ad.add a1) = some (.int .i64 (x : Int))) (((Stays.cell _ _).and (Stays.cell _ _)).and (Stays.cell _ _)) (by kernel_rfl) ⟨⟨x0, x1⟩, y⟩ (fun hSS hS => ?_)
        refine lin_val (i := 0) (v := ?_) rfl (by kernel_rfl) (by kernel_rfl) (by kernel_rfl) (by kernel_rfl) (fun _ _ _ h => h) hSS hS rfl (fun W' hSw => ?_) ?_
        rotate_left
        · go_simp; first | done | with_reducible rfl
        try simp only [Act.put, List.setIfInBounds_toArray, List.set_cons_zero, List.set_cons_succ]
        refine lin_val (i := 1) (v := ?_) rfl (by kernel_rfl) (by kernel_rfl) (by kernel_rfl) (by kernel_rfl) (fun _ _ _ h => h) hSS hS rfl (fun W' hSw => ?_) ?_
        rotate_left
        · go_simp; first | done | with_reducible rfl
        try simp only [Act.put, List.setIfInBounds_toArray, List.set_cons_zero, List.set_cons_succ]
        refine lin_val (i := 2) (v := ?_) rfl (by kernel_rfl) (by kernel_rfl) (by kernel_rfl) (by kernel_rfl) (fun _ _ _ h => h) hSS hS rfl (fun W' hSw => ?_) ?_
        rotate_left
        · go_simp; first | done | with_reducible rfl
        try simp only [Act.put, List.setIfInBounds_toArray, List.set_cons_zero, List.set_cons_succ]
        refine lin_val (i := 3) (v := ?_) rfl (by kernel_rfl) (by kernel_rfl) (by kernel_rfl) (by kernel_rfl) (fun _ _ _ h => h) hSS hS rfl (fun W' hSw => ?_) ?_
        rotate_left
        · go_simp; first | done | with_reducible rfl
        try simp only [Act.put, List.setIfInBounds_toArray, List.set_cons_zero, List.set_cons_succ]
        refine lin_val (i := 4) (v := ?_) rfl (by kernel_rfl) (by kernel_rfl) (by kernel_rfl) (by kernel_rfl) (fun _ _ _ h => h) hSS hS rfl (fun W' hSw => ?_) ?_
        rotate_left
        · have x0 := hSw.1.1; have x1 := hSw.1.2; have y := hSw.2; go_simp; first | done | with_reducible rfl
        try simp only [Act.put, List.setIfInBounds_toArray, List.set_cons_zero, List.set_cons_succ]
        refine lin_val (i := 5) (v := ?_) rfl (by kernel_rfl) (by kernel_rfl) (by kernel_rfl) (by kernel_rfl) (fun _ _ _ h => h) hSS hS rfl (fun W' hSw => ?_) ?_
        rotate_left
        · go_simp; first | done | with_reducible rfl
        try simp only [Act.put, List.setIfInBounds_toArray, List.set_cons_zero, List.set_cons_succ]
        refine lin_val (i := 6) (v := ?_) rfl (by kernel_rfl) (by kernel_rfl) (by kernel_rfl) (by kernel_rfl) (fun _ _ _ h => h) hSS hS rfl (fun W' hSw => ?_) ?_
        rotate_left
        · go_simp; first | done | with_reducible rfl
        try simp only [Act.put, List.setIfInBounds_toArray, List.set_cons_zero, List.set_cons_succ]
        refine lin_val (i := 7) (v := ?_) rfl (by kernel_rfl) (by kernel_rfl) (by kernel_rfl) (by kernel_rfl) (fun _ _ _ h => h) hSS hS rfl (fun W' hSw => ?_) ?_
        rotate_left
        · go_simp; first | done | with_reducible rfl
        try simp only [Act.put, List.setIfInBounds_toArray, List.set_cons_zero, List.set_cons_succ]
        refine lin_val (i := 8) (v := ?_) rfl (by kernel_rfl) (by kernel_rfl) (by kernel_rfl) (by kernel_rfl) (fun _ _ _ h => h) hSS hS rfl (fun W' hSw => ?_) ?_
        rotate_left
        · have x0 := hSw.1.1; have x1 := hSw.1.2; have y := hSw.2; go_simp; first | done | with_reducible rfl
        try simp only [Act.put, List.setIfInBounds_toArray, List.set_cons_zero, List.set_cons_succ]
        refine lin_val (i := 9) (v := ?_) rfl (by kernel_rfl) (by kernel_rfl) (by kernel_rfl) (by kernel_rfl) (fun _ _ _ h => h) hSS hS rfl (fun W' hSw => ?_) ?_
        rotate_left
        · go_simp; first | done | with_reducible rfl
        try simp only [Act.put, List.setIfInBounds_toArray, List.set_cons_zero, List.set_cons_succ]
        refine lin_val (i := 10) (v := ?_) rfl (by kernel_rfl) (by kernel_rfl) (by kernel_rfl) (by kernel_rfl) (fun _ _ _ h => h) hSS hS rfl (fun W' hSw => ?_) ?_
        rotate_left
        · go_simp; first | done | with_reducible rfl
        try simp only [Act.put, List.setIfInBounds_toArray, List.set_cons_zero, List.set_cons_succ]
        refine lin_val (i := 11) (v := ?_) rfl (by kernel_rfl) (by kernel_rfl) (by kernel_rfl) (by kernel_rfl) (fun _ _ _ h => h) hSS hS rfl (fun W' hSw => ?_) ?_
        rotate_left
        · have x0 := hSw.1.1; have x1 := hSw.1.2; have y := hSw.2; go_simp; first | done | with_reducible rfl
        try simp only [Act.put, List.setIfInBounds_toArray, List.set_cons_zero, List.set_cons_succ]
        refine lin_val (i := 12) (v := ?_) rfl (by kernel_rfl) (by kernel_rfl) (by kernel_rfl) (by kernel_rfl) (fun _ _ _ h => h) hSS hS rfl (fun W' hSw => ?_) ?_
        rotate_left
        · go_simp; first | done | with_reducible rfl
        try simp only [Act.put, List.setIfInBounds_toArray, List.set_cons_zero, List.set_cons_succ]
        refine lin_val (i := 13) (v := ?_) rfl (by kernel_rfl) (by kernel_rfl) (by kernel_rfl) (by kernel_rfl) (fun _ _ _ h => h) hSS hS rfl (fun W' hSw => ?_) ?_
        rotate_left
        · go_simp; first | done | with_reducible rfl
        try simp only [Act.put, List.setIfInBounds_toArray, List.set_cons_zero, List.set_cons_succ]
        refine lin_list (i := 14) (by kernel_rfl) rfl (fun w8 k8 Q2 hQ => ?_)
        have k08 : Kp [] w3 w8 := (Kp.refl _ _).drew.nil k8
        clear k8
        go_wp2_with fail
        obtain ⟨w9, hw9⟩ : ∃ w9, w9 = w8.alloc (.cells #[.int .i64 (k : Int)] 3) := ⟨_, rfl⟩
        obtain ⟨g8, hg8⟩ : ∃ g, g = w8.heap.size := ⟨_, rfl⟩
        rw [← hw9, ← hg8]
        have k09 : Kp [] w3 w9 := by rw [hw9]; exact k08.alloc _
        have c9 : Cells w9 g8 3 (ints [k]) := by rw [hw9, hg8]; exact Cells.fresh w8 3 _
        have hg3 : w3.heap.size ≤ g8 := by rw [hg8]; exact k08.size
        have H9 := hid (And.intro k09 (And.intro c9 hg3))
        have hS9 := And.intro (And.intro (k09.cell x0 (by simp)) (k09.cell x1 (by simp))) (k09.cell y (by simp))
        clear k08 k09 c9 hw9 hg8 hg3
        refine hQ.out _ _ hS9 (fun hS9 => ?_)
        clear hQ hS
        try simp only [Act.put, List.setIfInBounds_toArray, List.set_cons_zero, List.set_cons_succ]
        refine lin_val (i := 15) (v := ?_) rfl (by kernel_rfl) (by kernel_rfl) (by kernel_rfl) (by kernel_rfl) (fun _ _ _ h => h) hSS hS9 rfl (fun W' hSw => ?_) ?_
        rotate_left
        · go_simp; first | done | with_reducible rfl
        try simp only [Act.put, List.setIfInBounds_toArray, List.set_cons_zero, List.set_cons_succ]
        refine lin_list (i := 16) (by kernel_rfl) rfl (fun w10 k10 Q2 hQ => ?_)
        have k010 := H9.out.1.nil k10
        have r10 := H3.out.1.kept k010
        have q := put_any w10 rb (some ad) cR L a2 d1 false v1 n1 cs1 r10 hnT x (some ⟨g8, 0, none⟩) none 1 1 0 0 false
        have H10 := hid (And.intro k010 (And.intro r10 k10))
        clear k10 k010 r10
        go_wp2_with fail
        (with_reducible refine q.mono ?_)
        clear q
        rintro e w11 ⟨rfl, v11, r11, g11⟩
        obtain ⟨z0, z1, -, -, -⟩ := r11.five
        rw [← HM.out] at z0
        obtain ⟨ad2, e2, z2⟩ := r11.rune HX.out
        injection e2 with e2
        subst e2
        have H11 := hid (And.intro r11 g11)
        clear r11 g11
        go_wp2_with fail
        refine hQ.out _ _ ⟨⟨z0, z1⟩, z2⟩ (fun hS11 => ?_)
        clear hQ hS9
        try simp only [Act.put, List.setIfInBounds_toArray, List.set_cons_zero, List.set_cons_succ]
        refine lin_last (i := 17) (by kernel_rfl) rfl (by kernel_rfl) (fun wz kz K hK => ?_)
        have HKZ := hid kz
        clear kz
        go_simp
        refine hK.out _ _ ?_
        clear hK K hS11 hSS x0 x1 y z0 z1 z2
        go_wp2_with fail
        go_ret
        obtain ⟨r1, g1, hlt2, e1, e2, e3, e4, e5⟩ := HP.out
        obtain ⟨r3, g3, g13, hxx, ha2⟩ := H3.out
        obtain ⟨k010, r10, k10⟩ := H10.out
        obtain ⟨k09, c9, hg3⟩ := H9.out
        obtain ⟨r11, g11⟩ := H11.out
        have e3' : PartsAt w10 (ownY v1 rb Y) (P ++ Q) cs1 := (e3.rew g13).kept k010
        have hpp := parts_put e3' g11 (k := x) (K := [k]) (I := []) (neg := false) (A1 := some ⟨g8, 0, none⟩) (A2 := none) (c1 := 1) (c2 := 0) (Span.of_cells (c9.keep k10 (by simp))) (Span.nil _ _)
          (fun ad e => by
            injection e with e
            subst e
            exact ⟨(c9.keep k10 (by simp)).lt, H.out.fresh (Nat.le_trans g3.kq.size hg3) (fun hh => by
              have : g8 < w3.heap.size := r3.own.lt _ hh
              omega)⟩)
          (fun ad e => by cases e) (by simp) (by simp)
        have hidx : (P ++ Q ++ [⟨x, [k], [], false⟩] : List Pt)[n1]? = some ⟨x, [k], [], false⟩ := by rw [e2, List.getElem?_append_right (Nat.le_refl _), Nat.sub_self]; rfl
        have hkid := e5.more [⟨x, [k], [], false⟩]
        have hn := HN.out
        refine ⟨n1, a2, d1, false, v11, n1 + 1, _, rfl, r11.kept HKZ.out, ((g3.trans (Rew.of_kept _ _ k010)).trans g11).trans (Rew.of_kept _ _ HKZ.out), ⟨by omega, (fun _ _ => by omega), by omega, hn.2.2⟩, (fun h => by cases h), fun _ => ⟨e1, Q ++ [⟨x, [k], [], false⟩], (signR re (x :: L.drop a2)).1, by rw [← List.append_assoc, List.length_append, ← e2]; rfl, by rw [← List.append_assoc]; exact hpp.kept HKZ.out, ?_, ?_, fun h => by cases h⟩⟩
        · rw [e4, drop_at HX.out, ← ha2]
          show some (repS (re, _)) = _
          unfold repS
          rcases hxx with rfl | rfl | rfl <;> rfl
        · rw [← List.append_assoc]
          rcases hxx with rfl | rfl | rfl
          · exact .star hidx hkid
          · exact .plus hidx hkid
          · exact .opt hidx hkid
    · have i0 : ¬ (a1 : Int) < (m : Int) := by omega
      have i1 : decide ((a1 : Int) < (m : Int)) = false := decide_eq_false i0
      have i2 : decide (a1 < m) = false := decide_eq_false hlt
      have hdn : L.drop a1 = [] := List.drop_eq_nil_of_le (by have := HM.out; omega)
      have HD := hid hdn
      clear hdn
      go_wp2_with fail
      go_quiet (fail)
      generalize nq = n2 at *
      go_wp2_with fail
      go_ret
      obtain ⟨r1, g1, hlt2, e1, e2, e3, e4, e5⟩ := HP.out
      have k2 : Kp [] w1 (w1.drewN n2) := (Kp.refl _ _).drewN _
      refine ⟨k, a1, d1, false, v1, n1, cs1, rfl, r1.kept k2, g1.trans (Rew.of_kept _ _ k2), ⟨HN.out.1, fun _ _ => hlt2, HN.out.2⟩, (fun h => by cases h), fun _ => ⟨e1, Q, re, e2, e3.kept k2, ?_, e5, fun h => by cases h⟩⟩
      rw [e4, HD.out]
      rfl
end Go.Proofs.Ytaaikjedagnjbaa

/- Kids of a part: a row of places that grows while the document's reader goes on. -/
namespace Go.Proofs.Ytaaikjedagnjbaa
open Go Go.RowKit Go.Lib

/-- A row's block, and those that lie about already. -/
def withO (Y : Nat → Prop) (kv : Value) : Nat → Prop := fun x => Y x ∨ kv.ownBlock = some x
theorem Rew.freshL {w w1 w2 : World} {E E1 : Nat → Prop} {rb : Nat} {S : List Nat} (h : Rew w E rb w1 E1) (k : Kp S w1 w2) (hS : ∀ x ∈ S, w.heap.size ≤ x) : Rew w E rb w2 E1 :=
  ⟨h.own, h.kq.trans (E1 := fun x => x ∈ S) ⟨S, fun _ hx => hx, k⟩ fun x hx hl => absurd (hS x hx) (by omega)⟩
theorem RdS.other {w w' : World} {rb : Nat} {AR : Option Addr} {cR : Nat} {L : List Nat} {a d : Nat} {bad : Bool} {v : Value} {n : Nat} {cs : List Value} {S : List Nat} (h : RdS w rb AR cR L a d bad v n cs) (k : Kp S w w')
    (hS : ∀ x ∈ S, x ≠ rb ∧ ¬ ownP v x ∧ ∀ ad, AR = some ad → ad.block ≠ x) : RdS w' rb AR cR L a d bad v n cs :=
  ⟨h.cell.keep k fun hm => (hS _ hm).1 rfl, h.runes.keep k fun ad e hm => (hS _ hm).2.2 ad e rfl, fun ad e => ⟨(h.apart ad e).1, (h.apart ad e).2.1, Nat.lt_of_lt_of_le (h.apart ad e).2.2 k.size⟩, h.le, h.own.keep k fun _ hg hm => (hS _ hm).2.1 hg, h.rbv⟩
/-- One kid more: what lies where. -/
structure KidsMore (w w7 : World) (rb : Nat) (AR : Option Addr) (cR : Nat) (L : List Nat) (v v1 v7 : Value) (Y : Nat → Prop) (a1 d1 : Nat) (bad1 : Bool) (n1 : Nat) (cs1 : List Value) (ks : List Nat) (P' : List Pt) : Prop where
  rd : RdS w7 rb AR cR L a1 d1 bad1 v1 n1 cs1
  rew : Rew w (ownP v) rb w7 (ownP v1)
  row : Own w7 3 v7 ks.length (ints ks)
  blk : ∀ g, v7.ownBlock = some g → w.heap.size ≤ g ∧ ¬ ownX v1 rb g
  parts : bad1 = false → PartsAt w7 (ownY v1 rb (withO Y v7)) P' cs1
theorem kids_more {w w5 w6 wA w7 wr : World} {rb : Nat} {AR : Option Addr} {cR : Nat} {L : List Nat} {a d : Nat} {v : Value} {P : List Pt} {Y : Nat → Prop} {cs : List Value} (h0 : PreR w rb AR cR L a d v P Y cs)
    {vj kv : Value} {ks : List Nat} (gj : Rew w (ownP v) rb wr (ownP vj)) (row : Own wr 3 kv ks.length (ints ks)) (blk : ∀ g, kv.ownBlock = some g → w.heap.size ≤ g ∧ ¬ ownX vj rb g) (k5 : Kp [rb] wr w5)
    {k a1 d1 : Nat} {bad1 : Bool} {v1 : Value} {n1 : Nat} {cs1 : List Value} {P' : List Pt} (r6 : RdS w6 rb AR cR L a1 d1 bad1 v1 n1 cs1) (g6 : Rew w5 (ownP vj) rb w6 (ownP v1)) (pp : bad1 = false → PartsAt w6 (ownY v1 rb (withO Y kv)) P' cs1)
    (kA : Kp [] w6 wA) {v7 : Value} (k7 : Kp kv.ownBlock.toList wA w7) (o7 : Own w7 3 v7 (ks.length + 1) (ints ks ++ [.int .i64 (k : Int)])) (ob : v7.ownBlock = kv.ownBlock ∨ v7.ownBlock = some wA.heap.size) :
    KidsMore w w7 rb AR cR L v v1 v7 Y a1 d1 bad1 n1 cs1 (ks ++ [k]) P' := by
  have hrb := h0.rd.cell.lt
  have hs1 := gj.kq.size
  have hs5 := k5.size
  have hs6 := g6.kq.size
  have hsA := kA.size
  have hkv : ∀ g, kv.ownBlock = some g → w.heap.size ≤ g ∧ g < wr.heap.size ∧ ¬ ownP v1 g ∧ g ≠ rb := fun g hg => by
    obtain ⟨b1, b2⟩ := blk g hg
    have hl := row.lt g hg
    refine ⟨b1, hl, fun hh => ?_, fun hh => b2 (.inr hh)⟩
    rcases g6.own g hh with h1 | h1
    · exact b2 (.inl h1)
    · omega
  have r6' := r6.kept kA
  refine ⟨r6'.other k7 fun x hx => ?_, (((gj.trans (Rew.of_kp _ _ k5)).trans g6).trans (Rew.of_kept _ _ kA)).freshL k7 fun x hx => (hkv x (Option.mem_toList.1 hx)).1, ?_, fun g hg => ?_, fun hb => ?_⟩
  · obtain ⟨b1, b2, b3, b4⟩ := hkv x (Option.mem_toList.1 hx)
    exact ⟨b4, b3, fun ad e => by have := (h0.rd.apart ad e).2.2; omega⟩
  · rw [List.length_append, List.length_singleton]
    have e : ints (ks ++ [k]) = ints ks ++ [.int .i64 (k : Int)] := by simp [ints]
    rw [e]
    exact o7
  · rcases ob with e | e
    · rw [e] at hg
      obtain ⟨b1, b2, b3, b4⟩ := hkv g hg
      exact ⟨b1, fun hh => by rcases hh with hh | hh; exact b3 hh; exact b4 hh⟩
    · rw [e] at hg
      injection hg with hg
      subst hg
      refine ⟨by omega, fun hh => ?_⟩
      rcases hh with hh | hh
      · have := r6'.own.lt _ hh; omega
      · have hh : wA.heap.size = rb := hh; omega
  · refine ((pp hb).kept kA).later ⟨kv.ownBlock.toList, fun x hx => .inr (.inr (Option.mem_toList.1 hx)), k7⟩ fun x hx => ?_
    rcases hx with hx | hx | hx
    · exact .inl (.inl hx)
    · exact .inl (.inr (.inl hx))
    · rcases ob with e | e
      · rw [e] at hx; exact .inl (.inr (.inr hx))
      · rw [e] at hx; injection hx with hx; exact .inr (by omega)
/-- The kids stand for these. -/
def KidsR (P : List Pt) (ks : List Nat) (rs : List Re) : Prop := ks.length = rs.length ∧ ∀ (i k : Nat) (r : Re), ks[i]? = some k → rs[i]? = some r → RepR P k r
theorem KidsR.snoc {P : List Pt} {ks : List Nat} {rs : List Re} (h : KidsR P ks rs) (Q : List Pt) {k : Nat} {r : Re} (hr : RepR (P ++ Q) k r) : KidsR (P ++ Q) (ks ++ [k]) (rs ++ [r]) := by
  refine ⟨by rw [List.length_append, List.length_append, h.1]; rfl, fun i k' r' h1 h2 => ?_⟩
  rcases Nat.lt_or_ge i ks.length with hi | hi
  · rw [List.getElem?_append_left hi] at h1
    rw [List.getElem?_append_left (by rw [← h.1]; exact hi)] at h2
    exact (h.2 i k' r' h1 h2).more Q
  · have e : i = ks.length := by
      have := (List.getElem?_eq_some_iff.1 h1).1
      rw [List.length_append, List.length_singleton] at this
      omega
    subst e
    rw [List.getElem?_append_right (Nat.le_refl _), Nat.sub_self] at h1
    rw [List.getElem?_append_right (by rw [h.1]; exact Nat.le_refl _), h.1, Nat.sub_self] at h2
    injection h1 with h1
    injection h2 with h2
    subst h1 h2
    exact hr
/-- A part of kids, put behind. -/
theorem kids_put {w wr w5 w6 : World} {rb : Nat} {AR : Option Addr} {cR : Nat} {L : List Nat} {a d : Nat} {v : Value} {P : List Pt} {Y : Nat → Prop} {cs : List Value} (h0 : PreR w rb AR cR L a d v P Y cs) {vj v6 : Value} {Ak : Option Addr} {ck nk : Nat} {ks : List Nat}
    (row : Own wr 3 (.slice Ak nk ck) ks.length (ints ks)) (hnk : nk = ks.length) (blk : ∀ g, (Value.slice Ak nk ck).ownBlock = some g → w.heap.size ≤ g ∧ ¬ ownX vj rb g) (k5 : Kp [rb] wr w5) (g6 : Rew w5 (ownP vj) rb w6 (ownP v6)) {Q : List Pt} {csj : List Value} {kind : Nat}
    (hp : PartsAt wr (ownY vj rb (withO Y (.slice Ak nk ck))) (P ++ Q) csj) (hl : ks.length ≤ 100000) :
    PartsAt w6 (ownY v6 rb Y) (P ++ (Q ++ [⟨kind, ks, [], false⟩])) (csj ++ partCs kind (.slice Ak nk ck) (.slice none 0 0) false) := by
  subst hnk
  obtain ⟨A', c', e', h2, _, _, h5⟩ := row.shape
  injection e' with e7 e8 e9
  subst e7 e9
  rw [← List.append_assoc]
  have hp' : PartsAt w5 (ownY vj rb Y) (P ++ Q) csj := hp.later ⟨[rb], fun x hx => .inl (.inr (List.mem_singleton.1 hx)), k5⟩ fun x hx => by
    rcases hx with hx | hx
    · exact .inl (.inl hx)
    · exact .inl (.inr (.inl hx))
  refine parts_put (A2 := none) (c2 := 0) (I := []) hp' g6 (h2.keep k5 fun ad e hm => (blk _ (h5 ad e).2).2 (.inr (List.mem_singleton.1 hm))) (Span.nil _ _) (fun ad e => ?_) (fun ad e => by cases e) hl (by simp)
  have h6 := (h5 ad e).2
  have hb := blk _ h6
  refine ⟨Nat.lt_of_lt_of_le (row.lt _ h6) k5.size, ?_⟩
  rintro (hh | hh)
  · exact hb.2 hh
  · have := h0.old _ hh
    omega
end Go.Proofs.Ytaaikjedagnjbaa

/- The document's reader: seq over rep. (printed by tools/gengfseq.py) -/
namespace Go.Proofs.Ytaaikjedagnjbaa
open Go Go.RowKit Go.Lib

/-- Where the loop of seq stands: kids ks so far. -/
structure SeqS (w : World) (rb : Nat) (AR : Option Addr) (cR : Nat) (L : List Nat) (a d : Nat) (v : Value) (P : List Pt) (Y : Nat → Prop) (wr : World) (aj : Nat) (bad : Bool) (vj : Value) (kv : Value) (ks : List Nat) : Prop where
  ex : ∃ (dj nj : Nat) (csj : List Value), RdS wr rb AR cR L aj dj bad vj nj csj ∧ Rew w (ownP v) rb wr (ownP vj) ∧ (a ≤ aj ∧ ks.length + a ≤ aj + 1 ∧ nj + 3 * a ≤ P.length + 3 * aj ∧ d ≤ dj ∧ dj ≤ 7) ∧
    (bad = true → seqR d .eps (L.drop a) = none) ∧ (bad = false → dj = d ∧ ks.length + a ≤ aj ∧ ∃ Q rs, nj = (P ++ Q).length ∧ PartsAt wr (ownY vj rb (withO Y kv)) (P ++ Q) csj ∧ KidsR (P ++ Q) ks rs ∧ seqR d .eps (L.drop a) = seqR d (seqL rs) (L.drop aj))
  row : Own wr 3 kv ks.length (ints ks)
  blk : ∀ g, kv.ownBlock = some g → w.heap.size ≤ g ∧ ¬ ownX vj rb g
theorem seq_more {d c : Nat} {l : List Nat} (hc : ¬ (c = 124 ∨ c = 41)) (acc : Re) : seqR d acc (c :: l) = match (atomR d (c :: l)).map repS with | none => none | some p => seqR d (.seq acc p.1) p.2 := by
  cases h : atomR d (c :: l) with
  | none => exact seq_bad hc h acc
  | some p =>
    obtain ⟨re, l5⟩ := p
    exact seq_go hc h acc
theorem isB_is {L : List Nat} {a c x : Nat} (h : L[a]? = some x) : isB L a c = decide (x = c) := by
  unfold isB
  rw [h, Bool.eq_iff_iff, decide_eq_true_eq, beq_iff_eq]
  constructor
  · intro e; injection e
  · intro e; rw [e]
theorem intsInfo : (Try.prog.info? 3).map (fun i => (i.zero, i.size, i.bytes)) = some (some (.int .i64 0), 1, 8) := by kernel_rfl
set_option maxRecDepth 100000 in
set_option maxHeartbeats 12800000 in
theorem seq_any (d a : Nat) (hat : ∀ a', AtomRC d a') (w : World) (rb : Nat) (AR : Option Addr) (cR : Nat) (L : List Nat) (v : Value) (P : List Pt) (Y : Nat → Prop) (cs : List Value) (h : PreR w rb AR cR L a d v P Y cs) :
    Calls Try.prog 31 #[.pointer (some ⟨rb, 0, none⟩)] w (PostR w rb AR cR L a d v P Y (seqR d .eps (L.drop a)) 1 true false) := by
  have hL := h.len
  have hroom := h.room
  have h0 : SeqS w rb AR cR L a d v P Y (w.alloc (.cells (#[] : Array Value) 3)) a false v (.slice (some ⟨w.heap.size, 0, none⟩) 0 0) [] := by
    have kk : Kp [] w (w.alloc (.cells (#[] : Array Value) 3)) := (Kp.refl _ _).alloc _
    refine ⟨⟨d, P.length, cs, h.rd.kept kk, Rew.of_kept _ _ kk, ⟨Nat.le_refl _, by show 0 + a ≤ _; omega, Nat.le_refl _, Nat.le_refl _, by have := h.deep; omega⟩, (fun e => by cases e), fun _ => ⟨rfl, by show 0 + a ≤ _; omega, [], [], by rw [List.append_nil], ?_, ⟨rfl, fun i k r e => by cases e⟩, rfl⟩⟩, Own.of_cells (Cells.fresh w 3 []) (Nat.zero_le _), fun g hg => ?_⟩
    · rw [List.append_nil]
      refine h.parts.later (Kq.of kk) fun x hx => ?_
      rcases hx with hx | hx | hx
      · exact .inl (.inl hx)
      · exact .inl (.inr hx)
      · simp [Value.ownBlock] at hx
        exact .inr (by omega)
    · simp [Value.ownBlock] at hg
      subst hg
      refine ⟨Nat.le_refl _, fun hh => ?_⟩
      rcases hh with hh | hh
      · exact absurd (h.rd.own.lt _ hh) (Nat.lt_irrefl _)
      · have := h.rd.cell.lt; have hh : w.heap.size = rb := hh; omega
  have H := hid h
  have H0 := hid h0
  clear h h0
  go_enter Try.func31, Try.ntmps31
  go_wp2_with fail
  go_loopg [3] (L.length + 2) (fun gg v3 wx => ∃ (aj : Nat) (bad : Bool) (vj : Value) (ks : List Nat), SeqS w rb AR cR L a d v P Y wx aj bad vj v3 ks ∧ (bad = false → L.length + 2 ≤ gg + aj) ∧ L.length + 1 ≤ gg + aj)
  case atStart => exact ⟨a, false, v, [], H0.out, (fun _ => by omega), by omega⟩
  case round =>
    obtain ⟨aj, bad, vj, ks, hI, hgg⟩ := hrel
    obtain ⟨dj, nj, csj, rj, gj, ⟨p1, p2, p3, p4, p5⟩, hb1, hb2⟩ := hI.ex
    obtain ⟨x0, x1, -, -, x4⟩ := rj.five
    have hrow := hI.row
    have hblk := hI.blk
    obtain ⟨Ak, ck, rfl, -, hck, -, -⟩ := hI.row.shape
    have hle := rj.le
    obtain ⟨m, hm⟩ : ∃ m, m = L.length := ⟨_, rfl⟩
    rw [← hm] at x0 hle hL hgg
    have HM := hid hm
    have hnj : nj ≤ 100000 := by have := hroom; omega
    obtain ⟨nk, hnk⟩ : ∃ n, n = ks.length := ⟨_, rfl⟩
    rw [← hnk] at hck hrow hblk hb2 ⊢
    have hnk2 : nk ≤ 2000 := by omega
    have HK := hid (And.intro hnk (And.intro hrow hblk))
    have HJ := hid (And.intro rj (And.intro gj hgg))
    have HN := hid (And.intro p1 (And.intro p3 (And.intro p4 p5)))
    have hL2 : L.length ≤ 1000 := by omega
    clear hI hrow hblk gj p1 p3 p4 p5 hm hroom hgg H0
    cases bad with
    | true =>
      have HBD := hid (hb1 rfl)
      clear hb1 hb2 rj hnk p2 hL2
      go_wp2_with fail
      go_quiet (fail)
      generalize nq = n1 at *
      obtain ⟨w5, hw5⟩ : ∃ w5, w5 = wr.drewN n1 := ⟨_, rfl⟩
      have k5 : Kp [] wr w5 := by rw [hw5]; exact (Kp.refl _ _).drewN _
      rw [← hw5]
      have q := put_any w5 rb AR cR L aj dj true vj nj csj (HJ.out.1.kept k5) hnj 115 Ak none nk ck 0 0 false
      rw [show ((115 : Nat) : Int) = 115 from rfl] at q
      have H5 := hid k5
      clear hw5 k5 x0 x1 x4
      go_wp2_with fail
      (with_reducible refine q.mono ?_)
      clear q
      rintro e w6 ⟨rfl, v6, r6, g6⟩
      have H6 := hid (And.intro r6 g6)
      clear r6 g6
      go_wp2_with fail
      go_ret
      have gg6 := (HJ.out.2.1.trans (Rew.of_kept _ _ H5.out)).trans H6.out.2
      exact ⟨nj, aj, dj, true, v6, nj + 1, _, rfl, H6.out.1, gg6, ⟨HN.out.1, (fun h => by cases h), by have := HN.out; omega, HN.out.2.2⟩, (fun _ => HBD.out), (fun h => by cases h)⟩
    | false =>
      have HBG := hid (hb2 rfl)
      clear hb1 hb2
      by_cases hlt : aj < m
      · have i0 : (aj : Int) < (m : Int) := by omega
        have i1 : decide ((aj : Int) < (m : Int)) = true := decide_eq_true i0
        have i2 : decide (aj < m) = true := decide_eq_true hlt
        obtain ⟨c, hc⟩ : ∃ c, L[aj]? = some c := ⟨_, List.getElem?_eq_getElem (by have := HM.out; omega)⟩
        obtain ⟨t1, ht1⟩ : ∃ b, b = isB L aj 124 := ⟨_, rfl⟩
        obtain ⟨t2, ht2⟩ : ∃ b, b = isB L aj 41 := ⟨_, rfl⟩
        have HQ1 : Hid (∀ n, Calls Try.prog 37 #[.pointer (some ⟨rb, 0, none⟩), .int .i64 124] (wr.drewN n) fun e w' => e = .returned (.bool t1) ∧ ∃ q, w' = (wr.drewN n).drewN q) := hid (fun n => by
          have := is_any (wr.drewN n) rb AR cR L aj dj false vj nj csj (rj.kept ((Kp.refl _ _).drewN n)) (by omega) 124
          rw [← ht1] at this
          exact this)
        have HQ2 : Hid (∀ n, Calls Try.prog 37 #[.pointer (some ⟨rb, 0, none⟩), .int .i64 41] (wr.drewN n) fun e w' => e = .returned (.bool t2) ∧ ∃ q, w' = (wr.drewN n).drewN q) := hid (fun n => by
          have := is_any (wr.drewN n) rb AR cR L aj dj false vj nj csj (rj.kept ((Kp.refl _ _).drewN n)) (by omega) 41
          rw [← ht2] at this
          exact this)
        rw [isB_is hc] at ht1 ht2
        have HC := hid (And.intro hc (And.intro ht1 ht2))
        clear hc ht1 ht2 rj hnk p2 hL2
        cases t1 with
        | true =>
          have HST : Hid (∀ rs : List Re, seqR d (seqL rs) (L.drop aj) = some (seqL rs, L.drop aj)) := hid (fun rs => by
            rw [drop_at HC.out.1, seq_cons, if_pos (.inl (of_decide_eq_true HC.out.2.1.symm))])
          go_wp2_with fail
          go_quiet ((go_at_call 37; first | (with_reducible exact Calls.quiet_of (HQ1.out _)) | (with_reducible exact Calls.quiet_of (HQ2.out _))))
          generalize nq = n1 at *
          obtain ⟨w5, hw5⟩ : ∃ w5, w5 = wr.drewN n1 := ⟨_, rfl⟩
          have k5 : Kp [] wr w5 := by rw [hw5]; exact (Kp.refl _ _).drewN _
          rw [← hw5]
          have q := put_any w5 rb AR cR L aj dj false vj nj csj (HJ.out.1.kept k5) hnj 115 Ak none nk ck 0 0 false
          rw [show ((115 : Nat) : Int) = 115 from rfl] at q
          have H5 := hid k5
          clear hw5 k5 x0 x1 x4
          go_wp2_with fail
          (with_reducible refine q.mono ?_)
          clear q
          rintro e w6 ⟨rfl, v6, r6, g6⟩
          have H6 := hid (And.intro r6 g6)
          clear r6 g6
          go_wp2_with fail
          go_ret
          have gg6 := (HJ.out.2.1.trans (Rew.of_kept _ _ H5.out)).trans H6.out.2
          obtain ⟨e1, -, Q, rs, e2, e3, e5, e6⟩ := HBG.out
          have hnk := HK.out.1
          have hpp := kids_put H.out (ks := ks) (kind := 115) (by rw [← hnk]; exact HK.out.2.1) hnk HK.out.2.2 (H5.out.mono (by simp)) H6.out.2 e3 (by omega)
          have hidx : (P ++ (Q ++ [⟨115, ks, [], false⟩]) : List Pt)[nj]? = some ⟨115, ks, [], false⟩ := by rw [e2, ← List.append_assoc, List.getElem?_append_right (Nat.le_refl _), Nat.sub_self]; rfl
          refine ⟨nj, aj, dj, false, v6, nj + 1, _, rfl, H6.out.1, gg6, ⟨HN.out.1, (fun h => by cases h), by have := HN.out; omega, HN.out.2.2⟩, (fun h => by cases h), fun _ => ⟨e1, Q ++ [⟨115, ks, [], false⟩], seqL rs, by rw [← List.append_assoc, List.length_append, ← e2]; rfl, hpp, by rw [e6]; exact HST.out rs, .seq hidx e5.1 (fun i k r h1 h2 => ?_), fun _ => rfl⟩⟩
          rw [← List.append_assoc]
          exact (e5.2 i k r h1 h2).more _
        | false =>
          cases t2 with
          | true =>
            have HST : Hid (∀ rs : List Re, seqR d (seqL rs) (L.drop aj) = some (seqL rs, L.drop aj)) := hid (fun rs => by
              rw [drop_at HC.out.1, seq_cons, if_pos (.inr (of_decide_eq_true HC.out.2.2.symm))])
            go_wp2_with fail
            go_quiet ((go_at_call 37; first | (with_reducible exact Calls.quiet_of (HQ1.out _)) | (with_reducible exact Calls.quiet_of (HQ2.out _))))
            generalize nq = n1 at *
            obtain ⟨w5, hw5⟩ : ∃ w5, w5 = wr.drewN n1 := ⟨_, rfl⟩
            have k5 : Kp [] wr w5 := by rw [hw5]; exact (Kp.refl _ _).drewN _
            rw [← hw5]
            have q := put_any w5 rb AR cR L aj dj false vj nj csj (HJ.out.1.kept k5) hnj 115 Ak none nk ck 0 0 false
            rw [show ((115 : Nat) : Int) = 115 from rfl] at q
            have H5 := hid k5
            clear hw5 k5 x0 x1 x4
            go_wp2_with fail
            (with_reducible refine q.mono ?_)
            clear q
            rintro e w6 ⟨rfl, v6, r6, g6⟩
            have H6 := hid (And.intro r6 g6)
            clear r6 g6
            go_wp2_with fail
            go_ret
            have gg6 := (HJ.out.2.1.trans (Rew.of_kept _ _ H5.out)).trans H6.out.2
            obtain ⟨e1, -, Q, rs, e2, e3, e5, e6⟩ := HBG.out
            have hnk := HK.out.1
            have hpp := kids_put H.out (ks := ks) (kind := 115) (by rw [← hnk]; exact HK.out.2.1) hnk HK.out.2.2 (H5.out.mono (by simp)) H6.out.2 e3 (by omega)
            have hidx : (P ++ (Q ++ [⟨115, ks, [], false⟩]) : List Pt)[nj]? = some ⟨115, ks, [], false⟩ := by rw [e2, ← List.append_assoc, List.getElem?_append_right (Nat.le_refl _), Nat.sub_self]; rfl
            refine ⟨nj, aj, dj, false, v6, nj + 1, _, rfl, H6.out.1, gg6, ⟨HN.out.1, (fun h => by cases h), by have := HN.out; omega, HN.out.2.2⟩, (fun h => by cases h), fun _ => ⟨e1, Q ++ [⟨115, ks, [], false⟩], seqL rs, by rw [← List.append_assoc, List.length_append, ← e2]; rfl, hpp, by rw [e6]; exact HST.out rs, .seq hidx e5.1 (fun i k r h1 h2 => ?_), fun _ => rfl⟩⟩
            rw [← List.append_assoc]
            exact (e5.2 i k r h1 h2).more _
          | false =>
            have HGO : Hid (∀ acc : Re, seqR d acc (L.drop aj) = match (atomR d (L.drop aj)).map repS with | none => none | some p => seqR d (.seq acc p.1) p.2) := hid (fun acc => by
              rw [drop_at HC.out.1]
              refine seq_more (fun hh => ?_) acc
              rcases hh with hh | hh
              · exact absurd hh (of_decide_eq_false HC.out.2.1.symm)
              · exact absurd hh (of_decide_eq_false HC.out.2.2.symm))
            go_wp2_with fail
            go_quiet ((go_at_call 37; first | (with_reducible exact Calls.quiet_of (HQ1.out _)) | (with_reducible exact Calls.quiet_of (HQ2.out _))))
            generalize nq = n1 at *
            clear HQ1 HQ2
            obtain ⟨w5, hw5⟩ : ∃ w5, w5 = wr.drewN n1 := ⟨_, rfl⟩
            have k5 : Kp [] wr w5 := by rw [hw5]; exact (Kp.refl _ _).drewN _
            rw [← hw5]
            obtain ⟨e1, hks, Q, rs, e2, e3, e5, e6⟩ := HBG.out
            have HE := hid (And.intro e1 (And.intro e2 (And.intro e3 (And.intro e5 e6))))
            clear HBG
            have hpre : PreR w5 rb AR cR L aj d vj (P ++ Q) (withO Y (.slice Ak nk ck)) csj := by
              refine ⟨?_, e3.kept k5, fun x hx => ?_, H.out.len, H.out.small, ?_, H.out.deep⟩
              · rw [← e2, ← e1]; exact HJ.out.1.kept k5
              · rcases hx with hx | hx
                · have := H.out.old x hx; have := HJ.out.2.1.kq.size; have := k5.size; omega
                · have := HK.out.2.1.lt x hx; have := k5.size; omega
              · rw [← e2]; have := HN.out; have := H.out.room; have := HM.out; omega
            have q := rep_any d aj (hat aj) w5 rb AR cR L vj (P ++ Q) (withO Y (.slice Ak nk ck)) csj hpre
            have H5 := hid k5
            clear hw5 k5 hpre e1 e2 e3 e5 e6 x0 x1 x4
            go_wp2_with fail
            (with_reducible refine q.mono ?_)
            clear q
            rintro e w6 ⟨k, a1, d1, bad1, v1, n1', cs1, rfl, r6, g6, ⟨q1, q2, q3, q4, q5⟩, hb1, hb2⟩
            obtain ⟨wA, hwA⟩ : ∃ wA, wA = w6.alloc (.cells #[.int .i64 (k : Int)] 3) := ⟨_, rfl⟩
            obtain ⟨gA, hgA⟩ : ∃ g, g = w6.heap.size := ⟨_, rfl⟩
            have kA : Kp [] w6 wA := by rw [hwA]; exact (Kp.refl _ _).alloc _
            have cA : Cells wA gA 3 [.int .i64 (k : Int)] := by rw [hwA, hgA]; exact Cells.fresh w6 3 _
            have rowA : Own wA 3 (.slice Ak nk ck) nk (ints ks) := by
              refine ((HK.out.2.1.kept H5.out).keep g6.list fun g hg hm => ?_).kept kA
              have hb := (HK.out.2.2 g hg).2
              rcases List.mem_cons.1 hm with h1 | h1
              · exact hb (.inr h1)
              · exact hb (.inl (Option.mem_toList.1 h1))
            have H6 := hid (And.intro r6 (And.intro g6 (And.intro kA (And.intro (And.intro q1 (And.intro q2 (And.intro q3 (And.intro q4 q5)))) (And.intro hb1 hb2)))))
            have HW := hid (And.intro hwA hgA)
            clear r6 g6 hb1 hb2 q1 q2 q3 q4 q5 hwA hgA kA
            go_wp2_with (at_builtin; (try rw [← HW.out.1]); (try rw [← HW.out.2]); go_must (refine wpList_append1 rfl _ _ 43 rfl 3 (.int .i64 0) 8 Try.underlying43 intsInfo rfl _ nk _ rfl rowA _ 1 1 [.int .i64 (k : Int)] rfl (Span.of_cells cA) rfl (by simp [Value.oneCell']) ?_ ?_ ?_))
            · omega
            · omega
            intro v7 w7 o7 k7 ob
            obtain ⟨r6, g6, kA, ⟨q1, q2, q3, q4, q5⟩, hb1, hb2⟩ := H6.out
            obtain ⟨e1, e2, e3, e5, e6⟩ := HE.out
            have hnk := HK.out.1
            have rowj : Own wr 3 (.slice Ak nk ck) ks.length (ints ks) := by rw [← hnk]; exact HK.out.2.1
            have o7' : Own w7 3 v7 (ks.length + 1) (ints ks ++ [.int .i64 (k : Int)]) := by rw [← hnk]; exact o7
            have hS : SeqS w rb AR cR L a d v P Y w7 a1 bad1 v1 v7 (ks ++ [k]) := by
              have hlen : (ks ++ [k]).length = nk + 1 := by rw [List.length_append, ← hnk]; rfl
              have hn := HN.out
              have e2' := e2
              cases bad1 with
              | true =>
                have km := kids_more H.out (P' := []) HJ.out.2.1 rowj HK.out.2.2 (H5.out.mono (by simp)) r6 g6 (fun hb => by cases hb) kA k7 o7' ob
                exact ⟨⟨d1, n1', cs1, km.rd, km.rew, ⟨by omega, by omega, by omega, by omega, q5⟩, (fun _ => by rw [e6, HGO.out, hb1 rfl]), (fun hb => by cases hb)⟩, km.row, km.blk⟩
              | false =>
                obtain ⟨f1, Q2, re, f2, f3, f4, f5, -⟩ := hb2 rfl
                have km := kids_more H.out HJ.out.2.1 rowj HK.out.2.2 (H5.out.mono (by simp)) r6 g6 (fun _ => f3) kA k7 o7' ob
                have hadv := q2 (by trivial) (by trivial)
                refine ⟨⟨d1, n1', cs1, km.rd, km.rew, ⟨by omega, by omega, by omega, by omega, q5⟩, (fun hb => by cases hb), fun _ => ⟨by omega, by omega, Q ++ Q2, rs ++ [re], by rw [← List.append_assoc]; exact f2, by rw [← List.append_assoc]; exact km.parts rfl, ?_, ?_⟩⟩, km.row, km.blk⟩
                · rw [← List.append_assoc]
                  exact e5.snoc Q2 f5
                · rw [e6, HGO.out, f4, seqL_snoc]
            have HSS := hid hS
            have hge : (bad1 = false → L.length + 2 ≤ gk - 1 + a1) ∧ L.length + 1 ≤ gk - 1 + a1 := by
              have h1 := HJ.out.2.2.1 (by trivial)
              have h2 := HM.out
              refine ⟨fun hb => ?_, by omega⟩
              have := q2 (by trivial) hb
              omega
            have hg1 : 1 ≤ gk := by
              have h1 := HJ.out.2.2.1 (by trivial)
              have h2 := HM.out
              omega
            have HGE := hid hge
            clear hS hge r6 g6 kA hb1 hb2 rowj o7' o7 k7 ob
            go_wp2_with fail
            go_roundg (gk - 1)
            case measure => omega
            case rel => exact ⟨a1, bad1, v1, _, HSS.out, HGE.out⟩
      · have i0 : ¬ (aj : Int) < (m : Int) := by omega
        have i1 : decide ((aj : Int) < (m : Int)) = false := decide_eq_false i0
        have i2 : decide (aj < m) = false := decide_eq_false hlt
        have HST : Hid (∀ rs : List Re, seqR d (seqL rs) (L.drop aj) = some (seqL rs, L.drop aj)) := hid (fun rs => by
          rw [show L.drop aj = [] from List.drop_eq_nil_of_le (by have := HM.out; omega), seq_nil])
        clear rj hnk p2 hL2
        go_wp2_with fail
        go_quiet (fail)
        generalize nq = n1 at *
        obtain ⟨w5, hw5⟩ : ∃ w5, w5 = wr.drewN n1 := ⟨_, rfl⟩
        have k5 : Kp [] wr w5 := by rw [hw5]; exact (Kp.refl _ _).drewN _
        rw [← hw5]
        have q := put_any w5 rb AR cR L aj dj false vj nj csj (HJ.out.1.kept k5) hnj 115 Ak none nk ck 0 0 false
        rw [show ((115 : Nat) : Int) = 115 from rfl] at q
        have H5 := hid k5
        clear hw5 k5 x0 x1 x4
        go_wp2_with fail
        (with_reducible refine q.mono ?_)
        clear q
        rintro e w6 ⟨rfl, v6, r6, g6⟩
        have H6 := hid (And.intro r6 g6)
        clear r6 g6
        go_wp2_with fail
        go_ret
        have gg6 := (HJ.out.2.1.trans (Rew.of_kept _ _ H5.out)).trans H6.out.2
        obtain ⟨e1, -, Q, rs, e2, e3, e5, e6⟩ := HBG.out
        have hnk := HK.out.1
        have hpp := kids_put H.out (ks := ks) (kind := 115) (by rw [← hnk]; exact HK.out.2.1) hnk HK.out.2.2 (H5.out.mono (by simp)) H6.out.2 e3 (by omega)
        have hidx : (P ++ (Q ++ [⟨115, ks, [], false⟩]) : List Pt)[nj]? = some ⟨115, ks, [], false⟩ := by rw [e2, ← List.append_assoc, List.getElem?_append_right (Nat.le_refl _), Nat.sub_self]; rfl
        refine ⟨nj, aj, dj, false, v6, nj + 1, _, rfl, H6.out.1, gg6, ⟨HN.out.1, (fun h => by cases h), by have := HN.out; omega, HN.out.2.2⟩, (fun h => by cases h), fun _ => ⟨e1, Q ++ [⟨115, ks, [], false⟩], seqL rs, by rw [← List.append_assoc, List.length_append, ← e2]; rfl, hpp, by rw [e6]; exact HST.out rs, .seq hidx e5.1 (fun i k r h1 h2 => ?_), fun _ => rfl⟩⟩
        rw [← List.append_assoc]
        exact (e5.2 i k r h1 h2).more _
end Go.Proofs.Ytaaikjedagnjbaa

/- The document's reader: alt over seq. (printed by tools/gengfalt.py) -/
namespace Go.Proofs.Ytaaikjedagnjbaa
open Go Go.RowKit Go.Lib

/-- Where the loop of alt stands: kids ks so far. -/
structure AltS (w : World) (rb : Nat) (AR : Option Addr) (cR : Nat) (L : List Nat) (a d : Nat) (v : Value) (P : List Pt) (Y : Nat → Prop) (wr : World) (aj : Nat) (bad : Bool) (vj : Value) (kv : Value) (ks : List Nat) : Prop where
  ex : ∃ (dj nj : Nat) (csj : List Value), RdS wr rb AR cR L aj dj bad vj nj csj ∧ Rew w (ownP v) rb wr (ownP vj) ∧ (a ≤ aj ∧ ks.length + a ≤ aj + 1 ∧ nj + 3 * a ≤ P.length + 3 * aj + 1 ∧ d ≤ dj ∧ dj ≤ 7) ∧
    (bad = true → altR d (L.drop a) = none) ∧ (bad = false → dj = d ∧ ∃ Q rs, nj = (P ++ Q).length ∧ PartsAt wr (ownY vj rb (withO Y kv)) (P ++ Q) csj ∧ KidsR (P ++ Q) ks rs ∧ rs ≠ [] ∧ altR d (L.drop a) = barR d (altL rs) (L.drop aj))
  row : Own wr 3 kv ks.length (ints ks)
  blk : ∀ g, kv.ownBlock = some g → w.heap.size ≤ g ∧ ¬ ownX vj rb g
set_option maxRecDepth 100000 in
set_option maxHeartbeats 12800000 in
theorem ralt_any (d : Nat) (hat : ∀ a', AtomRC d a') (a : Nat) (w : World) (rb : Nat) (AR : Option Addr) (cR : Nat) (L : List Nat) (v : Value) (P : List Pt) (Y : Nat → Prop) (cs : List Value) (h : PreR w rb AR cR L a d v P Y cs) :
    Calls Try.prog 24 #[.pointer (some ⟨rb, 0, none⟩)] w (PostR w rb AR cR L a d v P Y (altR d (L.drop a)) 2 true false) := by
  have q := seq_any d a hat w rb AR cR L v P Y cs h
  have hL := h.len
  have hroom := h.room
  have H := hid h
  clear h
  go_enter Try.func24, Try.ntmps24
  go_wp2_with fail
  (with_reducible refine q.mono ?_)
  clear q
  rintro e w1 ⟨k, a1, d1, bad1, v1, n1, cs1, rfl, r1, g1, ⟨q1, -, q3, q4, q5⟩, hb1, hb2⟩
  have h0 : AltS w rb AR cR L a d v P Y (w1.alloc (.cells #[.int .i64 (k : Int)] 3)) a1 bad1 v1 (.slice (some ⟨w1.heap.size, 0, none⟩) 1 1) [k] := by
    have kk : Kp [] w1 (w1.alloc (.cells #[.int .i64 (k : Int)] 3)) := (Kp.refl _ _).alloc _
    have hs := g1.kq.size
    refine ⟨⟨d1, n1, cs1, r1.kept kk, g1.trans (Rew.of_kept _ _ kk), ⟨q1, by show 1 + a ≤ _; omega, q3, q4, q5⟩, (fun e => by rw [alt_step, hb1 e]; rfl), fun e => ?_⟩, Own.of_cells (Cells.fresh w1 3 [.int .i64 (k : Int)]) (by show 1 ≤ 9223372036854775807; omega), fun g hg => ?_⟩
    · obtain ⟨f1, Q, re, f2, f3, f4, f5, -⟩ := hb2 e
      refine ⟨f1, Q, [re], f2, ?_, ⟨rfl, fun i k' r h1 h2 => ?_⟩, by simp, by rw [alt_step, f4]; rfl⟩
      · refine f3.later (Kq.of kk) fun x hx => ?_
        rcases hx with hx | hx | hx
        · exact .inl (.inl hx)
        · exact .inl (.inr hx)
        · simp [Value.ownBlock] at hx
          exact .inr (by omega)
      · cases i with
        | zero =>
          injection h1 with h1
          injection h2 with h2
          subst h1 h2
          exact f5
        | succ i => cases h1
    · simp [Value.ownBlock] at hg
      subst hg
      refine ⟨hs, fun hh => ?_⟩
      rcases hh with hh | hh
      · exact absurd (r1.own.lt _ hh) (Nat.lt_irrefl _)
      · have := r1.cell.lt; have hh : w1.heap.size = rb := hh; omega
  have H0 := hid h0
  clear h0 r1 g1 hb1 hb2
  go_wp2_with fail
  go_loopg [3] (L.length + 1) (fun gg v3 wx => ∃ (aj : Nat) (bad : Bool) (vj : Value) (ks : List Nat), AltS w rb AR cR L a d v P Y wx aj bad vj v3 ks ∧ L.length + 1 ≤ gg + aj)
  case atStart => exact ⟨a1, bad1, v1, [k], H0.out, by omega⟩
  case round =>
    obtain ⟨wo, rfl⟩ : ∃ wo : World, wo = wr := ⟨_, rfl⟩
    obtain ⟨aj, bad, vj, ks, hI, hgg⟩ := hrel
    obtain ⟨dj, nj, csj, rj, gj, ⟨p1, p2, p3, p4, p5⟩, hb1, hb2⟩ := hI.ex
    obtain ⟨x0, x1, -, -, x4⟩ := rj.five
    have hrow := hI.row
    have hblk := hI.blk
    obtain ⟨Ak, ck, rfl, -, hck, -, -⟩ := hI.row.shape
    have hle := rj.le
    have hnj : nj ≤ 100000 := by have := hroom; omega
    obtain ⟨nk, hnk⟩ : ∃ n, n = ks.length := ⟨_, rfl⟩
    rw [← hnk] at hck hrow hblk hb2 ⊢
    have hnk2 : nk ≤ 2000 := by omega
    have HK := hid (And.intro hnk (And.intro hrow hblk))
    have HJ := hid (And.intro rj (And.intro gj hgg))
    have HN := hid (And.intro p1 (And.intro p2 (And.intro p3 (And.intro p4 p5))))
    have HL := hid hle
    have qt := take_any wo rb AR cR L aj dj bad vj nj csj rj (by omega) 124
    clear hI hrow hblk gj p1 p3 p4 p5 hroom hgg H0 hle rj hnk p2 q1 q3 q4 q5
    cases bad with
    | true =>
      have HBD := hid (hb1 rfl)
      clear hb1 hb2 qt
      go_wp2_with fail
      have q := put_any wo rb AR cR L aj dj true vj nj csj HJ.out.1 hnj 97 Ak none nk ck 0 0 false
      rw [show ((97 : Nat) : Int) = 97 from rfl] at q
      clear x0 x1 x4
      (with_reducible refine q.mono ?_)
      clear q
      rintro e w6 ⟨rfl, v6, r6, g6⟩
      have H6 := hid (And.intro r6 g6)
      clear r6 g6
      go_wp2_with fail
      go_ret
      have gg6 := HJ.out.2.1.trans H6.out.2
      exact ⟨nj, aj, dj, true, v6, nj + 1, _, rfl, H6.out.1, gg6, ⟨HN.out.1, (fun h => by cases h), by have := HN.out; omega, HN.out.2.2.2⟩, (fun _ => HBD.out), (fun h => by cases h)⟩
    | false =>
      have HBG := hid (hb2 rfl)
      clear hb1 hb2
      obtain ⟨t, ht⟩ : ∃ b, b = isB L aj 124 := ⟨_, rfl⟩
      rw [← ht] at qt
      have HT := hid ht
      clear ht
      rw [show ((124 : Nat) : Int) = 124 from rfl] at qt
      go_wp2_with fail
      (with_reducible refine qt.mono ?_)
      clear qt
      rintro e w5 ⟨rfl, r5, k5⟩
      have H5 := hid k5
      clear k5 x0 x1 x4
      cases t with
      | false =>
        have HST : Hid (∀ rs : List Re, barR d (altL rs) (L.drop aj) = some (altL rs, L.drop aj)) := hid (fun rs => by
          cases hx : L.drop aj with
          | nil => exact bar_nil d _
          | cons x l =>
            rw [bar_cons, if_neg]
            intro e
            have h1 : L[aj]? = some x := by have := congrArg List.head? hx; rwa [List.head?_drop] at this
            have h2 := HT.out
            rw [isB_is h1, decide_eq_true e] at h2
            cases h2)
        have R5 := hid r5
        clear r5
        go_wp2_with fail
        have q := put_any w5 rb AR cR L aj dj false vj nj csj R5.out hnj 97 Ak none nk ck 0 0 false
        rw [show ((97 : Nat) : Int) = 97 from rfl] at q
        (with_reducible refine q.mono ?_)
        clear q
        rintro e w6 ⟨rfl, v6, r6, g6⟩
        have H6 := hid (And.intro r6 g6)
        clear r6 g6
        go_wp2_with fail
        go_ret
        have gg6 := (HJ.out.2.1.trans (Rew.of_kp _ _ H5.out)).trans H6.out.2
        obtain ⟨e1, Q, rs, e2, e3, e5, e0, e6⟩ := HBG.out
        have hnk := HK.out.1
        have hpp := kids_put H.out (ks := ks) (kind := 97) (by rw [← hnk]; exact HK.out.2.1) hnk HK.out.2.2 H5.out H6.out.2 e3 (by omega)
        have hidx : (P ++ (Q ++ [⟨97, ks, [], false⟩]) : List Pt)[nj]? = some ⟨97, ks, [], false⟩ := by rw [e2, ← List.append_assoc, List.getElem?_append_right (Nat.le_refl _), Nat.sub_self]; rfl
        refine ⟨nj, aj, dj, false, v6, nj + 1, _, rfl, H6.out.1, gg6, ⟨HN.out.1, (fun h => by cases h), by have := HN.out; omega, HN.out.2.2.2⟩, (fun h => by cases h), fun _ => ⟨e1, Q ++ [⟨97, ks, [], false⟩], altL rs, by rw [← List.append_assoc, List.length_append, ← e2]; rfl, hpp, by rw [e6]; exact HST.out rs, .alt hidx e5.1 e0 (fun i k r h1 h2 => ?_), fun _ => rfl⟩⟩
        rw [← List.append_assoc]
        exact (e5.2 i k r h1 h2).more _
      | true =>
        have hlt : aj < L.length := by
          have h2 := HT.out.symm
          unfold isB at h2
          exact (List.getElem?_eq_some_iff.1 (beq_iff_eq.1 h2)).1
        have HGO : Hid (∀ acc : Re, barR d acc (L.drop aj) = match seqR d .eps (L.drop (aj + 1)) with | none => none | some p => barR d (.alt acc p.1) p.2) := hid (fun acc => by
          have h2 := HT.out.symm
          unfold isB at h2
          rw [drop_at (beq_iff_eq.1 h2), bar_cons, if_pos rfl]
          cases seqR d .eps (L.drop (aj + 1)) with
          | none => rfl
          | some p => rfl)
        obtain ⟨e1, Q, rs, e2, e3, e5, e0, e6⟩ := HBG.out
        have HE := hid (And.intro e1 (And.intro e2 (And.intro e3 (And.intro e5 (And.intro e0 e6)))))
        clear HBG
        have r5 : RdS w5 rb AR cR L (aj + 1) dj false vj nj csj := r5
        have hpre : PreR w5 rb AR cR L (aj + 1) d vj (P ++ Q) (withO Y (.slice Ak nk ck)) csj := by
          refine ⟨?_, e3.later ⟨[rb], fun x hx => .inl (.inr (List.mem_singleton.1 hx)), H5.out⟩ fun x hx => .inl hx, fun x hx => ?_, H.out.len, H.out.small, ?_, H.out.deep⟩
          · rw [← e2, ← e1]; exact r5
          · rcases hx with hx | hx
            · have := H.out.old x hx; have := HJ.out.2.1.kq.size; have := H5.out.size; omega
            · have := HK.out.2.1.lt x hx; have := H5.out.size; omega
          · rw [← e2]; have := HN.out; have := H.out.room; omega
        have q := seq_any d (aj + 1) hat w5 rb AR cR L vj (P ++ Q) (withO Y (.slice Ak nk ck)) csj hpre
        clear hpre e1 e2 e3 e5 e6 e0 r5
        go_wp2_with fail
        (with_reducible refine q.mono ?_)
        clear q
        rintro e w6 ⟨k, a1, d1, bad1, v1, n1', cs1, rfl, r6, g6, ⟨q1, -, q3, q4, q5⟩, hb1, hb2⟩
        obtain ⟨wA, hwA⟩ : ∃ wA, wA = w6.alloc (.cells #[.int .i64 (k : Int)] 3) := ⟨_, rfl⟩
        obtain ⟨gA, hgA⟩ : ∃ g, g = w6.heap.size := ⟨_, rfl⟩
        have kA : Kp [] w6 wA := by rw [hwA]; exact (Kp.refl _ _).alloc _
        have cA : Cells wA gA 3 [.int .i64 (k : Int)] := by rw [hwA, hgA]; exact Cells.fresh w6 3 _
        have rowA : Own wA 3 (.slice Ak nk ck) nk (ints ks) := by
          refine ((HK.out.2.1.keep H5.out fun g hg hm => ?_).keep g6.list fun g hg hm => ?_).kept kA
          · exact (HK.out.2.2 g hg).2 (.inr (List.mem_singleton.1 hm))
          · have hb := (HK.out.2.2 g hg).2
            rcases List.mem_cons.1 hm with h1 | h1
            · exact hb (.inr h1)
            · exact hb (.inl (Option.mem_toList.1 h1))
        have H6 := hid (And.intro r6 (And.intro g6 (And.intro kA (And.intro (And.intro q1 (And.intro q3 (And.intro q4 q5))) (And.intro hb1 hb2)))))
        have HW := hid (And.intro hwA hgA)
        clear r6 g6 hb1 hb2 q1 q3 q4 q5 hwA hgA kA
        go_wp2_with (at_builtin; (try rw [← HW.out.1]); (try rw [← HW.out.2]); go_must (refine wpList_append1 rfl _ _ 43 rfl 3 (.int .i64 0) 8 Try.underlying43 intsInfo rfl _ nk _ rfl rowA _ 1 1 [.int .i64 (k : Int)] rfl (Span.of_cells cA) rfl (by simp [Value.oneCell']) ?_ ?_ ?_))
        · omega
        · omega
        intro v7 w7 o7 k7 ob
        obtain ⟨r6, g6, kA, ⟨q1, q3, q4, q5⟩, hb1, hb2⟩ := H6.out
        obtain ⟨e1, e2, e3, e5, e0, e6⟩ := HE.out
        have hnk := HK.out.1
        have rowj : Own wo 3 (.slice Ak nk ck) ks.length (ints ks) := by rw [← hnk]; exact HK.out.2.1
        have o7' : Own w7 3 v7 (ks.length + 1) (ints ks ++ [.int .i64 (k : Int)]) := by rw [← hnk]; exact o7
        have hS : AltS w rb AR cR L a d v P Y w7 a1 bad1 v1 v7 (ks ++ [k]) := by
          have hlen : (ks ++ [k]).length = nk + 1 := by rw [List.length_append, ← hnk]; rfl
          have hn := HN.out
          have e2' := e2
          cases bad1 with
          | true =>
            have km := kids_more H.out (P' := []) HJ.out.2.1 rowj HK.out.2.2 H5.out r6 g6 (fun hb => by cases hb) kA k7 o7' ob
            exact ⟨⟨d1, n1', cs1, km.rd, km.rew, ⟨by omega, by omega, by omega, by omega, q5⟩, (fun _ => by rw [e6, HGO.out, hb1 (by trivial)]), (fun hb => by cases hb)⟩, km.row, km.blk⟩
          | false =>
            obtain ⟨f1, Q2, re, f2, f3, f4, f5, -⟩ := hb2 (by trivial)
            have km := kids_more H.out HJ.out.2.1 rowj HK.out.2.2 H5.out r6 g6 (fun _ => f3) kA k7 o7' ob
            refine ⟨⟨d1, n1', cs1, km.rd, km.rew, ⟨by omega, by omega, by omega, by omega, q5⟩, (fun hb => by cases hb), fun _ => ⟨by omega, Q ++ Q2, rs ++ [re], by rw [← List.append_assoc]; exact f2, by rw [← List.append_assoc]; exact km.parts rfl, ?_, by simp, ?_⟩⟩, km.row, km.blk⟩
            · rw [← List.append_assoc]
              exact e5.snoc Q2 f5
            · rw [e6, HGO.out, f4, altL_snoc e0]
        have HSS := hid hS
        have hge : L.length + 1 ≤ gk - 1 + a1 := by
          have h1 := HJ.out.2.2
          omega
        have hg1 : 1 ≤ gk := by
          have h1 := HJ.out.2.2
          omega
        have HGE := hid hge
        clear hS hge r6 g6 kA hb1 hb2 rowj o7' o7 k7 ob rowA cA
        go_wp2_with fail
        go_roundg (gk - 1)
        case measure => omega
        case rel => exact ⟨a1, bad1, v1, _, HSS.out, HGE.out⟩
end Go.Proofs.Ytaaikjedagnjbaa

