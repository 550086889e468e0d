/- The document's reader of texts: a quoted text, a digit. -/
import Derived.Test.YtpeldjihalldkaaDoorRG
import Derived.Test.YtpeldjihalldkaaDoorTBuilt
import Derived.Test.YtpeldjihalldkaaDoorRI
import Derived.Test.YtpeldjihalldkaaDoorRH
namespace Go.Proofs.YtpeldjihalldkaaDoor
open Go Go.RowKit Go.Lib

theorem Rd.put {w : World} {R : Nat} {s : ByteArray} {p n : Nat} (h : Rd w R s p n) (q : Nat) : Rd (w.setCell ⟨R, 1, none⟩ (.int .i64 (q : Int))) R s q n := Cells.put h 1 _
theorem Rd.node {w : World} {R : Nat} {s : ByteArray} {p n : Nat} (h : Rd w R s p n) (q : Nat) : Rd (w.setCell ⟨R, 2, none⟩ (.int .i64 (q : Int))) R s p q := Cells.put h 2 _
theorem Rd.deep {w : World} {R : Nat} {s : ByteArray} {p n : Nat} (h : Rd w R s p n) : Rd (w.setCell ⟨R, 4, none⟩ (.bool false)) R s p n := Cells.put h 4 _
theorem Rd.big {w : World} {R : Nat} {s : ByteArray} {p n : Nat} (h : Rd w R s p n) : Rd (w.setCell ⟨R, 5, none⟩ (.bool false)) R s p n := Cells.put h 5 _
theorem Rd.keep {w w' : World} {R : Nat} {s : ByteArray} {p n : Nat} {S : List Nat} (h : Rd w R s p n) (k : Kp S w w') (hR : R ∉ S) : Rd w' R s p n := Cells.keep h k hR
theorem Rd.cells {w : World} {R : Nat} {s : ByteArray} {p n : Nat} (h : Rd w R s p n) : w.cell? ⟨R, 0, none⟩ = some (.string s) ∧ w.cell? ⟨R, 1, none⟩ = some (.int .i64 (p : Int)) ∧ w.cell? ⟨R, 2, none⟩ = some (.int .i64 (n : Int)) ∧ w.cell? ⟨R, 3, none⟩ = some (.bool false) ∧ w.cell? ⟨R, 4, none⟩ = some (.bool false) ∧ w.cell? ⟨R, 5, none⟩ = some (.bool false) :=
  ⟨Cells.cell h 0, Cells.cell h 1, Cells.cell h 2, Cells.cell h 3, Cells.cell h 4, Cells.cell h 5⟩
theorem Rd.frees {w : World} {R : Nat} {s : ByteArray} {p n : Nat} (h : Rd w R s p n) : w.frozen? ⟨R, 1, none⟩ = false ∧ w.frozen? ⟨R, 2, none⟩ = false ∧ w.frozen? ⟨R, 4, none⟩ = false ∧ w.frozen? ⟨R, 5, none⟩ = false :=
  ⟨Cells.free h 1, Cells.free h 2, Cells.free h 4, Cells.free h 5⟩
theorem VRoom.keep {g : Nat} {w w' : World} {S : List Nat} (h : VRoom g w) (k : Kp S w w') (hg : g ∉ S) : VRoom g w' := by
  obtain ⟨cs, h1, h2⟩ := h
  exact ⟨cs, h1.keep k hg, h2⟩
set_option maxRecDepth 100000 in
set_option maxHeartbeats 6400000 in
theorem quoted_at (w : World) (R : Nat) (s : ByteArray) (p n k : Nat) (x : Txt) (hR : Rd w R s p n) (hp : p ≤ s.size) (hs : s.size ≤ 1000) (hu : unq (s.extract p s.size).data.toList = (x, k, 0)) (hk : k ≤ 1000) :
    Calls Tryd.prog 82 #[.pointer (some ⟨R, 0, none⟩)] w fun e w' => e = .returned (.string ⟨x.toArray⟩) ∧ Rd w' R s (p + k) n ∧ Kp [R] w w' := by
  obtain ⟨c0, c1, -⟩ := hR.cells
  have qu := fun W => runq_any W (s.extract p s.size) (by rw [ByteArray.size_extract]; omega)
  unfold UnqPost at qu
  rw [hu] at qu
  dsimp only at qu
  obtain ⟨S2, hS2⟩ : ∃ S2, S2 = s.extract p s.size := ⟨_, rfl⟩
  simp only [← hS2] at qu
  have hS3 := hS2.symm
  have z1 : (p : Int) ≤ (s.size : Int) := by omega
  have HR := hid hR
  have hsum : IntKind.i64.wrap ((p : Int) + (k : Int)) = ((p + k : Nat) : Int) := by rw [show (p : Int) + (k : Int) = ((p + k : Nat) : Int) by omega]; exact IntWalk.i64_in _ (by omega)
  obtain ⟨pk, hpk⟩ : ∃ pk, pk = p + k := ⟨_, rfl⟩
  rw [← hpk] at hsum ⊢
  clear hu hR hS2 hpk
  go_enter Tryd.func82, Tryd.ntmps82
  go_wp2_with fail
  refine lin_start (fun w' => w'.cell? ⟨R, 0, none⟩ = some (Value.string s) ∧ w'.cell? ⟨R, 1, none⟩ = some (Value.int .i64 (p : Int))) ((Stays.cell _ _).and ((Stays.cell _ _))) (by kernel_rfl) ⟨c0, c1⟩ (fun hSS hS => ?_)
  refine lin_val (i := 0) (v := ?_) rfl (by kernel_rfl) (by kernel_rfl) (by kernel_rfl) (fun _ _ _ h => h) hSS hS rfl (fun w hSw => ?_) ?_
  rotate_left
  · obtain ⟨q0, q1⟩ := hSw; go_simp; first | done | with_reducible rfl
  simp only [Act.put, List.setIfInBounds_toArray, List.set_cons_zero, List.set_cons_succ]
  refine lin_val (i := 1) (v := ?_) rfl (by kernel_rfl) (by kernel_rfl) (by kernel_rfl) (fun _ _ _ h => h) hSS hS rfl (fun w hSw => ?_) ?_
  rotate_left
  · obtain ⟨q0, q1⟩ := hSw; go_simp; first | done | with_reducible rfl
  simp only [Act.put, List.setIfInBounds_toArray, List.set_cons_zero, List.set_cons_succ]
  refine lin_val (i := 2) (v := ?_) rfl (by kernel_rfl) (by kernel_rfl) (by kernel_rfl) (fun _ _ _ h => h) hSS hS rfl (fun w hSw => ?_) ?_
  rotate_left
  · obtain ⟨q0, q1⟩ := hSw; go_simp; first | done | with_reducible rfl
  simp only [Act.put, List.setIfInBounds_toArray, List.set_cons_zero, List.set_cons_succ]
  refine lin_val (i := 3) (v := ?_) rfl (by kernel_rfl) (by kernel_rfl) (by kernel_rfl) (fun _ _ _ h => h) hSS hS rfl (fun w hSw => ?_) ?_
  rotate_left
  · obtain ⟨q0, q1⟩ := hSw; go_simp; first | done | with_reducible rfl
  simp only [Act.put, List.setIfInBounds_toArray, List.set_cons_zero, List.set_cons_succ]
  refine lin_val (i := 4) (v := ?_) rfl (by kernel_rfl) (by kernel_rfl) (by kernel_rfl) (fun _ _ _ h => h) hSS hS rfl (fun w hSw => ?_) ?_
  rotate_left
  · obtain ⟨q0, q1⟩ := hSw; go_simp; first | done | with_reducible rfl
  simp only [Act.put, List.setIfInBounds_toArray, List.set_cons_zero, List.set_cons_succ]
  refine lin_val (i := 5) (v := ?_) rfl (by kernel_rfl) (by kernel_rfl) (by kernel_rfl) (fun _ _ _ h => h) hSS hS rfl (fun w hSw => ?_) ?_
  rotate_left
  · obtain ⟨q0, q1⟩ := hSw; go_simp; first | done | with_reducible rfl
  simp only [Act.put, List.setIfInBounds_toArray, List.set_cons_zero, List.set_cons_succ]
  refine lin_val (i := 6) (v := ?_) rfl (by kernel_rfl) (by kernel_rfl) (by kernel_rfl) (fun _ _ _ h => h) hSS hS rfl (fun w hSw => ?_) ?_
  rotate_left
  · obtain ⟨q0, q1⟩ := hSw; go_simp; first | done | with_reducible rfl
  simp only [Act.put, List.setIfInBounds_toArray, List.set_cons_zero, List.set_cons_succ]
  refine lin_val (i := 7) (v := ?_) rfl (by kernel_rfl) (by kernel_rfl) (by kernel_rfl) (fun _ _ _ h => h) hSS hS rfl (fun w hSw => ?_) ?_
  rotate_left
  · obtain ⟨q0, q1⟩ := hSw; go_simp; first | done | with_reducible rfl
  simp only [Act.put, List.setIfInBounds_toArray, List.set_cons_zero, List.set_cons_succ]
  refine lin_val (i := 8) (v := ?_) rfl (by kernel_rfl) (by kernel_rfl) (by kernel_rfl) (fun _ _ _ h => h) hSS hS rfl (fun w hSw => ?_) ?_
  rotate_left
  · obtain ⟨q0, q1⟩ := hSw; go_simp; first | done | with_reducible rfl
  simp only [Act.put, List.setIfInBounds_toArray, List.set_cons_zero, List.set_cons_succ]
  refine lin_call (i := 9) rfl (by kernel_rfl) (by kernel_rfl) (by kernel_rfl) (fun _ _ _ h => h) hSS hS rfl (fun w _ => qu w) (fun w hSw => ?_) ?_
  · obtain ⟨q0, q1⟩ := hSw; go_simp
  simp only [Act.put, List.setIfInBounds_toArray, List.set_cons_zero, List.set_cons_succ]
  refine lin_val (i := 10) (v := ?_) rfl (by kernel_rfl) (by kernel_rfl) (by kernel_rfl) (fun _ _ _ h => h) hSS hS rfl (fun w hSw => ?_) ?_
  rotate_left
  · obtain ⟨q0, q1⟩ := hSw; go_simp; first | done | with_reducible rfl
  simp only [Act.put, List.setIfInBounds_toArray, List.set_cons_zero, List.set_cons_succ]
  refine lin_val (i := 11) (v := ?_) rfl (by kernel_rfl) (by kernel_rfl) (by kernel_rfl) (fun _ _ _ h => h) hSS hS rfl (fun w hSw => ?_) ?_
  rotate_left
  · obtain ⟨q0, q1⟩ := hSw; go_simp; first | done | with_reducible rfl
  simp only [Act.put, List.setIfInBounds_toArray, List.set_cons_zero, List.set_cons_succ]
  refine lin_val (i := 12) (v := ?_) rfl (by kernel_rfl) (by kernel_rfl) (by kernel_rfl) (fun _ _ _ h => h) hSS hS rfl (fun w hSw => ?_) ?_
  rotate_left
  · obtain ⟨q0, q1⟩ := hSw; go_simp; first | done | with_reducible rfl
  simp only [Act.put, List.setIfInBounds_toArray, List.set_cons_zero, List.set_cons_succ]
  refine lin_val (i := 13) (v := ?_) rfl (by kernel_rfl) (by kernel_rfl) (by kernel_rfl) (fun _ _ _ h => h) hSS hS rfl (fun w hSw => ?_) ?_
  rotate_left
  · obtain ⟨q0, q1⟩ := hSw; go_simp; first | done | with_reducible rfl
  simp only [Act.put, List.setIfInBounds_toArray, List.set_cons_zero, List.set_cons_succ]
  refine lin_val (i := 14) (v := ?_) rfl (by kernel_rfl) (by kernel_rfl) (by kernel_rfl) (fun _ _ _ h => h) hSS hS rfl (fun w hSw => ?_) ?_
  rotate_left
  · obtain ⟨q0, q1⟩ := hSw; go_simp; first | done | with_reducible rfl
  simp only [Act.put, List.setIfInBounds_toArray, List.set_cons_zero, List.set_cons_succ]
  refine lin_val (i := 15) (v := ?_) rfl (by kernel_rfl) (by kernel_rfl) (by kernel_rfl) (fun _ _ _ h => h) hSS hS rfl (fun w hSw => ?_) ?_
  rotate_left
  · obtain ⟨q0, q1⟩ := hSw; go_simp; first | done | with_reducible rfl
  simp only [Act.put, List.setIfInBounds_toArray, List.set_cons_zero, List.set_cons_succ]
  refine lin_val (i := 16) (v := ?_) rfl (by kernel_rfl) (by kernel_rfl) (by kernel_rfl) (fun _ _ _ h => h) hSS hS rfl (fun w hSw => ?_) ?_
  rotate_left
  · obtain ⟨q0, q1⟩ := hSw; go_simp; first | done | with_reducible rfl
  simp only [Act.put, List.setIfInBounds_toArray, List.set_cons_zero, List.set_cons_succ]
  refine lin_done (by kernel_rfl) (fun w1 kw1 => ?_) _
  clear hS hSS
  have hk1 : Kp [] w w1 := (Kp.refl _ _).drew.nil kw1
  have hR1 := HR.out.kept hk1
  obtain ⟨c0', c1', -⟩ := hR1.cells
  obtain ⟨f1, -⟩ := hR1.frees
  have HR1 := hid (And.intro hR1 hk1)
  clear c0 c1 hR1 hk1 kw1 qu hS3
  go_wp2_with fail
  go_ret
  exact ⟨rfl, HR1.out.1.put pk, kp_put (HR1.out.2.mono (by simp)) _ _ (.inr (by simp)) _⟩
def atOf (w : World) (R : Nat) : Nat := match w.cell? ⟨R, 1, none⟩ with | some (.int _ x) => x.toNat | _ => 0
theorem Rd.atOf {w : World} {R : Nat} {s : ByteArray} {p n : Nat} (h : Rd w R s p n) : atOf w R = p := by
  unfold Go.Proofs.YtpeldjihalldkaaDoor.atOf
  rw [h.cells.2.1]
  simp
set_option maxRecDepth 100000 in
set_option maxHeartbeats 6400000 in
theorem number_at (w : World) (R : Nat) (s : ByteArray) (p n m m2 : Nat) (hR : Rd w R s p n) (hb : ByteAt s p m) (hb2 : ByteAt s (p + 1) m2) (hm : m = 49 ∨ m = 50) (hm2 : m2 = 44 ∨ m2 = 93) (L : Txt) (hx : s.extract p (p + 1) = ⟨L.toArray⟩) (hL : L.length ≤ 100) (dd : Dc) (hd : parseL L = some (some dd)) :
    Calls Tryd.prog 84 #[.pointer (some ⟨R, 0, none⟩)] w fun e w' => e = .returned (.agg #[.int .i64 4, .int .u64 0, .bool dd.neg, .string ⟨(dtxt dd.n).toArray⟩, .int .i64 (dd.s : Int), .string ⟨#[]⟩, .slice none 0 0, .slice none 0 0, .int .i64 0]) ∧ Rd w' R s (p + 1) n ∧ Kp [R] w w' := by
  obtain ⟨c0, c1, -⟩ := hR.cells
  have qp := fun W => rparse_any W L (by omega)
  simp only [hd] at qp
  have qp2 : ∀ W, Calls Tryd.prog 35 #[.string ⟨L.toArray⟩] W fun e w' => e = .returned (.tuple #[.agg #[.bool dd.neg, .string ⟨(dtxt dd.n).toArray⟩, .int .i64 (dd.s : Int)], .int .i64 0]) ∧ Kp [] W w' := qp
  clear qp hd hL
  have qp := qp2
  have HR := hid (And.intro hR (And.intro hb (And.intro hb2 (And.intro hm hm2))))
  have hroom := VRoom.fresh w (.int .i64 0) (.int .u64 0) (.bool false) (.string ⟨#[]⟩) (.int .i64 0) (.string ⟨#[]⟩) (.slice none 0 0) (.slice none 0 0) (.int .i64 0)
  have hka : Kp [] w (w.alloc (.cells #[.int .i64 0, .int .u64 0, .bool false, .string ⟨#[]⟩, .int .i64 0, .string ⟨#[]⟩, .slice none 0 0, .slice none 0 0, .int .i64 0] 31)) := (Kp.refl _ _).alloc _
  have c0 := hka.cell c0 (by simp)
  have c1 := hka.cell c1 (by simp)
  obtain ⟨w1, hw1⟩ : ∃ w1, w1 = w.alloc (.cells #[.int .i64 0, .int .u64 0, .bool false, .string ⟨#[]⟩, .int .i64 0, .string ⟨#[]⟩, .slice none 0 0, .slice none 0 0, .int .i64 0] 31) := ⟨_, rfl⟩
  have HW := hid hw1
  rw [← hw1] at hroom hka
  have hR1 := hR.kept hka
  have hlt := hR.lt
  have HK := hid (And.intro hroom (And.intro hka hR1))
  have hplt := hb2.lt
  have hpfew := hb2.few
  clear hR hb hb2 hm hm2 hroom hka hR1 qp2 hw1
  go_enter Tryd.func84, Tryd.ntmps84
  go_wp2_with fail
  go_loopw [] (fun wr => ∃ i, i ≤ 1 ∧ Rd wr R s (p + i) n ∧ Kp [R] w1 wr) (fun wr => p + 2 - atOf wr R)
  case atStart => exact ⟨0, by omega, by rw [← HW.out]; exact HK.out.2.2, by rw [← HW.out]; exact Kp.refl _ _⟩
  case round =>
    obtain ⟨i, hi, hRr, hkr⟩ := hrel
    have hmi : ∃ mi, ByteAt s (p + i) mi ∧ (mi = 49 ∨ mi = 50 ∨ mi = 44 ∨ mi = 93) ∧ (mi == 49 || mi == 50) = decide (i = 0) := by
      obtain ⟨-, hb, hb2, hm, hm2⟩ := HR.out
      rcases (show i = 0 ∨ i = 1 by omega) with rfl | rfl
      · exact ⟨m, hb, by omega, by rcases hm with rfl | rfl <;> rfl⟩
      · exact ⟨m2, hb2, by omega, by rcases hm2 with rfl | rfl <;> rfl⟩
    obtain ⟨mi, hbi, hmi, hmb⟩ := hmi
    have qn : ∀ W, Calls Tryd.prog 96 #[.int .u8 (mi : Int)] W fun e w' => e = .returned (.bool (decide (i = 0))) ∧ Kp [] W w' := fun W => (numeral_at W mi hmi).mono fun e w' ⟨h1, h2⟩ => ⟨by rw [h1, hmb], by rw [h2]; exact Kp.refl _ _⟩
    have hat := hbi.at_
    obtain ⟨P, hP⟩ : ∃ P, P = p + i := ⟨_, rfl⟩
    have HI := hid (And.intro hi (And.intro hP hmb))
    rw [← hP] at hRr hat
    have hPs : P < s.size := by omega
    obtain ⟨c0, c1, -⟩ := hRr.cells
    obtain ⟨f1, -⟩ := hRr.frees
    have z1 : decide ((P : Int) < (s.size : Int)) = true := decide_eq_true (by omega)
    have z1n : decide (P < s.size) = true := decide_eq_true hPs
    have z1i : (P : Int) < (s.size : Int) := by omega
    have HRr := hid (And.intro hRr hkr)
    obtain ⟨b, hb⟩ : ∃ b, b = decide (i = 0) := ⟨_, rfl⟩
    simp only [← hb] at qn
    have HB := hid hb
    clear hi hP hmb hmi hbi hRr hkr hb
    go_wp2_with fail
    refine lin_start (fun w' => w'.cell? ⟨R, 0, none⟩ = some (Value.string s) ∧ w'.cell? ⟨R, 1, none⟩ = some (Value.int .i64 (P : Int))) ((Stays.cell _ _).and ((Stays.cell _ _))) (by kernel_rfl) ⟨c0, c1⟩ (fun hSS hS => ?_)
    refine lin_val (i := 0) (v := ?_) rfl (by kernel_rfl) (by kernel_rfl) (by kernel_rfl) (fun _ _ _ h => h) hSS hS rfl (fun w hSw => ?_) ?_
    rotate_left
    · obtain ⟨q0, q1⟩ := hSw; go_simp; first | done | with_reducible rfl
    simp only [Act.put, List.setIfInBounds_toArray, List.set_cons_zero, List.set_cons_succ]
    refine lin_val (i := 1) (v := ?_) rfl (by kernel_rfl) (by kernel_rfl) (by kernel_rfl) (fun _ _ _ h => h) hSS hS rfl (fun w hSw => ?_) ?_
    rotate_left
    · obtain ⟨q0, q1⟩ := hSw; go_simp; first | done | with_reducible rfl
    simp only [Act.put, List.setIfInBounds_toArray, List.set_cons_zero, List.set_cons_succ]
    refine lin_val (i := 2) (v := ?_) rfl (by kernel_rfl) (by kernel_rfl) (by kernel_rfl) (fun _ _ _ h => h) hSS hS rfl (fun w hSw => ?_) ?_
    rotate_left
    · obtain ⟨q0, q1⟩ := hSw; go_simp; first | done | with_reducible rfl
    simp only [Act.put, List.setIfInBounds_toArray, List.set_cons_zero, List.set_cons_succ]
    refine lin_val (i := 3) (v := ?_) rfl (by kernel_rfl) (by kernel_rfl) (by kernel_rfl) (fun _ _ _ h => h) hSS hS rfl (fun w hSw => ?_) ?_
    rotate_left
    · obtain ⟨q0, q1⟩ := hSw; go_simp; first | done | with_reducible rfl
    simp only [Act.put, List.setIfInBounds_toArray, List.set_cons_zero, List.set_cons_succ]
    refine lin_val (i := 4) (v := ?_) rfl (by kernel_rfl) (by kernel_rfl) (by kernel_rfl) (fun _ _ _ h => h) hSS hS rfl (fun w hSw => ?_) ?_
    rotate_left
    · obtain ⟨q0, q1⟩ := hSw; go_simp; first | done | with_reducible rfl
    simp only [Act.put, List.setIfInBounds_toArray, List.set_cons_zero, List.set_cons_succ]
    refine lin_val (i := 5) (v := ?_) rfl (by kernel_rfl) (by kernel_rfl) (by kernel_rfl) (fun _ _ _ h => h) hSS hS rfl (fun w hSw => ?_) ?_
    rotate_left
    · obtain ⟨q0, q1⟩ := hSw; go_simp; first | done | with_reducible rfl
    simp only [Act.put, List.setIfInBounds_toArray, List.set_cons_zero, List.set_cons_succ]
    refine lin_val (i := 6) (v := ?_) rfl (by kernel_rfl) (by kernel_rfl) (by kernel_rfl) (fun _ _ _ h => h) hSS hS rfl (fun w hSw => ?_) ?_
    rotate_left
    · obtain ⟨q0, q1⟩ := hSw; go_simp; first | done | with_reducible rfl
    simp only [Act.put, List.setIfInBounds_toArray, List.set_cons_zero, List.set_cons_succ]
    refine lin_val (i := 7) (v := ?_) rfl (by kernel_rfl) (by kernel_rfl) (by kernel_rfl) (fun _ _ _ h => h) hSS hS rfl (fun w hSw => ?_) ?_
    rotate_left
    · obtain ⟨q0, q1⟩ := hSw; go_simp; first | done | with_reducible rfl
    simp only [Act.put, List.setIfInBounds_toArray, List.set_cons_zero, List.set_cons_succ]
    refine lin_val (i := 8) (v := ?_) rfl (by kernel_rfl) (by kernel_rfl) (by kernel_rfl) (fun _ _ _ h => h) hSS hS rfl (fun w hSw => ?_) ?_
    rotate_left
    · obtain ⟨q0, q1⟩ := hSw; go_simp; first | done | with_reducible rfl
    simp only [Act.put, List.setIfInBounds_toArray, List.set_cons_zero, List.set_cons_succ]
    refine lin_val (i := 9) (v := ?_) rfl (by kernel_rfl) (by kernel_rfl) (by kernel_rfl) (fun _ _ _ h => h) hSS hS rfl (fun w hSw => ?_) ?_
    rotate_left
    · obtain ⟨q0, q1⟩ := hSw; go_simp; first | done | with_reducible rfl
    simp only [Act.put, List.setIfInBounds_toArray, List.set_cons_zero, List.set_cons_succ]
    refine lin_val (i := 10) (v := ?_) rfl (by kernel_rfl) (by kernel_rfl) (by kernel_rfl) (fun _ _ _ h => h) hSS hS rfl (fun w hSw => ?_) ?_
    rotate_left
    · obtain ⟨q0, q1⟩ := hSw; go_simp; first | done | with_reducible rfl
    simp only [Act.put, List.setIfInBounds_toArray, List.set_cons_zero, List.set_cons_succ]
    refine lin_val (i := 11) (v := ?_) rfl (by kernel_rfl) (by kernel_rfl) (by kernel_rfl) (fun _ _ _ h => h) hSS hS rfl (fun w hSw => ?_) ?_
    rotate_left
    · obtain ⟨q0, q1⟩ := hSw; go_simp; first | done | with_reducible rfl
    simp only [Act.put, List.setIfInBounds_toArray, List.set_cons_zero, List.set_cons_succ]
    refine lin_val (i := 12) (v := ?_) rfl (by kernel_rfl) (by kernel_rfl) (by kernel_rfl) (fun _ _ _ h => h) hSS hS rfl (fun w hSw => ?_) ?_
    rotate_left
    · obtain ⟨q0, q1⟩ := hSw; go_simp; first | done | with_reducible rfl
    simp only [Act.put, List.setIfInBounds_toArray, List.set_cons_zero, List.set_cons_succ]
    refine lin_val (i := 13) (v := ?_) rfl (by kernel_rfl) (by kernel_rfl) (by kernel_rfl) (fun _ _ _ h => h) hSS hS rfl (fun w hSw => ?_) ?_
    rotate_left
    · obtain ⟨q0, q1⟩ := hSw; go_simp; first | done | with_reducible rfl
    simp only [Act.put, List.setIfInBounds_toArray, List.set_cons_zero, List.set_cons_succ]
    refine lin_val (i := 14) (v := ?_) rfl (by kernel_rfl) (by kernel_rfl) (by kernel_rfl) (fun _ _ _ h => h) hSS hS rfl (fun w hSw => ?_) ?_
    rotate_left
    · obtain ⟨q0, q1⟩ := hSw; go_simp; first | done | with_reducible rfl
    simp only [Act.put, List.setIfInBounds_toArray, List.set_cons_zero, List.set_cons_succ]
    refine lin_val (i := 15) (v := ?_) rfl (by kernel_rfl) (by kernel_rfl) (by kernel_rfl) (fun _ _ _ h => h) hSS hS rfl (fun w hSw => ?_) ?_
    rotate_left
    · obtain ⟨q0, q1⟩ := hSw; go_simp; first | done | with_reducible rfl
    simp only [Act.put, List.setIfInBounds_toArray, List.set_cons_zero, List.set_cons_succ]
    refine lin_val (i := 16) (v := ?_) rfl (by kernel_rfl) (by kernel_rfl) (by kernel_rfl) (fun _ _ _ h => h) hSS hS rfl (fun w hSw => ?_) ?_
    rotate_left
    · obtain ⟨q0, q1⟩ := hSw; go_simp; first | done | with_reducible rfl
    simp only [Act.put, List.setIfInBounds_toArray, List.set_cons_zero, List.set_cons_succ]
    refine lin_val (i := 17) (v := ?_) rfl (by kernel_rfl) (by kernel_rfl) (by kernel_rfl) (fun _ _ _ h => h) hSS hS rfl (fun w hSw => ?_) ?_
    rotate_left
    · obtain ⟨q0, q1⟩ := hSw; go_simp; first | done | with_reducible rfl
    simp only [Act.put, List.setIfInBounds_toArray, List.set_cons_zero, List.set_cons_succ]
    refine lin_val (i := 18) (v := ?_) rfl (by kernel_rfl) (by kernel_rfl) (by kernel_rfl) (fun _ _ _ h => h) hSS hS rfl (fun w hSw => ?_) ?_
    rotate_left
    · obtain ⟨q0, q1⟩ := hSw; go_simp; first | done | with_reducible rfl
    simp only [Act.put, List.setIfInBounds_toArray, List.set_cons_zero, List.set_cons_succ]
    refine lin_val (i := 19) (v := ?_) rfl (by kernel_rfl) (by kernel_rfl) (by kernel_rfl) (fun _ _ _ h => h) hSS hS rfl (fun w hSw => ?_) ?_
    rotate_left
    · obtain ⟨q0, q1⟩ := hSw; go_simp; first | done | with_reducible rfl
    simp only [Act.put, List.setIfInBounds_toArray, List.set_cons_zero, List.set_cons_succ]
    refine lin_call (i := 20) rfl (by kernel_rfl) (by kernel_rfl) (by kernel_rfl) (fun _ _ _ h => h) hSS hS rfl (fun w _ => qn w) (fun w hSw => ?_) ?_
    · obtain ⟨q0, q1⟩ := hSw; go_simp
    simp only [Act.put, List.setIfInBounds_toArray, List.set_cons_zero, List.set_cons_succ]
    refine lin_val (i := 21) (v := ?_) rfl (by kernel_rfl) (by kernel_rfl) (by kernel_rfl) (fun _ _ _ h => h) hSS hS rfl (fun w hSw => ?_) ?_
    rotate_left
    · obtain ⟨q0, q1⟩ := hSw; go_simp; first | done | with_reducible rfl
    simp only [Act.put, List.setIfInBounds_toArray, List.set_cons_zero, List.set_cons_succ]
    refine lin_done (by kernel_rfl) (fun w2 kw2 => ?_) _
    clear hS hSS
    have hk2 : Kp [] wr w2 := (Kp.refl _ _).drew.nil kw2
    have hR2 := HRr.out.1.kept hk2
    have c0' := hR2.cells.1
    have c1' := hR2.cells.2.1
    have f1' := hR2.frees.1
    have HR2 := hid (And.intro hR2 hk2)
    clear c0 c1 f1 hk2 hR2 kw2
    cases b with
    | true =>
      have hsum : IntKind.i64.wrap ((P : Int) + 1) = ((P + 1 : Nat) : Int) := by rw [show (P : Int) + 1 = ((P + 1 : Nat) : Int) by omega]; exact IntWalk.i64_in _ (by omega)
      go_wp2_with fail
      go_roundw
      case rel =>
        have h0 : i = 0 := of_decide_eq_true HB.out.symm
        have h1 := HI.out.2.1
        subst h0
        refine ⟨1, by omega, ?_, kp_put ((HRr.out.2.trans HR2.out.2 (by simp))) _ _ (.inr (by simp)) _⟩
        have := HR2.out.1.put (P + 1)
        rw [show p + 1 = P + 1 by omega]
        exact this
      case measure =>
        have := HR2.out.1.put (P + 1)
        rw [HRr.out.1.atOf]
        have h2 := Rd.atOf this
        have h0 : i = 0 := of_decide_eq_true HB.out.symm
        have h1 := HI.out.2.1
        rw [show ((P : Int) + 1) = ((P + 1 : Nat) : Int) by omega, h2]
        omega
    | false =>
      have h0 : i = 1 := by have h0 : i ≠ 0 := of_decide_eq_false HB.out.symm; have := HI.out.1; omega
      have hPp : P = p + 1 := by have := HI.out.2.1; omega
      subst hPp
      have y1 : (p : Int) ≤ ((p + 1 : Nat) : Int) := by omega
      have y2 : ((p + 1 : Nat) : Int) ≤ (s.size : Int) := by omega
      have y3 : 0 ≤ (p : Int) + 1 := by omega
      have y4 : (p : Int) ≤ (p : Int) + 1 := by omega
      have y5 : (p : Int) + 1 ≤ (s.size : Int) := by omega
      have HR3 := HR2
      go_wp2_with fail
      refine lin_start (fun w' => w'.cell? ⟨R, 0, none⟩ = some (Value.string s) ∧ w'.cell? ⟨R, 1, none⟩ = some (Value.int .i64 ((p + 1 : Nat) : Int))) ((Stays.cell _ _).and ((Stays.cell _ _))) (by kernel_rfl) ⟨c0', c1'⟩ (fun hSS hS => ?_)
      refine lin_val (i := 0) (v := ?_) rfl (by kernel_rfl) (by kernel_rfl) (by kernel_rfl) (fun _ _ _ h => h) hSS hS rfl (fun w hSw => ?_) ?_
      rotate_left
      · obtain ⟨q0, q1⟩ := hSw; go_simp; first | done | with_reducible rfl
      simp only [Act.put, List.setIfInBounds_toArray, List.set_cons_zero, List.set_cons_succ]
      refine lin_val (i := 1) (v := ?_) rfl (by kernel_rfl) (by kernel_rfl) (by kernel_rfl) (fun _ _ _ h => h) hSS hS rfl (fun w hSw => ?_) ?_
      rotate_left
      · obtain ⟨q0, q1⟩ := hSw; go_simp; first | done | with_reducible rfl
      simp only [Act.put, List.setIfInBounds_toArray, List.set_cons_zero, List.set_cons_succ]
      refine lin_val (i := 2) (v := ?_) rfl (by kernel_rfl) (by kernel_rfl) (by kernel_rfl) (fun _ _ _ h => h) hSS hS rfl (fun w hSw => ?_) ?_
      rotate_left
      · obtain ⟨q0, q1⟩ := hSw; go_simp; first | done | with_reducible rfl
      simp only [Act.put, List.setIfInBounds_toArray, List.set_cons_zero, List.set_cons_succ]
      refine lin_val (i := 3) (v := ?_) rfl (by kernel_rfl) (by kernel_rfl) (by kernel_rfl) (fun _ _ _ h => h) hSS hS rfl (fun w hSw => ?_) ?_
      rotate_left
      · obtain ⟨q0, q1⟩ := hSw; go_simp; first | done | with_reducible rfl
      simp only [Act.put, List.setIfInBounds_toArray, List.set_cons_zero, List.set_cons_succ]
      refine lin_val (i := 4) (v := ?_) rfl (by kernel_rfl) (by kernel_rfl) (by kernel_rfl) (fun _ _ _ h => h) hSS hS rfl (fun w hSw => ?_) ?_
      rotate_left
      · obtain ⟨q0, q1⟩ := hSw; go_simp; first | done | with_reducible rfl
      simp only [Act.put, List.setIfInBounds_toArray, List.set_cons_zero, List.set_cons_succ]
      refine lin_val (i := 5) (v := ?_) rfl (by kernel_rfl) (by kernel_rfl) (by kernel_rfl) (fun _ _ _ h => h) hSS hS rfl (fun w hSw => ?_) ?_
      rotate_left
      · obtain ⟨q0, q1⟩ := hSw; go_simp; first | done | with_reducible rfl
      simp only [Act.put, List.setIfInBounds_toArray, List.set_cons_zero, List.set_cons_succ]
      refine lin_val (i := 6) (v := ?_) rfl (by kernel_rfl) (by kernel_rfl) (by kernel_rfl) (fun _ _ _ h => h) hSS hS rfl (fun w hSw => ?_) ?_
      rotate_left
      · obtain ⟨q0, q1⟩ := hSw; go_simp; first | done | with_reducible rfl
      simp only [Act.put, List.setIfInBounds_toArray, List.set_cons_zero, List.set_cons_succ]
      refine lin_val (i := 7) (v := ?_) rfl (by kernel_rfl) (by kernel_rfl) (by kernel_rfl) (fun _ _ _ h => h) hSS hS rfl (fun w hSw => ?_) ?_
      rotate_left
      · obtain ⟨q0, q1⟩ := hSw; go_simp; first | done | with_reducible rfl
      simp only [Act.put, List.setIfInBounds_toArray, List.set_cons_zero, List.set_cons_succ]
      refine lin_val (i := 8) (v := ?_) rfl (by kernel_rfl) (by kernel_rfl) (by kernel_rfl) (fun _ _ _ h => h) hSS hS rfl (fun w hSw => ?_) ?_
      rotate_left
      · obtain ⟨q0, q1⟩ := hSw; go_simp; first | done | with_reducible rfl
      simp only [Act.put, List.setIfInBounds_toArray, List.set_cons_zero, List.set_cons_succ]
      refine lin_val (i := 9) (v := ?_) rfl (by kernel_rfl) (by kernel_rfl) (by kernel_rfl) (fun _ _ _ h => h) hSS hS rfl (fun w hSw => ?_) ?_
      rotate_left
      · obtain ⟨q0, q1⟩ := hSw; go_simp; first | done | with_reducible rfl
      simp only [Act.put, List.setIfInBounds_toArray, List.set_cons_zero, List.set_cons_succ]
      refine lin_call (i := 10) rfl (by kernel_rfl) (by kernel_rfl) (by kernel_rfl) (fun _ _ _ h => h) hSS hS rfl (fun w _ => qp w) (fun w hSw => ?_) ?_
      · obtain ⟨q0, q1⟩ := hSw; go_simp
      simp only [Act.put, List.setIfInBounds_toArray, List.set_cons_zero, List.set_cons_succ]
      refine lin_val (i := 11) (v := ?_) rfl (by kernel_rfl) (by kernel_rfl) (by kernel_rfl) (fun _ _ _ h => h) hSS hS rfl (fun w hSw => ?_) ?_
      rotate_left
      · obtain ⟨q0, q1⟩ := hSw; go_simp; first | done | with_reducible rfl
      simp only [Act.put, List.setIfInBounds_toArray, List.set_cons_zero, List.set_cons_succ]
      refine lin_val (i := 12) (v := ?_) rfl (by kernel_rfl) (by kernel_rfl) (by kernel_rfl) (fun _ _ _ h => h) hSS hS rfl (fun w hSw => ?_) ?_
      rotate_left
      · obtain ⟨q0, q1⟩ := hSw; go_simp; first | done | with_reducible rfl
      simp only [Act.put, List.setIfInBounds_toArray, List.set_cons_zero, List.set_cons_succ]
      refine lin_val (i := 13) (v := ?_) rfl (by kernel_rfl) (by kernel_rfl) (by kernel_rfl) (fun _ _ _ h => h) hSS hS rfl (fun w hSw => ?_) ?_
      rotate_left
      · obtain ⟨q0, q1⟩ := hSw; go_simp; first | done | with_reducible rfl
      simp only [Act.put, List.setIfInBounds_toArray, List.set_cons_zero, List.set_cons_succ]
      refine lin_step (i := 14) (by kernel_rfl) rfl (fun wae kae K hK => ?_)
      go_simp
      refine hK.out _ _ (hSS _ _ hS (kae.alloc _)) (fun hS1 => ?_)
      clear hK K hS1
      try simp only [Act.put, List.setIfInBounds_toArray, List.set_cons_zero, List.set_cons_succ]
      refine lin_step (i := 15) (by kernel_rfl) rfl (fun wbe kbe K hK => ?_)
      have Re := (Room.fresh wae _ _ _).kept kbe
      obtain ⟨_, _, _, c0, c1, c2, f0, f1, f2⟩ := Re.cells
      go_simp
      clear c0 c1 c2 f0 f1 f2
      obtain ⟨kde, e0, e1, e2⟩ := Re.done ((kae.alloc _).nil kbe) kae.size (.bool dd.neg) (.string ⟨(dtxt dd.n).toArray⟩) (.int .i64 (dd.s : Int))
      refine hK.out _ _ (hSS _ _ hS kde) (fun hS1 => ?_)
      clear hK K hS Re kae kbe
      try simp only [Act.put, List.setIfInBounds_toArray, List.set_cons_zero, List.set_cons_succ]
      refine lin_val (i := 16) (v := ?_) rfl (by kernel_rfl) (by kernel_rfl) (by kernel_rfl) (fun _ _ _ h => h) hSS hS1 rfl (fun w hSw => ?_) ?_
      rotate_left
      · go_simp; first | done | with_reducible rfl
      try simp only [Act.put, List.setIfInBounds_toArray, List.set_cons_zero, List.set_cons_succ]
      refine lin_done (by kernel_rfl) (fun we kne => ?_) _
      replace e0 := kne.cell e0 (by simp)
      replace e1 := kne.cell e1 (by simp)
      replace e2 := kne.cell e2 (by simp)
      have kce := kde.nil kne
      clear hS1 hSS kde kne
      have hk1e : Kp [R] w1 we := ((HRr.out.2.trans HR3.out.2 (by simp)).nil (Kp.refl _ _).drew).nil kce
      have hRe : Rd we R s (p + 1) n := (HR3.out.1.kept (Kp.refl _ _).drew).kept kce
      have hroom : VRoom w.heap.size we := by have h1 := HK.out.1; rw [← HW.out] at *; exact h1.keep hk1e (by simp; omega)
      obtain ⟨a0, a1, a2, a3, a4, a5, a6, a7, a8, ⟨r0, r1, r2, r3, r4, r5, r6, r7, r8⟩, ⟨g0, g1, g2, g3, g4, g5, g6, g7, g8⟩⟩ := hroom.cells
      have HE := hid (And.intro hk1e hRe)
      clear hk1e hRe hroom kce c0' c1' f1' qp hx
      go_wp2_with fail
      refine bodyPost_ret (v := .agg #[.int .i64 4, .int .u64 0, .bool dd.neg, .string ⟨(dtxt dd.n).toArray⟩, .int .i64 (dd.s : Int), .string ⟨#[]⟩, .slice none 0 0, .slice none 0 0, .int .i64 0])
        (by simp [results, Tryd.results84, go_sem, r0, r1, r2, r3, r4, r5, r6, r7, r8]) rfl ⟨rfl, ?_, ?_⟩
      · exact HE.out.2.keep (kp_nine (Kp.refl [w.heap.size] _) _ (.inr (by simp)) _ _ _ _ _ _ _ _ _) (by simp; omega)
      · have hk : Kp [R] w we := (HK.out.2.1.mono (T := [R]) (by simp)).trans HE.out.1 (fun x hx _ => hx)
        exact kp_nine hk _ (.inl (Nat.le_refl _)) _ _ _ _ _ _ _ _ _
end Go.Proofs.YtpeldjihalldkaaDoor

/- The document's reader of texts at the example: a digit, the list. -/
namespace Go.Proofs.YtpeldjihalldkaaDoor
open Go Go.RowKit Go.Lib

/-- The example's text. -/
def exS : ByteArray := ⟨#[123, 34, 97, 34, 58, 49, 44, 34, 98, 34, 58, 91, 50, 93, 125]⟩
theorem exB (p m : Nat) (h : p < 15) (hm : (exS.data.toList[p]?.map UInt8.toNat) = some m) : ByteAt exS p m := by
  refine ⟨h, by decide, fun hp => ?_⟩
  have h2 : p < exS.data.toList.length := h
  rw [List.getElem?_eq_getElem h2] at hm
  exact Option.some.inj hm
theorem Rd.three {w : World} {R : Nat} {s : ByteArray} {p n : Nat} (h : Rd w R s p n) (q : Nat) : Rd (((w.setCell ⟨R, 2, none⟩ (.int .i64 (q : Int))).setCell ⟨R, 4, none⟩ (.bool false)).setCell ⟨R, 5, none⟩ (.bool false)) R s p q := ((h.node q).deep).big
theorem kp_three {S : List Nat} {w w' : World} (k : Kp S w w') (R : Nat) (hR : R ∈ S) (a b c : Value) : Kp S w (((w'.setCell ⟨R, 2, none⟩ a).setCell ⟨R, 4, none⟩ b).setCell ⟨R, 5, none⟩ c) :=
  kp_put (kp_put (kp_put k R 2 (.inr hR) a) R 4 (.inr hR) b) R 5 (.inr hR) c
abbrev zeroC : List Value := [.int .i64 0, .int .u64 0, .bool false, .string ⟨#[]⟩, .int .i64 0, .string ⟨#[]⟩, .slice none 0 0, .slice none 0 0, .int .i64 0]
set_option maxRecDepth 100000 in
set_option maxHeartbeats 6400000 in
theorem value_num (w : World) (R p n dp m m2 : Nat) (hR : Rd w R exS p n) (hb : ByteAt exS p m) (hb2 : ByteAt exS (p + 1) m2) (hm : m = 49 ∨ m = 50) (hm2 : m2 = 44 ∨ m2 = 93) (L : Txt) (hx : exS.extract p (p + 1) = ⟨L.toArray⟩) (hL : L.length ≤ 100) (dd : Dc) (hd : parseL L = some (some dd)) (hdp : dp ≤ 12) (hn : n ≤ 100) :
    Calls Tryd.prog 62 #[.pointer (some ⟨R, 0, none⟩), .int .i64 (dp : Int)] w fun e w' => e = .returned (.agg #[.int .i64 4, .int .u64 0, .bool dd.neg, .string ⟨(dtxt dd.n).toArray⟩, .int .i64 (dd.s : Int), .string ⟨#[]⟩, .slice none 0 0, .slice none 0 0, .int .i64 0]) ∧ Rd w' R exS (p + 1) (n + 1) ∧ Kp [R] w w' := by
  have q1 := fun W (h : Rd W R exS p n) => blanks_at W R exS p n m h hb (by omega)
  obtain ⟨N, hN⟩ : ∃ N, N = n + 1 := ⟨_, rfl⟩
  have q2 := fun W (h : Rd W R exS p N) => next_at W R exS p N m h hb
  have q3 := fun W (h : Rd W R exS p N) => number_at W R exS p N m m2 h hb hb2 hm hm2 L hx hL dd hd
  have hsum : IntKind.i64.wrap ((n : Int) + 1) = (N : Int) := by rw [show (n : Int) + 1 = (N : Int) by omega]; exact IntWalk.i64_in _ (by omega)
  have z12 : decide ((12 : Int) < (dp : Int)) = false := decide_eq_false (by omega)
  have z12n : decide (12 < dp) = false := decide_eq_false (by omega)
  have z40 : decide ((400 : Int) < (N : Int)) = false := decide_eq_false (by omega)
  have z40n : decide (400 < N) = false := decide_eq_false (by omega)
  rw [← hN]
  obtain ⟨w1, hw1⟩ : ∃ w1, w1 = w.alloc (.cells #[.int .i64 0, .int .u64 0, .bool false, .string ⟨#[]⟩, .int .i64 0, .string ⟨#[]⟩, .slice none 0 0, .slice none 0 0, .int .i64 0] 31) := ⟨_, rfl⟩
  have hroom : VRoom w.heap.size w1 := by rw [hw1]; exact VRoom.fresh w _ _ _ _ _ _ _ _ _
  have hka : Kp [] w w1 := by rw [hw1]; exact (Kp.refl _ _).alloc _
  have hR1 := hR.kept hka
  have hlt := hR.lt
  have HW := hid hw1
  have HK := hid (And.intro hroom (And.intro hka hR1))
  clear hx hL hd hdp hb hb2 hm2 hR hroom hka hR1 hn hN
  rcases hm with rfl | rfl
  all_goals
    go_enter Tryd.func62, Tryd.ntmps62
    go_wp2_with fail
    rw [← HW.out]
    (with_reducible refine (q1 _ HK.out.2.2).mono ?_)
    rintro e w2 ⟨⟨v, rfl⟩, k2⟩
    have hR2 := HK.out.2.2.kept k2
    obtain ⟨c0, c1, c2, c3, c4, c5⟩ := hR2.cells
    obtain ⟨f1, f2, f4, f5⟩ := hR2.frees
    have HR2 := hid (And.intro hR2 k2)
    clear q1 hR2 k2
    go_wp2_with fail
    (with_reducible refine (q2 _ (HR2.out.1.three N)).mono ?_)
    rintro e w3 ⟨rfl, k3⟩
    have hR3 := (HR2.out.1.three N).kept k3
    have hk3 : Kp [R] w1 w3 := (kp_three (HR2.out.2.mono (T := [R]) (by simp)) R (by simp) _ _ _).nil k3
    have HR3 := hid (And.intro hR3 hk3)
    clear q2 c0 c1 c2 c3 c4 c5 f1 f2 f4 f5 hR3 hk3 k3
    go_wp2_with fail
    (with_reducible refine (q3 _ HR3.out.1).mono ?_)
    rintro e w4 ⟨rfl, hR4, k4⟩
    have hk4 : Kp [R] w1 w4 := HR3.out.2.trans k4 (fun x hx _ => hx)
    have hroom := HK.out.1.keep hk4 (by simp; omega)
    obtain ⟨a0, a1, a2, a3, a4, a5, a6, a7, a8, ⟨r0, r1, r2, r3, r4, r5, r6, r7, r8⟩, ⟨g0, g1, g2, g3, g4, g5, g6, g7, g8⟩⟩ := hroom.cells
    have HE := hid (And.intro hk4 hR4)
    clear q3 hk4 hroom hR4 k4
    go_wp2_with fail
    refine bodyPost_ret (v := .agg #[.int .i64 4, .int .u64 0, .bool dd.neg, .string ⟨(dtxt dd.n).toArray⟩, .int .i64 (dd.s : Int), .string ⟨#[]⟩, .slice none 0 0, .slice none 0 0, .int .i64 0])
      (by simp [results, Tryd.results62, go_sem, r0, r1, r2, r3, r4, r5, r6, r7, r8]) rfl ⟨rfl, ?_, ?_⟩
    · exact HE.out.2.keep (kp_nine (Kp.refl [w.heap.size] _) _ (.inr (by simp)) _ _ _ _ _ _ _ _ _) (by simp; omega)
    · have hk : Kp [R] w w4 := (HK.out.2.1.mono (T := [R]) (by simp)).trans HE.out.1 (fun x hx _ => hx)
      exact kp_nine hk _ (.inl (Nat.le_refl _)) _ _ _ _ _ _ _ _ _
end Go.Proofs.YtpeldjihalldkaaDoor

/- The document's reader of texts at the example: the list. -/
namespace Go.Proofs.YtpeldjihalldkaaDoor
open Go Go.RowKit Go.Lib

theorem own_new {w : World} {e : TypeId} {s n N : Nat} {v : Value} {xs : List Value} (h : OwnN w e s v n xs) (h0 : xs ≠ []) (hb : v.ownBlock = none ∨ v.ownBlock = some N) : ∃ c, v = .slice (some ⟨N, 0, none⟩) n c := by
  obtain ⟨A, c, rfl, hs, h1, h2, hA⟩ := h.shape
  obtain ⟨ad, rfl, _⟩ := hs.get (j := 0) (List.length_pos_iff.2 h0)
  obtain ⟨had, hown⟩ := hA ad rfl
  rcases hb with hb | hb
  · rw [hown] at hb; cases hb
  · rw [hown] at hb
    injection hb with hb
    subst hb
    exact ⟨c, by rw [← had]⟩
abbrev oneC (x : UInt8) : List Value := [.int .i64 4, .int .u64 0, .bool false, .string ⟨#[x]⟩, .int .i64 0, .string ⟨#[]⟩, .slice none 0 0, .slice none 0 0, .int .i64 0]
theorem value_one (w : World) (R n dp : Nat) (hR : Rd w R exS 5 n) (hdp : dp ≤ 12) (hn : n ≤ 100) :
    Calls Tryd.prog 62 #[.pointer (some ⟨R, 0, none⟩), .int .i64 (dp : Int)] w fun e w' => e = .returned (.agg (oneC 49).toArray) ∧ Rd w' R exS 6 (n + 1) ∧ Kp [R] w w' := by
  have q := value_num w R 5 n dp 49 44 hR (exB 5 49 (by decide) rfl) (exB 6 44 (by decide) rfl) (.inl rfl) (.inl rfl) [49] (by decide) (by decide) ⟨false, 1, 0⟩ (by kernel_rfl) hdp hn
  have e1 : dtxt (⟨false, 1, 0⟩ : Dc).n = [49] := by kernel_rfl
  rw [e1] at q
  exact q
theorem value_two (w : World) (R n dp : Nat) (hR : Rd w R exS 12 n) (hdp : dp ≤ 12) (hn : n ≤ 100) :
    Calls Tryd.prog 62 #[.pointer (some ⟨R, 0, none⟩), .int .i64 (dp : Int)] w fun e w' => e = .returned (.agg (oneC 50).toArray) ∧ Rd w' R exS 13 (n + 1) ∧ Kp [R] w w' := by
  have q := value_num w R 12 n dp 50 93 hR (exB 12 50 (by decide) rfl) (exB 13 93 (by decide) rfl) (.inr rfl) (.inr rfl) [50] (by decide) (by decide) ⟨false, 2, 0⟩ (by kernel_rfl) hdp hn
  have e1 : dtxt (⟨false, 2, 0⟩ : Dc).n = [50] := by kernel_rfl
  rw [e1] at q
  exact q
set_option maxRecDepth 100000 in
set_option maxHeartbeats 12800000 in
theorem kids_list (w : World) (R n : Nat) (hR : Rd w R exS 11 n) (hn : n ≤ 50) :
    Calls Tryd.prog 83 #[.pointer (some ⟨R, 0, none⟩), .agg #[.int .i64 6, .int .u64 0, .bool false, .string ⟨#[]⟩, .int .i64 0, .string ⟨#[]⟩, .slice none 0 0, .slice none 0 0, .int .i64 0], .int .i64 2, .int .u8 93] w fun e w' => ∃ g c, e = .returned (.agg #[.int .i64 6, .int .u64 0, .bool false, .string ⟨#[]⟩, .int .i64 0, .string ⟨#[]⟩, .slice none 0 0, .slice (some ⟨g, 0, none⟩) 1 c, .int .i64 0]) ∧
      Rd w' R exS 14 (n + 1) ∧ OwnN w' 31 9 (.slice (some ⟨g, 0, none⟩) 1 c) 1 (oneC 50) ∧ w.heap.size ≤ g ∧ Kp [R] w w' := by
  have hlt := hR.lt
  obtain ⟨w0, hw0⟩ : ∃ w0, w0 = w.setCell ⟨R, 1, none⟩ (.int .i64 12) := ⟨_, rfl⟩
  have hR0 : Rd w0 R exS 12 n := by rw [hw0]; exact hR.put 12
  have hk0 : Kp [R] w w0 := by rw [hw0]; exact kp_put (Kp.refl _ _) R 1 (.inr (by simp)) _
  have hsz0 : w0.heap.size = w.heap.size := by rw [hw0]; simp [World.setCell]
  obtain ⟨w1, hw1⟩ : ∃ w1, w1 = (w0.alloc (.cells #[.int .i64 6, .int .u64 0, .bool false, .string ⟨#[]⟩, .int .i64 0, .string ⟨#[]⟩, .slice none 0 0, .slice none 0 0, .int .i64 0] 31)).alloc (.cells #[.int .i64 0, .int .u64 0, .bool false, .string ⟨#[]⟩, .int .i64 0, .string ⟨#[]⟩, .slice none 0 0, .slice none 0 0, .int .i64 0] 31) := ⟨_, rfl⟩
  have hroom : VRoom (w.heap.size + 1) w1 := by
    have := VRoom.fresh (w0.alloc (.cells #[.int .i64 6, .int .u64 0, .bool false, .string ⟨#[]⟩, .int .i64 0, .string ⟨#[]⟩, .slice none 0 0, .slice none 0 0, .int .i64 0] 31)) (.int .i64 0) (.int .u64 0) (.bool false) (.string ⟨#[]⟩) (.int .i64 0) (.string ⟨#[]⟩) (.slice none 0 0) (.slice none 0 0) (.int .i64 0)
    rw [hw1, ← hsz0]
    simpa using this
  have hka : Kp [R] w w1 := by rw [hw1]; exact (hk0.alloc _).alloc _
  have hsz1 : w1.heap.size = w.heap.size + 2 := by rw [hw1, ← hsz0]; simp
  have hbox : Cells w1 w.heap.size 31 [.int .i64 6, .int .u64 0, .bool false, .string ⟨#[]⟩, .int .i64 0, .string ⟨#[]⟩, .slice none 0 0, .slice none 0 0, .int .i64 0] := by rw [hw1, ← hsz0]; exact (Cells.fresh w0 31 _).alloc _
  have hR1 : Rd w1 R exS 12 n := by rw [hw1]; exact hR0.kept (((Kp.refl _ _).alloc _).alloc _)
  have q1 := fun W (h : Rd W R exS 12 n) => blanks_at W R exS 12 n 50 h (exB 12 50 (by decide) rfl) (by decide)
  have q2 := fun W (h : Rd W R exS 12 n) => next_at W R exS 12 n 50 h (exB 12 50 (by decide) rfl)
  have q3 := fun W (h : Rd W R exS 12 n) => value_two W R n 3 h (by decide) (by omega)
  have q4 := fun W (h : Rd W R exS 13 (n + 1)) => blanks_at W R exS 13 (n + 1) 93 h (exB 13 93 (by decide) rfl) (by decide)
  have q5 := fun W (h : Rd W R exS 13 (n + 1)) => next_at W R exS 13 (n + 1) 93 h (exB 13 93 (by decide) rfl)
  simp only [Int.cast_ofNat_Int] at q2 q3 q5
  have HW := hid hw1
  have HK := hid (And.intro hroom (And.intro hka (And.intro hsz1 (And.intro hbox hR1))))
  obtain ⟨c0, c1, -⟩ := hR.cells
  simp only [Int.cast_ofNat_Int] at c1
  obtain ⟨f1, -⟩ := hR.frees
  have HW0 := hid hw0
  clear hR hR0 hk0 hsz0 hroom hka hbox hR1 hw1 hsz1 hw0
  go_enter Tryd.func83, Tryd.ntmps83
  go_wp2_with fail
  rw [← HW0.out, ← HW.out]
  (with_reducible refine (q1 _ HK.out.2.2.2.2).mono ?_)
  rintro e w2 ⟨⟨v, rfl⟩, k2⟩
  have hR2 := HK.out.2.2.2.2.kept k2
  have hk2 : Kp [R] w1 w2 := (Kp.refl [R] w1).nil k2
  have HR2 := hid (And.intro hR2 hk2)
  clear k2 hR2 hk2 c0 c1 f1
  go_wp2_with fail
  (with_reducible refine (q2 _ HR2.out.1).mono ?_)
  rintro e w3 ⟨rfl, k3⟩
  have hR3 := HR2.out.1.kept k3
  have hk3 := HR2.out.2.nil k3
  obtain ⟨c0, c1, c2, c3, c4, c5⟩ := hR3.cells
  have hb3 := HK.out.2.2.2.1.keep hk3 (by simp; omega)
  have b0 := hb3.cell 0
  have HR3 := hid (And.intro hR3 (And.intro hk3 hb3))
  clear k3 hR3 hk3 q2 c0 c1 c2 c4 c5 hb3
  go_wp2_with fail
  go_loopw [9] (fun v9 wr => v9 = .int .i64 0 ∧ wr = w3) (fun _ _ => 0)
  case atStart => exact ⟨rfl, rfl⟩
  case round =>
    obtain ⟨rfl, hw⟩ := hrel
    subst hw
    go_wp2_with fail
    (with_reducible refine (q1 _ HR3.out.1).mono ?_)
    rintro e w4 ⟨⟨v, rfl⟩, k4⟩
    have hR4 := HR3.out.1.kept k4
    have hk4 := HR3.out.2.1.nil k4
    have hb4 := HR3.out.2.2.keep k4 (by simp)
    have c3 := hR4.cells.2.2.2.1
    have b0 := hb4.cell 0
    have HR4 := hid (And.intro hR4 (And.intro hk4 hb4))
    clear k4 hR4 hk4 hb4 q1
    go_wp2_with fail
    (with_reducible refine (q3 _ HR4.out.1).mono ?_)
    rintro e w5 ⟨rfl, hR5, k5⟩
    have hk5 : Kp [R] w1 w5 := HR4.out.2.1.trans k5 (fun x hx _ => hx)
    have hb5 := HR4.out.2.2.keep k5 (by simp; omega)
    have b0 := hb5.cell 0
    have b7 := hb5.cell 7
    have g7 := hb5.free 7
    obtain ⟨c0, c1, c2, c3, c4, c5⟩ := hR5.cells
    obtain ⟨f1, f2, f4, f5⟩ := hR5.frees
    have HR5 := hid (And.intro hR5 (And.intro hk5 hb5))
    clear k5 hR5 hk5 hb5 q3
    have cc5 := fun o => ((Kp.refl [] w5).alloc o).cell c5 (by simp)
    have ff5 := fun o => Cells.free (HR5.out.1.kept ((Kp.refl [] w5).alloc o)) 5
    have hk6 : ∀ o, Kp [R] w5 ((w5.alloc o).setCell ⟨R, 5, none⟩ (.bool false)) := fun o => kp_put ((Kp.refl _ _).alloc o) R 5 (.inr (by simp)) _
    have hb6 := fun o => HR5.out.2.2.keep (hk6 o) (by simp; omega)
    have bb0 := fun o => (hk6 o).cell b0 (by simp; omega)
    have bb7 := fun o => (hk6 o).cell b7 (by simp; omega)
    have HB6 := hid (And.intro hk6 hb6)
    have hne : R ≠ w5.heap.size := by have := HR5.out.1.lt; omega
    have hne2 : w5.heap.size ≠ R := hne.symm
    clear hk6 hb6
    go_wp2_with (at_builtin; go_must (refine wpList_appendN rfl _ _ 28 rfl 31 _ 9 120 Tryd.underlying28 infoVal rfl (by decide) (.slice none 0 0) 0 [] rfl (OwnN.nil _ _ _) _ 1 1 (oneC 50) rfl ?_ ?_ ?_ ?_ ?_ ?_))
    · exact Span.of_newAt _ _ _ _ (by simp [World.setCell])
    · rfl
    · (intro u hu; simp only [List.mem_cons, List.not_mem_nil, or_false] at hu; rcases hu with rfl | rfl | rfl | rfl | rfl | rfl | rfl | rfl | rfl <;> rfl)
    · decide
    · decide
    intro v7 w7 ho7 hk7 hb7
    obtain ⟨c7, rfl⟩ := own_new ho7 (by simp) hb7
    have hb7' := ((HB6.out.2 _).alloc _).keep hk7 (by simp [Value.ownBlock])
    have hk57 : Kp [R] w5 w7 := ((HB6.out.1 _).alloc _).trans hk7 (by simp [Value.ownBlock])
    have hR7 : Rd w7 R exS 13 (n + 1) := (((HR5.out.1.kept ((Kp.refl _ _).alloc _)).big).kept ((Kp.refl _ _).alloc _)).keep hk7 (by simp [Value.ownBlock])
    have d7 := hb7'.cell 7
    have e7 := hb7'.free 7
    have hk17 := HR5.out.2.1.trans hk57 (fun x hx _ => hx)
    have HV := hid (And.intro ho7 (And.intro hk17 (And.intro hR7 hb7')))
    clear ho7 hk7 hb7 hb7' hk57 hR7 hk17 bb0 bb7 cc5 ff5 hne hne2 b0 b7 g7 c0 c1 c2 c3 c4 c5 f1 f2 f4 f5
    have hk78 : Kp [w.heap.size] w7 (w7.setCell ⟨w.heap.size, 7, none⟩ (.slice (some ⟨w5.heap.size + 1 + 1, 0, none⟩) 1 c7)) := kp_put (Kp.refl _ _) _ _ (.inr (by simp)) _
    have hR8 := HV.out.2.2.1.keep hk78 (by simp; omega)
    have hk18 : Kp [R, w.heap.size] w1 (w7.setCell ⟨w.heap.size, 7, none⟩ (.slice (some ⟨w5.heap.size + 1 + 1, 0, none⟩) 1 c7)) := (HV.out.2.1.mono (by simp)).trans hk78 (fun x hx _ => by simp at hx; simp [hx])
    have ho8 := HV.out.1.keep hk78 (by intro g hg; injection hg with hg; subst hg; have := HR5.out.2.1.size; have := HK.out.2.2.1; simp; omega)
    have hb8 := HV.out.2.2.2.put 7 (.slice (some ⟨w5.heap.size + 1 + 1, 0, none⟩) 1 c7)
    simp only [List.set_cons_zero, List.set_cons_succ] at hb8
    have H8 := hid (And.intro hR8 (And.intro hk18 (And.intro ho8 hb8)))
    clear hk78 hR8 hk18 ho8 hb8
    go_wp2_with fail
    (with_reducible refine (q4 _ H8.out.1).mono ?_)
    rintro e w9 ⟨⟨v, rfl⟩, k9⟩
    have H9 := hid (And.intro (H8.out.1.kept k9) (And.intro (H8.out.2.1.nil k9) (And.intro (H8.out.2.2.1.kept k9) (H8.out.2.2.2.keep k9 (by simp)))))
    clear k9 d7 e7 q4
    go_wp2_with fail
    (with_reducible refine (q5 _ H9.out.1).mono ?_)
    rintro e wA ⟨rfl, kA⟩
    have HA := hid (And.intro (H9.out.1.kept kA) (And.intro (H9.out.2.1.nil kA) (And.intro (H9.out.2.2.1.kept kA) (H9.out.2.2.2.keep kA (by simp)))))
    have c1 := HA.out.1.cells.2.1
    have f1 := HA.out.1.frees.1
    simp only [Int.cast_ofNat_Int] at c1
    clear kA q5
    have hkB : Kp [R] wA (wA.setCell ⟨R, 1, none⟩ (.int .i64 14)) := kp_put (Kp.refl _ _) _ _ (.inr (by simp)) _
    have hbB := HA.out.2.2.2.keep hkB (by simp; omega)
    have hroom : VRoom (w.heap.size + 1) (wA.setCell ⟨R, 1, none⟩ (.int .i64 14)) := (HK.out.1.keep HA.out.2.1 (by simp; omega)).keep hkB (by simp; omega)
    have b0 := hbB.cell 0
    have b1 := hbB.cell 1
    have b2 := hbB.cell 2
    have b3 := hbB.cell 3
    have b4 := hbB.cell 4
    have b5 := hbB.cell 5
    have b6 := hbB.cell 6
    have b7 := hbB.cell 7
    have b8 := hbB.cell 8
    obtain ⟨a0, a1, a2, a3, a4, a5, a6, a7, a8, ⟨r0, r1, r2, r3, r4, r5, r6, r7, r8⟩, ⟨g0, g1, g2, g3, g4, g5, g6, g7, g8⟩⟩ := hroom.cells
    have hRB : Rd (wA.setCell ⟨R, 1, none⟩ (.int .i64 14)) R exS 14 (n + 1) := HA.out.1.put 14
    have hkwB : Kp [R, w.heap.size] w1 (wA.setCell ⟨R, 1, none⟩ (.int .i64 14)) := HA.out.2.1.trans hkB (fun x hx _ => by simp at hx; simp [hx])
    have hoB := HA.out.2.2.1.keep hkB (by intro g hg; injection hg with hg; subst hg; have := HR5.out.2.1.size; have := HK.out.2.2.1; simp; omega)
    have HE := hid (And.intro hRB (And.intro hkwB hoB))
    clear hkB hbB hroom hRB hkwB hoB
    go_wp2_with fail
    refine bodyPost_ret (v := .agg #[.int .i64 6, .int .u64 0, .bool false, .string ⟨#[]⟩, .int .i64 0, .string ⟨#[]⟩, .slice none 0 0, .slice (some ⟨w5.heap.size + 1 + 1, 0, none⟩) 1 c7, .int .i64 0])
      (by simp [results, Tryd.results83, go_sem, r0, r1, r2, r3, r4, r5, r6, r7, r8]) rfl ⟨_, _, rfl, ?_, ?_, ?_, ?_⟩
    · exact HE.out.1.keep (kp_nine (Kp.refl [w.heap.size + 1] _) _ (.inr (by simp)) _ _ _ _ _ _ _ _ _) (by simp; omega)
    · refine HE.out.2.2.keep (kp_nine (Kp.refl [w.heap.size + 1] _) _ (.inr (by simp)) _ _ _ _ _ _ _ _ _) ?_
      intro g hg
      injection hg with hg
      subst hg
      have := HR5.out.2.1.size
      have := HK.out.2.2.1
      simp
      omega
    · have := HR5.out.2.1.size
      have := HK.out.2.2.1
      omega
    · have hk : Kp [R] w (wA.setCell ⟨R, 1, none⟩ (.int .i64 14)) := HK.out.2.1.trans HE.out.2.1 (fun x hx hl => by simp at hx; rcases hx with rfl | rfl <;> simp at hl ⊢)
      exact kp_nine hk _ (.inl (Nat.le_succ _)) _ _ _ _ _ _ _ _ _
end Go.Proofs.YtpeldjihalldkaaDoor

