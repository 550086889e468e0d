/- Same of two rows of numbers that read alike. -/
import Derived.Test.YtgoojndpondkmaaMMerge
import Derived.ChangeKeysEq
namespace Go.Proofs.Ytgoojndpondkmaa
open Go Go.RowKit

theorem rowsOf_get (ds : List Dl) (k : Nat) (h : k < ds.length) : (rowsOf ds)[k * 3]? = some (.int .i64 ds[k].c) ∧ (rowsOf ds)[k * 3 + 1]? = some (.int .i64 ds[k].t) ∧ (rowsOf ds)[k * 3 + 2]? = some (.int .i64 ds[k].m) := by
  induction ds generalizing k with
  | nil => simp at h
  | cons d ds ih =>
    cases k with
    | zero => simp [rowsOf, Dl.cells]
    | succ k =>
      obtain ⟨h1, h2, h3⟩ := ih k (by simpa using h)
      have e : (k + 1) * 3 = k * 3 + 3 := by omega
      rw [e]
      simpa [rowsOf, Dl.cells] using And.intro h1 (And.intro h2 h3)
theorem length_rowsOf (ds : List Dl) : (rowsOf ds).length = ds.length * 3 := by
  induction ds with
  | nil => rfl
  | cons d ds ih => simp [rowsOf, Dl.cells] at ih ⊢; omega
theorem own_rows {w : World} {v : Value} {ds : List Dl} (h : OwnN w 39 3 v ds.length (rowsOf ds)) : ∃ A c, v = .slice A ds.length c ∧ ∀ k, k < ds.length → ∃ g, A = some ⟨g, 0, none⟩ ∧
    w.cell? ⟨g, k * 3, none⟩ = some (.int .i64 (ds.getD k Dl.zero).c) ∧ w.cell? ⟨g, k * 3 + 1, none⟩ = some (.int .i64 (ds.getD k Dl.zero).t) ∧ w.cell? ⟨g, k * 3 + 2, none⟩ = some (.int .i64 (ds.getD k Dl.zero).m) := by
  obtain ⟨A, c, rfl, hsp, -, -, hA⟩ := h.shape
  refine ⟨A, c, rfl, fun k hk => ?_⟩
  obtain ⟨h1, h2, h3⟩ := rowsOf_get ds k hk
  have hd : ds.getD k Dl.zero = ds[k] := by rw [List.getD_eq_getElem?_getD, List.getElem?_eq_getElem hk]; rfl
  rw [hd]
  obtain ⟨ad, rfl, c1⟩ := hsp _ _ h1
  obtain ⟨ad2, e2, c2⟩ := hsp _ _ h2
  obtain ⟨ad3, e3, c3⟩ := hsp _ _ h3
  injection e2 with e2
  injection e3 with e3
  subst e2 e3
  obtain ⟨had, -⟩ := hA ad rfl
  rw [had] at c1 c2 c3
  have ex : ∀ j, (⟨ad.block, 0, none⟩ : Addr).add j = ⟨ad.block, j, none⟩ := fun j => by
    unfold Addr.add
    split
    · rename_i h0; rw [h0]
    · simp
  rw [ex] at c1 c2 c3
  exact ⟨ad.block, by rw [← had], c1, c2, c3⟩
theorem infoInt : (Try.prog.info? 3).isSome = true := by kernel_rfl
theorem part_int (xs : Array Value) (i : Nat) (k : IntKind) (x : Int) (h : xs[i]? = some (.int k x)) (w : World) : (part 3 xs i).run Try.prog w = .ok (.int k x) w := by
  simp [part, Try.isAgg3, h]
@[go_sem ↓ high] theorem neq3 (x y z : Int) (w : World) : (binOp .neq 39 (.agg #[.int .i64 x, .int .i64 y, .int .i64 z]) (.agg #[.int .i64 x, .int .i64 y, .int .i64 z])).run Try.prog w = .ok (.bool false) w := by
  obtain ⟨i, hi⟩ := Option.isSome_iff_exists.1 infoInt
  have c1 : Try.prog.cellsOf 3 = 1 := by kernel_rfl
  rw [run_neq_struct, run_equalIn_array (d := 9999) w _ _ Try.underlying39 hi, c1]
  simp [List.range_succ, Op.eqItems, part_int _ _ .i64 _ _, run_equalIn_int, Try.underlying3, Result.andThen]
def SamePost (w : World) (e : Ending) (w' : World) : Prop := e = .returned (.bool true) ∧ Kp [] w w'
set_option maxHeartbeats 800000 in
theorem same_any (w : World) (v u : Value) (ds : List Dl) (h1 : OwnN w 39 3 v ds.length (rowsOf ds)) (h2 : OwnN w 39 3 u ds.length (rowsOf ds)) (hn : ds.length ≤ 1000) :
    Calls Try.prog 10 #[v, u] w (SamePost w) := by
  obtain ⟨A, c, rfl, a1⟩ := own_rows h1
  obtain ⟨B, d, rfl, b1⟩ := own_rows h2
  obtain ⟨n, hn0⟩ : ∃ n, n = ds.length := ⟨_, rfl⟩
  rw [← hn0] at a1 b1 hn ⊢
  have HA := hid (And.intro a1 b1)
  clear hn0 a1 b1 h1 h2
  go_enter Try.func10, Try.ntmps10
  go_wp2_with fail
  go_loopw [5] (fun i wr => ∃ k : Nat, k ≤ n ∧ i = .int .i64 k ∧ Kp [] w wr) (fun i _ => n - (intOf i).toNat)
  case atStart => exact ⟨0, by omega, rfl, Kp.refl _ _⟩
  case round =>
    obtain ⟨k, hk, rfl, kr⟩ := hrel
    by_cases hlt : k < n
    · obtain ⟨g, rfl, x0, x1, x2⟩ := HA.out.1 k hlt
      obtain ⟨q, rfl, y0, y1, y2⟩ := HA.out.2 k hlt
      generalize ds.getD k Dl.zero = x at *
      have x0 := kr.cell x0 (by simp)
      have x1 := kr.cell x1 (by simp)
      have x2 := kr.cell x2 (by simp)
      have y0 := kr.cell y0 (by simp)
      have y1 := kr.cell y1 (by simp)
      have y2 := kr.cell y2 (by simp)
      have i1 : (0 : Int) ≤ (k : Int) := by omega
      have i2 : (k : Int) < (n : Int) := by omega
      go_wp2_with fail
      go_quiet (fail)
      go_wp2_with fail
      go_roundw
      case rel => exact ⟨k + 1, by omega, by go_num, kr.drewN _⟩
      case measure => simp [intOf]; omega
    · go_wp2_with fail
      go_ret
      exact ⟨rfl, kr⟩
end Go.Proofs.Ytgoojndpondkmaa
