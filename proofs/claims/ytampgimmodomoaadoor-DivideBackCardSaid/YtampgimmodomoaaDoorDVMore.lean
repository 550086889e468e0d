/- Small contracts for the laws of layer 2: sure ones, refused ones. -/
import Derived.Test.YtampgimmodomoaaDoorDVBase
import Derived.Test.YtampgimmodomoaaDoorDRSub
import Derived.Test.YtampgimmodomoaaDoorDRMul
import Derived.Test.YtampgimmodomoaaDoorDRCmp
import Derived.Test.YtampgimmodomoaaDoorDRInt
namespace Go.Proofs.YtampgimmodomoaaDoor
open Go Go.RowKit Go.Lib

theorem rmay_no {r : RawD} (hr : r.ok) (h : mayL r.neg r.l r.s = false) (W : World) : Calls Tryd.prog 23 #[.agg #[.bool r.neg, .string ⟨r.l.toArray⟩, .int .i64 r.s]] W fun e w' => e = .returned (.bool false) ∧ Kp [] W w' := by
  have h2 := rmay_any W r.neg r.l r.s hr.1 hr.2
  rw [h] at h2
  exact h2
theorem may_true {d : Dc} (hd : Ok d) : mayL d.neg (dtxt d.n) (d.s : Int) = true := (may_iff _ _ _).2 ⟨d, hd, rfl, rfl, rfl⟩
theorem raw_ok {d : Dc} (hd : Ok d) : (RawD.mk d.neg (dtxt d.n) (d.s : Int)).ok := ⟨by have := length_dtxt_le (k := 60) hd.1 (by decide); show (dtxt d.n).length ≤ _; omega, by show _ ≤ (d.s : Int); omega, by show (d.s : Int) ≤ _; have := hd.2.1; omega⟩
theorem rmay_ok2 {d : Dc} (hd : Ok d) (W : World) : Calls Tryd.prog 23 #[.agg #[.bool d.neg, .string ⟨(dtxt d.n).toArray⟩, .int .i64 (d.s : Int)]] W fun e w' => e = .returned (.bool true) ∧ Kp [] W w' := by
  have h := rmay_any W d.neg (dtxt d.n) (d.s : Int) (raw_ok hd).1 (raw_ok hd).2
  rw [may_true hd] at h
  exact h
theorem vmay_ok2 {a b : Dc} (ha : Ok a) (hb : Ok b) (W : World) : Calls Tryd.prog 36 #[.agg #[.bool a.neg, .string ⟨(dtxt a.n).toArray⟩, .int .i64 (a.s : Int)], .agg #[.bool b.neg, .string ⟨(dtxt b.n).toArray⟩, .int .i64 (b.s : Int)]] W fun e w' => e = .returned (.bool true) ∧ Kp [] W w' := by
  have h := vmay_any W ⟨a.neg, dtxt a.n, a.s⟩ ⟨b.neg, dtxt b.n, b.s⟩ (raw_ok ha) (raw_ok hb)
  simp only [may_true ha, may_true hb, Bool.and_true] at h
  exact h
theorem dtxt_no48 {n : Nat} (h : n ≠ 0) : (dtxt n == [48]) = false := by
  rw [beq_eq_false_iff_ne]
  intro e
  have := val_dtxt n
  rw [e] at this
  exact h this.symm
theorem ok_one : Ok (oneD false) := ⟨by show 1 < topN; unfold topN; decide, Nat.zero_le _, fun e => absurd e (by decide), .inl rfl⟩
theorem ok_int1 : Ok (intD 1) := ok_int (by show 1 < topN; unfold topN; decide)
theorem radd_sure {a b d : Dc} (ha : Ok a) (hb : Ok b) (h : addD a b = some d) (W : World) : Calls Tryd.prog 25 #[.agg #[.bool a.neg, .string ⟨(dtxt a.n).toArray⟩, .int .i64 (a.s : Int)], .agg #[.bool b.neg, .string ⟨(dtxt b.n).toArray⟩, .int .i64 (b.s : Int)]] W fun e w' => e = .returned (.tuple #[.agg #[.bool d.neg, .string ⟨(dtxt d.n).toArray⟩, .int .i64 (d.s : Int)], .int .i64 0]) ∧ Kp [] W w' := by
  have q := radd_sym ha hb
  rw [h] at q
  exact q W
theorem rmul_sym2 {a b : Dc} (ha : Ok a) (hb : Ok b) : Gives 28 #[.agg #[.bool a.neg, .string ⟨(dtxt a.n).toArray⟩, .int .i64 (a.s : Int)], .agg #[.bool b.neg, .string ⟨(dtxt b.n).toArray⟩, .int .i64 (b.s : Int)]] (mulD a b) := fun W => (rmul_any W a b ha hb).mono fun e w' ⟨h1, h2⟩ => ⟨by rw [h1, resV_is], h2⟩
theorem radd_none {a b : Dc} (ha : Ok a) (hb : Ok b) (h : addD a b = none) (W : World) : Calls Tryd.prog 25 #[.agg #[.bool a.neg, .string ⟨(dtxt a.n).toArray⟩, .int .i64 (a.s : Int)], .agg #[.bool b.neg, .string ⟨(dtxt b.n).toArray⟩, .int .i64 (b.s : Int)]] W fun e w' => e = .returned (.tuple #[.agg #[.bool false, .string ⟨#[]⟩, .int .i64 0], .int .i64 3]) ∧ Kp [] W w' := by
  have q := radd_sym ha hb
  rw [h] at q
  exact q W
theorem rmul_sure {a b d : Dc} (ha : Ok a) (hb : Ok b) (h : mulD a b = some d) (W : World) : Calls Tryd.prog 28 #[.agg #[.bool a.neg, .string ⟨(dtxt a.n).toArray⟩, .int .i64 (a.s : Int)], .agg #[.bool b.neg, .string ⟨(dtxt b.n).toArray⟩, .int .i64 (b.s : Int)]] W fun e w' => e = .returned (.tuple #[.agg #[.bool d.neg, .string ⟨(dtxt d.n).toArray⟩, .int .i64 (d.s : Int)], .int .i64 0]) ∧ Kp [] W w' := by
  have q := rmul_sym2 ha hb
  rw [h] at q
  exact q W
theorem rmul_none {a b : Dc} (ha : Ok a) (hb : Ok b) (h : mulD a b = none) (W : World) : Calls Tryd.prog 28 #[.agg #[.bool a.neg, .string ⟨(dtxt a.n).toArray⟩, .int .i64 (a.s : Int)], .agg #[.bool b.neg, .string ⟨(dtxt b.n).toArray⟩, .int .i64 (b.s : Int)]] W fun e w' => e = .returned (.tuple #[.agg #[.bool false, .string ⟨#[]⟩, .int .i64 0], .int .i64 3]) ∧ Kp [] W w' := by
  have q := rmul_sym2 ha hb
  rw [h] at q
  exact q W
theorem floor_sure {a d : Dc} (ha : Ok a) (h : floorD a = some d) (w : World) : Calls Tryd.prog 41 #[.agg #[.bool a.neg, .string ⟨(dtxt a.n).toArray⟩, .int .i64 (a.s : Int)]] w fun e w' => e = .returned (.tuple #[.agg #[.bool d.neg, .string ⟨(dtxt d.n).toArray⟩, .int .i64 (d.s : Int)], .int .i64 0]) ∧ Kp [] w w' := by
  have q := floor_any w a ha
  rw [h] at q
  exact q
theorem ceil_sure {a d : Dc} (ha : Ok a) (h : ceilD a = some d) (w : World) : Calls Tryd.prog 42 #[.agg #[.bool a.neg, .string ⟨(dtxt a.n).toArray⟩, .int .i64 (a.s : Int)]] w fun e w' => e = .returned (.tuple #[.agg #[.bool d.neg, .string ⟨(dtxt d.n).toArray⟩, .int .i64 (d.s : Int)], .int .i64 0]) ∧ Kp [] w w' := by
  have q := ceil_any w a ha
  rw [h] at q
  exact q
theorem div_none {a b : Dc} (ha : Ok a) (hb : Ok b) (hb0 : b.n ≠ 0) (h : divD a b = none) (w : World) : Calls Tryd.prog 37 #[.agg #[.bool a.neg, .string ⟨(dtxt a.n).toArray⟩, .int .i64 (a.s : Int)], .agg #[.bool b.neg, .string ⟨(dtxt b.n).toArray⟩, .int .i64 (b.s : Int)]] w fun e w' => e = .returned (.tuple #[.agg #[.bool false, .string ⟨#[]⟩, .int .i64 0], .int .i64 3]) ∧ Kp [] w w' := by
  have q := div_any w a b ha hb hb0
  rw [h] at q
  exact q
theorem pow_sym {d : Dc} (hd : Ok d) (k : Nat) (hk : k ≤ 99) : Gives 45 #[.agg #[.bool d.neg, .string ⟨(dtxt d.n).toArray⟩, .int .i64 (d.s : Int)], .int .i64 (k : Int)] (powD d k) := fun W => (pow_any W d hd k hk).mono fun e w' ⟨h1, h2⟩ => ⟨by rw [h1, resV_is], h2⟩
theorem pow_sure {d p : Dc} (hd : Ok d) (k : Nat) (hk : k ≤ 99) (h : powD d k = some p) (w : World) : Calls Tryd.prog 45 #[.agg #[.bool d.neg, .string ⟨(dtxt d.n).toArray⟩, .int .i64 (d.s : Int)], .int .i64 (k : Int)] w fun e w' => e = .returned (.tuple #[.agg #[.bool p.neg, .string ⟨(dtxt p.n).toArray⟩, .int .i64 (p.s : Int)], .int .i64 0]) ∧ Kp [] w w' := by
  have q := pow_sym hd k hk
  rw [h] at q
  exact q w
theorem floor_some {d : Dc} (hd : Ok d) : ∃ f, floorD d = some f := ⟨_, floor_z hd⟩
theorem and63 (n : Int) : ∃ k : Nat, k < 64 ∧ bits .and .i64 n 63 = (k : Int) := by
  obtain ⟨m, hm⟩ : ∃ m, m = (BitVec.ofInt 64 n &&& BitVec.ofInt 64 63).toNat := ⟨_, rfl⟩
  have h9 : m ≤ 63 := by
    rw [hm, BitVec.toNat_and]
    exact Nat.and_le_right
  refine ⟨m, by omega, ?_⟩
  show IntKind.i64.wrap (((BitVec.ofInt 64 n &&& BitVec.ofInt 64 63).toNat : Nat) : Int) = _
  rw [← hm]
  exact IntWalk.i64_in _ (by omega)
end Go.Proofs.YtampgimmodomoaaDoor
