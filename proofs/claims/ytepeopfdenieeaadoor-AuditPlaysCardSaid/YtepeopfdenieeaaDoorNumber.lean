/- frame.number: a number behind bytes, the highest byte first; and what appends come to. -/
import Derived.Test.YtepeopfdenieeaaDoorProg
import Derived.Test.YtepeopfdenieeaaDoorLaws
namespace Go.Proofs.YtepeopfdenieeaaDoor
open Go Go.RowKit

theorem infoByte : (Tryd.prog.info? 5).map (fun i => (i.zero, i.size, i.bytes)) = some (some (.int .u8 0), 1, 1) := by kernel_rfl

/-- What appends do: the old row's block may be written, the new row's is that or a new one. -/
structure Grew (w : World) (v : Value) (w' : World) (v' : Value) : Prop where
  kp : Kp v.ownBlock.toList w w'
  blk : ∀ g, v'.ownBlock = some g → v.ownBlock = some g ∨ w.heap.size ≤ g
theorem Grew.refl (w : World) (v : Value) : Grew w v w v := ⟨Kp.refl _ _, fun _ h => .inl h⟩
theorem Grew.trans {w w1 w2 : World} {v v1 v2 : Value} (h : Grew w v w1 v1) (k : Grew w1 v1 w2 v2) : Grew w v w2 v2 :=
  ⟨h.kp.trans k.kp (by
    intro x hx hl
    simp only [Option.mem_toList] at hx ⊢
    rcases h.blk x hx with h | h
    · exact h
    · omega),
   fun g hg => by
    rcases k.blk g hg with h1 | h1
    · exact h.blk g h1
    · exact .inr (Nat.le_trans h.kp.size h1)⟩
theorem Grew.kept {w w1 w2 : World} {v v1 : Value} (h : Grew w v w1 v1) (k : Kp [] w1 w2) : Grew w v w2 v1 := ⟨h.kp.nil k, h.blk⟩
theorem Grew.before {w0 w w1 : World} {v v1 : Value} (k : Kp [] w0 w) (h : Grew w v w1 v1) (_hv : ∀ g, v.ownBlock = some g → g < w0.heap.size) : Grew w0 v w1 v1 :=
  ⟨(k.mono (by simp)).trans h.kp (by intro x hx _; exact hx), fun g hg => by
    rcases h.blk g hg with h1 | h1
    · exact .inl h1
    · exact .inr (Nat.le_trans k.size h1)⟩
theorem Grew.of_append {w w' : World} {v v' : Value} {N : Nat} (h : Kp v.ownBlock.toList w w') (hb : v'.ownBlock = v.ownBlock ∨ v'.ownBlock = some N) (hN : w.heap.size ≤ N) : Grew w v w' v' :=
  ⟨h, fun g hg => by
    rcases hb with hb | hb
    · exact .inl (hb ▸ hg)
    · rw [hb] at hg; injection hg with hg; exact .inr (hg ▸ hN)⟩
/-- Of a new row all that was is kept. -/
theorem Grew.fresh {w0 w w' : World} {v v' : Value} (h : Grew w v w' v') (k : Kp [] w0 w) (hv : ∀ g, v.ownBlock = some g → w0.heap.size ≤ g) : Kp [] w0 w' :=
  k.trans h.kp (by intro x hx hl; simp only [Option.mem_toList] at hx; have := hv x hx; omega)
theorem Grew.new {w0 w w' : World} {v v' : Value} (h : Grew w v w' v') (k : Kp [] w0 w) (hv : ∀ g, v.ownBlock = some g → w0.heap.size ≤ g) : ∀ g, v'.ownBlock = some g → w0.heap.size ≤ g := fun g hg => by
  rcases h.blk g hg with h1 | h1
  · exact hv g h1
  · exact Nat.le_trans k.size h1

theorem one_oneCell {k : IntKind} (x : Int) : ∀ u ∈ [Value.int k x], u.oneCell' = true := by
  intro u hu
  rw [List.mem_singleton.1 hu]
  rfl
/-- So many bytes of a number, the highest first. -/
def be (wide x : Nat) : List UInt8 := (List.range wide).map fun i => UInt8.ofNat (x / 2 ^ (8 * (wide - 1 - i)))
theorem length_be (wide x : Nat) : (be wide x).length = wide := by simp [be]
theorem be_get (wide x k : Nat) (h : k < (be wide x).length) : (be wide x)[k] = UInt8.ofNat (x / 2 ^ (8 * (wide - 1 - k))) := by simp [be]
theorem be_take (wide x k : Nat) (h : k < wide) : (be wide x).take (k + 1) = (be wide x).take k ++ [UInt8.ofNat (x / 2 ^ (8 * (wide - 1 - k)))] := by
  rw [List.take_add_one, List.getElem?_eq_getElem (by rw [length_be]; exact h), be_get]
  rfl

def NumPost (w : World) (v : Value) (n : Nat) (xs : List Value) (wide x : Nat) (e : Ending) (w' : World) : Prop :=
  ∃ v', e = .returned v' ∧ Own w' 5 v' (n + wide) (xs ++ u8s (be wide x)) ∧ Grew w v w' v'

set_option maxHeartbeats 400000 in
set_option maxRecDepth 100000 in
theorem number_any (w : World) (v : Value) (n : Nat) (xs : List Value) (wide x : Nat) (hown : Own w 5 v n xs) (hn : n ≤ 1000000000000) (hw : wide ≤ 4) (_hx : x < 4294967296) :
    Calls Tryd.prog 39 #[v, .int .u32 (x : Int), .int .i64 (wide : Int)] w (NumPost w v n xs wide x) := by
  go_enter Tryd.func39, Tryd.ntmps39
  go_wp2_with fail
  go_loopw [0, 9] (fun v' i wr => ∃ k : Nat, k ≤ wide ∧ i = .int .i64 k ∧ Own wr 5 v' (n + k) (xs ++ u8s ((be wide x).take k)) ∧ Grew w v wr v') (fun _ i _ => wide - (intOf i).toNat)
  case atStart => exact ⟨0, by omega, rfl, by simpa [u8s] using hown, Grew.refl _ _⟩
  case round =>
    obtain ⟨k, hk, rfl, ho, hg⟩ := hrel
    by_cases hlt : k < wide
    · go_wp2_with (at_builtin; go_must (refine wpList_append1 rfl _ _ 25 rfl 5 (.int .u8 0) 1 Tryd.underlying25 infoByte rfl _ _ _ rfl (ho.kept ((Kp.refl _ _).alloc _)) _ 1 1 [.int .u8 _] rfl (Span.of_new wr _ _ _) rfl (one_oneCell _) ?_ ?_ ?_))
      · omega
      · omega
      intro v1 w1 ho1 hk1 hb1
      go_wp2_with fail
      go_roundw
      case rel =>
        refine ⟨k + 1, by omega, by go_num, ?_, hg.trans ((Grew.of_append hk1 hb1 (by simp)).before ((Kp.refl _ _).alloc _) ho.lt)⟩
        rw [be_take wide x k hlt, u8s_append, ← Nat.add_assoc]
        have e : u8s [UInt8.ofNat (x / 2 ^ (8 * (wide - 1 - k)))] = [Value.int .u8 ((x : Int) / 2 ^ (8 * (wide - 1 - k)) % 256)] := by simp [u8s, u8]
        rw [e]
        exact ho1
      case measure => simp [intOf]; omega
    · go_wp2_with fail
      go_ret
      obtain rfl : k = wide := by omega
      exact ⟨_, rfl, by simpa [List.take_of_length_le, length_be] using ho, hg⟩
end Go.Proofs.YtepeopfdenieeaaDoor
