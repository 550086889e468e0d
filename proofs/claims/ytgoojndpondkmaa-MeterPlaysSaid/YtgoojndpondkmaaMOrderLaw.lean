/- Plain: numbers noted in whichever order. -/
import Derived.Test.YtgoojndpondkmaaMMerge
namespace Go.Proofs.Ytgoojndpondkmaa
open Go Go.RowKit

theorem and3 (n : Int) : bits .and .i64 n 3 = n % 4 := by
  have h3 : (BitVec.ofInt 64 3).toNat = 2 ^ 2 - 1 := by decide
  have key : (BitVec.ofInt 64 n &&& BitVec.ofInt 64 3).toNat = (n % ((2 ^ 64 : Nat) : Int)).toNat % 2 ^ 2 := by
    rw [BitVec.toNat_and, BitVec.toNat_ofInt, h3, Nat.and_two_pow_sub_one_eq_mod]
  show IntKind.i64.wrap ((BitVec.ofInt 64 n &&& BitVec.ofInt 64 3).toNat : Nat) = n % 4
  rw [key, IntKind.wrap_i64]
  omega
theorem and20 (n : Int) : bits .and .i64 n 1048575 = n % 1048576 := by
  have h3 : (BitVec.ofInt 64 1048575).toNat = 2 ^ 20 - 1 := by decide
  have key : (BitVec.ofInt 64 n &&& BitVec.ofInt 64 1048575).toNat = (n % ((2 ^ 64 : Nat) : Int)).toNat % 2 ^ 20 := by
    rw [BitVec.toNat_and, BitVec.toNat_ofInt, h3, Nat.and_two_pow_sub_one_eq_mod]
  show IntKind.i64.wrap ((BitVec.ofInt 64 n &&& BitVec.ofInt 64 1048575).toNat : Nat) = n % 1048576
  rw [key, IntKind.wrap_i64]
  omega
/-- Noting a number that is not refused. -/
def put1 (ds : List Dl) (p : Int × Int) : List Dl := ds.set p.1.toNat ((ds.getD p.1.toNat Dl.zero).add 1 p.2 p.2)
def putAll (ds : List Dl) (l : List (Int × Int)) : List Dl := l.foldl put1 ds
theorem length_put1 (ds : List Dl) (p : Int × Int) : (put1 ds p).length = ds.length := by simp [put1]
theorem length_putAll : ∀ (l : List (Int × Int)) (ds : List Dl), (putAll ds l).length = ds.length
  | [], _ => rfl
  | p :: l, ds => by rw [putAll, List.foldl_cons, ← putAll, length_putAll l, length_put1]
theorem add_comm2 (d : Dl) (n m : Int) : (d.add 1 n n).add 1 m m = (d.add 1 m m).add 1 n n := by
  simp only [Dl.add]
  congr 1 <;> omega
theorem getD_put1 (ds : List Dl) (p : Int × Int) (i : Nat) (hi : i < ds.length) : (put1 ds p).getD i Dl.zero = if p.1.toNat = i then (ds.getD i Dl.zero).add 1 p.2 p.2 else ds.getD i Dl.zero := by
  unfold put1
  by_cases h : p.1.toNat < ds.length
  · rw [getD_set _ _ _ _ h]
    by_cases e : p.1.toNat = i
    · rw [if_pos e, if_pos e, e]
    · rw [if_neg e, if_neg e]
  · rw [List.set_eq_of_length_le (by omega), if_neg (by omega)]
theorem put1_comm (ds : List Dl) (p q : Int × Int) : put1 (put1 ds p) q = put1 (put1 ds q) p := by
  refine ext_getD (by simp [length_put1]) fun i hi => ?_
  have hl : i < ds.length := by simpa [length_put1] using hi
  rw [getD_put1 (put1 ds p) q i (by simpa [length_put1] using hl), getD_put1 ds p i hl, getD_put1 (put1 ds q) p i (by simpa [length_put1] using hl), getD_put1 ds q i hl]
  by_cases h1 : p.1.toNat = i <;> by_cases h2 : q.1.toNat = i
  · simp only [if_pos h1, if_pos h2]
    exact add_comm2 _ _ _
  · simp only [if_pos h1, if_neg h2]
  · simp only [if_neg h1, if_pos h2]
  · simp only [if_neg h1, if_neg h2]
theorem putAll_put : ∀ (l : List (Int × Int)) (ds : List Dl) (p : Int × Int), putAll (put1 ds p) l = put1 (putAll ds l) p
  | [], _, _ => rfl
  | q :: l, ds, p => by
    show putAll (put1 (put1 ds p) q) l = put1 (putAll (put1 ds q) l) p
    rw [put1_comm, putAll_put l]
theorem putAll_reverse : ∀ (l : List (Int × Int)) (ds : List Dl), putAll ds l.reverse = putAll ds l
  | [], _ => rfl
  | p :: l, ds => by
    rw [List.reverse_cons, putAll, List.foldl_append]
    show put1 (putAll ds l.reverse) p = putAll (put1 ds p) l
    rw [putAll_reverse l, putAll_put]
theorem putAll_snoc (ds : List Dl) (l : List (Int × Int)) (k : Nat) (h : k < l.length) : putAll ds (l.take (k + 1)) = put1 (putAll ds (l.take k)) l[k] := by
  rw [take_snoc_get l k h, putAll, List.foldl_append]
  rfl
/-- What holds of dials behind i notes of numbers below 2^20. -/
def Few (i : Nat) (ds : List Dl) : Prop := ∀ d ∈ ds, 0 ≤ d.c ∧ d.c ≤ (i : Int) ∧ 0 ≤ d.m ∧ d.m ≤ d.t ∧ d.t ≤ (i : Int) * 1048576
theorem few_zero (n : Nat) : Few 0 (List.replicate n Dl.zero) := fun d hd => by
  rw [List.eq_of_mem_replicate hd]
  simp [Dl.zero]
theorem few_getD {i : Nat} {ds : List Dl} (h : Few i ds) (j : Nat) : 0 ≤ (ds.getD j Dl.zero).c ∧ (ds.getD j Dl.zero).c ≤ (i : Int) ∧ 0 ≤ (ds.getD j Dl.zero).m ∧ (ds.getD j Dl.zero).m ≤ (ds.getD j Dl.zero).t ∧ (ds.getD j Dl.zero).t ≤ (i : Int) * 1048576 := by
  rw [List.getD_eq_getElem?_getD]
  rcases Nat.lt_or_ge j ds.length with hi | hi
  · rw [List.getElem?_eq_getElem hi]
    exact h _ (List.getElem_mem hi)
  · rw [List.getElem?_eq_none hi]
    simp [Dl.zero]
    omega
theorem few_put {i : Nat} {ds : List Dl} {p : Int × Int} (h : Few i ds) (h0 : 0 ≤ p.2) (h1 : p.2 < 1048576) : Few (i + 1) (put1 ds p) := by
  intro d hd
  rcases List.mem_or_eq_of_mem_set hd with hd | rfl
  · have := h d hd
    omega
  · have := few_getD h p.1.toNat
    simp only [Dl.add]
    omega
theorem few_ok {i : Nat} {ds : List Dl} (h : Few i ds) (hi : i ≤ 200) : ∀ d ∈ ds, d.ok 200 := fun d hd => by
  have := h d hd
  unfold Dl.ok
  omega
theorem note_put {i : Nat} {ds : List Dl} {k n : Int} (h : Few i ds) (hi : i ≤ 200) (h0 : 0 ≤ k) (h1 : k < (ds.length : Int)) (h2 : 0 ≤ n) (h3 : n < 1048576) : noteE ds k n = 0 ∧ noteD ds k n = put1 ds (k, n) := by
  have hb := few_getD h k.toNat
  have he : noteE ds k n = 0 := by
    rw [noteE, if_neg (by omega), if_neg (by omega)]
  refine ⟨he, ?_⟩
  rw [noteD, if_pos he]
  rfl
def mask (p : Int × Int) : Int × Int := (p.1 % 4, p.2 % 1048576)
theorem mask_in (p : Int × Int) : 0 ≤ (mask p).1 ∧ (mask p).1 < 4 ∧ 0 ≤ (mask p).2 ∧ (mask p).2 < 1048576 := by
  unfold mask
  simp only
  omega
/-- Both, merged into a third. -/
theorem merge_two (ds : List Dl) (i : Nat) (hi : i < ds.length) :
    (mergeD ds ds).getD i Dl.zero = ⟨2 * (ds.getD i Dl.zero).c, 2 * (ds.getD i Dl.zero).t, (ds.getD i Dl.zero).m⟩ := by
  rw [mergeD, getD_mergeK _ _ _ _ hi, if_pos hi]
  simp only [Dl.add]
  congr 1 <;> omega
theorem length_mergeD (ds es : List Dl) : (mergeD ds es).length = ds.length := length_mergeK _ _ _
theorem MAt.beside_all {w w' : World} {a b : Nat} {gs hs : List Nat} {ds es : List Dl} (h : MAt w b hs es) (hA : MAt w a gs ds) (k : Kp (a :: gs) w w') (hne : b ≠ a) (hap : ∀ g ∈ gs, g ∉ hs) : MAt w' b hs es := by
  obtain ⟨cs, hc⟩ := hA.cells
  refine h.keep k ?_ ?_ ?_
  · intro hm
    rcases List.mem_cons.1 hm with e | e
    · exact hne e
    · exact hA.not_dial h b e rfl
  · intro g hg hm
    rcases List.mem_cons.1 hm with e | e
    · exact h.not_dial hA g hg e
    · exact hap g e hg
  · intro s hs'
    rcases List.mem_cons.1 hs' with e | e
    · exact ⟨_, _, e ▸ hc, by decide⟩
    · rcases hA with ⟨v, _, _, h3⟩ | ⟨rfl, _, _⟩
      · obtain ⟨d, hd⟩ := h3.mem e
        exact ⟨_, _, hd, by decide⟩
      · cases e
theorem MAt.beside_two {w w' : World} {a b c : Nat} {gs hs fs : List Nat} {ds es cs : List Dl} (h : MAt w b hs es) (hA : MAt w a gs ds) (hC : MAt w c fs cs) (k : Kp (a :: c :: gs) w w') (hne : b ≠ a) (hne2 : b ≠ c) (hap : ∀ g ∈ gs, g ∉ hs) : MAt w' b hs es := by
  obtain ⟨xs, hx⟩ := hA.cells
  obtain ⟨ys, hy⟩ := hC.cells
  refine h.keep k ?_ ?_ ?_
  · intro hm
    simp only [List.mem_cons] at hm
    rcases hm with e | e | e
    · exact hne e
    · exact hne2 e
    · exact hA.not_dial h b e rfl
  · intro g hg hm
    simp only [List.mem_cons] at hm
    rcases hm with e | e | e
    · exact h.not_dial hA g hg e
    · exact h.not_dial hC g hg e
    · exact hap g e hg
  · intro s hs'
    simp only [List.mem_cons] at hs'
    rcases hs' with e | e | e
    · exact ⟨_, _, e ▸ hx, by decide⟩
    · exact ⟨_, _, e ▸ hy, by decide⟩
    · rcases hA with ⟨v, _, _, h3⟩ | ⟨rfl, _, _⟩
      · obtain ⟨d, hd⟩ := h3.mem e
        exact ⟨_, _, hd, by decide⟩
      · cases e
theorem kp_new2 {w w1 w2 : World} {a c : Nat} {gs : List Nat} (k1 : Kp [] w w1) (k2 : Kp (a :: c :: gs) w1 w2) (ha : w.heap.size ≤ a) (hc : w.heap.size ≤ c) (hg : ∀ g ∈ gs, w.heap.size ≤ g) : Kp [] w w2 := k1.trans k2 (by
  intro y hy hl
  simp only [List.mem_cons] at hy
  rcases hy with rfl | rfl | hy
  · omega
  · omega
  · have := hg y hy
    omega)
end Go.Proofs.Ytgoojndpondkmaa
