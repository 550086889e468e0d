/- SinkRooms: of two sinks that never crash the one with more room takes at least as much, of writes of one byte. -/
import Derived.Test.YtepeopfdenieeaaShown18
namespace Go.Proofs.Ytepeopfdenieeaa
open Go Go.RowKit

/-- The sink of room r, that never crashes, behind k writes of the bytes of l, one by one. -/
def rk (l : List UInt8) (r : Int) (k : Nat) : SK := ⟨l.take (min k r.toNat), r, -1, false⟩
theorem rk_yes (l : List UInt8) (r : Int) (k : Nat) (hk : k < l.length) (h : k < r.toNat) : (rk l r k).write [l[k]] = (rk l r (k + 1), 1, 0) := by
  have h1 : min k r.toNat = k := Nat.min_eq_left (by omega)
  have h2 : min (k + 1) r.toNat = k + 1 := Nat.min_eq_left (by omega)
  have h3 : (l.take k).length = k := by rw [List.length_take]; omega
  have h4 : l.take (k + 1) = l.take k ++ [l[k]] := by rw [List.take_succ_eq_append_getElem hk]
  simp only [rk, SK.write, h1, h2, h3, h4]
  rw [if_neg (by simp), if_neg (by omega), if_neg (by simp; omega)]
  simp
theorem rk_no (l : List UInt8) (r : Int) (k : Nat) (hk : k < l.length) (hr : 0 ≤ r) (h : r.toNat ≤ k) : (rk l r k).write [l[k]] = (rk l r (k + 1), 0, 50) := by
  have h1 : min k r.toNat = r.toNat := Nat.min_eq_right (by omega)
  have h2 : min (k + 1) r.toNat = r.toNat := Nat.min_eq_right (by omega)
  have h3 : (l.take r.toNat).length = r.toNat := by rw [List.length_take]; omega
  simp only [rk, SK.write, h1, h2, h3]
  rw [if_neg (by simp), if_neg (by omega), if_pos (by simp; omega)]

def NextPost (w : World) (a : Nat) (s : SK) (n e : Int) (en : Ending) (w' : World) : Prop := en = .returned (.tuple #[.int .i64 n, .int .i64 e]) ∧ SinkAt w' a s ∧ Kp [a] w w'
theorem rk_call (w : World) (a : Nat) (l : List UInt8) (r : Int) (k : Nat) (A : Option Addr) (c : Nat) (hk : k < l.length) (hr : 0 ≤ r) (hr2 : r ≤ 1048576) (hs : SinkAt w a (rk l r k)) (hb : Span w A (u8s [l[k]])) (hA : ∀ ad, A = some ad → ad.block ≠ a) (hc : 1 ≤ c)
    (n e : Int) (hn : (k < r.toNat ∧ n = 1 ∧ e = 0) ∨ (r.toNat ≤ k ∧ n = 0 ∧ e = 50)) :
    Calls Try.prog 8 #[.pointer (some ⟨a, 0, none⟩), .slice A 1 c] w (NextPost w a (rk l r (k + 1)) n e) := by
  refine (write_any w a (rk l r k) A 1 c [l[k]] hs hb hA rfl hc (by simp [rk]) (by simp [rk]) ?_ (by omega)).mono ?_
  · simp only [rk, List.length_take]; omega
  · rintro en w' ⟨rfl, h2, h3⟩
    rcases hn with ⟨h, rfl, rfl⟩ | ⟨h, rfl, rfl⟩
    · rw [rk_yes l r k hk h] at h2 ⊢; exact ⟨rfl, h2, h3⟩
    · rw [rk_no l r k hk hr h] at h2 ⊢; exact ⟨rfl, h2, h3⟩

theorem rk_at (w : World) (a : Nat) (x r : Int) (l : List UInt8) (h : SinkAt w a (SK.make x (-1))) (hr : r = (SK.make x (-1)).room) : SinkAt w a (rk l r 0) := by
  have e : SK.make x (-1) = rk l r 0 := by simp [rk, hr, SK.make]
  rw [← e]; exact h

theorem extract_take (Y : List UInt8) (n : Nat) : ((⟨Y.toArray⟩ : ByteArray).extract 0 n).toList = Y.take n := by
  have : ((⟨Y.toArray⟩ : ByteArray).extract 0 n) = ⟨(Y.take n).toArray⟩ := by
    rw [ByteArray.extract_mk]
    simp
  rw [this]
  simp

theorem rk_final (l : List UInt8) (x r t : Int) (k n : Nat) (hk : k = min n 300) (hn : l.length = n) (hr : r = (SK.make x (-1)).room) (hrt : r ≤ t) :
    (rk l r k).xs.length ≤ (rk l t k).xs.length ∧ ((⟨(rk l t k).xs.toArray⟩ : ByteArray).extract 0 (rk l r k).xs.length).toList = (rk l r k).xs ∧
    ((rk l r k).xs.length : Int) = min (max x 0) (min (n : Int) 300) := by
  simp only [SK.make] at hr
  have h1 : (rk l r k).xs.length = min k r.toNat := by simp only [rk, List.length_take]; omega
  have h2 : (rk l t k).xs.length = min k t.toNat := by simp only [rk, List.length_take]; omega
  refine ⟨by omega, ?_, by omega⟩
  rw [extract_take, h1]
  simp only [rk, List.take_take]
  congr 1
  omega

set_option maxRecDepth 100000 in
set_option maxHeartbeats 2000000 in
theorem rooms_core (w : World) (a b r t : Int) (A : Option Addr) (n c : Nat) (l : List UInt8) (hl : Span w A (u8s l)) (hn : Hid (l.length = n)) (hc : n ≤ c) (_hm : c ≤ 9223372036854775807)
    (Hr : Hid (r = (SK.make (min a b) (-1)).room)) (Ht : Hid (t = (SK.make (max a b) (-1)).room)) (hr0 : 0 ≤ r) (hr2 : r ≤ 1048576) (ht2 : t ≤ 1048576) (hrt : r ≤ t) :
    Calls Try.prog 3 #[.int .i64 a, .int .i64 b, .slice A n c] w (YesPost w) := by
  go_enter Try.func3, Try.ntmps3
  go_wp2_with fail
  refine (shown_any _).mono ?_
  rintro e w1 ⟨rfl, hk1⟩
  go_wp2_with fail
  refine (new_any _ _ (-1)).mono ?_
  rintro e w2 ⟨rfl, hs2, hk2⟩
  have hs2 := rk_at _ _ _ _ l hs2 Hr.out
  have hl1 := hs2.lt
  go_wp2_with fail
  refine (new_any _ _ (-1)).mono ?_
  rintro e w3 ⟨rfl, hs3, hk3⟩
  have hs3 := rk_at _ _ _ _ l hs3 Ht.out
  have hs2 := hs2.kept hk3
  have hl2 := hs3.lt
  have hk3' := (hk1.nil hk2).nil hk3
  have hk1s := hk1.size
  have ht0 : 0 ≤ t := by omega
  clear hk1 hk2 hk3
  go_wp2_with fail
  have hSw : w.heap.size ≤ w1.heap.size := hk1s
  have hST : w1.heap.size ≠ w2.heap.size := Nat.ne_of_lt hl1
  have hTw : w.heap.size ≤ w2.heap.size := by omega
  have hTS := Ne.symm hST
  generalize w1.heap.size = S at *
  generalize w2.heap.size = T at *
  go_loopw [10] (fun i wr => ∃ k : Nat, k ≤ n ∧ k ≤ 300 ∧ i = .int .i64 k ∧ SinkAt wr S (rk l r k) ∧ SinkAt wr T (rk l t k) ∧ Kp [S, T] w3 wr) (fun i _ => n - (intOf i).toNat)
  case atStart => exact ⟨0, by omega, by omega, rfl, hs2, hs3, Kp.refl _ _⟩
  case round =>
    obtain ⟨k, hk1, hk2, rfl, hS, hT, hk4⟩ := hrel
    have hkw : Kp [] w wr := hk3'.trans hk4 (by intro x hx hl; simp at hx; omega)
    by_cases hlt : k < n ∧ k < 300
    · obtain ⟨hlt, hlt3⟩ := hlt
      have hkl : k < l.length := by rw [hn.out]; exact hlt
      have hsub : Span wr (Option.map (fun x => x.add k) A) (u8s [l[k]]) := by
        have := (hl.kept hkw).sub k 1
        rwa [← u8s_drop, ← u8s_take, List.drop_eq_getElem_cons hkl, List.take_succ_cons, List.take_zero] at this
      have hAo : ∀ ad, Option.map (fun x : Addr => x.add k) A = some ad → ad.block < w.heap.size := by
        intro ad h
        obtain ⟨ad', h1, rfl⟩ := Option.map_eq_some_iff.1 h
        rw [add_block]
        exact hl.old (by rw [length_u8s]; omega) _ h1
      have hAS : ∀ ad, Option.map (fun x : Addr => x.add k) A = some ad → ad.block ≠ S := fun ad h => by have := hAo ad h; omega
      have hAT : ∀ ad, Option.map (fun x : Addr => x.add k) A = some ad → ad.block ≠ T := fun ad h => by have := hAo ad h; omega
      have hAS' : ∀ ad, Option.map (fun x : Addr => x.add k) A = some ad → ad.block ∉ [S] := fun ad h => by simp [hAS ad h]
      clear hAo
      rcases (show (k < r.toNat ∧ k < t.toNat) ∨ (r.toNat ≤ k ∧ k < t.toNat) ∨ (r.toNat ≤ k ∧ t.toNat ≤ k) from by omega) with ⟨c1, c2⟩ | ⟨c1, c2⟩ | ⟨c1, c2⟩
      all_goals go_wp2_with fail
      · refine (rk_call wr S l r k _ _ hkl hr0 hr2 hS hsub hAS (by omega) 1 0 (.inl ⟨c1, rfl, rfl⟩)).mono ?_
        rintro e w4 ⟨rfl, hS4, hk5⟩
        have hT4 := hT.beside hk5 hS (Ne.symm hST)
        have hsub4 := hsub.keep hk5 hAS'
        go_wp2_with fail
        refine (rk_call w4 T l t k _ _ hkl ht0 ht2 hT4 hsub4 hAT (by omega) 1 0 (.inl ⟨c2, rfl, rfl⟩)).mono ?_
        rintro e w5 ⟨rfl, hT5, hk6⟩
        have hS5 := hS4.beside hk6 hT4 hST
        go_wp2_with fail
        go_roundw
        case rel => exact ⟨k + 1, by omega, by omega, by go_num, hS5, hT5, (hk4.trans hk5 (by simp)).trans hk6 (by simp)⟩
        case measure => simp [intOf]; omega
      · refine (rk_call wr S l r k _ _ hkl hr0 hr2 hS hsub hAS (by omega) 0 50 (.inr ⟨c1, rfl, rfl⟩)).mono ?_
        rintro e w4 ⟨rfl, hS4, hk5⟩
        have hT4 := hT.beside hk5 hS (Ne.symm hST)
        have hsub4 := hsub.keep hk5 hAS'
        go_wp2_with fail
        refine (rk_call w4 T l t k _ _ hkl ht0 ht2 hT4 hsub4 hAT (by omega) 1 0 (.inl ⟨c2, rfl, rfl⟩)).mono ?_
        rintro e w5 ⟨rfl, hT5, hk6⟩
        have hS5 := hS4.beside hk6 hT4 hST
        go_wp2_with fail
        go_roundw
        case rel => exact ⟨k + 1, by omega, by omega, by go_num, hS5, hT5, (hk4.trans hk5 (by simp)).trans hk6 (by simp)⟩
        case measure => simp [intOf]; omega
      · refine (rk_call wr S l r k _ _ hkl hr0 hr2 hS hsub hAS (by omega) 0 50 (.inr ⟨c1, rfl, rfl⟩)).mono ?_
        rintro e w4 ⟨rfl, hS4, hk5⟩
        have hT4 := hT.beside hk5 hS (Ne.symm hST)
        have hsub4 := hsub.keep hk5 hAS'
        go_wp2_with fail
        refine (rk_call w4 T l t k _ _ hkl ht0 ht2 hT4 hsub4 hAT (by omega) 0 50 (.inr ⟨c2, rfl, rfl⟩)).mono ?_
        rintro e w5 ⟨rfl, hT5, hk6⟩
        have hS5 := hS4.beside hk6 hT4 hST
        go_wp2_with fail
        go_roundw
        case rel => exact ⟨k + 1, by omega, by omega, by go_num, hS5, hT5, (hk4.trans hk5 (by simp)).trans hk6 (by simp)⟩
        case measure => simp [intOf]; omega
    · have hX : (rk l r k).xs.length ≤ 10000000 := by simp only [rk, List.length_take]; omega
      have hY : (rk l t k).xs.length ≤ 10000000 := by simp only [rk, List.length_take]; omega
      have HX := hid hX
      have HY := hid hY
      have hfin := rk_final l (min a b) r t k n (by omega) hn.out Hr.out hrt
      clear hX hY
      obtain ⟨hf1, hf2, hf3⟩ := hfin
      have hf4 : (((rk l r k).xs.length : Int) == min (max (min a b) 0) (min (n : Int) 300)) = true := by rw [hf3]; simp
      clear hf3
      have HF := hid (And.intro hf1 (And.intro hf2 hf4))
      clear hf1 hf2 hf4
      have hlt' : (k < n ∧ 300 ≤ k) ∨ n ≤ k := by omega
      rcases hlt' with ⟨hlt1, hlt2⟩ | hlt1
      all_goals
        go_wp2_with fail
        refine (bytes_any wr S (rk l r k) hS HX.out).mono ?_
        rintro e w4 ⟨A1, c1, rfl, hsp1, hk5, _⟩
        have hcv1 := run_text (P := Try.prog) Try.underlying22 Try.underlying5 Try.underlying9 hsp1 _ c1 rfl
        go_wp2_with fail
        refine (bytes_any w4 T (rk l t k) (hT.kept hk5) HY.out).mono ?_
        rintro e w5 ⟨A2, c2, rfl, hsp2, hk6, _⟩
        have hcv2 := run_text (P := Try.prog) Try.underlying22 Try.underlying5 Try.underlying9 hsp2 _ c2 rfl
        have HS := hid (hS.kept (hk5.nil hk6))
        have HT := hid (hT.kept (hk5.nil hk6))
        have HK := hid ((hkw.nil hk5).nil hk6)
        clear hS hT HX HY hsp1 hsp2 hk5 hk6 hkw hk4 hs2 hs3 hk3'
        obtain ⟨hf1, hf2, hf3⟩ := HF.out
        clear HF
        generalize (rk l r k).xs = X at *
        generalize (rk l t k).xs = Y at *
        go_wp2_with fail
        refine (dead_any _ _ _ HS.out).mono ?_
        rintro e w6 ⟨rfl, rfl⟩
        go_wp2_with fail
        refine (dead_any _ _ _ HT.out).mono ?_
        rintro e w6 ⟨rfl, rfl⟩
        go_wp2_with fail
        go_ret
        exact ⟨rfl, HK.out⟩

theorem rooms_any (w : World) (a : Int) (_ : -9223372036854775808 ≤ a ∧ a ≤ 9223372036854775807) (b : Int) (_ : -9223372036854775808 ≤ b ∧ b ≤ 9223372036854775807)
    (A : Option Addr) (n c : Nat) (l : List UInt8) (hl : Span w A (u8s l)) (hn : l.length = n) (hc : n ≤ c) (hm : c ≤ 9223372036854775807) :
    Calls Try.prog 3 #[.int .i64 a, .int .i64 b, .slice A n c] w (YesPost w) := by
  refine rooms_core w a b _ _ A n c l hl hn hc hm rfl rfl ?_ ?_ ?_ ?_ <;> simp only [SK.make] <;> omega
end Go.Proofs.Ytepeopfdenieeaa
