/- strings.IndexRune of a rune beyond ASCII, in an ASCII text: none. -/
import Derived.Test.YtaaikjedagnjbaaShelf
import Derived.Test.YtaaikjedagnjbaaQLaw
import Derived.Test.YtaaikjedagnjbaaLib
import Derived.Deep.Cut
import Derived.Laws.Runes
import Derived.WalkMore
import Derived.Lib.IndexAny
import Derived.Laws.RangeString
import Derived.Laws.Strings3
import Derived.Deep.LoopGhost
import Derived.Test.YtaaikjedagnjbaaGLin
import Derived.Lib.IndexBytes
import Derived.Lib.IndexLaws
namespace Go.Proofs.Ytaaikjedagnjbaa
open Go Go.RowKit Go.Lib

theorem u8_mod (n : Nat) (h : n < 256) : (UInt8.ofNat n).toNat = n := by
  rw [UInt8.toNat_ofNat']; omega
theorem encode_wide (c : Nat) (h : 128 ≤ c) : (∃ x y, Utf8.encode (c : Int) = ⟨#[x, y]⟩ ∧ 128 ≤ y.toNat) ∨ (∃ x y z, Utf8.encode (c : Int) = ⟨#[x, y, z]⟩ ∧ 128 ≤ z.toNat) ∨ (∃ x y z t, Utf8.encode (c : Int) = ⟨#[x, y, z, t]⟩ ∧ 128 ≤ t.toNat) := by
  obtain ⟨d, hd, hd2⟩ : ∃ d, d = (if Utf8.valid (c : Int) then (c : Int).toNat else Utf8.runeError) ∧ 128 ≤ d := ⟨_, rfl, by split <;> simp [Utf8.runeError] <;> omega⟩
  unfold Utf8.encode
  simp only
  rw [← hd, if_neg (by omega)]
  split
  · exact .inl ⟨_, _, rfl, by rw [u8_mod _ (by omega)]; omega⟩
  · split
    · exact .inr (.inl ⟨_, _, _, rfl, by rw [u8_mod _ (by omega)]; omega⟩)
    · exact .inr (.inr ⟨_, _, _, _, rfl, by rw [u8_mod _ (by omega)]; omega⟩)
theorem none_byte (s : ByteArray) (hs : ∀ (j : Nat) b, s.data.toList[j]? = some b → b.toNat < 128) (u : UInt8) (hu : 128 ≤ u.toNat) (k : Nat) : Lib.indexByte (s.extract k s.size).data.toList ((u.toNat : Nat) : Int).toNat.toUInt8 = -1 := by
  have e : ((u.toNat : Nat) : Int).toNat.toUInt8 = u := by simp
  rw [e]
  rcases Lib.indexByte_piece s k s.size u with h | ⟨o, h, ho⟩
  · exact h
  · obtain ⟨h1, _⟩ := Lib.indexByte_some h
    have h2 : s.data.toList[k + o]? = some u := by
      rw [← h1, Lib.extract_to_end, List.getElem?_drop]
    have := hs _ _ h2
    omega
set_option maxRecDepth 100000 in
set_option maxHeartbeats 6400000 in
theorem index_wide (s : ByteArray) (c : Nat) (w : World) (h0 : 128 ≤ c) (h1 : c ≠ 65533) (hs : ∀ (j : Nat) b, s.data.toList[j]? = some b → b.toNat < 128) (hn : s.size ≤ 1000) :
    Calls Try.prog 55 #[.string s, .int .i32 (c : Int)] w fun e w' => e = .returned (.int .i64 (-1)) ∧ Kp [] w w' := by
  have q := Try.utf8_ValidRune (c : Int)
  have i0 : decide ((0 : Int) ≤ (c : Int)) = true := by simp
  have i1 : decide ((c : Int) < 128) = false := decide_eq_false (by omega)
  have i2 : ((c : Int) == 65533) = false := beq_eq_false_iff_ne.2 (by omega)
  have i0' : (0 : Int) ≤ (c : Int) := by omega
  have i1' : ¬ (c : Int) < 128 := by omega
  have i2' : ¬ (c : Int) = 65533 := by omega
  obtain ⟨vr, hvr⟩ : ∃ b, b = Lib.validRune (c : Int) := ⟨_, rfl⟩
  rw [← hvr] at q
  have HV := hid hvr
  have HS := hid hs
  clear hvr hs h0 h1
  cases vr
  · go_enter Try.func55, Try.ntmps55
    go_wp2_with fail
    (with_reducible refine (q _).mono ?_)
    rintro e w' ⟨rfl, hw⟩
    rw [hw]
    go_wp2_with fail
    go_ret
    exact ⟨rfl, Kp.refl _ _⟩
  · go_enter Try.func55, Try.ntmps55
    go_wp2_with fail
    (with_reducible refine (q _).mono ?_)
    rintro e w' ⟨rfl, hw⟩
    rw [hw]
    clear hw q
    rcases encode_wide c (by omega) with ⟨x, y, he, hy⟩ | ⟨x, y, z, he, hy⟩ | ⟨x, y, z, t, he, hy⟩
    · have hcv := fun W => run_convert_int_string (P := Try.prog) W 21 9 .i32 (c : Int) (by rw [Try.underlying21]; rfl) Try.underlying9
      simp only [he] at hcv
      clear he
      rcases Nat.lt_or_ge 1 s.size with hsz | hsz
      · have j0 : (1 : Int) < (s.size : Int) := by omega
        obtain ⟨b, hb⟩ : ∃ b : UInt8, s[1]'hsz = b := ⟨_, rfl⟩
        have hb2 : b.toNat < 128 := HS.out 1 b (by rw [← hb]; exact Lib.data_getElem? s 1 hsz)
        have hne : ¬ b = y := fun e => by subst e; omega
        have hne' : (b == y) = false := beq_eq_false_iff_ne.2 hne
        have hcmp : ((b.toNat : Int) != ((({ data := #[x, y] } : ByteArray)[1]'(show 1 < 2 by decide)).toNat : Int)) = true := by
          have e : (({ data := #[x, y] } : ByteArray)[1]'(show 1 < 2 by decide)) = y := rfl
          rw [e]
          exact bne_iff_ne.2 (by omega)
        have j1 : decide ((2 : Int) ≤ (s.size : Int)) = true := decide_eq_true (by omega)
        have hib : ∀ u : UInt8, u = y → Lib.indexByte (s.extract 2 s.size).data.toList ((u.toNat : Nat) : Int).toNat.toUInt8 = -1 := fun u hu => by
          subst hu
          exact none_byte s HS.out _ hy _
        have j2 : (2 : Int) ≤ (s.size : Int) := by omega
        have wk : IntKind.i64.wrap 2 = 2 := by decide
        have hcall : ∀ W, Calls Try.prog 65 #[.string (s.extract 2 s.size), .int .u8 (((({ data := #[x, y] } : ByteArray)[1]'(show 1 < 2 by decide)).toNat : Nat) : Int)] W fun e w' => e = .returned (.int .i64 (-1)) ∧ Kp [] W w' := fun W =>
          (Try.strings_IndexByte (s.extract 2 s.size) _ W).mono (fun e w' h => ⟨by rw [h.1]; exact congrArg (fun n => Ending.returned (.int .i64 n)) (hib _ rfl), h.2 ▸ Kp.refl _ _⟩)
        have HC := hid hcall
        clear hcall hib
        go_wp2_with fail
        apply wp_scope_straight
        go_wp2_with fail
        apply wp_loop_once
        go_wp2_with fail
        go_step3
        go_wp2_with fail
        go_region
        go_wp2_with fail
        clear hb hb2 hne hne' hcmp j0
        refine lin_start (fun W' => Kp [] w W') (Stays.kp _ _) (by kernel_rfl) (Kp.refl _ _).drew.drew (fun hSS hS => ?_)
        refine lin_val (i := 0) (v := ?_) rfl (by kernel_rfl) (by kernel_rfl) (by kernel_rfl) (by kernel_rfl) (fun _ _ _ h => h) hSS hS rfl (fun W' hSw => ?_) ?_
        rotate_left
        · go_simp; first | done | with_reducible rfl
        try simp only [Act.put, List.setIfInBounds_toArray, List.set_cons_zero, List.set_cons_succ]
        refine lin_val (i := 1) (v := ?_) rfl (by kernel_rfl) (by kernel_rfl) (by kernel_rfl) (by kernel_rfl) (fun _ _ _ h => h) hSS hS rfl (fun W' hSw => ?_) ?_
        rotate_left
        · go_simp; first | done | with_reducible rfl
        try simp only [Act.put, List.setIfInBounds_toArray, List.set_cons_zero, List.set_cons_succ]
        refine lin_val (i := 2) (v := ?_) rfl (by kernel_rfl) (by kernel_rfl) (by kernel_rfl) (by kernel_rfl) (fun _ _ _ h => h) hSS hS rfl (fun W' hSw => ?_) ?_
        rotate_left
        · go_simp; first | done | with_reducible rfl
        try simp only [Act.put, List.setIfInBounds_toArray, List.set_cons_zero, List.set_cons_succ]
        refine lin_val (i := 3) (v := ?_) rfl (by kernel_rfl) (by kernel_rfl) (by kernel_rfl) (by kernel_rfl) (fun _ _ _ h => h) hSS hS rfl (fun W' hSw => ?_) ?_
        rotate_left
        · go_simp; first | done | with_reducible rfl
        try simp only [Act.put, List.setIfInBounds_toArray, List.set_cons_zero, List.set_cons_succ]
        refine lin_val (i := 4) (v := ?_) rfl (by kernel_rfl) (by kernel_rfl) (by kernel_rfl) (by kernel_rfl) (fun _ _ _ h => h) hSS hS rfl (fun W' hSw => ?_) ?_
        rotate_left
        · go_simp; first | done | with_reducible rfl
        try simp only [Act.put, List.setIfInBounds_toArray, List.set_cons_zero, List.set_cons_succ]
        refine lin_val (i := 5) (v := ?_) rfl (by kernel_rfl) (by kernel_rfl) (by kernel_rfl) (by kernel_rfl) (fun _ _ _ h => h) hSS hS rfl (fun W' hSw => ?_) ?_
        rotate_left
        · go_simp; first | done | with_reducible rfl
        try simp only [Act.put, List.setIfInBounds_toArray, List.set_cons_zero, List.set_cons_succ]
        refine lin_val (i := 6) (v := ?_) rfl (by kernel_rfl) (by kernel_rfl) (by kernel_rfl) (by kernel_rfl) (fun _ _ _ h => h) hSS hS rfl (fun W' hSw => ?_) ?_
        rotate_left
        · go_simp; first | done | with_reducible rfl
        try simp only [Act.put, List.setIfInBounds_toArray, List.set_cons_zero, List.set_cons_succ]
        refine lin_call (i := 7) (v := .int .i64 (-1)) (f := 65) (args := _) rfl (by kernel_rfl) (by kernel_rfl) (by kernel_rfl) (by kernel_rfl) (fun _ _ _ h => h) hSS hS rfl (fun W' hSw => HC.out W') (fun W' hSw => ?_) ?_
        · go_simp
        try simp only [Act.put, List.setIfInBounds_toArray, List.set_cons_zero, List.set_cons_succ]
        refine lin_last (i := 8) (by kernel_rfl) rfl (by kernel_rfl) (fun w9 k9 K hK => ?_)
        have hk9 : Kp [] w w9 := (Kp.refl _ _).drew.drew.nil k9
        have HK := hid hk9
        clear hk9 k9
        go_simp
        refine hK.out _ _ ?_
        clear hK K
        go_wp21
        change bodyPost Try.prog Try.f55 (fun e w' => e = .returned (.int .i64 (-1)) ∧ Kp [] w w') Exit.ret _ _
        refine bodyPost_ret (results_tmp rfl _ _ _) rfl ?_
        exact ⟨rfl, HK.out⟩
      · have j0 : decide ((1 : Int) < (s.size : Int)) = false := decide_eq_false (by omega)
        clear hsz hn
        go_wp2_with fail
        apply wp_scope_straight
        go_wp2_with fail
        apply wp_loop_once
        go_wp21
        rw [Exit.noGoto_ret]
        simp only [Exit.inBlock]
        refine bodyPost_ret (results_tmp rfl _ _ _) rfl ?_
        exact ⟨rfl, Kp.refl _ _⟩
    · have hcv := fun W => run_convert_int_string (P := Try.prog) W 21 9 .i32 (c : Int) (by rw [Try.underlying21]; rfl) Try.underlying9
      simp only [he] at hcv
      clear he
      rcases Nat.lt_or_ge 2 s.size with hsz | hsz
      · have j0 : (2 : Int) < (s.size : Int) := by omega
        obtain ⟨b, hb⟩ : ∃ b : UInt8, s[2]'hsz = b := ⟨_, rfl⟩
        have hb2 : b.toNat < 128 := HS.out 2 b (by rw [← hb]; exact Lib.data_getElem? s 2 hsz)
        have hne : ¬ b = z := fun e => by subst e; omega
        have hne' : (b == z) = false := beq_eq_false_iff_ne.2 hne
        have hcmp : ((b.toNat : Int) != ((({ data := #[x, y, z] } : ByteArray)[2]'(show 2 < 3 by decide)).toNat : Int)) = true := by
          have e : (({ data := #[x, y, z] } : ByteArray)[2]'(show 2 < 3 by decide)) = z := rfl
          rw [e]
          exact bne_iff_ne.2 (by omega)
        have j1 : decide ((3 : Int) ≤ (s.size : Int)) = true := decide_eq_true (by omega)
        have hib : ∀ u : UInt8, u = z → Lib.indexByte (s.extract 3 s.size).data.toList ((u.toNat : Nat) : Int).toNat.toUInt8 = -1 := fun u hu => by
          subst hu
          exact none_byte s HS.out _ hy _
        have j2 : (3 : Int) ≤ (s.size : Int) := by omega
        have wk : IntKind.i64.wrap 3 = 3 := by decide
        have hcall : ∀ W, Calls Try.prog 65 #[.string (s.extract 3 s.size), .int .u8 (((({ data := #[x, y, z] } : ByteArray)[2]'(show 2 < 3 by decide)).toNat : Nat) : Int)] W fun e w' => e = .returned (.int .i64 (-1)) ∧ Kp [] W w' := fun W =>
          (Try.strings_IndexByte (s.extract 3 s.size) _ W).mono (fun e w' h => ⟨by rw [h.1]; exact congrArg (fun n => Ending.returned (.int .i64 n)) (hib _ rfl), h.2 ▸ Kp.refl _ _⟩)
        have HC := hid hcall
        clear hcall hib
        go_wp2_with fail
        apply wp_scope_straight
        go_wp2_with fail
        apply wp_loop_once
        go_wp2_with fail
        go_step3
        go_wp2_with fail
        go_region
        go_wp2_with fail
        clear hb hb2 hne hne' hcmp j0
        refine lin_start (fun W' => Kp [] w W') (Stays.kp _ _) (by kernel_rfl) (Kp.refl _ _).drew.drew (fun hSS hS => ?_)
        refine lin_val (i := 0) (v := ?_) rfl (by kernel_rfl) (by kernel_rfl) (by kernel_rfl) (by kernel_rfl) (fun _ _ _ h => h) hSS hS rfl (fun W' hSw => ?_) ?_
        rotate_left
        · go_simp; first | done | with_reducible rfl
        try simp only [Act.put, List.setIfInBounds_toArray, List.set_cons_zero, List.set_cons_succ]
        refine lin_val (i := 1) (v := ?_) rfl (by kernel_rfl) (by kernel_rfl) (by kernel_rfl) (by kernel_rfl) (fun _ _ _ h => h) hSS hS rfl (fun W' hSw => ?_) ?_
        rotate_left
        · go_simp; first | done | with_reducible rfl
        try simp only [Act.put, List.setIfInBounds_toArray, List.set_cons_zero, List.set_cons_succ]
        refine lin_val (i := 2) (v := ?_) rfl (by kernel_rfl) (by kernel_rfl) (by kernel_rfl) (by kernel_rfl) (fun _ _ _ h => h) hSS hS rfl (fun W' hSw => ?_) ?_
        rotate_left
        · go_simp; first | done | with_reducible rfl
        try simp only [Act.put, List.setIfInBounds_toArray, List.set_cons_zero, List.set_cons_succ]
        refine lin_val (i := 3) (v := ?_) rfl (by kernel_rfl) (by kernel_rfl) (by kernel_rfl) (by kernel_rfl) (fun _ _ _ h => h) hSS hS rfl (fun W' hSw => ?_) ?_
        rotate_left
        · go_simp; first | done | with_reducible rfl
        try simp only [Act.put, List.setIfInBounds_toArray, List.set_cons_zero, List.set_cons_succ]
        refine lin_val (i := 4) (v := ?_) rfl (by kernel_rfl) (by kernel_rfl) (by kernel_rfl) (by kernel_rfl) (fun _ _ _ h => h) hSS hS rfl (fun W' hSw => ?_) ?_
        rotate_left
        · go_simp; first | done | with_reducible rfl
        try simp only [Act.put, List.setIfInBounds_toArray, List.set_cons_zero, List.set_cons_succ]
        refine lin_val (i := 5) (v := ?_) rfl (by kernel_rfl) (by kernel_rfl) (by kernel_rfl) (by kernel_rfl) (fun _ _ _ h => h) hSS hS rfl (fun W' hSw => ?_) ?_
        rotate_left
        · go_simp; first | done | with_reducible rfl
        try simp only [Act.put, List.setIfInBounds_toArray, List.set_cons_zero, List.set_cons_succ]
        refine lin_val (i := 6) (v := ?_) rfl (by kernel_rfl) (by kernel_rfl) (by kernel_rfl) (by kernel_rfl) (fun _ _ _ h => h) hSS hS rfl (fun W' hSw => ?_) ?_
        rotate_left
        · go_simp; first | done | with_reducible rfl
        try simp only [Act.put, List.setIfInBounds_toArray, List.set_cons_zero, List.set_cons_succ]
        refine lin_call (i := 7) (v := .int .i64 (-1)) (f := 65) (args := _) rfl (by kernel_rfl) (by kernel_rfl) (by kernel_rfl) (by kernel_rfl) (fun _ _ _ h => h) hSS hS rfl (fun W' hSw => HC.out W') (fun W' hSw => ?_) ?_
        · go_simp
        try simp only [Act.put, List.setIfInBounds_toArray, List.set_cons_zero, List.set_cons_succ]
        refine lin_last (i := 8) (by kernel_rfl) rfl (by kernel_rfl) (fun w9 k9 K hK => ?_)
        have hk9 : Kp [] w w9 := (Kp.refl _ _).drew.drew.nil k9
        have HK := hid hk9
        clear hk9 k9
        go_simp
        refine hK.out _ _ ?_
        clear hK K
        go_wp21
        change bodyPost Try.prog Try.f55 (fun e w' => e = .returned (.int .i64 (-1)) ∧ Kp [] w w') Exit.ret _ _
        refine bodyPost_ret (results_tmp rfl _ _ _) rfl ?_
        exact ⟨rfl, HK.out⟩
      · have j0 : decide ((2 : Int) < (s.size : Int)) = false := decide_eq_false (by omega)
        clear hsz hn
        go_wp2_with fail
        apply wp_scope_straight
        go_wp2_with fail
        apply wp_loop_once
        go_wp21
        rw [Exit.noGoto_ret]
        simp only [Exit.inBlock]
        refine bodyPost_ret (results_tmp rfl _ _ _) rfl ?_
        exact ⟨rfl, Kp.refl _ _⟩
    · have hcv := fun W => run_convert_int_string (P := Try.prog) W 21 9 .i32 (c : Int) (by rw [Try.underlying21]; rfl) Try.underlying9
      simp only [he] at hcv
      clear he
      rcases Nat.lt_or_ge 3 s.size with hsz | hsz
      · have j0 : (3 : Int) < (s.size : Int) := by omega
        obtain ⟨b, hb⟩ : ∃ b : UInt8, s[3]'hsz = b := ⟨_, rfl⟩
        have hb2 : b.toNat < 128 := HS.out 3 b (by rw [← hb]; exact Lib.data_getElem? s 3 hsz)
        have hne : ¬ b = t := fun e => by subst e; omega
        have hne' : (b == t) = false := beq_eq_false_iff_ne.2 hne
        have hcmp : ((b.toNat : Int) != ((({ data := #[x, y, z, t] } : ByteArray)[3]'(show 3 < 4 by decide)).toNat : Int)) = true := by
          have e : (({ data := #[x, y, z, t] } : ByteArray)[3]'(show 3 < 4 by decide)) = t := rfl
          rw [e]
          exact bne_iff_ne.2 (by omega)
        have j1 : decide ((4 : Int) ≤ (s.size : Int)) = true := decide_eq_true (by omega)
        have hib : ∀ u : UInt8, u = t → Lib.indexByte (s.extract 4 s.size).data.toList ((u.toNat : Nat) : Int).toNat.toUInt8 = -1 := fun u hu => by
          subst hu
          exact none_byte s HS.out _ hy _
        have j2 : (4 : Int) ≤ (s.size : Int) := by omega
        have wk : IntKind.i64.wrap 4 = 4 := by decide
        have hcall : ∀ W, Calls Try.prog 65 #[.string (s.extract 4 s.size), .int .u8 (((({ data := #[x, y, z, t] } : ByteArray)[3]'(show 3 < 4 by decide)).toNat : Nat) : Int)] W fun e w' => e = .returned (.int .i64 (-1)) ∧ Kp [] W w' := fun W =>
          (Try.strings_IndexByte (s.extract 4 s.size) _ W).mono (fun e w' h => ⟨by rw [h.1]; exact congrArg (fun n => Ending.returned (.int .i64 n)) (hib _ rfl), h.2 ▸ Kp.refl _ _⟩)
        have HC := hid hcall
        clear hcall hib
        go_wp2_with fail
        apply wp_scope_straight
        go_wp2_with fail
        apply wp_loop_once
        go_wp2_with fail
        go_step3
        go_wp2_with fail
        go_region
        go_wp2_with fail
        clear hb hb2 hne hne' hcmp j0
        refine lin_start (fun W' => Kp [] w W') (Stays.kp _ _) (by kernel_rfl) (Kp.refl _ _).drew.drew (fun hSS hS => ?_)
        refine lin_val (i := 0) (v := ?_) rfl (by kernel_rfl) (by kernel_rfl) (by kernel_rfl) (by kernel_rfl) (fun _ _ _ h => h) hSS hS rfl (fun W' hSw => ?_) ?_
        rotate_left
        · go_simp; first | done | with_reducible rfl
        try simp only [Act.put, List.setIfInBounds_toArray, List.set_cons_zero, List.set_cons_succ]
        refine lin_val (i := 1) (v := ?_) rfl (by kernel_rfl) (by kernel_rfl) (by kernel_rfl) (by kernel_rfl) (fun _ _ _ h => h) hSS hS rfl (fun W' hSw => ?_) ?_
        rotate_left
        · go_simp; first | done | with_reducible rfl
        try simp only [Act.put, List.setIfInBounds_toArray, List.set_cons_zero, List.set_cons_succ]
        refine lin_val (i := 2) (v := ?_) rfl (by kernel_rfl) (by kernel_rfl) (by kernel_rfl) (by kernel_rfl) (fun _ _ _ h => h) hSS hS rfl (fun W' hSw => ?_) ?_
        rotate_left
        · go_simp; first | done | with_reducible rfl
        try simp only [Act.put, List.setIfInBounds_toArray, List.set_cons_zero, List.set_cons_succ]
        refine lin_val (i := 3) (v := ?_) rfl (by kernel_rfl) (by kernel_rfl) (by kernel_rfl) (by kernel_rfl) (fun _ _ _ h => h) hSS hS rfl (fun W' hSw => ?_) ?_
        rotate_left
        · go_simp; first | done | with_reducible rfl
        try simp only [Act.put, List.setIfInBounds_toArray, List.set_cons_zero, List.set_cons_succ]
        refine lin_val (i := 4) (v := ?_) rfl (by kernel_rfl) (by kernel_rfl) (by kernel_rfl) (by kernel_rfl) (fun _ _ _ h => h) hSS hS rfl (fun W' hSw => ?_) ?_
        rotate_left
        · go_simp; first | done | with_reducible rfl
        try simp only [Act.put, List.setIfInBounds_toArray, List.set_cons_zero, List.set_cons_succ]
        refine lin_val (i := 5) (v := ?_) rfl (by kernel_rfl) (by kernel_rfl) (by kernel_rfl) (by kernel_rfl) (fun _ _ _ h => h) hSS hS rfl (fun W' hSw => ?_) ?_
        rotate_left
        · go_simp; first | done | with_reducible rfl
        try simp only [Act.put, List.setIfInBounds_toArray, List.set_cons_zero, List.set_cons_succ]
        refine lin_val (i := 6) (v := ?_) rfl (by kernel_rfl) (by kernel_rfl) (by kernel_rfl) (by kernel_rfl) (fun _ _ _ h => h) hSS hS rfl (fun W' hSw => ?_) ?_
        rotate_left
        · go_simp; first | done | with_reducible rfl
        try simp only [Act.put, List.setIfInBounds_toArray, List.set_cons_zero, List.set_cons_succ]
        refine lin_call (i := 7) (v := .int .i64 (-1)) (f := 65) (args := _) rfl (by kernel_rfl) (by kernel_rfl) (by kernel_rfl) (by kernel_rfl) (fun _ _ _ h => h) hSS hS rfl (fun W' hSw => HC.out W') (fun W' hSw => ?_) ?_
        · go_simp
        try simp only [Act.put, List.setIfInBounds_toArray, List.set_cons_zero, List.set_cons_succ]
        refine lin_last (i := 8) (by kernel_rfl) rfl (by kernel_rfl) (fun w9 k9 K hK => ?_)
        have hk9 : Kp [] w w9 := (Kp.refl _ _).drew.drew.nil k9
        have HK := hid hk9
        clear hk9 k9
        go_simp
        refine hK.out _ _ ?_
        clear hK K
        go_wp21
        change bodyPost Try.prog Try.f55 (fun e w' => e = .returned (.int .i64 (-1)) ∧ Kp [] w w') Exit.ret _ _
        refine bodyPost_ret (results_tmp rfl _ _ _) rfl ?_
        exact ⟨rfl, HK.out⟩
      · have j0 : decide ((3 : Int) < (s.size : Int)) = false := decide_eq_false (by omega)
        clear hsz hn
        go_wp2_with fail
        apply wp_scope_straight
        go_wp2_with fail
        apply wp_loop_once
        go_wp21
        rw [Exit.noGoto_ret]
        simp only [Exit.inBlock]
        refine bodyPost_ret (results_tmp rfl _ _ _) rfl ?_
        exact ⟨rfl, Kp.refl _ _⟩
set_option maxRecDepth 100000 in
set_option maxHeartbeats 6400000 in
theorem index_fffd (s : ByteArray) (w : World) (hs : ∀ (j : Nat) b, s.data.toList[j]? = some b → b.toNat < 128) :
    Calls Try.prog 55 #[.string s, .int .i32 65533] w fun e w' => e = .returned (.int .i64 (-1)) ∧ Kp [] w w' := by
  have HS := hid hs
  clear hs
  have hrg := fun W => run_range_string (P := Try.prog) W 9 s Try.underlying9
  go_enter Try.func55, Try.ntmps55
  go_wp2_with fail
  go_loopg [5, 6] s.size (fun g _ _ wx => ∃ i : Nat, i + g = s.size ∧ wx = w.iter s i)
  case atStart => exact ⟨0, by omega, rfl⟩
  case round =>
    obtain ⟨i, hig, rfl⟩ := hrel
    cases gk with
    | zero =>
      obtain rfl : i = s.size := by omega
      have hnx := fun ty => run_next_end (P := Try.prog) w s s.size ty (Nat.lt_irrefl _)
      go_wp2_with fail
      go_ret
      exact ⟨rfl, (Kp.refl _ _).alloc _⟩
    | succ g =>
      have hi : i < s.size := by omega
      obtain ⟨x, hx⟩ : ∃ x : UInt8, s[i]'hi = x := ⟨_, rfl⟩
      have hx128 : x.toNat < 128 := HS.out i x (by rw [← hx]; exact Lib.data_getElem? s i hi)
      have hnx := fun ty => run_next_ascii (P := Try.prog) w s i ty hi (by rw [hx]; exact hx128)
      rw [hx] at hnx
      have hne : ((x.toNat : Int) == 65533) = false := beq_eq_false_iff_ne.2 (by omega)
      have hne' : ¬ (x.toNat : Int) = 65533 := by omega
      clear hx
      go_wp2_with fail
      go_roundg g
      case measure => omega
      case rel => exact ⟨i + 1, by omega, rfl⟩
/-- A rune beyond ASCII is in no ASCII text. -/
theorem index_none (s : ByteArray) (c : Nat) (w : World) (h0 : 128 ≤ c) (hs : ∀ (j : Nat) b, s.data.toList[j]? = some b → b.toNat < 128) (hn : s.size ≤ 1000) :
    Calls Try.prog 55 #[.string s, .int .i32 (c : Int)] w fun e w' => e = .returned (.int .i64 (-1)) ∧ Kp [] w w' := by
  by_cases h : c = 65533
  · subst h
    exact index_fffd s w hs
  · exact index_wide s c w h0 h hs hn
set_option maxRecDepth 100000 in
set_option maxHeartbeats 6400000 in
theorem contains_any (s : ByteArray) (c : Nat) (w : World) (hs : ∀ (j : Nat) b, s.data.toList[j]? = some b → b.toNat < 128) (hn : s.size ≤ 1000) :
    Calls Try.prog 49 #[.string s, .int .i32 (c : Int)] w fun e w' => e = .returned (.bool (s.data.toList.any fun b => b.toNat == c)) ∧ Kp [] w w' := by
  rcases Nat.lt_or_ge c 128 with h | h
  · refine (Try.strings_ContainsRune_ascii s (c : Int) w (by omega) (by omega)).mono (fun e w' h' => ⟨?_, h'.2 ▸ Kp.refl _ _⟩)
    rw [h'.1, ← Lib.contains_iff_indexByte]
    have e : s.data.toList.contains (c : Int).toNat.toUInt8 = s.data.toList.any fun b => b.toNat == c := by
      rw [List.contains_eq_any_beq]
      congr 1
      funext b
      rw [Bool.eq_iff_iff, beq_iff_eq, beq_iff_eq]
      constructor
      · intro hb
        subst hb
        simp
        omega
      · intro hb
        subst hb
        simp
    rw [e]
  · have hf : (s.data.toList.any fun b => b.toNat == c) = false := by
      rw [List.any_eq_false]
      intro b hb
      obtain ⟨j, hj⟩ := List.mem_iff_getElem?.1 hb
      have := hs j b hj
      simp
      omega
    rw [hf]
    have q := fun W => index_none s c W h hs hn
    clear hs
    go_enter Try.func49, Try.ntmps49
    go_wp2_with fail
    (with_reducible refine (q _).mono ?_)
    rintro e w' ⟨rfl, hw⟩
    have HW := hid hw
    clear q hw
    go_wp2_with fail
    go_ret
    exact ⟨rfl, HW.out⟩
end Go.Proofs.Ytaaikjedagnjbaa
