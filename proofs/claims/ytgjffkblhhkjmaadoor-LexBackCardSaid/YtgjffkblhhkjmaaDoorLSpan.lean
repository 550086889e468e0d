/- Layer 10: how many bytes of a set a text begins with; a name, a sign. -/
import Derived.Test.YtgjffkblhhkjmaaDoorCName
import Derived.Test.YtgjffkblhhkjmaaDoorLBackLaw
namespace Go.Proofs.YtgjffkblhhkjmaaDoor
open Go Go.RowKit Go.Lib

theorem zero161 : ∀ w, (zeroValue (Tryd.lays161_ren.t 116)).run Tryd.prog w = .ok (.agg (Array.replicate 256 (.bool false))) w := by intro w; kernel_rfl
theorem triml_any (w : World) (L K : Txt) (hK : K.length < 1000) (ha : K.all (fun b => decide (b.toNat < 128)) = true) :
    Calls Tryd.prog 52 #[.string ⟨L.toArray⟩, .string ⟨K.toArray⟩] w fun e w' => e = .returned (.string ⟨(L.dropWhile (K.contains ·)).toArray⟩) ∧ Kp [] w w' :=
  (Any.strings_TrimLeft_ascii Tryd.lays161 zero161 (by kernel_rfl) ⟨L.toArray⟩ ⟨K.toArray⟩ w (by rw [size_mk]; omega) (ascii_of_all ha)).mono fun e w' ⟨h1, h2⟩ => ⟨h1, Kp.of_below h2⟩
theorem span_len (p : UInt8 → Bool) (L : Txt) : (L.takeWhile p).length + (L.dropWhile p).length = L.length := by
  have := congrArg List.length (List.takeWhile_append_dropWhile (p := p) (l := L))
  rwa [List.length_append] at this
set_option maxRecDepth 100000 in
theorem span_any (w : World) (L K : Txt) (p : UInt8 → Bool) (hL : L.length ≤ 1000000) (hK : K.length < 1000) (ha : K.all (fun b => decide (b.toNat < 128)) = true) (hp : ∀ c, K.contains c = p c) :
    Calls Tryd.prog 37 #[.string ⟨L.toArray⟩, .string ⟨K.toArray⟩] w fun e w' => e = .returned (.int .i64 ((L.takeWhile p).length : Int)) ∧ Kp [] w w' := by
  have hsz : (⟨L.toArray⟩ : ByteArray).size = L.length := size_mk _
  have q := fun W => triml_any W L K hK ha
  have hf : (fun c => K.contains c) = p := funext hp
  have e1 : L.dropWhile (K.contains ·) = L.dropWhile p := by rw [← hf]
  simp only [e1] at q
  have hl := span_len p L
  obtain ⟨D, hD⟩ : ∃ D, D = L.dropWhile p := ⟨_, rfl⟩
  obtain ⟨n, hn⟩ : ∃ n, n = (L.takeWhile p).length := ⟨_, rfl⟩
  simp only [← hD] at q hl
  rw [← hn] at hl ⊢
  have hds : (⟨D.toArray⟩ : ByteArray).size = D.length := size_mk _
  have e2 : (L.length : Int) - (D.length : Int) = (n : Int) := by omega
  clear hD hn hf e1 ha hp hK
  go_enter Tryd.func37, Tryd.ntmps37
  go_wp2_with fail
  (with_reducible refine (q _).mono ?_)
  rintro e w1 ⟨rfl, k1⟩
  have Hk := hid k1
  clear k1
  go_wp2_with fail
  go_ret
  exact ⟨rfl, Hk.out⟩
theorem in_let (c : UInt8) : ([97, 98, 99, 100, 101, 102, 103, 104, 105, 106, 107, 108, 109, 110, 111, 112, 113, 114, 115, 116, 117, 118, 119, 120, 121, 122] : List UInt8).contains c = isLet c := by
  have : ∀ m : Fin 256, ([97, 98, 99, 100, 101, 102, 103, 104, 105, 106, 107, 108, 109, 110, 111, 112, 113, 114, 115, 116, 117, 118, 119, 120, 121, 122] : List UInt8).contains (UInt8.ofNat m.val) = isLet (UInt8.ofNat m.val) := by decide +kernel
  have h := this ⟨c.toNat, c.toNat_lt⟩
  simpa using h
theorem span_let (w : World) (L : Txt) (hL : L.length ≤ 1000000) : Calls Tryd.prog 37 #[.string ⟨L.toArray⟩, .string ⟨#[97, 98, 99, 100, 101, 102, 103, 104, 105, 106, 107, 108, 109, 110, 111, 112, 113, 114, 115, 116, 117, 118, 119, 120, 121, 122]⟩] w fun e w' => e = .returned (.int .i64 ((L.takeWhile isLet).length : Int)) ∧ Kp [] w w' :=
  span_any w L [97, 98, 99, 100, 101, 102, 103, 104, 105, 106, 107, 108, 109, 110, 111, 112, 113, 114, 115, 116, 117, 118, 119, 120, 121, 122] isLet hL (by decide) (by decide) in_let
theorem in_dig (c : UInt8) : ([48, 49, 50, 51, 52, 53, 54, 55, 56, 57] : List UInt8).contains c = isDig c := by
  have : ∀ m : Fin 256, ([48, 49, 50, 51, 52, 53, 54, 55, 56, 57] : List UInt8).contains (UInt8.ofNat m.val) = isDig (UInt8.ofNat m.val) := by decide +kernel
  have h := this ⟨c.toNat, c.toNat_lt⟩
  simpa using h
theorem span_dig (w : World) (L : Txt) (hL : L.length ≤ 1000000) : Calls Tryd.prog 37 #[.string ⟨L.toArray⟩, .string ⟨#[48, 49, 50, 51, 52, 53, 54, 55, 56, 57]⟩] w fun e w' => e = .returned (.int .i64 ((L.takeWhile isDig).length : Int)) ∧ Kp [] w w' :=
  span_any w L [48, 49, 50, 51, 52, 53, 54, 55, 56, 57] isDig hL (by decide) (by decide) in_dig
theorem in_nam (c : UInt8) : ([97, 98, 99, 100, 101, 102, 103, 104, 105, 106, 107, 108, 109, 110, 111, 112, 113, 114, 115, 116, 117, 118, 119, 120, 121, 122, 48, 49, 50, 51, 52, 53, 54, 55, 56, 57, 95] : List UInt8).contains c = nameC c := by
  have : ∀ m : Fin 256, ([97, 98, 99, 100, 101, 102, 103, 104, 105, 106, 107, 108, 109, 110, 111, 112, 113, 114, 115, 116, 117, 118, 119, 120, 121, 122, 48, 49, 50, 51, 52, 53, 54, 55, 56, 57, 95] : List UInt8).contains (UInt8.ofNat m.val) = nameC (UInt8.ofNat m.val) := by decide +kernel
  have h := this ⟨c.toNat, c.toNat_lt⟩
  simpa using h
theorem span_nam (w : World) (L : Txt) (hL : L.length ≤ 1000000) : Calls Tryd.prog 37 #[.string ⟨L.toArray⟩, .string ⟨#[97, 98, 99, 100, 101, 102, 103, 104, 105, 106, 107, 108, 109, 110, 111, 112, 113, 114, 115, 116, 117, 118, 119, 120, 121, 122, 48, 49, 50, 51, 52, 53, 54, 55, 56, 57, 95]⟩] w fun e w' => e = .returned (.int .i64 ((L.takeWhile nameC).length : Int)) ∧ Kp [] w w' :=
  span_any w L [97, 98, 99, 100, 101, 102, 103, 104, 105, 106, 107, 108, 109, 110, 111, 112, 113, 114, 115, 116, 117, 118, 119, 120, 121, 122, 48, 49, 50, 51, 52, 53, 54, 55, 56, 57, 95] nameC hL (by decide) (by decide) in_nam
theorem in_bl (c : UInt8) : ([32, 9, 10, 13] : List UInt8).contains c = bl c := by
  have : ∀ m : Fin 256, ([32, 9, 10, 13] : List UInt8).contains (UInt8.ofNat m.val) = bl (UInt8.ofNat m.val) := by decide +kernel
  have h := this ⟨c.toNat, c.toNat_lt⟩
  simpa using h
theorem span_bl (w : World) (L : Txt) (hL : L.length ≤ 1000000) : Calls Tryd.prog 37 #[.string ⟨L.toArray⟩, .string ⟨#[32, 9, 10, 13]⟩] w fun e w' => e = .returned (.int .i64 ((L.takeWhile bl).length : Int)) ∧ Kp [] w w' :=
  span_any w L [32, 9, 10, 13] bl hL (by decide) (by decide) in_bl
theorem in_one (c : UInt8) : ([46, 40, 41, 91, 93, 123, 125, 124, 44, 58, 59, 43, 45, 42, 47, 37, 60, 62] : List UInt8).contains c = oneS c := by
  have : ∀ m : Fin 256, ([46, 40, 41, 91, 93, 123, 125, 124, 44, 58, 59, 43, 45, 42, 47, 37, 60, 62] : List UInt8).contains (UInt8.ofNat m.val) = oneS (UInt8.ofNat m.val) := by decide +kernel
  have h := this ⟨c.toNat, c.toNat_lt⟩
  simpa using h
theorem span_one (w : World) (L : Txt) (hL : L.length ≤ 1000000) : Calls Tryd.prog 37 #[.string ⟨L.toArray⟩, .string ⟨#[46, 40, 41, 91, 93, 123, 125, 124, 44, 58, 59, 43, 45, 42, 47, 37, 60, 62]⟩] w fun e w' => e = .returned (.int .i64 ((L.takeWhile oneS).length : Int)) ∧ Kp [] w w' :=
  span_any w L [46, 40, 41, 91, 93, 123, 125, 124, 44, 58, 59, 43, 45, 42, 47, 37, 60, 62] oneS hL (by decide) (by decide) in_one

theorem tw_take (p : UInt8 → Bool) (L : Txt) : L.take (L.takeWhile p).length = L.takeWhile p := by
  conv => lhs; arg 2; rw [← List.takeWhile_append_dropWhile (p := p) (l := L)]
  exact List.take_left' rfl
theorem tw_nil {p : UInt8 → Bool} (L : Txt) : (L.takeWhile p).length = 0 ↔ (∀ c t, L = c :: t → p c = false) := by
  cases L with
  | nil => simp
  | cons c t =>
    rw [List.takeWhile_cons]
    cases h : p c <;> simp [h]
theorem name_no {L : Txt} (h : (L.takeWhile isLet).length = 0) : nameL (L.takeWhile nameC) = false := by
  rw [tw_nil] at h
  cases L with
  | nil => rfl
  | cons c t =>
    have hc := h c t rfl
    unfold nameL
    have : headLet ((c :: t).takeWhile nameC) = false := by
      rw [List.takeWhile_cons]
      split
      · exact hc
      · rfl
    rw [this]
    simp
set_option maxRecDepth 100000 in
set_option maxHeartbeats 1600000 in
theorem word_any (w : World) (L : Txt) (hL : L.length ≤ 1000000) :
    Calls Tryd.prog 55 #[.string ⟨L.toArray⟩] w fun e w' => ∃ x, e = .returned (.tuple #[.string ⟨x.toArray⟩, .bool (nameL (L.takeWhile nameC))]) ∧ (nameL (L.takeWhile nameC) = true → x = L.takeWhile nameC) ∧ Kp [] w w' := by
  have hsz : (⟨L.toArray⟩ : ByteArray).size = L.length := size_mk _
  have q1 := fun W => span_let W L hL
  have q2 := fun W => span_nam W L hL
  have hno := name_no (L := L)
  have htw := tw_le nameC L
  have hex := extract_mk L 0 (L.takeWhile nameC).length
  rw [List.drop_zero, tw_take] at hex
  obtain ⟨n1, hn1⟩ : ∃ n, n = (L.takeWhile isLet).length := ⟨_, rfl⟩
  simp only [← hn1] at q1 hno
  obtain ⟨X, hX⟩ : ∃ X, X = L.takeWhile nameC := ⟨_, rfl⟩
  simp only [← hX] at q2 hno htw hex
  rw [← hX]
  have qn := fun W => cname_any W X (by omega)
  have hn2 : (X.length : Int) ≤ (L.length : Int) := by omega
  clear hn1 hX
  by_cases h0 : n1 = 0
  · have hr := hno h0
    rw [hr]
    have hz : ((n1 : Int) == 0) = true := by rw [beq_iff_eq]; omega
    clear hno hr h0
    go_enter Tryd.func55, Tryd.ntmps55
    go_wp2_with fail
    (with_reducible refine (q1 _).mono ?_)
    rintro e w1 ⟨rfl, k1⟩
    have Hk := hid k1
    clear k1
    go_wp2_with fail
    go_ret2
    exact ⟨[], rfl, (fun h => by cases h), Hk.out⟩
  · have hz : ((n1 : Int) == 0) = false := by rw [beq_eq_false_iff_ne]; omega
    obtain ⟨b, hb⟩ : ∃ b, b = nameL X := ⟨_, rfl⟩
    simp only [← hb] at qn
    rw [← hb]
    clear hno h0 hb
    go_enter Tryd.func55, Tryd.ntmps55
    go_wp2_with fail
    (with_reducible refine (q1 _).mono ?_)
    rintro e w1 ⟨rfl, k1⟩
    have Hk := hid k1
    clear k1
    go_wp2_with fail
    (with_reducible refine (q2 _).mono ?_)
    rintro e w2 ⟨rfl, k2⟩
    have Hk2 := hid (Hk.out.nil k2)
    clear k2
    go_wp2_with fail
    (with_reducible refine (qn _).mono ?_)
    rintro e w3 ⟨rfl, k3⟩
    have Hk3 := hid (Hk2.out.nil k3)
    clear k3
    go_wp2_with fail
    go_ret2
    exact ⟨X, rfl, (fun _ => rfl), Hk3.out⟩
end Go.Proofs.YtgjffkblhhkjmaaDoor
