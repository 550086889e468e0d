/- Texts put together; texts of plain runes. -/
import Derived.Test.YtaaikjedagnjbaaGShown
import Derived.Laws.Cover4
namespace Go.Proofs.Ytaaikjedagnjbaa
open Go Go.RowKit Go.Lib

theorem data_cat (s t : ByteArray) : (s ++ t).data.toList = s.data.toList ++ t.data.toList := by
  rw [ByteArray.data_append, Array.toList_append]
theorem size_cat (s t : ByteArray) : (s ++ t).size = s.size + t.size := ByteArray.size_append
theorem cat_run {P : Program} {s t u : ByteArray} (hu : u = s ++ t) (h : s.size + t.size ≤ 9223372036854775807) (w : World) : (Op.stringOp .add s t).run P w = .ok (.string u) w := by
  rw [hu, run_string_add_sum _ _ _ h]
/-- UTF-8. -/
def okS (s : ByteArray) : Prop := validD s.data.toList = true
theorem cps_cat {s : ByteArray} (h : okS s) (t : ByteArray) : cps (s ++ t) = cps s ++ cps t := by
  unfold cps
  rw [data_cat, cps_append h]
theorem ok_cat {s t : ByteArray} (h : okS s) (h' : okS t) : okS (s ++ t) := by
  unfold okS
  rw [data_cat, valid_append _ h]
  exact h'
theorem valid_ascii : ∀ l : List UInt8, (∀ b ∈ l, b.toNat < 128) → validD l = true
  | [], _ => rfl
  | c :: t, h => by
    have hc := h c List.mem_cons_self
    have e : decodeL (c :: t) = (c.toNat, 1) := by rw [decodeL_N, decodeN_mk1 (by simpa using hc)]; rfl
    have hw : wd (c :: t) = 1 := by unfold wd; rw [e]
    have hb : ¬ Bad (c :: t) := by
      unfold Bad
      rw [e]
      rintro ⟨h1, _⟩
      have h1 : c.toNat = 65533 := h1
      omega
    rw [valid_yes hb (List.cons_ne_nil _ _), hw]
    exact valid_ascii t (fun b hb => h b (List.mem_cons_of_mem _ hb))
/-- Plain runes as a text. -/
def asciiS (l : List Nat) : ByteArray := ⟨(l.map UInt8.ofNat).toArray⟩
theorem ascii_list {l : List Nat} (h : ∀ c ∈ l, c < 128) : (l.map UInt8.ofNat).map UInt8.toNat = l := by
  rw [List.map_map]
  conv => rhs; rw [← List.map_id l]
  refine List.map_congr_left fun c hc => ?_
  have := h c hc
  simp
  omega
theorem ascii_lt {l : List Nat} (h : ∀ c ∈ l, c < 128) : ∀ b ∈ l.map UInt8.ofNat, b.toNat < 128 := by
  intro b hb
  obtain ⟨c, hc, rfl⟩ := List.mem_map.1 hb
  have := h c hc
  simp
  omega
theorem cps_asciiS {l : List Nat} (h : ∀ c ∈ l, c < 128) : cps (asciiS l) = l := by
  show cpsL (l.map UInt8.ofNat).toArray.toList = l
  rw [List.toList_toArray, cps_ascii _ (ascii_lt h), ascii_list h]
theorem ok_asciiS {l : List Nat} (h : ∀ c ∈ l, c < 128) : okS (asciiS l) := by
  show validD (l.map UInt8.ofNat).toArray.toList = true
  rw [List.toList_toArray]
  exact valid_ascii _ (ascii_lt h)
theorem size_asciiS (l : List Nat) : (asciiS l).size = l.length := by simp [asciiS, ByteArray.size]
theorem runesBytes_ascii : ∀ (l : List Nat), (∀ c ∈ l, c < 128) → ∀ s : ByteArray, (l.map fun c : Nat => (c : Int)).foldl (fun r n => r ++ Utf8.encode n) s = s ++ asciiS l
  | [], _, s => by
    show s = s ++ asciiS []
    have : asciiS [] = ByteArray.empty := rfl
    rw [this, ByteArray.append_empty]
  | c :: l, h, s => by
    have hc := h c List.mem_cons_self
    have e : Utf8.encode (c : Int) = asciiS [c] := by
      unfold Utf8.encode
      have hv : Utf8.valid (c : Int) = true := by simp [Utf8.valid]; omega
      simp only [hv, if_true, Int.toNat_natCast]
      rw [if_pos (by omega)]
      rfl
    rw [List.map_cons, List.foldl_cons, e, runesBytes_ascii l (fun x hx => h x (List.mem_cons_of_mem _ hx))]
    rw [ByteArray.append_assoc]
    congr 1
/-- 'string([]rune{..})' of plain runes. -/
theorem run_runes_text {P : Program} (w : World) (src dst e : TypeId) (g n c : Nat) (t : TypeId) (l : List Nat) (hn : n = l.length) (h : ∀ c ∈ l, c < 128) (hs : P.underlying src = some (.slice e)) (he : P.underlying e = some (.int .i32)) (hd : P.underlying dst = some .string)
    (hc : Cells w g t (runesV l)) : (convert src dst (.slice (some ⟨g, 0, none⟩) n c)).run P w = .ok (.string (asciiS l)) w := by
  subst hn
  have hl : (l.map fun c : Nat => (c : Int)).length = l.length := by simp
  have hx : ∀ j, j < (l.map fun c : Nat => (c : Int)).length → w.cell? ((⟨g, 0, none⟩ : Addr).add j) = some (.int .i32 ((l.map fun c : Nat => (c : Int)).getD j 0)) := fun j hj => by
    obtain ⟨ad, e1, e2⟩ := Span.of_cells hc j (.int .i32 ((l.map fun c : Nat => (c : Int)).getD j 0)) (by
      have hj' : j < l.length := by simpa using hj
      simp [runesV, List.getD_eq_getElem?_getD, List.getElem?_eq_getElem hj'])
    injection e1 with e1
    rw [e1]
    exact e2
  have := run_convert_runes (P := P) w src dst e ⟨g, 0, none⟩ l.length c (l.map fun c : Nat => (c : Int)) (by simp) hs he hd hx
  rw [this]
  congr 2
  have ht : (l.map fun c : Nat => (c : Int)).take l.length = l.map fun c : Nat => (c : Int) := List.take_of_length_le (by simp)
  rw [ht]
  unfold runesBytes
  rw [runesBytes_ascii l h]
  rw [ByteArray.empty_append]
end Go.Proofs.Ytaaikjedagnjbaa
