/- RedactNone's plain laws: a value bare but for its top. -/
import Derived.Test.YtpeldjihalldkaaDoorRF
namespace Go.Proofs.YtpeldjihalldkaaDoor
open Go Go.RowKit Go.Lib

theorem with_bare (v : Vl) (mask : Nat) : ∃ k num t keys kids code, bareV v = .mk k 0 num t keys kids code ∧ withV (bareV v) mask = .mk k mask num t keys kids code := by
  obtain ⟨k, m, num, t, keys, kids, code⟩ := v
  refine ⟨k, num, t, keys, bares kids, code, by unfold bareV; rfl, ?_⟩
  unfold bareV
  show Vl.mk k (0 ||| mask) num t keys (bares kids) code = _
  rw [Nat.zero_or]
theorem none_show {mask cl : Nat} (h : hidB mask cl = false) (hole : Txt) (v : Vl) : showL cl hole (withV (bareV v) mask) = showL cl hole (bareV v) := by
  obtain ⟨k, num, t, keys, kids, code, e1, e2⟩ := with_bare v mask
  rw [e2, e1]
  unfold showL
  rw [h, hid_zero]
theorem none_hid {mask cl : Nat} (h : hidB mask cl = true) (hole : Txt) (v : Vl) : showL cl hole (withV (bareV v) mask) = hole := by
  obtain ⟨k, num, t, keys, kids, code, e1, e2⟩ := with_bare v mask
  rw [e2]
  unfold showL
  rw [if_pos h]
theorem none_holes {mask cl : Nat} (h : hidB mask cl = false) (at_ : List Stp) (v : Vl) : holesL cl at_ (withV (bareV v) mask) = [] := by
  have hb := bare_holes cl v at_
  obtain ⟨k, num, t, keys, kids, code, e1, e2⟩ := with_bare v mask
  rw [e1] at hb
  rw [e2]
  unfold holesL at hb ⊢
  rw [hid_zero] at hb
  rw [h]
  exact hb
theorem all_holes {mask cl : Nat} (h : hidB mask cl = true) (at_ : List Stp) (v : Vl) : holesL cl at_ (withV (bareV v) mask) = [at_] := by
  obtain ⟨k, num, t, keys, kids, code, e1, e2⟩ := with_bare v mask
  rw [e2]
  unfold holesL
  rw [if_pos h]
theorem none_alike {mask cl : Nat} (h : hidB mask cl = true) (v : Vl) (k : Nat) (num : Option Dc) (t : Txt) (keys : List Txt) (kids : List Vl) (code : Nat) : alikeL cl (withV (bareV v) mask) (.mk k mask num t keys kids code) = true := by
  obtain ⟨k', num', t', keys', kids', code', e1, e2⟩ := with_bare v mask
  rw [e2]
  unfold alikeL
  rw [h]
  simp
theorem none_other {mask cl : Nat} (h : hidB mask cl = true) (v : Vl) : alikeL cl (withV (bareV v) mask) (bareV v) = false := by
  obtain ⟨k', num', t', keys', kids', code', e1, e2⟩ := with_bare v mask
  rw [e2, e1]
  unfold alikeL
  rw [h, hid_zero]
  simp
end Go.Proofs.YtpeldjihalldkaaDoor
