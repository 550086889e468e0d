/- sync/atomic's Int64 and sync.Once in the run of one goroutine: what each call does, cell by cell. -/
import Derived.Test.YtgoojndpondkmaaChecked
import Derived.Test.YtgoojndpondkmaaLaws
import Derived.Defers
import Derived.Laws.LoneSync
import Derived.RegionCalls
namespace Go.Proofs.Ytgoojndpondkmaa
open Go Go.RowKit

theorem disable (w : World) : (callFunc 38 #[]).run Try.prog w = .ok (.value (.tuple #[])) w := run_call_mark0 Try.func38 (by kernel_rfl) (by kernel_rfl) (by kernel_rfl) .disable (by kernel_rfl) w
theorem enable (w : World) : (callFunc 40 #[]).run Try.prog w = .ok (.value (.tuple #[])) w := run_call_mark0 Try.func40 (by kernel_rfl) (by kernel_rfl) (by kernel_rfl) .enable (by kernel_rfl) w
theorem acquire (a : Addr) (w : World) : (callFunc 41 #[.pointer (some a)]).run Try.prog w = .ok (.value (.tuple #[])) w := run_call_marked Try.func41 (by kernel_rfl) (by kernel_rfl) (by kernel_rfl) .acquire (by kernel_rfl) a w
theorem releaseMerge (a : Addr) (w : World) : (callFunc 43 #[.pointer (some a)]).run Try.prog w = .ok (.value (.tuple #[])) w := run_call_marked Try.func43 (by kernel_rfl) (by kernel_rfl) (by kernel_rfl) .releaseMerge (by kernel_rfl) a w

theorem load64 (w : World) (g o : Nat) (x : Int) (hc : w.cell? ⟨g, o, none⟩ = some (.int .i64 x)) : Calls Try.prog 19 #[.pointer (some ⟨g, o, none⟩)] w fun e w' => e = .returned (.int .i64 x) ∧ w = w' := by
  have hl := run_call_load (P := Try.prog) Try.func23 (by kernel_rfl) (by kernel_rfl) (by kernel_rfl) .i64 (by kernel_rfl) hc
  go_enter Try.func19, Try.ntmps19
  go_wp2
  go_ret
  exact ⟨rfl, rfl⟩
theorem add64 (w : World) (g o : Nat) (x y s : Int) (hc : w.cell? ⟨g, o, none⟩ = some (.int .i64 x)) (hf : w.frozen? ⟨g, o, none⟩ = false) (hs : x + y = s) (h1 : -9223372036854775808 ≤ s) (h2 : s ≤ 9223372036854775807) :
    Calls Try.prog 24 #[.pointer (some ⟨g, o, none⟩), .int .i64 y] w fun e w' => e = .returned (.int .i64 s) ∧ w.setCell ⟨g, o, none⟩ (.int .i64 s) = w' := by
  have hl := run_call_add (P := Try.prog) Try.func28 (by kernel_rfl) (by kernel_rfl) (by kernel_rfl) .i64 (by kernel_rfl) (y := y) (s := s) hc hf (by
    subst hs
    have := IntWalk.i64_in (x + y) ⟨h1, h2⟩
    simp [go_sem, this])
  go_enter Try.func24, Try.ntmps24
  go_wp2
  go_ret
  exact ⟨rfl, rfl⟩
theorem store64 (w : World) (g o : Nat) (x : Value) (y : Int) (hc : w.cell? ⟨g, o, none⟩ = some x) (hf : w.frozen? ⟨g, o, none⟩ = false) :
    Calls Try.prog 25 #[.pointer (some ⟨g, o, none⟩), .int .i64 y] w fun e w' => e = .returned (.tuple #[]) ∧ w.setCell ⟨g, o, none⟩ (.int .i64 y) = w' := by
  have hst := run_call_store (P := Try.prog) Try.func29 (by kernel_rfl) (by kernel_rfl) (by kernel_rfl) (by kernel_rfl) (k := .i64) (y := y) hc hf
  go_enter Try.func25, Try.ntmps25
  go_wp2
  go_end0
  exact ⟨rfl, rfl⟩
theorem boolLoad (w : World) (g o : Nat) (x : Int) (b : Bool) (hb : (x != 0) = b) (hc : w.cell? ⟨g, o, none⟩ = some (.int .u32 x)) : Calls Try.prog 26 #[.pointer (some ⟨g, o, none⟩)] w fun e w' => e = .returned (.bool b) ∧ w = w' := by
  have hl := run_call_load (P := Try.prog) Try.func30 (by kernel_rfl) (by kernel_rfl) (by kernel_rfl) .u32 (by kernel_rfl) hc
  go_enter Try.func26, Try.ntmps26
  go_wp2
  go_ret
  exact ⟨rfl, rfl⟩
end Go.Proofs.Ytgoojndpondkmaa
