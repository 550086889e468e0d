/- RedactViews, as its card wants it. -/
import Derived.Test.YtpeldjihalldkaaDoorTViews
namespace Go.Proofs.YtpeldjihalldkaaDoor
open Go Go.RowKit Go.Lib

theorem viewslaw (W : World) (_ : Tabs W) (Ac : Option Addr) (cc : Nat) (C : List Txt) (Am : Option Addr) (cm : Nat) (ms : List (List StI × Nat)) (tok : Txt) (fu qu : Int) (hC : RawsAt W Ac cc C) (hm : MarksAt W Am cm ms) (hs : ∀ m ∈ ms, ∀ s ∈ m.1, s.2.1.length ≤ 1048576) (ht : tok.length ≤ 1048576)
    (A : Option Addr) (c : Nat) (l : List Itm) (A' : Option Addr) (c' : Nat) (l' : List Itm) (hl : ItemsAt W A c l) (hl' : ItemsAt W A' c' l') (a b : Int) (ha : 0 ≤ a ∧ a ≤ 18446744073709551615) (hb : 0 ≤ b ∧ b ≤ 18446744073709551615) :
    Calls Tryd.prog 8 #[.agg #[.slice Ac C.length cc, .slice Am ms.length cm, .string ⟨tok.toArray⟩, .int .i64 fu, .int .i64 qu], .agg #[.slice A l.length c, .slice A' l'.length c'], .agg #[.int .u64 a, .int .u64 b]] W fun e w' => e = .returned (.bool true) ∧ Kp [] W w' := by
  obtain ⟨a, rfl, ha'⟩ := u64_nat ha
  obtain ⟨b, rfl, hb'⟩ := u64_nat hb
  exact viewslaw_any W Ac cc C hC Am cm ms hm (fun m h s h2 => Nat.le_trans (hs m h s h2) (by decide)) tok (Nat.le_trans ht (by decide)) fu qu A c l hl A' c' l' hl' a b ha' hb'
end Go.Proofs.YtpeldjihalldkaaDoor
