/- The document's answer for layer 1: turned, differences. -/
import Derived.Test.YtampgimmodomoaaGreatDoorDRAdd
import Derived.Test.YtampgimmodomoaaGreatDoorDSym
import Derived.Test.YtampgimmodomoaaGreatDoorDSub
namespace Go.Proofs.YtampgimmodomoaaGreatDoor
open Go Go.RowKit Go.Lib

theorem radd_sym {a b : Dc} (ha : Ok a) (hb : Ok b) : Gives 38 #[.agg #[.bool a.neg, .string ⟨(dtxt a.n).toArray⟩, .int .i64 (a.s : Int)], .agg #[.bool b.neg, .string ⟨(dtxt b.n).toArray⟩, .int .i64 (b.s : Int)]] (addD a b) := fun W => (radd_any W a b ha hb).mono fun e w' ⟨h1, h2⟩ => ⟨by rw [h1, resV_is], h2⟩
theorem dtxt_zero {n : Nat} : dtxt n = [48] ↔ n = 0 := ⟨fun h => dtxt_inj (b := 0) h, fun h => by rw [h]; rfl⟩
theorem sub_code (a b : Dc) : addD a (turn b) = subD a b := (sub_turn a b).symm
end Go.Proofs.YtampgimmodomoaaGreatDoor
