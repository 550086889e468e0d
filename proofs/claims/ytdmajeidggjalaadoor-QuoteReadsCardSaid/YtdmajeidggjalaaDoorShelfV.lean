/- What the contracts of the library ask of this program: each a fact of its own, or the kernel's comparison. -/
import Derived.Test.YtdmajeidggjalaaDoorProg
import Derived.Shelf.Unicode.ValidAny
namespace Go.Proofs.YtdmajeidggjalaaDoor
open Go Go.Shelf
def laysValid_ren : Go.Shelf.Ren := ⟨fun | 196 => 29 | 259 => 41 | n => n, fun | 9 => 9 | 4 => 4 | 3 => 3 | 5 => 5 | 12 => 12 | 119 => 65 | 0 => 0 | 46 => 56 | 139 => 68 | 138 => 67 | 53 => 72 | n => n, fun | 3 => 0 | 4 => 1 | n => n⟩
theorem laysValid : Go.Proofs.Lays.n196 Tryd.prog laysValid_ren := {
  mixed := by kernel_rfl
  f196 := Tryd.func29.trans (congrArg some (by kernel_rfl))
  f259 := Tryd.func41.trans (congrArg some (by kernel_rfl))
  t0 := Tryd.underlying0
  a0 := Tryd.isAgg0
  z0 := Tryd.sizeOf0
  v0 := Tryd.zeroValue0
  t3 := Tryd.underlying3
  a3 := Tryd.isAgg3
  z3 := Tryd.sizeOf3
  v3 := Tryd.zeroValue3
  t4 := Tryd.underlying4
  a4 := Tryd.isAgg4
  z4 := Tryd.sizeOf4
  v4 := Tryd.zeroValue4
  t5 := Tryd.underlying5
  a5 := Tryd.isAgg5
  z5 := Tryd.sizeOf5
  v5 := Tryd.zeroValue5
  t9 := Tryd.underlying9
  a9 := Tryd.isAgg9
  z9 := Tryd.sizeOf9
  v9 := Tryd.zeroValue9
  t12 := Tryd.underlying12
  a12 := Tryd.isAgg12
  z12 := Tryd.sizeOf12
  v12 := Tryd.zeroValue12
  t46 := Tryd.underlying56
  a46 := Tryd.isAgg56
  z46 := Tryd.sizeOf56
  v46 := Tryd.zeroValue56
  t53 := Tryd.underlying72
  a53 := Tryd.isAgg72
  z53 := Tryd.sizeOf72
  v53 := Tryd.zeroValue72
  t119 := Tryd.underlying65
  a119 := Tryd.isAgg65
  z119 := Tryd.sizeOf65
  t138 := Tryd.underlying67
  a138 := Tryd.isAgg67
  z138 := Tryd.sizeOf67
  v138 := Tryd.zeroValue67
  t139 := Tryd.underlying68
  a139 := Tryd.isAgg68
  z139 := Tryd.sizeOf68
  v139 := Tryd.zeroValue68
  g3 := by kernel_rfl
  g4 := by kernel_rfl }
end Go.Proofs.YtdmajeidggjalaaDoor
