/-
  Contracts of the kit's shelf at this program, laid by the kit's own tool, in plain words.
-/
import Derived.Shelf.SlGeneric
import Derived.Shelf.SlIterI.Collect
import Derived.Shelf.SlIterI.Nil
import Derived.Test.YtedcpckocedcoaaGreatProg
namespace Go.Proofs
open Go.Shelf
def Tryz.collectK_ren : Go.Shelf.Ren := ⟨fun | 8 => 43 | 11 => 107 | n => n, fun | 26 => 3 | 28 => 90 | 24 => 22 | 0 => 0 | 33 => 64 | 4 => 4 | n => n, fun | n => n⟩
theorem Tryz.collectK : Go.Proofs.SlLaysZI.n8 Tryz.prog Tryz.collectK_ren := {
  mixed := by kernel_rfl
  f8 := ⟨Tryz.f43.name, by decide, Tryz.func43.trans (congrArg some (by kernel_rfl))⟩
  f11 := ⟨Tryz.f107.name, by decide, Tryz.func107.trans (congrArg some (by kernel_rfl))⟩
  t0 := Tryz.underlying0
  a0 := Tryz.isAgg0
  z0 := Tryz.sizeOf0
  v0 := Tryz.zeroValue0
  t24 := Tryz.underlying22
  a24 := Tryz.isAgg22
  z24 := Tryz.sizeOf22
  v24 := Tryz.zeroValue22
  t26 := Tryz.underlying3
  a26 := Tryz.isAgg3
  z26 := Tryz.sizeOf3
  v26 := Tryz.zeroValue3
  t28 := Tryz.underlying90
  a28 := Tryz.isAgg90
  z28 := Tryz.sizeOf90
  v28 := Tryz.zeroValue90
  i26 := by kernel_rfl }
def Tryz.keysK_ren : Go.Shelf.Ren := ⟨fun | 7 => 44 | 10 => 108 | n => n, fun | 23 => 37 | 26 => 3 | 3 => 3 | 28 => 90 | 0 => 0 | 27 => 89 | 33 => 64 | 4 => 4 | n => n, fun | n => n⟩
theorem Tryz.keysK : Go.Proofs.SlLaysZI.n7 Tryz.prog Tryz.keysK_ren := {
  mixed := by kernel_rfl
  f7 := ⟨Tryz.f44.name, by decide, Tryz.func44.trans (congrArg some (by kernel_rfl))⟩
  f10 := ⟨Tryz.f108.name, by decide, Tryz.func108.trans (congrArg some (by kernel_rfl))⟩
  t0 := Tryz.underlying0
  a0 := Tryz.isAgg0
  z0 := Tryz.sizeOf0
  v0 := Tryz.zeroValue0
  t4 := Tryz.underlying4
  a4 := Tryz.isAgg4
  z4 := Tryz.sizeOf4
  v4 := Tryz.zeroValue4
  t23 := Tryz.underlying37
  a23 := Tryz.isAgg37
  z23 := Tryz.sizeOf37
  v23 := Tryz.zeroValue37
  t26 := Tryz.underlying3
  a26 := Tryz.isAgg3
  z26 := Tryz.sizeOf3
  v26 := Tryz.zeroValue3
  t27 := Tryz.underlying89
  a27 := Tryz.isAgg89
  z27 := Tryz.sizeOf89
  v27 := Tryz.zeroValue89
  t28 := Tryz.underlying90
  a28 := Tryz.isAgg90
  z28 := Tryz.sizeOf90
  v28 := Tryz.zeroValue90
  t33 := Tryz.underlying64
  a33 := Tryz.isAgg64
  z33 := Tryz.sizeOf64
  v33 := Tryz.zeroValue64 }
end Go.Proofs
