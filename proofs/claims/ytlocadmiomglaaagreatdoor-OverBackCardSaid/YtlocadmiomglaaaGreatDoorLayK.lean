/-
  Contracts of the kit's shelf at this program, laid by the kit's own tool, in plain words.
-/
import Derived.Shelf.SlGeneric
import Derived.Shelf.SlIterI.Collect
import Derived.Shelf.SlIterI.Nil
import Derived.Test.YtlocadmiomglaaaGreatDoorProg
namespace Go.Proofs
open Go.Shelf
def Tryz.collectK_ren : Go.Shelf.Ren := ⟨fun | 8 => 127 | 11 => 174 | n => n, fun | 26 => 3 | 28 => 109 | 24 => 27 | 0 => 0 | 33 => 101 | 4 => 4 | n => n, fun | n => n⟩
theorem Tryz.collectK : Go.Proofs.SlLaysZI.n8 Tryz.prog Tryz.collectK_ren := {
  mixed := by kernel_rfl
  f8 := ⟨Tryz.f127.name, by decide, Tryz.func127.trans (congrArg some (by kernel_rfl))⟩
  f11 := ⟨Tryz.f174.name, by decide, Tryz.func174.trans (congrArg some (by kernel_rfl))⟩
  t0 := Tryz.underlying0
  a0 := Tryz.isAgg0
  z0 := Tryz.sizeOf0
  v0 := Tryz.zeroValue0
  t24 := Tryz.underlying27
  a24 := Tryz.isAgg27
  z24 := Tryz.sizeOf27
  v24 := Tryz.zeroValue27
  t26 := Tryz.underlying3
  a26 := Tryz.isAgg3
  z26 := Tryz.sizeOf3
  v26 := Tryz.zeroValue3
  t28 := Tryz.underlying109
  a28 := Tryz.isAgg109
  z28 := Tryz.sizeOf109
  v28 := Tryz.zeroValue109
  i26 := by kernel_rfl }
def Tryz.keysP_ren : Go.Shelf.Ren := ⟨fun | 7 => 50 | 10 => 128 | n => n, fun | 23 => 102 | 26 => 3 | 3 => 67 | 28 => 109 | 0 => 0 | 27 => 108 | 33 => 101 | 4 => 4 | n => n, fun | n => n⟩
theorem Tryz.keysP : Go.Proofs.SlLaysZI.n7 Tryz.prog Tryz.keysP_ren := {
  mixed := by kernel_rfl
  f7 := ⟨Tryz.f50.name, by decide, Tryz.func50.trans (congrArg some (by kernel_rfl))⟩
  f10 := ⟨Tryz.f128.name, by decide, Tryz.func128.trans (congrArg some (by kernel_rfl))⟩
  t0 := Tryz.underlying0
  a0 := Tryz.isAgg0
  z0 := Tryz.sizeOf0
  v0 := Tryz.zeroValue0
  t4 := Tryz.underlying4
  a4 := Tryz.isAgg4
  z4 := Tryz.sizeOf4
  v4 := Tryz.zeroValue4
  t23 := Tryz.underlying102
  a23 := Tryz.isAgg102
  z23 := Tryz.sizeOf102
  v23 := Tryz.zeroValue102
  t26 := Tryz.underlying3
  a26 := Tryz.isAgg3
  z26 := Tryz.sizeOf3
  v26 := Tryz.zeroValue3
  t27 := Tryz.underlying108
  a27 := Tryz.isAgg108
  z27 := Tryz.sizeOf108
  v27 := Tryz.zeroValue108
  t28 := Tryz.underlying109
  a28 := Tryz.isAgg109
  z28 := Tryz.sizeOf109
  v28 := Tryz.zeroValue109
  t33 := Tryz.underlying101
  a33 := Tryz.isAgg101
  z33 := Tryz.sizeOf101
  v33 := Tryz.zeroValue101 }
end Go.Proofs
