/-
  Contracts of the kit's shelf at this program, laid by the kit's own tool, in plain words.
-/
import Derived.Shelf.SlGeneric
import Derived.Shelf.SlIterI.Collect
import Derived.Shelf.SlIterI.Nil
import Derived.Test.YtedcpckocedcoaaProg
namespace Go.Proofs
open Go.Shelf
def Try.collectK_ren : Go.Shelf.Ren := ⟨fun | 8 => 20 | 11 => 32 | n => n, fun | 26 => 3 | 28 => 49 | 24 => 22 | 0 => 0 | 33 => 31 | 4 => 4 | n => n, fun | n => n⟩
theorem Try.collectK : Go.Proofs.SlLaysZI.n8 Try.prog Try.collectK_ren := {
  mixed := by kernel_rfl
  f8 := ⟨Try.f20.name, by decide, Try.func20.trans (congrArg some (by kernel_rfl))⟩
  f11 := ⟨Try.f32.name, by decide, Try.func32.trans (congrArg some (by kernel_rfl))⟩
  t0 := Try.underlying0
  a0 := Try.isAgg0
  z0 := Try.sizeOf0
  v0 := Try.zeroValue0
  t24 := Try.underlying22
  a24 := Try.isAgg22
  z24 := Try.sizeOf22
  v24 := Try.zeroValue22
  t26 := Try.underlying3
  a26 := Try.isAgg3
  z26 := Try.sizeOf3
  v26 := Try.zeroValue3
  t28 := Try.underlying49
  a28 := Try.isAgg49
  z28 := Try.sizeOf49
  v28 := Try.zeroValue49
  i26 := by kernel_rfl }
def Try.keysK_ren : Go.Shelf.Ren := ⟨fun | 7 => 21 | 10 => 33 | n => n, fun | 23 => 40 | 26 => 3 | 3 => 3 | 28 => 49 | 0 => 0 | 27 => 48 | 33 => 31 | 4 => 4 | n => n, fun | n => n⟩
theorem Try.keysK : Go.Proofs.SlLaysZI.n7 Try.prog Try.keysK_ren := {
  mixed := by kernel_rfl
  f7 := ⟨Try.f21.name, by decide, Try.func21.trans (congrArg some (by kernel_rfl))⟩
  f10 := ⟨Try.f33.name, by decide, Try.func33.trans (congrArg some (by kernel_rfl))⟩
  t0 := Try.underlying0
  a0 := Try.isAgg0
  z0 := Try.sizeOf0
  v0 := Try.zeroValue0
  t4 := Try.underlying4
  a4 := Try.isAgg4
  z4 := Try.sizeOf4
  v4 := Try.zeroValue4
  t23 := Try.underlying40
  a23 := Try.isAgg40
  z23 := Try.sizeOf40
  v23 := Try.zeroValue40
  t26 := Try.underlying3
  a26 := Try.isAgg3
  z26 := Try.sizeOf3
  v26 := Try.zeroValue3
  t27 := Try.underlying48
  a27 := Try.isAgg48
  z27 := Try.sizeOf48
  v27 := Try.zeroValue48
  t28 := Try.underlying49
  a28 := Try.isAgg49
  z28 := Try.sizeOf49
  v28 := Try.zeroValue49
  t33 := Try.underlying31
  a33 := Try.isAgg31
  z33 := Try.sizeOf31
  v33 := Try.zeroValue31 }
end Go.Proofs
