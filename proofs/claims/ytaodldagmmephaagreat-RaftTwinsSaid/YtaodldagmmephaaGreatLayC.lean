/-
  Contracts of the kit's shelf at this program, laid by the kit's own tool, in plain words.
-/
import Derived.Shelf.SlGeneric
import Derived.Shelf.SlicesE.Clone
import Derived.Test.YtaodldagmmephaaGreatProg
namespace Go.Proofs
open Go.Shelf
def Tryz.layCloneE_ren : Go.Shelf.Ren := ⟨fun | 41 => 92 | n => n, fun | 22 => 23 | 23 => 25 | 4 => 4 | n => n, fun | n => n⟩
theorem Tryz.layCloneE : Go.Proofs.SlLaysE0.n41 Tryz.prog Tryz.layCloneE_ren := {
  mixed := by kernel_rfl
  f41 := ⟨Tryz.f92.name, by decide, Tryz.func92.trans (congrArg some (by kernel_rfl))⟩
  t4 := Tryz.underlying4
  a4 := Tryz.isAgg4
  z4 := Tryz.sizeOf4
  v4 := Tryz.zeroValue4
  t22 := Tryz.underlying23
  a22 := Tryz.isAgg23
  z22 := Tryz.sizeOf23
  v22 := Tryz.zeroValue23 }
end Go.Proofs
