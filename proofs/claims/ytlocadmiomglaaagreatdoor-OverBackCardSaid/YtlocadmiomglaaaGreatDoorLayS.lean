/-
  Contracts of the kit's shelf at this program, laid by the kit's own tool, in plain words.
-/
import Derived.Shelf.SlGeneric
import Derived.Shelf.SortM.Plain
import Derived.Shelf.SortM.SortNone
import Derived.Test.YtlocadmiomglaaaGreatDoorProg
namespace Go.Proofs
open Go.Shelf
def Tryz.laySort_ren : Go.Shelf.Ren := ⟨fun | 5 => 125 | 8 => 171 | 7 => 170 | 19 => 202 | 20 => 203 | 10 => 193 | 11 => 194 | 12 => 195 | 13 => 196 | 14 => 197 | 15 => 198 | 16 => 199 | 17 => 200 | 18 => 201 | 30 => 216 | 31 => 217 | 32 => 218 | 33 => 219 | 34 => 220 | 35 => 221 | 40 => 231 | n => n, fun | 23 => 27 | 25 => 3 | 3 => 3 | 32 => 244 | 22 => 27 | 0 => 0 | 44 => 254 | 46 => 267 | 4 => 4 | 36 => 272 | 35 => 271 | 41 => 118 | 5 => 5 | 9 => 9 | 53 => 298 | 57 => 302 | 63 => 311 | 64 => 312 | n => n, fun | n => n⟩
theorem Tryz.laySort : Go.Proofs.SlLaysM.n5 Tryz.prog Tryz.laySort_ren := {
  mixed := by kernel_rfl
  f5 := ⟨Tryz.f125.name, by decide, Tryz.func125.trans (congrArg some (by kernel_rfl))⟩
  f7 := ⟨Tryz.f170.name, by decide, Tryz.func170.trans (congrArg some (by kernel_rfl))⟩
  f8 := Tryz.func171.trans (congrArg some (by kernel_rfl))
  f10 := ⟨Tryz.f193.name, by decide, Tryz.func193.trans (congrArg some (by kernel_rfl))⟩
  f11 := ⟨Tryz.f194.name, by decide, Tryz.func194.trans (congrArg some (by kernel_rfl))⟩
  f12 := ⟨Tryz.f195.name, by decide, Tryz.func195.trans (congrArg some (by kernel_rfl))⟩
  f13 := ⟨Tryz.f196.name, by decide, Tryz.func196.trans (congrArg some (by kernel_rfl))⟩
  f14 := ⟨Tryz.f197.name, by decide, Tryz.func197.trans (congrArg some (by kernel_rfl))⟩
  f15 := ⟨Tryz.f198.name, by decide, Tryz.func198.trans (congrArg some (by kernel_rfl))⟩
  f16 := ⟨Tryz.f199.name, by decide, Tryz.func199.trans (congrArg some (by kernel_rfl))⟩
  f17 := ⟨Tryz.f200.name, by decide, Tryz.func200.trans (congrArg some (by kernel_rfl))⟩
  f18 := ⟨Tryz.f201.name, by decide, Tryz.func201.trans (congrArg some (by kernel_rfl))⟩
  f19 := Tryz.func202.trans (congrArg some (by kernel_rfl))
  f20 := Tryz.func203.trans (congrArg some (by kernel_rfl))
  f30 := ⟨Tryz.f216.name, by decide, Tryz.func216.trans (congrArg some (by kernel_rfl))⟩
  f31 := Tryz.func217.trans (congrArg some (by kernel_rfl))
  f32 := Tryz.func218.trans (congrArg some (by kernel_rfl))
  f33 := ⟨Tryz.f219.name, by decide, Tryz.func219.trans (congrArg some (by kernel_rfl))⟩
  f34 := ⟨Tryz.f220.name, by decide, Tryz.func220.trans (congrArg some (by kernel_rfl))⟩
  f35 := ⟨Tryz.f221.name, by decide, Tryz.func221.trans (congrArg some (by kernel_rfl))⟩
  f40 := ⟨Tryz.f231.name, by decide, Tryz.func231.trans (congrArg some (by kernel_rfl))⟩
  t0 := Tryz.underlying0
  a0 := Tryz.isAgg0
  z0 := Tryz.sizeOf0
  v0 := Tryz.zeroValue0
  t3 := Tryz.underlying3
  a3 := Tryz.isAgg3
  z3 := Tryz.sizeOf3
  v3 := Tryz.zeroValue3
  t4 := Tryz.underlying4
  a4 := Tryz.isAgg4
  z4 := Tryz.sizeOf4
  v4 := Tryz.zeroValue4
  t5 := Tryz.underlying5
  a5 := Tryz.isAgg5
  z5 := Tryz.sizeOf5
  v5 := Tryz.zeroValue5
  t9 := Tryz.underlying9
  a9 := Tryz.isAgg9
  z9 := Tryz.sizeOf9
  v9 := Tryz.zeroValue9
  t22 := Tryz.underlying27
  a22 := Tryz.isAgg27
  z22 := Tryz.sizeOf27
  v22 := Tryz.zeroValue27
  t23 := Tryz.underlying27
  a23 := Tryz.isAgg27
  z23 := Tryz.sizeOf27
  v23 := Tryz.zeroValue27
  t25 := Tryz.underlying3
  a25 := Tryz.isAgg3
  z25 := Tryz.sizeOf3
  v25 := Tryz.zeroValue3
  t32 := Tryz.underlying244
  a32 := Tryz.isAgg244
  z32 := Tryz.sizeOf244
  v32 := Tryz.zeroValue244
  t35 := Tryz.underlying271
  a35 := Tryz.isAgg271
  z35 := Tryz.sizeOf271
  v35 := Tryz.zeroValue271
  t36 := Tryz.underlying272
  a36 := Tryz.isAgg272
  z36 := Tryz.sizeOf272
  v36 := Tryz.zeroValue272
  t41 := Tryz.underlying118
  a41 := Tryz.isAgg118
  z41 := Tryz.sizeOf118
  v41 := Tryz.zeroValue118
  t44 := Tryz.underlying254
  a44 := Tryz.isAgg254
  z44 := Tryz.sizeOf254
  v44 := Tryz.zeroValue254
  t46 := Tryz.underlying267
  a46 := Tryz.isAgg267
  z46 := Tryz.sizeOf267
  v46 := Tryz.zeroValue267
  t53 := Tryz.underlying298
  a53 := Tryz.isAgg298
  z53 := Tryz.sizeOf298
  v53 := Tryz.zeroValue298
  t57 := Tryz.underlying302
  a57 := Tryz.isAgg302
  z57 := Tryz.sizeOf302
  v57 := Tryz.zeroValue302
  t63 := Tryz.underlying311
  a63 := Tryz.isAgg311
  z63 := Tryz.sizeOf311
  v63 := Tryz.zeroValue311
  t64 := Tryz.underlying312
  a64 := Tryz.isAgg312
  z64 := Tryz.sizeOf312
  v64 := Tryz.zeroValue312 }
end Go.Proofs
