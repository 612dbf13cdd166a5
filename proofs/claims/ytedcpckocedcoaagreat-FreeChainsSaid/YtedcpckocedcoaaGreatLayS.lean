/-
  Contracts of the kit's shelf at this program, laid by the kit's own tool, in plain words.
-/
import Derived.Shelf.SlGeneric
import Derived.Shelf.SortM.Plain
import Derived.Shelf.SortM.SortNone
import Derived.Test.YtedcpckocedcoaaGreatProg
namespace Go.Proofs
open Go.Shelf
def Tryz.laySort_ren : Go.Shelf.Ren := ⟨fun | 5 => 49 | 8 => 113 | 7 => 112 | 19 => 147 | 20 => 148 | 10 => 138 | 11 => 139 | 12 => 140 | 13 => 141 | 14 => 142 | 15 => 143 | 16 => 144 | 17 => 145 | 18 => 146 | 30 => 152 | 31 => 153 | 32 => 154 | 33 => 155 | 34 => 156 | 35 => 157 | 40 => 159 | n => n, fun | 23 => 22 | 25 => 3 | 3 => 3 | 32 => 133 | 22 => 22 | 0 => 0 | 44 => 203 | 46 => 205 | 4 => 4 | 36 => 196 | 35 => 195 | 41 => 56 | 5 => 5 | 9 => 9 | 53 => 209 | 57 => 213 | 63 => 216 | 64 => 217 | n => n, fun | n => n⟩
theorem Tryz.laySort : Go.Proofs.SlLaysM.n5 Tryz.prog Tryz.laySort_ren := {
  mixed := by kernel_rfl
  f5 := ⟨Tryz.f49.name, by decide, Tryz.func49.trans (congrArg some (by kernel_rfl))⟩
  f7 := ⟨Tryz.f112.name, by decide, Tryz.func112.trans (congrArg some (by kernel_rfl))⟩
  f8 := Tryz.func113.trans (congrArg some (by kernel_rfl))
  f10 := ⟨Tryz.f138.name, by decide, Tryz.func138.trans (congrArg some (by kernel_rfl))⟩
  f11 := ⟨Tryz.f139.name, by decide, Tryz.func139.trans (congrArg some (by kernel_rfl))⟩
  f12 := ⟨Tryz.f140.name, by decide, Tryz.func140.trans (congrArg some (by kernel_rfl))⟩
  f13 := ⟨Tryz.f141.name, by decide, Tryz.func141.trans (congrArg some (by kernel_rfl))⟩
  f14 := ⟨Tryz.f142.name, by decide, Tryz.func142.trans (congrArg some (by kernel_rfl))⟩
  f15 := ⟨Tryz.f143.name, by decide, Tryz.func143.trans (congrArg some (by kernel_rfl))⟩
  f16 := ⟨Tryz.f144.name, by decide, Tryz.func144.trans (congrArg some (by kernel_rfl))⟩
  f17 := ⟨Tryz.f145.name, by decide, Tryz.func145.trans (congrArg some (by kernel_rfl))⟩
  f18 := ⟨Tryz.f146.name, by decide, Tryz.func146.trans (congrArg some (by kernel_rfl))⟩
  f19 := Tryz.func147.trans (congrArg some (by kernel_rfl))
  f20 := Tryz.func148.trans (congrArg some (by kernel_rfl))
  f30 := ⟨Tryz.f152.name, by decide, Tryz.func152.trans (congrArg some (by kernel_rfl))⟩
  f31 := Tryz.func153.trans (congrArg some (by kernel_rfl))
  f32 := Tryz.func154.trans (congrArg some (by kernel_rfl))
  f33 := ⟨Tryz.f155.name, by decide, Tryz.func155.trans (congrArg some (by kernel_rfl))⟩
  f34 := ⟨Tryz.f156.name, by decide, Tryz.func156.trans (congrArg some (by kernel_rfl))⟩
  f35 := ⟨Tryz.f157.name, by decide, Tryz.func157.trans (congrArg some (by kernel_rfl))⟩
  f40 := ⟨Tryz.f159.name, by decide, Tryz.func159.trans (congrArg some (by kernel_rfl))⟩
  t0 := Tryz.underlying0
  a0 := Tryz.isAgg0
  z0 := Tryz.sizeOf0
  v0 := Tryz.zeroValue0
  t3 := Tryz.underlying3
  a3 := Tryz.isAgg3
  z3 := Tryz.sizeOf3
  v3 := Tryz.zeroValue3
  t4 := Tryz.underlying4
  a4 := Tryz.isAgg4
  z4 := Tryz.sizeOf4
  v4 := Tryz.zeroValue4
  t5 := Tryz.underlying5
  a5 := Tryz.isAgg5
  z5 := Tryz.sizeOf5
  v5 := Tryz.zeroValue5
  t9 := Tryz.underlying9
  a9 := Tryz.isAgg9
  z9 := Tryz.sizeOf9
  v9 := Tryz.zeroValue9
  t22 := Tryz.underlying22
  a22 := Tryz.isAgg22
  z22 := Tryz.sizeOf22
  v22 := Tryz.zeroValue22
  t23 := Tryz.underlying22
  a23 := Tryz.isAgg22
  z23 := Tryz.sizeOf22
  v23 := Tryz.zeroValue22
  t25 := Tryz.underlying3
  a25 := Tryz.isAgg3
  z25 := Tryz.sizeOf3
  v25 := Tryz.zeroValue3
  t32 := Tryz.underlying133
  a32 := Tryz.isAgg133
  z32 := Tryz.sizeOf133
  v32 := Tryz.zeroValue133
  t35 := Tryz.underlying195
  a35 := Tryz.isAgg195
  z35 := Tryz.sizeOf195
  v35 := Tryz.zeroValue195
  t36 := Tryz.underlying196
  a36 := Tryz.isAgg196
  z36 := Tryz.sizeOf196
  v36 := Tryz.zeroValue196
  t41 := Tryz.underlying56
  a41 := Tryz.isAgg56
  z41 := Tryz.sizeOf56
  v41 := Tryz.zeroValue56
  t44 := Tryz.underlying203
  a44 := Tryz.isAgg203
  z44 := Tryz.sizeOf203
  v44 := Tryz.zeroValue203
  t46 := Tryz.underlying205
  a46 := Tryz.isAgg205
  z46 := Tryz.sizeOf205
  v46 := Tryz.zeroValue205
  t53 := Tryz.underlying209
  a53 := Tryz.isAgg209
  z53 := Tryz.sizeOf209
  v53 := Tryz.zeroValue209
  t57 := Tryz.underlying213
  a57 := Tryz.isAgg213
  z57 := Tryz.sizeOf213
  v57 := Tryz.zeroValue213
  t63 := Tryz.underlying216
  a63 := Tryz.isAgg216
  z63 := Tryz.sizeOf216
  v63 := Tryz.zeroValue216
  t64 := Tryz.underlying217
  a64 := Tryz.isAgg217
  z64 := Tryz.sizeOf217
  v64 := Tryz.zeroValue217 }
end Go.Proofs
