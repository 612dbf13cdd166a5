/-
  Contracts of the kit's shelf at this program, laid by the kit's own tool, in plain words.
-/
import Derived.Shelf.SlGeneric
import Derived.Shelf.SortM.Plain
import Derived.Shelf.SortM.SortNone
import Derived.Shelf.Slices.CompactI
import Derived.Test.YtmfidemkmmbioaaGreatProg
namespace Go.Proofs
open Go.Shelf
def Tryz.laySort_ren : Go.Shelf.Ren := ⟨fun | 5 => 114 | 8 => 122 | 7 => 121 | 19 => 133 | 20 => 134 | 10 => 124 | 11 => 125 | 12 => 126 | 13 => 127 | 14 => 128 | 15 => 129 | 16 => 130 | 17 => 131 | 18 => 132 | 30 => 142 | 31 => 143 | 32 => 144 | 33 => 145 | 34 => 146 | 35 => 147 | 40 => 149 | n => n, fun | 23 => 22 | 25 => 3 | 3 => 3 | 32 => 163 | 22 => 22 | 0 => 0 | 44 => 175 | 46 => 177 | 4 => 4 | 36 => 168 | 35 => 167 | 41 => 172 | 5 => 5 | 9 => 9 | 53 => 185 | 57 => 189 | 63 => 192 | 64 => 193 | n => n, fun | n => n⟩
theorem Tryz.laySort : Go.Proofs.SlLaysM.n5 Tryz.prog Tryz.laySort_ren := {
  mixed := by kernel_rfl
  f5 := ⟨Tryz.f114.name, by decide, Tryz.func114.trans (congrArg some (by kernel_rfl))⟩
  f7 := ⟨Tryz.f121.name, by decide, Tryz.func121.trans (congrArg some (by kernel_rfl))⟩
  f8 := Tryz.func122.trans (congrArg some (by kernel_rfl))
  f10 := ⟨Tryz.f124.name, by decide, Tryz.func124.trans (congrArg some (by kernel_rfl))⟩
  f11 := ⟨Tryz.f125.name, by decide, Tryz.func125.trans (congrArg some (by kernel_rfl))⟩
  f12 := ⟨Tryz.f126.name, by decide, Tryz.func126.trans (congrArg some (by kernel_rfl))⟩
  f13 := ⟨Tryz.f127.name, by decide, Tryz.func127.trans (congrArg some (by kernel_rfl))⟩
  f14 := ⟨Tryz.f128.name, by decide, Tryz.func128.trans (congrArg some (by kernel_rfl))⟩
  f15 := ⟨Tryz.f129.name, by decide, Tryz.func129.trans (congrArg some (by kernel_rfl))⟩
  f16 := ⟨Tryz.f130.name, by decide, Tryz.func130.trans (congrArg some (by kernel_rfl))⟩
  f17 := ⟨Tryz.f131.name, by decide, Tryz.func131.trans (congrArg some (by kernel_rfl))⟩
  f18 := ⟨Tryz.f132.name, by decide, Tryz.func132.trans (congrArg some (by kernel_rfl))⟩
  f19 := Tryz.func133.trans (congrArg some (by kernel_rfl))
  f20 := Tryz.func134.trans (congrArg some (by kernel_rfl))
  f30 := ⟨Tryz.f142.name, by decide, Tryz.func142.trans (congrArg some (by kernel_rfl))⟩
  f31 := Tryz.func143.trans (congrArg some (by kernel_rfl))
  f32 := Tryz.func144.trans (congrArg some (by kernel_rfl))
  f33 := ⟨Tryz.f145.name, by decide, Tryz.func145.trans (congrArg some (by kernel_rfl))⟩
  f34 := ⟨Tryz.f146.name, by decide, Tryz.func146.trans (congrArg some (by kernel_rfl))⟩
  f35 := ⟨Tryz.f147.name, by decide, Tryz.func147.trans (congrArg some (by kernel_rfl))⟩
  f40 := ⟨Tryz.f149.name, by decide, Tryz.func149.trans (congrArg some (by kernel_rfl))⟩
  t0 := Tryz.underlying0
  a0 := Tryz.isAgg0
  z0 := Tryz.sizeOf0
  v0 := Tryz.zeroValue0
  t3 := Tryz.underlying3
  a3 := Tryz.isAgg3
  z3 := Tryz.sizeOf3
  v3 := Tryz.zeroValue3
  t4 := Tryz.underlying4
  a4 := Tryz.isAgg4
  z4 := Tryz.sizeOf4
  v4 := Tryz.zeroValue4
  t5 := Tryz.underlying5
  a5 := Tryz.isAgg5
  z5 := Tryz.sizeOf5
  v5 := Tryz.zeroValue5
  t9 := Tryz.underlying9
  a9 := Tryz.isAgg9
  z9 := Tryz.sizeOf9
  v9 := Tryz.zeroValue9
  t22 := Tryz.underlying22
  a22 := Tryz.isAgg22
  z22 := Tryz.sizeOf22
  v22 := Tryz.zeroValue22
  t23 := Tryz.underlying22
  a23 := Tryz.isAgg22
  z23 := Tryz.sizeOf22
  v23 := Tryz.zeroValue22
  t25 := Tryz.underlying3
  a25 := Tryz.isAgg3
  z25 := Tryz.sizeOf3
  v25 := Tryz.zeroValue3
  t32 := Tryz.underlying163
  a32 := Tryz.isAgg163
  z32 := Tryz.sizeOf163
  v32 := Tryz.zeroValue163
  t35 := Tryz.underlying167
  a35 := Tryz.isAgg167
  z35 := Tryz.sizeOf167
  v35 := Tryz.zeroValue167
  t36 := Tryz.underlying168
  a36 := Tryz.isAgg168
  z36 := Tryz.sizeOf168
  v36 := Tryz.zeroValue168
  t41 := Tryz.underlying172
  a41 := Tryz.isAgg172
  z41 := Tryz.sizeOf172
  v41 := Tryz.zeroValue172
  t44 := Tryz.underlying175
  a44 := Tryz.isAgg175
  z44 := Tryz.sizeOf175
  v44 := Tryz.zeroValue175
  t46 := Tryz.underlying177
  a46 := Tryz.isAgg177
  z46 := Tryz.sizeOf177
  v46 := Tryz.zeroValue177
  t53 := Tryz.underlying185
  a53 := Tryz.isAgg185
  z53 := Tryz.sizeOf185
  v53 := Tryz.zeroValue185
  t57 := Tryz.underlying189
  a57 := Tryz.isAgg189
  z57 := Tryz.sizeOf189
  v57 := Tryz.zeroValue189
  t63 := Tryz.underlying192
  a63 := Tryz.isAgg192
  z63 := Tryz.sizeOf192
  v63 := Tryz.zeroValue192
  t64 := Tryz.underlying193
  a64 := Tryz.isAgg193
  z64 := Tryz.sizeOf193
  v64 := Tryz.zeroValue193 }
def Tryz.layCompact_ren : Go.Shelf.Ren := ⟨fun | 20 => 26 | n => n, fun | 22 => 22 | 3 => 3 | 4 => 4 | 0 => 0 | n => n, fun | n => n⟩
theorem Tryz.layCompact : Go.Proofs.Lays2.n20 Tryz.prog Tryz.layCompact_ren := {
  mixed := by kernel_rfl
  f20 := Tryz.func26.trans (congrArg some (by kernel_rfl))
  t0 := Tryz.underlying0
  a0 := Tryz.isAgg0
  z0 := Tryz.sizeOf0
  v0 := Tryz.zeroValue0
  t3 := Tryz.underlying3
  a3 := Tryz.isAgg3
  z3 := Tryz.sizeOf3
  v3 := Tryz.zeroValue3
  t4 := Tryz.underlying4
  a4 := Tryz.isAgg4
  z4 := Tryz.sizeOf4
  v4 := Tryz.zeroValue4
  t22 := Tryz.underlying22
  a22 := Tryz.isAgg22
  z22 := Tryz.sizeOf22
  v22 := Tryz.zeroValue22
  i3 := by kernel_rfl }
end Go.Proofs
