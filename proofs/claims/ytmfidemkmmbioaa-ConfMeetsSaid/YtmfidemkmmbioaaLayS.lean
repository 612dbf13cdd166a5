/-
  Contracts of the kit's shelf at this program, laid by the kit's own tool, in plain words.
-/
import Derived.Shelf.SlGeneric
import Derived.Shelf.SortM.Plain
import Derived.Shelf.SortM.SortNone
import Derived.Shelf.Slices.CompactI
import Derived.Test.YtmfidemkmmbioaaProg
namespace Go.Proofs
open Go.Shelf
def Try.laySort_ren : Go.Shelf.Ren := ⟨fun | 5 => 37 | 8 => 41 | 7 => 40 | 19 => 51 | 20 => 52 | 10 => 42 | 11 => 43 | 12 => 44 | 13 => 45 | 14 => 46 | 15 => 47 | 16 => 48 | 17 => 49 | 18 => 50 | 30 => 53 | 31 => 54 | 32 => 55 | 33 => 56 | 34 => 57 | 35 => 58 | 40 => 59 | n => n, fun | 23 => 22 | 25 => 3 | 3 => 3 | 32 => 70 | 22 => 22 | 0 => 0 | 44 => 80 | 46 => 82 | 4 => 4 | 36 => 73 | 35 => 72 | 41 => 77 | 5 => 5 | 9 => 9 | 53 => 83 | 57 => 87 | 63 => 89 | 64 => 90 | n => n, fun | n => n⟩
theorem Try.laySort : Go.Proofs.SlLaysM.n5 Try.prog Try.laySort_ren := {
  mixed := by kernel_rfl
  f5 := ⟨Try.f37.name, by decide, Try.func37.trans (congrArg some (by kernel_rfl))⟩
  f7 := ⟨Try.f40.name, by decide, Try.func40.trans (congrArg some (by kernel_rfl))⟩
  f8 := Try.func41.trans (congrArg some (by kernel_rfl))
  f10 := ⟨Try.f42.name, by decide, Try.func42.trans (congrArg some (by kernel_rfl))⟩
  f11 := ⟨Try.f43.name, by decide, Try.func43.trans (congrArg some (by kernel_rfl))⟩
  f12 := ⟨Try.f44.name, by decide, Try.func44.trans (congrArg some (by kernel_rfl))⟩
  f13 := ⟨Try.f45.name, by decide, Try.func45.trans (congrArg some (by kernel_rfl))⟩
  f14 := ⟨Try.f46.name, by decide, Try.func46.trans (congrArg some (by kernel_rfl))⟩
  f15 := ⟨Try.f47.name, by decide, Try.func47.trans (congrArg some (by kernel_rfl))⟩
  f16 := ⟨Try.f48.name, by decide, Try.func48.trans (congrArg some (by kernel_rfl))⟩
  f17 := ⟨Try.f49.name, by decide, Try.func49.trans (congrArg some (by kernel_rfl))⟩
  f18 := ⟨Try.f50.name, by decide, Try.func50.trans (congrArg some (by kernel_rfl))⟩
  f19 := Try.func51.trans (congrArg some (by kernel_rfl))
  f20 := Try.func52.trans (congrArg some (by kernel_rfl))
  f30 := ⟨Try.f53.name, by decide, Try.func53.trans (congrArg some (by kernel_rfl))⟩
  f31 := Try.func54.trans (congrArg some (by kernel_rfl))
  f32 := Try.func55.trans (congrArg some (by kernel_rfl))
  f33 := ⟨Try.f56.name, by decide, Try.func56.trans (congrArg some (by kernel_rfl))⟩
  f34 := ⟨Try.f57.name, by decide, Try.func57.trans (congrArg some (by kernel_rfl))⟩
  f35 := ⟨Try.f58.name, by decide, Try.func58.trans (congrArg some (by kernel_rfl))⟩
  f40 := ⟨Try.f59.name, by decide, Try.func59.trans (congrArg some (by kernel_rfl))⟩
  t0 := Try.underlying0
  a0 := Try.isAgg0
  z0 := Try.sizeOf0
  v0 := Try.zeroValue0
  t3 := Try.underlying3
  a3 := Try.isAgg3
  z3 := Try.sizeOf3
  v3 := Try.zeroValue3
  t4 := Try.underlying4
  a4 := Try.isAgg4
  z4 := Try.sizeOf4
  v4 := Try.zeroValue4
  t5 := Try.underlying5
  a5 := Try.isAgg5
  z5 := Try.sizeOf5
  v5 := Try.zeroValue5
  t9 := Try.underlying9
  a9 := Try.isAgg9
  z9 := Try.sizeOf9
  v9 := Try.zeroValue9
  t22 := Try.underlying22
  a22 := Try.isAgg22
  z22 := Try.sizeOf22
  v22 := Try.zeroValue22
  t23 := Try.underlying22
  a23 := Try.isAgg22
  z23 := Try.sizeOf22
  v23 := Try.zeroValue22
  t25 := Try.underlying3
  a25 := Try.isAgg3
  z25 := Try.sizeOf3
  v25 := Try.zeroValue3
  t32 := Try.underlying70
  a32 := Try.isAgg70
  z32 := Try.sizeOf70
  v32 := Try.zeroValue70
  t35 := Try.underlying72
  a35 := Try.isAgg72
  z35 := Try.sizeOf72
  v35 := Try.zeroValue72
  t36 := Try.underlying73
  a36 := Try.isAgg73
  z36 := Try.sizeOf73
  v36 := Try.zeroValue73
  t41 := Try.underlying77
  a41 := Try.isAgg77
  z41 := Try.sizeOf77
  v41 := Try.zeroValue77
  t44 := Try.underlying80
  a44 := Try.isAgg80
  z44 := Try.sizeOf80
  v44 := Try.zeroValue80
  t46 := Try.underlying82
  a46 := Try.isAgg82
  z46 := Try.sizeOf82
  v46 := Try.zeroValue82
  t53 := Try.underlying83
  a53 := Try.isAgg83
  z53 := Try.sizeOf83
  v53 := Try.zeroValue83
  t57 := Try.underlying87
  a57 := Try.isAgg87
  z57 := Try.sizeOf87
  v57 := Try.zeroValue87
  t63 := Try.underlying89
  a63 := Try.isAgg89
  z63 := Try.sizeOf89
  v63 := Try.zeroValue89
  t64 := Try.underlying90
  a64 := Try.isAgg90
  z64 := Try.sizeOf90
  v64 := Try.zeroValue90 }
def Try.layCompact_ren : Go.Shelf.Ren := ⟨fun | 20 => 26 | n => n, fun | 22 => 22 | 3 => 3 | 4 => 4 | 0 => 0 | n => n, fun | n => n⟩
theorem Try.layCompact : Go.Proofs.Lays2.n20 Try.prog Try.layCompact_ren := {
  mixed := by kernel_rfl
  f20 := Try.func26.trans (congrArg some (by kernel_rfl))
  t0 := Try.underlying0
  a0 := Try.isAgg0
  z0 := Try.sizeOf0
  v0 := Try.zeroValue0
  t3 := Try.underlying3
  a3 := Try.isAgg3
  z3 := Try.sizeOf3
  v3 := Try.zeroValue3
  t4 := Try.underlying4
  a4 := Try.isAgg4
  z4 := Try.sizeOf4
  v4 := Try.zeroValue4
  t22 := Try.underlying22
  a22 := Try.isAgg22
  z22 := Try.sizeOf22
  v22 := Try.zeroValue22
  i3 := by kernel_rfl }
end Go.Proofs
