/- The library's sort of a map's int keys, laid at this program's numbers by the kit's own tool (lay-plain.mjs); no condition. -/
import Derived.Shelf.SlIterI.Nil
import Derived.Shelf.SortM.Plain
import Derived.Shelf.SortM.SortNone
import Derived.Ground.GgzProg
import Derived.Ground.SlgmProg
import Derived.Test.YtjlpgndcomligaaProg
namespace Go.Proofs
open Go.Shelf
def Try.sortA_ren : Go.Shelf.Ren := ⟨fun | 5 => 31 | 8 => 52 | 7 => 51 | 19 => 72 | 20 => 73 | 10 => 63 | 11 => 64 | 12 => 65 | 13 => 66 | 14 => 67 | 15 => 68 | 16 => 69 | 17 => 70 | 18 => 71 | 30 => 79 | 31 => 80 | 32 => 81 | 33 => 82 | 34 => 83 | 35 => 84 | 40 => 86 | n => n, fun | 23 => 30 | 25 => 3 | 3 => 3 | 32 => 69 | 22 => 30 | 0 => 0 | 44 => 85 | 46 => 87 | 4 => 4 | 36 => 78 | 35 => 77 | 41 => 82 | 5 => 5 | 9 => 9 | 53 => 90 | 57 => 94 | 63 => 97 | 64 => 98 | n => n, fun | n => n⟩
theorem Try.sortA : Go.Proofs.SlLaysM.n5 Try.prog Try.sortA_ren := {
  mixed := by kernel_rfl
  f5 := ⟨Try.f31.name, by decide, Try.func31.trans (congrArg some (by kernel_rfl))⟩
  f7 := ⟨Try.f51.name, by decide, Try.func51.trans (congrArg some (by kernel_rfl))⟩
  f8 := Try.func52.trans (congrArg some (by kernel_rfl))
  f10 := ⟨Try.f63.name, by decide, Try.func63.trans (congrArg some (by kernel_rfl))⟩
  f11 := ⟨Try.f64.name, by decide, Try.func64.trans (congrArg some (by kernel_rfl))⟩
  f12 := ⟨Try.f65.name, by decide, Try.func65.trans (congrArg some (by kernel_rfl))⟩
  f13 := ⟨Try.f66.name, by decide, Try.func66.trans (congrArg some (by kernel_rfl))⟩
  f14 := ⟨Try.f67.name, by decide, Try.func67.trans (congrArg some (by kernel_rfl))⟩
  f15 := ⟨Try.f68.name, by decide, Try.func68.trans (congrArg some (by kernel_rfl))⟩
  f16 := ⟨Try.f69.name, by decide, Try.func69.trans (congrArg some (by kernel_rfl))⟩
  f17 := ⟨Try.f70.name, by decide, Try.func70.trans (congrArg some (by kernel_rfl))⟩
  f18 := ⟨Try.f71.name, by decide, Try.func71.trans (congrArg some (by kernel_rfl))⟩
  f19 := Try.func72.trans (congrArg some (by kernel_rfl))
  f20 := Try.func73.trans (congrArg some (by kernel_rfl))
  f30 := ⟨Try.f79.name, by decide, Try.func79.trans (congrArg some (by kernel_rfl))⟩
  f31 := Try.func80.trans (congrArg some (by kernel_rfl))
  f32 := Try.func81.trans (congrArg some (by kernel_rfl))
  f33 := ⟨Try.f82.name, by decide, Try.func82.trans (congrArg some (by kernel_rfl))⟩
  f34 := ⟨Try.f83.name, by decide, Try.func83.trans (congrArg some (by kernel_rfl))⟩
  f35 := ⟨Try.f84.name, by decide, Try.func84.trans (congrArg some (by kernel_rfl))⟩
  f40 := ⟨Try.f86.name, by decide, Try.func86.trans (congrArg some (by kernel_rfl))⟩
  t0 := Try.underlying0
  a0 := Try.isAgg0
  z0 := Try.sizeOf0
  v0 := Try.zeroValue0
  t3 := Try.underlying3
  a3 := Try.isAgg3
  z3 := Try.sizeOf3
  v3 := Try.zeroValue3
  t4 := Try.underlying4
  a4 := Try.isAgg4
  z4 := Try.sizeOf4
  v4 := Try.zeroValue4
  t5 := Try.underlying5
  a5 := Try.isAgg5
  z5 := Try.sizeOf5
  v5 := Try.zeroValue5
  t9 := Try.underlying9
  a9 := Try.isAgg9
  z9 := Try.sizeOf9
  v9 := Try.zeroValue9
  t22 := Try.underlying30
  a22 := Try.isAgg30
  z22 := Try.sizeOf30
  v22 := Try.zeroValue30
  t23 := Try.underlying30
  a23 := Try.isAgg30
  z23 := Try.sizeOf30
  v23 := Try.zeroValue30
  t25 := Try.underlying3
  a25 := Try.isAgg3
  z25 := Try.sizeOf3
  v25 := Try.zeroValue3
  t32 := Try.underlying69
  a32 := Try.isAgg69
  z32 := Try.sizeOf69
  v32 := Try.zeroValue69
  t35 := Try.underlying77
  a35 := Try.isAgg77
  z35 := Try.sizeOf77
  v35 := Try.zeroValue77
  t36 := Try.underlying78
  a36 := Try.isAgg78
  z36 := Try.sizeOf78
  v36 := Try.zeroValue78
  t41 := Try.underlying82
  a41 := Try.isAgg82
  z41 := Try.sizeOf82
  v41 := Try.zeroValue82
  t44 := Try.underlying85
  a44 := Try.isAgg85
  z44 := Try.sizeOf85
  v44 := Try.zeroValue85
  t46 := Try.underlying87
  a46 := Try.isAgg87
  z46 := Try.sizeOf87
  v46 := Try.zeroValue87
  t53 := Try.underlying90
  a53 := Try.isAgg90
  z53 := Try.sizeOf90
  v53 := Try.zeroValue90
  t57 := Try.underlying94
  a57 := Try.isAgg94
  z57 := Try.sizeOf94
  v57 := Try.zeroValue94
  t63 := Try.underlying97
  a63 := Try.isAgg97
  z63 := Try.sizeOf97
  v63 := Try.zeroValue97
  t64 := Try.underlying98
  a64 := Try.isAgg98
  z64 := Try.sizeOf98
  v64 := Try.zeroValue98 }
end Go.Proofs
