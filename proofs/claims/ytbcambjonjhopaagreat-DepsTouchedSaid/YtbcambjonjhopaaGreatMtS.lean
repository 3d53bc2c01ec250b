/-
  slices.Sort at ints: the library's contract laid at this program.
-/
import Derived.Test.YtbcambjonjhopaaGreatBase
import Derived.Shelf.SortM.Plain
import Derived.Shelf.SortM.SortNone
namespace Go.Proofs.YtbcambjonjhopaaGreat
open Go Go.RowKit Go.Shelf

def sortI_ren : Go.Shelf.Ren := ⟨fun | 5 => 44 | 8 => 71 | 7 => 70 | 19 => 96 | 20 => 97 | 10 => 87 | 11 => 88 | 12 => 89 | 13 => 90 | 14 => 91 | 15 => 92 | 16 => 93 | 17 => 94 | 18 => 95 | 30 => 106 | 31 => 107 | 32 => 108 | 33 => 109 | 34 => 110 | 35 => 111 | 40 => 115 | n => n, fun | 23 => 32 | 25 => 3 | 3 => 3 | 32 => 101 | 22 => 32 | 0 => 0 | 44 => 115 | 46 => 117 | 4 => 4 | 36 => 107 | 35 => 106 | 41 => 112 | 5 => 5 | 9 => 9 | 53 => 122 | 57 => 126 | 63 => 129 | 64 => 130 | n => n, fun | n => n⟩
theorem sortI : Go.Proofs.SlLaysM.n5 Tryz.prog sortI_ren := {
  mixed := by kernel_rfl
  f5 := ⟨Tryz.f44.name, by decide, Tryz.func44.trans (congrArg some (by kernel_rfl))⟩
  f7 := ⟨Tryz.f70.name, by decide, Tryz.func70.trans (congrArg some (by kernel_rfl))⟩
  f8 := Tryz.func71.trans (congrArg some (by kernel_rfl))
  f10 := ⟨Tryz.f87.name, by decide, Tryz.func87.trans (congrArg some (by kernel_rfl))⟩
  f11 := ⟨Tryz.f88.name, by decide, Tryz.func88.trans (congrArg some (by kernel_rfl))⟩
  f12 := ⟨Tryz.f89.name, by decide, Tryz.func89.trans (congrArg some (by kernel_rfl))⟩
  f13 := ⟨Tryz.f90.name, by decide, Tryz.func90.trans (congrArg some (by kernel_rfl))⟩
  f14 := ⟨Tryz.f91.name, by decide, Tryz.func91.trans (congrArg some (by kernel_rfl))⟩
  f15 := ⟨Tryz.f92.name, by decide, Tryz.func92.trans (congrArg some (by kernel_rfl))⟩
  f16 := ⟨Tryz.f93.name, by decide, Tryz.func93.trans (congrArg some (by kernel_rfl))⟩
  f17 := ⟨Tryz.f94.name, by decide, Tryz.func94.trans (congrArg some (by kernel_rfl))⟩
  f18 := ⟨Tryz.f95.name, by decide, Tryz.func95.trans (congrArg some (by kernel_rfl))⟩
  f19 := Tryz.func96.trans (congrArg some (by kernel_rfl))
  f20 := Tryz.func97.trans (congrArg some (by kernel_rfl))
  f30 := ⟨Tryz.f106.name, by decide, Tryz.func106.trans (congrArg some (by kernel_rfl))⟩
  f31 := Tryz.func107.trans (congrArg some (by kernel_rfl))
  f32 := Tryz.func108.trans (congrArg some (by kernel_rfl))
  f33 := ⟨Tryz.f109.name, by decide, Tryz.func109.trans (congrArg some (by kernel_rfl))⟩
  f34 := ⟨Tryz.f110.name, by decide, Tryz.func110.trans (congrArg some (by kernel_rfl))⟩
  f35 := ⟨Tryz.f111.name, by decide, Tryz.func111.trans (congrArg some (by kernel_rfl))⟩
  f40 := ⟨Tryz.f115.name, by decide, Tryz.func115.trans (congrArg some (by kernel_rfl))⟩
  t0 := Tryz.underlying0
  a0 := Tryz.isAgg0
  z0 := Tryz.sizeOf0
  v0 := Tryz.zeroValue0
  t3 := Tryz.underlying3
  a3 := Tryz.isAgg3
  z3 := Tryz.sizeOf3
  v3 := Tryz.zeroValue3
  t4 := Tryz.underlying4
  a4 := Tryz.isAgg4
  z4 := Tryz.sizeOf4
  v4 := Tryz.zeroValue4
  t5 := Tryz.underlying5
  a5 := Tryz.isAgg5
  z5 := Tryz.sizeOf5
  v5 := Tryz.zeroValue5
  t9 := Tryz.underlying9
  a9 := Tryz.isAgg9
  z9 := Tryz.sizeOf9
  v9 := Tryz.zeroValue9
  t22 := Tryz.underlying32
  a22 := Tryz.isAgg32
  z22 := Tryz.sizeOf32
  v22 := Tryz.zeroValue32
  t23 := Tryz.underlying32
  a23 := Tryz.isAgg32
  z23 := Tryz.sizeOf32
  v23 := Tryz.zeroValue32
  t25 := Tryz.underlying3
  a25 := Tryz.isAgg3
  z25 := Tryz.sizeOf3
  v25 := Tryz.zeroValue3
  t32 := Tryz.underlying101
  a32 := Tryz.isAgg101
  z32 := Tryz.sizeOf101
  v32 := Tryz.zeroValue101
  t35 := Tryz.underlying106
  a35 := Tryz.isAgg106
  z35 := Tryz.sizeOf106
  v35 := Tryz.zeroValue106
  t36 := Tryz.underlying107
  a36 := Tryz.isAgg107
  z36 := Tryz.sizeOf107
  v36 := Tryz.zeroValue107
  t41 := Tryz.underlying112
  a41 := Tryz.isAgg112
  z41 := Tryz.sizeOf112
  v41 := Tryz.zeroValue112
  t44 := Tryz.underlying115
  a44 := Tryz.isAgg115
  z44 := Tryz.sizeOf115
  v44 := Tryz.zeroValue115
  t46 := Tryz.underlying117
  a46 := Tryz.isAgg117
  z46 := Tryz.sizeOf117
  v46 := Tryz.zeroValue117
  t53 := Tryz.underlying122
  a53 := Tryz.isAgg122
  z53 := Tryz.sizeOf122
  v53 := Tryz.zeroValue122
  t57 := Tryz.underlying126
  a57 := Tryz.isAgg126
  z57 := Tryz.sizeOf126
  v57 := Tryz.zeroValue126
  t63 := Tryz.underlying129
  a63 := Tryz.isAgg129
  z63 := Tryz.sizeOf129
  v63 := Tryz.zeroValue129
  t64 := Tryz.underlying130
  a64 := Tryz.isAgg130
  z64 := Tryz.sizeOf130
  v64 := Tryz.zeroValue130 }
end Go.Proofs.YtbcambjonjhopaaGreat
