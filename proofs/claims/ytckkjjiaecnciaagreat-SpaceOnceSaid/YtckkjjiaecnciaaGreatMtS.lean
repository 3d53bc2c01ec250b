/-
  slices.Sort at ints: the library's contract laid at this program.
-/
import Derived.Test.YtckkjjiaecnciaaGreatBase
import Derived.Shelf.SortM.Plain
import Derived.Shelf.SortM.SortNone
namespace Go.Proofs.YtckkjjiaecnciaaGreat
open Go Go.RowKit Go.Shelf

def sortI_ren : Go.Shelf.Ren := ⟨fun | 5 => 110 | 8 => 66 | 7 => 129 | 19 => 100 | 20 => 101 | 10 => 135 | 11 => 136 | 12 => 137 | 13 => 138 | 14 => 139 | 15 => 140 | 16 => 141 | 17 => 142 | 18 => 143 | 30 => 145 | 31 => 114 | 32 => 115 | 33 => 146 | 34 => 147 | 35 => 102 | 40 => 148 | n => n, fun | 23 => 33 | 25 => 3 | 3 => 3 | 32 => 79 | 22 => 33 | 0 => 0 | 44 => 113 | 46 => 115 | 4 => 4 | 36 => 106 | 35 => 105 | 41 => 110 | 5 => 5 | 9 => 9 | 53 => 122 | 57 => 126 | 63 => 138 | 64 => 139 | n => n, fun | n => n⟩
theorem sortI : Go.Proofs.SlLaysM.n5 Tryz.prog sortI_ren := {
  mixed := by kernel_rfl
  f5 := ⟨Tryz.f110.name, by decide, Tryz.func110.trans (congrArg some (by kernel_rfl))⟩
  f7 := ⟨Tryz.f129.name, by decide, Tryz.func129.trans (congrArg some (by kernel_rfl))⟩
  f8 := Tryz.func66.trans (congrArg some (by kernel_rfl))
  f10 := ⟨Tryz.f135.name, by decide, Tryz.func135.trans (congrArg some (by kernel_rfl))⟩
  f11 := ⟨Tryz.f136.name, by decide, Tryz.func136.trans (congrArg some (by kernel_rfl))⟩
  f12 := ⟨Tryz.f137.name, by decide, Tryz.func137.trans (congrArg some (by kernel_rfl))⟩
  f13 := ⟨Tryz.f138.name, by decide, Tryz.func138.trans (congrArg some (by kernel_rfl))⟩
  f14 := ⟨Tryz.f139.name, by decide, Tryz.func139.trans (congrArg some (by kernel_rfl))⟩
  f15 := ⟨Tryz.f140.name, by decide, Tryz.func140.trans (congrArg some (by kernel_rfl))⟩
  f16 := ⟨Tryz.f141.name, by decide, Tryz.func141.trans (congrArg some (by kernel_rfl))⟩
  f17 := ⟨Tryz.f142.name, by decide, Tryz.func142.trans (congrArg some (by kernel_rfl))⟩
  f18 := ⟨Tryz.f143.name, by decide, Tryz.func143.trans (congrArg some (by kernel_rfl))⟩
  f19 := Tryz.func100.trans (congrArg some (by kernel_rfl))
  f20 := Tryz.func101.trans (congrArg some (by kernel_rfl))
  f30 := ⟨Tryz.f145.name, by decide, Tryz.func145.trans (congrArg some (by kernel_rfl))⟩
  f31 := Tryz.func114.trans (congrArg some (by kernel_rfl))
  f32 := Tryz.func115.trans (congrArg some (by kernel_rfl))
  f33 := ⟨Tryz.f146.name, by decide, Tryz.func146.trans (congrArg some (by kernel_rfl))⟩
  f34 := ⟨Tryz.f147.name, by decide, Tryz.func147.trans (congrArg some (by kernel_rfl))⟩
  f35 := ⟨Tryz.f102.name, by decide, Tryz.func102.trans (congrArg some (by kernel_rfl))⟩
  f40 := ⟨Tryz.f148.name, by decide, Tryz.func148.trans (congrArg some (by kernel_rfl))⟩
  t0 := Tryz.underlying0
  a0 := Tryz.isAgg0
  z0 := Tryz.sizeOf0
  v0 := Tryz.zeroValue0
  t3 := Tryz.underlying3
  a3 := Tryz.isAgg3
  z3 := Tryz.sizeOf3
  v3 := Tryz.zeroValue3
  t4 := Tryz.underlying4
  a4 := Tryz.isAgg4
  z4 := Tryz.sizeOf4
  v4 := Tryz.zeroValue4
  t5 := Tryz.underlying5
  a5 := Tryz.isAgg5
  z5 := Tryz.sizeOf5
  v5 := Tryz.zeroValue5
  t9 := Tryz.underlying9
  a9 := Tryz.isAgg9
  z9 := Tryz.sizeOf9
  v9 := Tryz.zeroValue9
  t22 := Tryz.underlying33
  a22 := Tryz.isAgg33
  z22 := Tryz.sizeOf33
  v22 := Tryz.zeroValue33
  t23 := Tryz.underlying33
  a23 := Tryz.isAgg33
  z23 := Tryz.sizeOf33
  v23 := Tryz.zeroValue33
  t25 := Tryz.underlying3
  a25 := Tryz.isAgg3
  z25 := Tryz.sizeOf3
  v25 := Tryz.zeroValue3
  t32 := Tryz.underlying79
  a32 := Tryz.isAgg79
  z32 := Tryz.sizeOf79
  v32 := Tryz.zeroValue79
  t35 := Tryz.underlying105
  a35 := Tryz.isAgg105
  z35 := Tryz.sizeOf105
  v35 := Tryz.zeroValue105
  t36 := Tryz.underlying106
  a36 := Tryz.isAgg106
  z36 := Tryz.sizeOf106
  v36 := Tryz.zeroValue106
  t41 := Tryz.underlying110
  a41 := Tryz.isAgg110
  z41 := Tryz.sizeOf110
  v41 := Tryz.zeroValue110
  t44 := Tryz.underlying113
  a44 := Tryz.isAgg113
  z44 := Tryz.sizeOf113
  v44 := Tryz.zeroValue113
  t46 := Tryz.underlying115
  a46 := Tryz.isAgg115
  z46 := Tryz.sizeOf115
  v46 := Tryz.zeroValue115
  t53 := Tryz.underlying122
  a53 := Tryz.isAgg122
  z53 := Tryz.sizeOf122
  v53 := Tryz.zeroValue122
  t57 := Tryz.underlying126
  a57 := Tryz.isAgg126
  z57 := Tryz.sizeOf126
  v57 := Tryz.zeroValue126
  t63 := Tryz.underlying138
  a63 := Tryz.isAgg138
  z63 := Tryz.sizeOf138
  v63 := Tryz.zeroValue138
  t64 := Tryz.underlying139
  a64 := Tryz.isAgg139
  z64 := Tryz.sizeOf139
  v64 := Tryz.zeroValue139 }
end Go.Proofs.YtckkjjiaecnciaaGreat
