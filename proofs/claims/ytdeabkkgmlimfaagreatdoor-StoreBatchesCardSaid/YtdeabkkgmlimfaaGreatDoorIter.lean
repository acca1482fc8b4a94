/-
  Sorted keys of a map (printed by the tool of the kit).
-/
import Derived.Shelf.SlIter.Nil
import Derived.Shelf.SortM.Plain
import Derived.Shelf.SortM.SortNone
import Derived.Ground.GgzProg
import Derived.Ground.SlgmProg
import Derived.Test.YtdeabkkgmlimfaaGreatDoorProg

set_option linter.unusedVariables false
set_option linter.unusedSimpArgs false

namespace Go.Proofs
open Go.Shelf
def Tryz.keys23_ren : Go.Shelf.Ren := ⟨fun | 7 => 23 | 10 => 41 | n => n, fun | 23 => 52 | 26 => 9 | 3 => 9 | 28 => 61 | 0 => 0 | 27 => 60 | 33 => 35 | 4 => 4 | n => n, fun | n => n⟩
theorem Tryz.keys23 : Go.Proofs.SlLaysZ.n7 Tryz.prog Tryz.keys23_ren := {
  mixed := by kernel_rfl
  f7 := ⟨Tryz.f23.name, by decide, Tryz.func23.trans (congrArg some (by kernel_rfl))⟩
  f10 := ⟨Tryz.f41.name, by decide, Tryz.func41.trans (congrArg some (by kernel_rfl))⟩
  t0 := Tryz.underlying0
  a0 := Tryz.isAgg0
  z0 := Tryz.sizeOf0
  v0 := Tryz.zeroValue0
  t4 := Tryz.underlying4
  a4 := Tryz.isAgg4
  z4 := Tryz.sizeOf4
  v4 := Tryz.zeroValue4
  t23 := Tryz.underlying52
  a23 := Tryz.isAgg52
  z23 := Tryz.sizeOf52
  v23 := Tryz.zeroValue52
  t26 := Tryz.underlying9
  a26 := Tryz.isAgg9
  z26 := Tryz.sizeOf9
  v26 := Tryz.zeroValue9
  t27 := Tryz.underlying60
  a27 := Tryz.isAgg60
  z27 := Tryz.sizeOf60
  v27 := Tryz.zeroValue60
  t28 := Tryz.underlying61
  a28 := Tryz.isAgg61
  z28 := Tryz.sizeOf61
  v28 := Tryz.zeroValue61
  t33 := Tryz.underlying35
  a33 := Tryz.isAgg35
  z33 := Tryz.sizeOf35
  v33 := Tryz.zeroValue35 }
def Tryz.sorted22_ren : Go.Shelf.Ren := ⟨fun | 6 => 22 | 8 => 39 | 9 => 40 | 11 => 64 | 13 => 66 | 12 => 65 | 23 => 91 | 24 => 92 | 14 => 82 | 15 => 83 | 16 => 84 | 17 => 85 | 18 => 86 | 19 => 87 | 20 => 88 | 21 => 89 | 22 => 90 | 25 => 104 | 26 => 105 | 27 => 106 | 28 => 107 | 29 => 108 | 30 => 109 | 31 => 125 | n => n, fun | 26 => 9 | 28 => 61 | 24 => 32 | 0 => 0 | 3 => 3 | 37 => 122 | 48 => 94 | 50 => 44 | 4 => 4 | 40 => 135 | 39 => 134 | 45 => 139 | 5 => 5 | 9 => 9 | 51 => 155 | 55 => 159 | 57 => 173 | 58 => 76 | 33 => 35 | n => n, fun | n => n⟩
theorem Tryz.sorted22 : Go.Proofs.SlLaysZ.n6 Tryz.prog Tryz.sorted22_ren := {
  mixed := by kernel_rfl
  f6 := ⟨Tryz.f22.name, by decide, Tryz.func22.trans (congrArg some (by kernel_rfl))⟩
  f8 := ⟨Tryz.f39.name, by decide, Tryz.func39.trans (congrArg some (by kernel_rfl))⟩
  f11 := ⟨Tryz.f64.name, by decide, Tryz.func64.trans (congrArg some (by kernel_rfl))⟩
  t0 := Tryz.underlying0
  a0 := Tryz.isAgg0
  z0 := Tryz.sizeOf0
  v0 := Tryz.zeroValue0
  t24 := Tryz.underlying32
  a24 := Tryz.isAgg32
  z24 := Tryz.sizeOf32
  v24 := Tryz.zeroValue32
  t26 := Tryz.underlying9
  a26 := Tryz.isAgg9
  z26 := Tryz.sizeOf9
  v26 := Tryz.zeroValue9
  t28 := Tryz.underlying61
  a28 := Tryz.isAgg61
  z28 := Tryz.sizeOf61
  v28 := Tryz.zeroValue61
  i26 := by kernel_rfl }
def Tryz.sort40_ren : Go.Shelf.Ren := ⟨fun | 6 => 40 | 8 => 66 | 9 => 65 | 19 => 91 | 20 => 92 | 21 => 82 | 22 => 83 | 23 => 84 | 24 => 85 | 25 => 86 | 26 => 87 | 27 => 88 | 28 => 89 | 29 => 90 | 36 => 104 | 31 => 105 | 32 => 106 | 37 => 107 | 38 => 108 | 39 => 109 | 41 => 125 | n => n, fun | 27 => 32 | 29 => 9 | 3 => 3 | 32 => 122 | 26 => 32 | 0 => 0 | 44 => 94 | 46 => 44 | 4 => 4 | 36 => 135 | 35 => 134 | 41 => 139 | 5 => 5 | 9 => 9 | 53 => 155 | 57 => 159 | 63 => 173 | 64 => 76 | n => n, fun | n => n⟩
theorem Tryz.sort40 : Go.Proofs.SlLaysM.n6 Tryz.prog Tryz.sort40_ren := {
  mixed := by kernel_rfl
  f6 := ⟨Tryz.f40.name, by decide, Tryz.func40.trans (congrArg some (by kernel_rfl))⟩
  f8 := Tryz.func66.trans (congrArg some (by kernel_rfl))
  f9 := ⟨Tryz.f65.name, by decide, Tryz.func65.trans (congrArg some (by kernel_rfl))⟩
  f19 := Tryz.func91.trans (congrArg some (by kernel_rfl))
  f20 := Tryz.func92.trans (congrArg some (by kernel_rfl))
  f21 := ⟨Tryz.f82.name, by decide, Tryz.func82.trans (congrArg some (by kernel_rfl))⟩
  f22 := ⟨Tryz.f83.name, by decide, Tryz.func83.trans (congrArg some (by kernel_rfl))⟩
  f23 := ⟨Tryz.f84.name, by decide, Tryz.func84.trans (congrArg some (by kernel_rfl))⟩
  f24 := ⟨Tryz.f85.name, by decide, Tryz.func85.trans (congrArg some (by kernel_rfl))⟩
  f25 := ⟨Tryz.f86.name, by decide, Tryz.func86.trans (congrArg some (by kernel_rfl))⟩
  f26 := ⟨Tryz.f87.name, by decide, Tryz.func87.trans (congrArg some (by kernel_rfl))⟩
  f27 := ⟨Tryz.f88.name, by decide, Tryz.func88.trans (congrArg some (by kernel_rfl))⟩
  f28 := ⟨Tryz.f89.name, by decide, Tryz.func89.trans (congrArg some (by kernel_rfl))⟩
  f29 := ⟨Tryz.f90.name, by decide, Tryz.func90.trans (congrArg some (by kernel_rfl))⟩
  f31 := Tryz.func105.trans (congrArg some (by kernel_rfl))
  f32 := Tryz.func106.trans (congrArg some (by kernel_rfl))
  f36 := ⟨Tryz.f104.name, by decide, Tryz.func104.trans (congrArg some (by kernel_rfl))⟩
  f37 := ⟨Tryz.f107.name, by decide, Tryz.func107.trans (congrArg some (by kernel_rfl))⟩
  f38 := ⟨Tryz.f108.name, by decide, Tryz.func108.trans (congrArg some (by kernel_rfl))⟩
  f39 := ⟨Tryz.f109.name, by decide, Tryz.func109.trans (congrArg some (by kernel_rfl))⟩
  f41 := ⟨Tryz.f125.name, by decide, Tryz.func125.trans (congrArg some (by kernel_rfl))⟩
  t0 := Tryz.underlying0
  a0 := Tryz.isAgg0
  z0 := Tryz.sizeOf0
  v0 := Tryz.zeroValue0
  t3 := Tryz.underlying3
  a3 := Tryz.isAgg3
  z3 := Tryz.sizeOf3
  v3 := Tryz.zeroValue3
  t4 := Tryz.underlying4
  a4 := Tryz.isAgg4
  z4 := Tryz.sizeOf4
  v4 := Tryz.zeroValue4
  t5 := Tryz.underlying5
  a5 := Tryz.isAgg5
  z5 := Tryz.sizeOf5
  v5 := Tryz.zeroValue5
  t9 := Tryz.underlying9
  a9 := Tryz.isAgg9
  z9 := Tryz.sizeOf9
  v9 := Tryz.zeroValue9
  t26 := Tryz.underlying32
  a26 := Tryz.isAgg32
  z26 := Tryz.sizeOf32
  v26 := Tryz.zeroValue32
  t27 := Tryz.underlying32
  a27 := Tryz.isAgg32
  z27 := Tryz.sizeOf32
  v27 := Tryz.zeroValue32
  t29 := Tryz.underlying9
  a29 := Tryz.isAgg9
  z29 := Tryz.sizeOf9
  v29 := Tryz.zeroValue9
  t32 := Tryz.underlying122
  a32 := Tryz.isAgg122
  z32 := Tryz.sizeOf122
  v32 := Tryz.zeroValue122
  t35 := Tryz.underlying134
  a35 := Tryz.isAgg134
  z35 := Tryz.sizeOf134
  v35 := Tryz.zeroValue134
  t36 := Tryz.underlying135
  a36 := Tryz.isAgg135
  z36 := Tryz.sizeOf135
  v36 := Tryz.zeroValue135
  t41 := Tryz.underlying139
  a41 := Tryz.isAgg139
  z41 := Tryz.sizeOf139
  v41 := Tryz.zeroValue139
  t44 := Tryz.underlying94
  a44 := Tryz.isAgg94
  z44 := Tryz.sizeOf94
  v44 := Tryz.zeroValue94
  t46 := Tryz.underlying44
  a46 := Tryz.isAgg44
  z46 := Tryz.sizeOf44
  v46 := Tryz.zeroValue44
  t53 := Tryz.underlying155
  a53 := Tryz.isAgg155
  z53 := Tryz.sizeOf155
  v53 := Tryz.zeroValue155
  t57 := Tryz.underlying159
  a57 := Tryz.isAgg159
  z57 := Tryz.sizeOf159
  v57 := Tryz.zeroValue159
  t63 := Tryz.underlying173
  a63 := Tryz.isAgg173
  z63 := Tryz.sizeOf173
  v63 := Tryz.zeroValue173
  t64 := Tryz.underlying76
  a64 := Tryz.isAgg76
  z64 := Tryz.sizeOf76
  v64 := Tryz.zeroValue76 }
end Go.Proofs

namespace Go.Proofs
open Go.RowKit Go.Maps Go.Sort Go.Shelf
/-- slices.Sort's two contracts at this dump, at the fence that asks nothing. -/
theorem Tryz.sorts22 (m : Nat) : AnyZ.SortsIn Tryz.prog Tryz.sorted22_ren Fence.wide m :=
  ⟨fun blk off cap ss W hH hblk hsz => callsIn_wide.2 (AnyM.slices_Sort_string Tryz.sort40 blk off cap ss W hH hblk hsz),
   fun p cap W => callsIn_wide.2 (AnyM.slices_Sort_string_none Tryz.sort40 p cap W)⟩

end Go.Proofs
