/- The shelf's layings of maps.Keys, slices.Sorted, slices.Sort and maps.Clone at this dump, as the kit's tool lays them in plain words. -/
import Derived.Shelf.SlIterI.Nil
import Derived.Shelf.SortM.Plain
import Derived.Shelf.SortM.SortNone
import Derived.Shelf.SlMaps.Clone
import Derived.Ground.GgzProg
import Derived.Ground.SlgmProg
import Derived.Ground.SlmcProg
import Derived.Test.YtejelihioendnaaProg
set_option linter.unusedVariables false
set_option linter.unusedSimpArgs false
namespace Go.Proofs
open Go.Shelf
def Try.keys26_ren : Go.Shelf.Ren := ⟨fun | 7 => 26 | 10 => 32 | n => n, fun | 23 => 59 | 26 => 3 | 3 => 3 | 28 => 73 | 0 => 0 | 27 => 72 | 33 => 38 | 4 => 4 | n => n, fun | n => n⟩
theorem Try.keys26 : Go.Proofs.SlLaysZI.n7 Try.prog Try.keys26_ren := {
  mixed := by kernel_rfl
  f7 := ⟨Try.f26.name, by decide, Try.func26.trans (congrArg some (by kernel_rfl))⟩
  f10 := ⟨Try.f32.name, by decide, Try.func32.trans (congrArg some (by kernel_rfl))⟩
  t0 := Try.underlying0
  a0 := Try.isAgg0
  z0 := Try.sizeOf0
  v0 := Try.zeroValue0
  t4 := Try.underlying4
  a4 := Try.isAgg4
  z4 := Try.sizeOf4
  v4 := Try.zeroValue4
  t23 := Try.underlying59
  a23 := Try.isAgg59
  z23 := Try.sizeOf59
  v23 := Try.zeroValue59
  t26 := Try.underlying3
  a26 := Try.isAgg3
  z26 := Try.sizeOf3
  v26 := Try.zeroValue3
  t27 := Try.underlying72
  a27 := Try.isAgg72
  z27 := Try.sizeOf72
  v27 := Try.zeroValue72
  t28 := Try.underlying73
  a28 := Try.isAgg73
  z28 := Try.sizeOf73
  v28 := Try.zeroValue73
  t33 := Try.underlying38
  a33 := Try.isAgg38
  z33 := Try.sizeOf38
  v33 := Try.zeroValue38 }
def Try.sorted25_ren : Go.Shelf.Ren := ⟨fun | 6 => 25 | 8 => 30 | 9 => 31 | 11 => 35 | 13 => 37 | 12 => 36 | 23 => 47 | 24 => 48 | 14 => 38 | 15 => 39 | 16 => 40 | 17 => 41 | 18 => 42 | 19 => 43 | 20 => 44 | 21 => 45 | 22 => 46 | 25 => 49 | 26 => 50 | 27 => 51 | 28 => 52 | 29 => 53 | 30 => 54 | 31 => 55 | n => n, fun | 26 => 3 | 28 => 73 | 24 => 40 | 0 => 0 | 3 => 3 | 37 => 84 | 48 => 93 | 50 => 95 | 4 => 4 | 40 => 87 | 39 => 86 | 45 => 47 | 5 => 5 | 9 => 9 | 51 => 96 | 55 => 100 | 57 => 102 | 58 => 103 | 33 => 38 | n => n, fun | n => n⟩
theorem Try.sorted25 : Go.Proofs.SlLaysZI.n6 Try.prog Try.sorted25_ren := {
  mixed := by kernel_rfl
  f6 := ⟨Try.f25.name, by decide, Try.func25.trans (congrArg some (by kernel_rfl))⟩
  f8 := ⟨Try.f30.name, by decide, Try.func30.trans (congrArg some (by kernel_rfl))⟩
  f11 := ⟨Try.f35.name, by decide, Try.func35.trans (congrArg some (by kernel_rfl))⟩
  t0 := Try.underlying0
  a0 := Try.isAgg0
  z0 := Try.sizeOf0
  v0 := Try.zeroValue0
  t24 := Try.underlying40
  a24 := Try.isAgg40
  z24 := Try.sizeOf40
  v24 := Try.zeroValue40
  t26 := Try.underlying3
  a26 := Try.isAgg3
  z26 := Try.sizeOf3
  v26 := Try.zeroValue3
  t28 := Try.underlying73
  a28 := Try.isAgg73
  z28 := Try.sizeOf73
  v28 := Try.zeroValue73
  i26 := by kernel_rfl }
def Try.sort31_ren : Go.Shelf.Ren := ⟨fun | 5 => 31 | 8 => 37 | 7 => 36 | 19 => 47 | 20 => 48 | 10 => 38 | 11 => 39 | 12 => 40 | 13 => 41 | 14 => 42 | 15 => 43 | 16 => 44 | 17 => 45 | 18 => 46 | 30 => 49 | 31 => 50 | 32 => 51 | 33 => 52 | 34 => 53 | 35 => 54 | 40 => 55 | n => n, fun | 23 => 40 | 25 => 3 | 3 => 3 | 32 => 84 | 22 => 40 | 0 => 0 | 44 => 93 | 46 => 95 | 4 => 4 | 36 => 87 | 35 => 86 | 41 => 47 | 5 => 5 | 9 => 9 | 53 => 96 | 57 => 100 | 63 => 102 | 64 => 103 | n => n, fun | n => n⟩
theorem Try.sort31 : Go.Proofs.SlLaysM.n5 Try.prog Try.sort31_ren := {
  mixed := by kernel_rfl
  f5 := ⟨Try.f31.name, by decide, Try.func31.trans (congrArg some (by kernel_rfl))⟩
  f7 := ⟨Try.f36.name, by decide, Try.func36.trans (congrArg some (by kernel_rfl))⟩
  f8 := Try.func37.trans (congrArg some (by kernel_rfl))
  f10 := ⟨Try.f38.name, by decide, Try.func38.trans (congrArg some (by kernel_rfl))⟩
  f11 := ⟨Try.f39.name, by decide, Try.func39.trans (congrArg some (by kernel_rfl))⟩
  f12 := ⟨Try.f40.name, by decide, Try.func40.trans (congrArg some (by kernel_rfl))⟩
  f13 := ⟨Try.f41.name, by decide, Try.func41.trans (congrArg some (by kernel_rfl))⟩
  f14 := ⟨Try.f42.name, by decide, Try.func42.trans (congrArg some (by kernel_rfl))⟩
  f15 := ⟨Try.f43.name, by decide, Try.func43.trans (congrArg some (by kernel_rfl))⟩
  f16 := ⟨Try.f44.name, by decide, Try.func44.trans (congrArg some (by kernel_rfl))⟩
  f17 := ⟨Try.f45.name, by decide, Try.func45.trans (congrArg some (by kernel_rfl))⟩
  f18 := ⟨Try.f46.name, by decide, Try.func46.trans (congrArg some (by kernel_rfl))⟩
  f19 := Try.func47.trans (congrArg some (by kernel_rfl))
  f20 := Try.func48.trans (congrArg some (by kernel_rfl))
  f30 := ⟨Try.f49.name, by decide, Try.func49.trans (congrArg some (by kernel_rfl))⟩
  f31 := Try.func50.trans (congrArg some (by kernel_rfl))
  f32 := Try.func51.trans (congrArg some (by kernel_rfl))
  f33 := ⟨Try.f52.name, by decide, Try.func52.trans (congrArg some (by kernel_rfl))⟩
  f34 := ⟨Try.f53.name, by decide, Try.func53.trans (congrArg some (by kernel_rfl))⟩
  f35 := ⟨Try.f54.name, by decide, Try.func54.trans (congrArg some (by kernel_rfl))⟩
  f40 := ⟨Try.f55.name, by decide, Try.func55.trans (congrArg some (by kernel_rfl))⟩
  t0 := Try.underlying0
  a0 := Try.isAgg0
  z0 := Try.sizeOf0
  v0 := Try.zeroValue0
  t3 := Try.underlying3
  a3 := Try.isAgg3
  z3 := Try.sizeOf3
  v3 := Try.zeroValue3
  t4 := Try.underlying4
  a4 := Try.isAgg4
  z4 := Try.sizeOf4
  v4 := Try.zeroValue4
  t5 := Try.underlying5
  a5 := Try.isAgg5
  z5 := Try.sizeOf5
  v5 := Try.zeroValue5
  t9 := Try.underlying9
  a9 := Try.isAgg9
  z9 := Try.sizeOf9
  v9 := Try.zeroValue9
  t22 := Try.underlying40
  a22 := Try.isAgg40
  z22 := Try.sizeOf40
  v22 := Try.zeroValue40
  t23 := Try.underlying40
  a23 := Try.isAgg40
  z23 := Try.sizeOf40
  v23 := Try.zeroValue40
  t25 := Try.underlying3
  a25 := Try.isAgg3
  z25 := Try.sizeOf3
  v25 := Try.zeroValue3
  t32 := Try.underlying84
  a32 := Try.isAgg84
  z32 := Try.sizeOf84
  v32 := Try.zeroValue84
  t35 := Try.underlying86
  a35 := Try.isAgg86
  z35 := Try.sizeOf86
  v35 := Try.zeroValue86
  t36 := Try.underlying87
  a36 := Try.isAgg87
  z36 := Try.sizeOf87
  v36 := Try.zeroValue87
  t41 := Try.underlying47
  a41 := Try.isAgg47
  z41 := Try.sizeOf47
  v41 := Try.zeroValue47
  t44 := Try.underlying93
  a44 := Try.isAgg93
  z44 := Try.sizeOf93
  v44 := Try.zeroValue93
  t46 := Try.underlying95
  a46 := Try.isAgg95
  z46 := Try.sizeOf95
  v46 := Try.zeroValue95
  t53 := Try.underlying96
  a53 := Try.isAgg96
  z53 := Try.sizeOf96
  v53 := Try.zeroValue96
  t57 := Try.underlying100
  a57 := Try.isAgg100
  z57 := Try.sizeOf100
  v57 := Try.zeroValue100
  t63 := Try.underlying102
  a63 := Try.isAgg102
  z63 := Try.sizeOf102
  v63 := Try.zeroValue102
  t64 := Try.underlying103
  a64 := Try.isAgg103
  z64 := Try.sizeOf103
  v64 := Try.zeroValue103 }
def Try.clone29_ren : Go.Shelf.Ren := ⟨fun | 5 => 29 | 7 => 34 | n => n, fun | 23 => 59 | 25 => 3 | 3 => 3 | 4 => 4 | 20 => 20 | n => n, fun | n => n⟩
theorem Try.clone29 : Go.Proofs.SlLaysW.n5 Try.prog Try.clone29_ren := {
  mixed := by kernel_rfl
  f5 := ⟨Try.f29.name, by decide, Try.func29.trans (congrArg some (by kernel_rfl))⟩
  f7 := Try.func34.trans (congrArg some (by kernel_rfl))
  t4 := Try.underlying4
  a4 := Try.isAgg4
  z4 := Try.sizeOf4
  v4 := Try.zeroValue4
  t20 := Try.underlying20
  a20 := Try.isAgg20
  z20 := Try.sizeOf20
  v20 := Try.zeroValue20
  t23 := Try.underlying59
  a23 := Try.isAgg59
  z23 := Try.sizeOf59
  v23 := Try.zeroValue59 }
end Go.Proofs
