/- The library's contracts laid at this program, in plain words (written by the kit's lay-plain). -/
import Derived.Shelf.SlSortCmp.NoneTotal
import Derived.Shelf.SlicesG.Cmp
import Derived.Ground.SlsfProg
import Derived.Ground.SlgcProg
import Derived.Test.YtoolojpjopodgaaProg
namespace Go.Proofs.Ytoolojpjopodgaa
open Go.Shelf
def sortE_ren : Go.Shelf.Ren := ⟨fun | 6 => 42 | 15 => 50 | 14 => 49 | 28 => 61 | 29 => 62 | 20 => 53 | 21 => 54 | 22 => 55 | 23 => 56 | 24 => 57 | 25 => 58 | 26 => 59 | 27 => 60 | 46 => 63 | 47 => 64 | 48 => 65 | 49 => 66 | 50 => 67 | 57 => 68 | n => n, fun | 22 => 63 | 24 => 68 | 25 => 71 | 3 => 3 | 39 => 78 | 0 => 0 | 53 => 89 | 55 => 91 | 4 => 4 | 46 => 82 | 45 => 81 | 50 => 86 | 5 => 5 | 9 => 9 | 66 => 92 | 70 => 96 | 76 => 98 | 77 => 99 | n => n, fun | n => n⟩
theorem sortE : Go.Proofs.SlLaysF0.n6 Try.prog sortE_ren := {
  mixed := by kernel_rfl
  f6 := ⟨Try.f42.name, by decide, Try.func42.trans (congrArg some (by kernel_rfl))⟩
  f14 := ⟨Try.f49.name, by decide, Try.func49.trans (congrArg some (by kernel_rfl))⟩
  f15 := Try.func50.trans (congrArg some (by kernel_rfl))
  f20 := ⟨Try.f53.name, by decide, Try.func53.trans (congrArg some (by kernel_rfl))⟩
  f21 := ⟨Try.f54.name, by decide, Try.func54.trans (congrArg some (by kernel_rfl))⟩
  f22 := ⟨Try.f55.name, by decide, Try.func55.trans (congrArg some (by kernel_rfl))⟩
  f23 := ⟨Try.f56.name, by decide, Try.func56.trans (congrArg some (by kernel_rfl))⟩
  f24 := ⟨Try.f57.name, by decide, Try.func57.trans (congrArg some (by kernel_rfl))⟩
  f25 := ⟨Try.f58.name, by decide, Try.func58.trans (congrArg some (by kernel_rfl))⟩
  f26 := ⟨Try.f59.name, by decide, Try.func59.trans (congrArg some (by kernel_rfl))⟩
  f27 := ⟨Try.f60.name, by decide, Try.func60.trans (congrArg some (by kernel_rfl))⟩
  f28 := Try.func61.trans (congrArg some (by kernel_rfl))
  f29 := Try.func62.trans (congrArg some (by kernel_rfl))
  f46 := ⟨Try.f63.name, by decide, Try.func63.trans (congrArg some (by kernel_rfl))⟩
  f47 := Try.func64.trans (congrArg some (by kernel_rfl))
  f48 := Try.func65.trans (congrArg some (by kernel_rfl))
  f49 := ⟨Try.f66.name, by decide, Try.func66.trans (congrArg some (by kernel_rfl))⟩
  f50 := ⟨Try.f67.name, by decide, Try.func67.trans (congrArg some (by kernel_rfl))⟩
  f57 := ⟨Try.f68.name, by decide, Try.func68.trans (congrArg some (by kernel_rfl))⟩
  t0 := Try.underlying0
  a0 := Try.isAgg0
  z0 := Try.sizeOf0
  v0 := Try.zeroValue0
  t3 := Try.underlying3
  a3 := Try.isAgg3
  z3 := Try.sizeOf3
  v3 := Try.zeroValue3
  t4 := Try.underlying4
  a4 := Try.isAgg4
  z4 := Try.sizeOf4
  v4 := Try.zeroValue4
  t5 := Try.underlying5
  a5 := Try.isAgg5
  z5 := Try.sizeOf5
  v5 := Try.zeroValue5
  t9 := Try.underlying9
  a9 := Try.isAgg9
  z9 := Try.sizeOf9
  v9 := Try.zeroValue9
  t22 := Try.underlying63
  a22 := Try.isAgg63
  z22 := Try.sizeOf63
  v22 := Try.zeroValue63
  t25 := Try.underlying71
  a25 := Try.isAgg71
  z25 := Try.sizeOf71
  v25 := Try.zeroValue71
  t39 := Try.underlying78
  a39 := Try.isAgg78
  z39 := Try.sizeOf78
  v39 := Try.zeroValue78
  t45 := Try.underlying81
  a45 := Try.isAgg81
  z45 := Try.sizeOf81
  v45 := Try.zeroValue81
  t46 := Try.underlying82
  a46 := Try.isAgg82
  z46 := Try.sizeOf82
  v46 := Try.zeroValue82
  t50 := Try.underlying86
  a50 := Try.isAgg86
  z50 := Try.sizeOf86
  v50 := Try.zeroValue86
  t53 := Try.underlying89
  a53 := Try.isAgg89
  z53 := Try.sizeOf89
  v53 := Try.zeroValue89
  t55 := Try.underlying91
  a55 := Try.isAgg91
  z55 := Try.sizeOf91
  v55 := Try.zeroValue91
  t66 := Try.underlying92
  a66 := Try.isAgg92
  z66 := Try.sizeOf92
  v66 := Try.zeroValue92
  t70 := Try.underlying96
  a70 := Try.isAgg96
  z70 := Try.sizeOf96
  v70 := Try.zeroValue96
  t76 := Try.underlying98
  a76 := Try.isAgg98
  z76 := Try.sizeOf98
  v76 := Try.zeroValue98
  t77 := Try.underlying99
  a77 := Try.isAgg99
  z77 := Try.sizeOf99
  v77 := Try.zeroValue99 }
def cmpI_ren : Go.Shelf.Ren := ⟨fun | 5 => 44 | 7 => 51 | n => n, fun | 22 => 3 | 3 => 3 | 4 => 4 | n => n, fun | n => n⟩
theorem cmpI : Go.Proofs.SlLaysC2.n5 Try.prog cmpI_ren := {
  mixed := by kernel_rfl
  f5 := ⟨Try.f44.name, by decide, Try.func44.trans (congrArg some (by kernel_rfl))⟩
  f7 := ⟨Try.f51.name, by decide, Try.func51.trans (congrArg some (by kernel_rfl))⟩
  t3 := Try.underlying3
  a3 := Try.isAgg3
  z3 := Try.sizeOf3
  v3 := Try.zeroValue3
  t4 := Try.underlying4
  a4 := Try.isAgg4
  z4 := Try.sizeOf4
  v4 := Try.zeroValue4
  t22 := Try.underlying3
  a22 := Try.isAgg3
  z22 := Try.sizeOf3
  v22 := Try.zeroValue3 }
end Go.Proofs.Ytoolojpjopodgaa
