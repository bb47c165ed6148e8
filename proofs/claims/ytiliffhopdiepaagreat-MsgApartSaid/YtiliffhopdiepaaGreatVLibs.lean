/- The library's contracts at this seat's program: SortFunc, Clone. -/
import Derived.Test.YtiliffhopdiepaaGreatE13
import Derived.Test.YtiliffhopdiepaaGreatLay
namespace Go.E2.Lib
open Go Go.E2 Go.RowKit Go.Proofs
set_option linter.unusedVariables false
set_option linter.unusedSimpArgs false
theorem good_sortItem : LibGood Tryz.prog 142 (libSortF Tryz.prog 8) := good_sortF Tryz.laySortItem (by omega) Tryz.isAgg47 Tryz.sizeOf47
theorem good_cloneItem : LibGood Tryz.prog 141 (libClone 8 88) :=
  good_clone' (t := 25) (e := 47) (by kernel_rfl) (by kernel_rfl) (by decide) (by kernel_rfl) Tryz.func141 rfl rfl rfl ⟨rfl, rfl, rfl⟩ ⟨rfl, rfl, rfl⟩ ⟨rfl, rfl, rfl⟩ ⟨rfl, rfl, rfl⟩ ⟨rfl, rfl, rfl⟩ ⟨rfl, rfl, rfl⟩ ⟨rfl, rfl, rfl⟩ ⟨rfl, rfl, rfl⟩
theorem good_cloneStr : LibGood Tryz.prog 223 (libClone 1 16) :=
  good_clone' (t := 24) (e := 9) (by kernel_rfl) (by kernel_rfl) (by decide) (by kernel_rfl) Tryz.func223 rfl rfl rfl ⟨rfl, rfl, rfl⟩ ⟨rfl, rfl, rfl⟩ ⟨rfl, rfl, rfl⟩ ⟨rfl, rfl, rfl⟩ ⟨rfl, rfl, rfl⟩ ⟨rfl, rfl, rfl⟩ ⟨rfl, rfl, rfl⟩ ⟨rfl, rfl, rfl⟩
theorem good_cloneByte : LibGood Tryz.prog 136 (libClone 1 1) :=
  good_clone' (t := 31) (e := 5) (by kernel_rfl) (by kernel_rfl) (by decide) (by kernel_rfl) Tryz.func136 rfl rfl rfl ⟨rfl, rfl, rfl⟩ ⟨rfl, rfl, rfl⟩ ⟨rfl, rfl, rfl⟩ ⟨rfl, rfl, rfl⟩ ⟨rfl, rfl, rfl⟩ ⟨rfl, rfl, rfl⟩ ⟨rfl, rfl, rfl⟩ ⟨rfl, rfl, rfl⟩
theorem good_cloneVec : LibGood Tryz.prog 172 (libClone 1 8) :=
  good_clone' (t := 23) (e := 3) (by kernel_rfl) (by kernel_rfl) (by decide) (by kernel_rfl) Tryz.func172 rfl rfl rfl ⟨rfl, rfl, rfl⟩ ⟨rfl, rfl, rfl⟩ ⟨rfl, rfl, rfl⟩ ⟨rfl, rfl, rfl⟩ ⟨rfl, rfl, rfl⟩ ⟨rfl, rfl, rfl⟩ ⟨rfl, rfl, rfl⟩ ⟨rfl, rfl, rfl⟩
theorem good_cloneVecs : LibGood Tryz.prog 173 (libClone 1 24) :=
  good_clone' (t := 60) (e := 23) (by kernel_rfl) (by kernel_rfl) (by decide) (by kernel_rfl) Tryz.func173 rfl rfl rfl ⟨rfl, rfl, rfl⟩ ⟨rfl, rfl, rfl⟩ ⟨rfl, rfl, rfl⟩ ⟨rfl, rfl, rfl⟩ ⟨rfl, rfl, rfl⟩ ⟨rfl, rfl, rfl⟩ ⟨rfl, rfl, rfl⟩ ⟨rfl, rfl, rfl⟩
theorem good_cloneTxn : LibGood Tryz.prog 174 (libClone 4 64) :=
  good_clone' (t := 26) (e := 51) (by kernel_rfl) (by kernel_rfl) (by decide) (by kernel_rfl) Tryz.func174 rfl rfl rfl ⟨rfl, rfl, rfl⟩ ⟨rfl, rfl, rfl⟩ ⟨rfl, rfl, rfl⟩ ⟨rfl, rfl, rfl⟩ ⟨rfl, rfl, rfl⟩ ⟨rfl, rfl, rfl⟩ ⟨rfl, rfl, rfl⟩ ⟨rfl, rfl, rfl⟩
theorem good_cloneDot : LibGood Tryz.prog 221 (libClone 3 24) :=
  good_clone' (t := 52) (e := 45) (by kernel_rfl) (by kernel_rfl) (by decide) (by kernel_rfl) Tryz.func221 rfl rfl rfl ⟨rfl, rfl, rfl⟩ ⟨rfl, rfl, rfl⟩ ⟨rfl, rfl, rfl⟩ ⟨rfl, rfl, rfl⟩ ⟨rfl, rfl, rfl⟩ ⟨rfl, rfl, rfl⟩ ⟨rfl, rfl, rfl⟩ ⟨rfl, rfl, rfl⟩
end Go.E2.Lib
