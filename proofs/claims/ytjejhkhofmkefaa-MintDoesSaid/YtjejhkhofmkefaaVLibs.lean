/- The library's contracts at this seat's program: SortFunc, Clone. -/
import Derived.Test.YtjejhkhofmkefaaE13
import Derived.Test.YtjejhkhofmkefaaLay
namespace Go.E2.Lib
open Go Go.E2 Go.RowKit Go.Proofs
set_option linter.unusedVariables false
set_option linter.unusedSimpArgs false
theorem good_sortItem : LibGood Try.prog 70 (libSortF Try.prog 8) := good_sortF Try.laySortItem (by omega) Try.isAgg40 Try.sizeOf40
theorem good_sortDot : LibGood Try.prog 117 (libSortF Try.prog 3) := good_sortF Try.laySortDot (by omega) Try.isAgg38 Try.sizeOf38
theorem good_cloneItem : LibGood Try.prog 69 (libClone 8 88) :=
  good_clone' (t := 22) (e := 40) (by kernel_rfl) (by kernel_rfl) (by decide) (by kernel_rfl) Try.func69 rfl rfl rfl ⟨rfl, rfl, rfl⟩ ⟨rfl, rfl, rfl⟩ ⟨rfl, rfl, rfl⟩ ⟨rfl, rfl, rfl⟩ ⟨rfl, rfl, rfl⟩ ⟨rfl, rfl, rfl⟩ ⟨rfl, rfl, rfl⟩ ⟨rfl, rfl, rfl⟩
theorem good_cloneStr : LibGood Try.prog 123 (libClone 1 16) :=
  good_clone' (t := 23) (e := 9) (by kernel_rfl) (by kernel_rfl) (by decide) (by kernel_rfl) Try.func123 rfl rfl rfl ⟨rfl, rfl, rfl⟩ ⟨rfl, rfl, rfl⟩ ⟨rfl, rfl, rfl⟩ ⟨rfl, rfl, rfl⟩ ⟨rfl, rfl, rfl⟩ ⟨rfl, rfl, rfl⟩ ⟨rfl, rfl, rfl⟩ ⟨rfl, rfl, rfl⟩
end Go.E2.Lib
