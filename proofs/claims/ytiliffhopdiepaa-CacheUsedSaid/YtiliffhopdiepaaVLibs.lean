/- The library's contracts at this seat's program: SortFunc, Clone. -/
import Derived.Test.YtiliffhopdiepaaE13
import Derived.Test.YtiliffhopdiepaaLay
namespace Go.E2.Lib
open Go Go.E2 Go.RowKit Go.Proofs
set_option linter.unusedVariables false
set_option linter.unusedSimpArgs false
theorem good_sortItem : LibGood Try.prog 38 (libSortF Try.prog 8) := good_sortF Try.laySortItem (by omega) Try.isAgg26 Try.sizeOf26
theorem good_cloneItem : LibGood Try.prog 37 (libClone 8 88) :=
  good_clone' (t := 27) (e := 26) (by kernel_rfl) (by kernel_rfl) (by decide) (by kernel_rfl) Try.func37 rfl rfl rfl ⟨rfl, rfl, rfl⟩ ⟨rfl, rfl, rfl⟩ ⟨rfl, rfl, rfl⟩ ⟨rfl, rfl, rfl⟩ ⟨rfl, rfl, rfl⟩ ⟨rfl, rfl, rfl⟩ ⟨rfl, rfl, rfl⟩ ⟨rfl, rfl, rfl⟩
theorem good_cloneStr : LibGood Try.prog 42 (libClone 1 16) :=
  good_clone' (t := 28) (e := 9) (by kernel_rfl) (by kernel_rfl) (by decide) (by kernel_rfl) Try.func42 rfl rfl rfl ⟨rfl, rfl, rfl⟩ ⟨rfl, rfl, rfl⟩ ⟨rfl, rfl, rfl⟩ ⟨rfl, rfl, rfl⟩ ⟨rfl, rfl, rfl⟩ ⟨rfl, rfl, rfl⟩ ⟨rfl, rfl, rfl⟩ ⟨rfl, rfl, rfl⟩
end Go.E2.Lib
