/- ViewMore, part 26: Lay. -/
import Derived.Shelf.SlGeneric
import Derived.Shelf.Sort.Plain
import Derived.Shelf.Slices.CompactS
import Derived.Shelf.Slices.In.SortNone
import Derived.Shelf.SlSortCmp.NoneTotal
import Derived.Ground.NamesProg
import Derived.Ground.SlsfProg
import Derived.Test.YtciiodbkhilkmaaProg
namespace Go.Proofs
open Go.Shelf
def Try.laySort_ren : Go.Shelf.Ren := ⟨fun | 190 => 88 | 125 => 96 | 258 => 104 | 128 => 113 | 129 => 114 | 302 => 118 | 303 => 119 | 304 => 120 | 305 => 121 | 306 => 122 | 307 => 123 | 308 => 124 | 309 => 125 | 310 => 126 | 333 => 132 | 329 => 128 | 330 => 129 | 334 => 133 | 335 => 134 | 336 => 115 | 344 => 136 | n => n, fun | 31 => 29 | 9 => 9 | 3 => 3 | 46 => 49 | 0 => 0 | 51 => 108 | 53 => 110 | 4 => 4 | 183 => 101 | 182 => 100 | 131 => 105 | 5 => 5 | 218 => 119 | 222 => 123 | 228 => 127 | 229 => 128 | n => n, fun | n => n⟩
theorem Try.laySort : Go.Proofs.Lays.n190 Try.prog Try.laySort_ren := {
  mixed := by kernel_rfl
  f125 := Try.func96.trans (congrArg some (by kernel_rfl))
  f128 := Try.func113.trans (congrArg some (by kernel_rfl))
  f129 := Try.func114.trans (congrArg some (by kernel_rfl))
  f190 := Try.func88.trans (congrArg some (by kernel_rfl))
  f258 := Try.func104.trans (congrArg some (by kernel_rfl))
  f302 := Try.func118.trans (congrArg some (by kernel_rfl))
  f303 := Try.func119.trans (congrArg some (by kernel_rfl))
  f304 := Try.func120.trans (congrArg some (by kernel_rfl))
  f305 := Try.func121.trans (congrArg some (by kernel_rfl))
  f306 := Try.func122.trans (congrArg some (by kernel_rfl))
  f307 := Try.func123.trans (congrArg some (by kernel_rfl))
  f308 := Try.func124.trans (congrArg some (by kernel_rfl))
  f309 := Try.func125.trans (congrArg some (by kernel_rfl))
  f310 := Try.func126.trans (congrArg some (by kernel_rfl))
  f329 := Try.func128.trans (congrArg some (by kernel_rfl))
  f330 := Try.func129.trans (congrArg some (by kernel_rfl))
  f333 := Try.func132.trans (congrArg some (by kernel_rfl))
  f334 := Try.func133.trans (congrArg some (by kernel_rfl))
  f335 := Try.func134.trans (congrArg some (by kernel_rfl))
  f336 := Try.func115.trans (congrArg some (by kernel_rfl))
  f344 := Try.func136.trans (congrArg some (by kernel_rfl))
  t0 := Try.underlying0
  a0 := Try.isAgg0
  z0 := Try.sizeOf0
  v0 := Try.zeroValue0
  t3 := Try.underlying3
  a3 := Try.isAgg3
  z3 := Try.sizeOf3
  v3 := Try.zeroValue3
  t4 := Try.underlying4
  a4 := Try.isAgg4
  z4 := Try.sizeOf4
  v4 := Try.zeroValue4
  t5 := Try.underlying5
  a5 := Try.isAgg5
  z5 := Try.sizeOf5
  v5 := Try.zeroValue5
  t9 := Try.underlying9
  a9 := Try.isAgg9
  z9 := Try.sizeOf9
  v9 := Try.zeroValue9
  t31 := Try.underlying29
  a31 := Try.isAgg29
  z31 := Try.sizeOf29
  v31 := Try.zeroValue29
  t46 := Try.underlying49
  a46 := Try.isAgg49
  z46 := Try.sizeOf49
  v46 := Try.zeroValue49
  t51 := Try.underlying108
  a51 := Try.isAgg108
  z51 := Try.sizeOf108
  v51 := Try.zeroValue108
  t53 := Try.underlying110
  a53 := Try.isAgg110
  z53 := Try.sizeOf110
  v53 := Try.zeroValue110
  t131 := Try.underlying105
  a131 := Try.isAgg105
  z131 := Try.sizeOf105
  v131 := Try.zeroValue105
  t182 := Try.underlying100
  a182 := Try.isAgg100
  z182 := Try.sizeOf100
  v182 := Try.zeroValue100
  t183 := Try.underlying101
  a183 := Try.isAgg101
  z183 := Try.sizeOf101
  v183 := Try.zeroValue101
  t218 := Try.underlying119
  a218 := Try.isAgg119
  z218 := Try.sizeOf119
  v218 := Try.zeroValue119
  t222 := Try.underlying123
  a222 := Try.isAgg123
  z222 := Try.sizeOf123
  v222 := Try.zeroValue123
  t228 := Try.underlying127
  a228 := Try.isAgg127
  z228 := Try.sizeOf127
  v228 := Try.zeroValue127
  t229 := Try.underlying128
  a229 := Try.isAgg128
  z229 := Try.sizeOf128
  v229 := Try.zeroValue128 }
def Try.layCompact_ren : Go.Shelf.Ren := ⟨fun | 194 => 89 | n => n, fun | 31 => 29 | 9 => 9 | 3 => 3 | 4 => 4 | 0 => 0 | n => n, fun | n => n⟩
theorem Try.layCompact : Go.Proofs.Lays.n194 Try.prog Try.layCompact_ren := {
  mixed := by kernel_rfl
  f194 := Try.func89.trans (congrArg some (by kernel_rfl))
  t0 := Try.underlying0
  a0 := Try.isAgg0
  z0 := Try.sizeOf0
  v0 := Try.zeroValue0
  t3 := Try.underlying3
  a3 := Try.isAgg3
  z3 := Try.sizeOf3
  v3 := Try.zeroValue3
  t4 := Try.underlying4
  a4 := Try.isAgg4
  z4 := Try.sizeOf4
  v4 := Try.zeroValue4
  t9 := Try.underlying9
  a9 := Try.isAgg9
  z9 := Try.sizeOf9
  v9 := Try.zeroValue9
  t31 := Try.underlying29
  a31 := Try.isAgg29
  z31 := Try.sizeOf29
  v31 := Try.zeroValue29 }
end Go.Proofs
