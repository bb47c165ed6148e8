/- ViewAll, part 14. -/
import Derived.Shelf.SlGeneric
import Derived.Shelf.Sort.Plain
import Derived.Shelf.Slices.CompactS
import Derived.Shelf.Slices.In.SortNone
import Derived.Shelf.SlSortCmp.NoneTotal
import Derived.Ground.NamesProg
import Derived.Ground.SlsfProg
import Derived.Test.YtjejhkhofmkefaaProg
import Derived.Test.YtjejhkhofmkefaaQViewAll13
namespace Go.Proofs
open Go.Shelf
def Try.laySort_ren : Go.Shelf.Ren := ⟨fun | 190 => 82 | 125 => 103 | 258 => 114 | 128 => 137 | 129 => 138 | 302 => 143 | 303 => 144 | 304 => 145 | 305 => 146 | 306 => 147 | 307 => 148 | 308 => 149 | 309 => 150 | 310 => 151 | 333 => 162 | 329 => 158 | 330 => 159 | 334 => 163 | 335 => 164 | 336 => 139 | 344 => 177 | n => n, fun | 31 => 23 | 9 => 9 | 3 => 3 | 46 => 81 | 0 => 0 | 51 => 146 | 53 => 148 | 4 => 4 | 183 => 139 | 182 => 138 | 131 => 143 | 5 => 5 | 218 => 160 | 222 => 164 | 228 => 174 | 229 => 175 | n => n, fun | n => n⟩
theorem Try.laySort : Go.Proofs.Lays.n190 Try.prog Try.laySort_ren := {
  mixed := by kernel_rfl
  f125 := Try.func103.trans (congrArg some (by kernel_rfl))
  f128 := Try.func137.trans (congrArg some (by kernel_rfl))
  f129 := Try.func138.trans (congrArg some (by kernel_rfl))
  f190 := Try.func82.trans (congrArg some (by kernel_rfl))
  f258 := Try.func114.trans (congrArg some (by kernel_rfl))
  f302 := Try.func143.trans (congrArg some (by kernel_rfl))
  f303 := Try.func144.trans (congrArg some (by kernel_rfl))
  f304 := Try.func145.trans (congrArg some (by kernel_rfl))
  f305 := Try.func146.trans (congrArg some (by kernel_rfl))
  f306 := Try.func147.trans (congrArg some (by kernel_rfl))
  f307 := Try.func148.trans (congrArg some (by kernel_rfl))
  f308 := Try.func149.trans (congrArg some (by kernel_rfl))
  f309 := Try.func150.trans (congrArg some (by kernel_rfl))
  f310 := Try.func151.trans (congrArg some (by kernel_rfl))
  f329 := Try.func158.trans (congrArg some (by kernel_rfl))
  f330 := Try.func159.trans (congrArg some (by kernel_rfl))
  f333 := Try.func162.trans (congrArg some (by kernel_rfl))
  f334 := Try.func163.trans (congrArg some (by kernel_rfl))
  f335 := Try.func164.trans (congrArg some (by kernel_rfl))
  f336 := Try.func139.trans (congrArg some (by kernel_rfl))
  f344 := Try.func177.trans (congrArg some (by kernel_rfl))
  t0 := Try.underlying0
  a0 := Try.isAgg0
  z0 := Try.sizeOf0
  v0 := Try.zeroValue0
  t3 := Try.underlying3
  a3 := Try.isAgg3
  z3 := Try.sizeOf3
  v3 := Try.zeroValue3
  t4 := Try.underlying4
  a4 := Try.isAgg4
  z4 := Try.sizeOf4
  v4 := Try.zeroValue4
  t5 := Try.underlying5
  a5 := Try.isAgg5
  z5 := Try.sizeOf5
  v5 := Try.zeroValue5
  t9 := Try.underlying9
  a9 := Try.isAgg9
  z9 := Try.sizeOf9
  v9 := Try.zeroValue9
  t31 := Try.underlying23
  a31 := Try.isAgg23
  z31 := Try.sizeOf23
  v31 := Try.zeroValue23
  t46 := Try.underlying81
  a46 := Try.isAgg81
  z46 := Try.sizeOf81
  v46 := Try.zeroValue81
  t51 := Try.underlying146
  a51 := Try.isAgg146
  z51 := Try.sizeOf146
  v51 := Try.zeroValue146
  t53 := Try.underlying148
  a53 := Try.isAgg148
  z53 := Try.sizeOf148
  v53 := Try.zeroValue148
  t131 := Try.underlying143
  a131 := Try.isAgg143
  z131 := Try.sizeOf143
  v131 := Try.zeroValue143
  t182 := Try.underlying138
  a182 := Try.isAgg138
  z182 := Try.sizeOf138
  v182 := Try.zeroValue138
  t183 := Try.underlying139
  a183 := Try.isAgg139
  z183 := Try.sizeOf139
  v183 := Try.zeroValue139
  t218 := Try.underlying160
  a218 := Try.isAgg160
  z218 := Try.sizeOf160
  v218 := Try.zeroValue160
  t222 := Try.underlying164
  a222 := Try.isAgg164
  z222 := Try.sizeOf164
  v222 := Try.zeroValue164
  t228 := Try.underlying174
  a228 := Try.isAgg174
  z228 := Try.sizeOf174
  v228 := Try.zeroValue174
  t229 := Try.underlying175
  a229 := Try.isAgg175
  z229 := Try.sizeOf175
  v229 := Try.zeroValue175 }
def Try.layCompact_ren : Go.Shelf.Ren := ⟨fun | 194 => 83 | n => n, fun | 31 => 23 | 9 => 9 | 3 => 3 | 4 => 4 | 0 => 0 | n => n, fun | n => n⟩
theorem Try.layCompact : Go.Proofs.Lays.n194 Try.prog Try.layCompact_ren := {
  mixed := by kernel_rfl
  f194 := Try.func83.trans (congrArg some (by kernel_rfl))
  t0 := Try.underlying0
  a0 := Try.isAgg0
  z0 := Try.sizeOf0
  v0 := Try.zeroValue0
  t3 := Try.underlying3
  a3 := Try.isAgg3
  z3 := Try.sizeOf3
  v3 := Try.zeroValue3
  t4 := Try.underlying4
  a4 := Try.isAgg4
  z4 := Try.sizeOf4
  v4 := Try.zeroValue4
  t9 := Try.underlying9
  a9 := Try.isAgg9
  z9 := Try.sizeOf9
  v9 := Try.zeroValue9
  t31 := Try.underlying23
  a31 := Try.isAgg23
  z31 := Try.sizeOf23
  v31 := Try.zeroValue23 }
def Try.laySortItem_ren : Go.Shelf.Ren := ⟨fun | 6 => 70 | 15 => 103 | 14 => 102 | 28 => 137 | 29 => 138 | 20 => 129 | 21 => 130 | 22 => 131 | 23 => 132 | 24 => 133 | 25 => 134 | 26 => 135 | 27 => 136 | 46 => 157 | 47 => 158 | 48 => 159 | 49 => 160 | 50 => 161 | 57 => 176 | n => n, fun | 22 => 22 | 24 => 40 | 25 => 94 | 3 => 3 | 39 => 81 | 0 => 0 | 53 => 146 | 55 => 148 | 4 => 4 | 46 => 139 | 45 => 138 | 50 => 143 | 5 => 5 | 9 => 9 | 66 => 160 | 70 => 164 | 76 => 174 | 77 => 175 | n => n, fun | n => n⟩
theorem Try.laySortItem : Go.Proofs.SlLaysF0.n6 Try.prog Try.laySortItem_ren := {
  mixed := by kernel_rfl
  f6 := ⟨Try.f70.name, by decide, Try.func70.trans (congrArg some (by kernel_rfl))⟩
  f14 := ⟨Try.f102.name, by decide, Try.func102.trans (congrArg some (by kernel_rfl))⟩
  f15 := Try.func103.trans (congrArg some (by kernel_rfl))
  f20 := ⟨Try.f129.name, by decide, Try.func129.trans (congrArg some (by kernel_rfl))⟩
  f21 := ⟨Try.f130.name, by decide, Try.func130.trans (congrArg some (by kernel_rfl))⟩
  f22 := ⟨Try.f131.name, by decide, Try.func131.trans (congrArg some (by kernel_rfl))⟩
  f23 := ⟨Try.f132.name, by decide, Try.func132.trans (congrArg some (by kernel_rfl))⟩
  f24 := ⟨Try.f133.name, by decide, Try.func133.trans (congrArg some (by kernel_rfl))⟩
  f25 := ⟨Try.f134.name, by decide, Try.func134.trans (congrArg some (by kernel_rfl))⟩
  f26 := ⟨Try.f135.name, by decide, Try.func135.trans (congrArg some (by kernel_rfl))⟩
  f27 := ⟨Try.f136.name, by decide, Try.func136.trans (congrArg some (by kernel_rfl))⟩
  f28 := Try.func137.trans (congrArg some (by kernel_rfl))
  f29 := Try.func138.trans (congrArg some (by kernel_rfl))
  f46 := ⟨Try.f157.name, by decide, Try.func157.trans (congrArg some (by kernel_rfl))⟩
  f47 := Try.func158.trans (congrArg some (by kernel_rfl))
  f48 := Try.func159.trans (congrArg some (by kernel_rfl))
  f49 := ⟨Try.f160.name, by decide, Try.func160.trans (congrArg some (by kernel_rfl))⟩
  f50 := ⟨Try.f161.name, by decide, Try.func161.trans (congrArg some (by kernel_rfl))⟩
  f57 := ⟨Try.f176.name, by decide, Try.func176.trans (congrArg some (by kernel_rfl))⟩
  t0 := Try.underlying0
  a0 := Try.isAgg0
  z0 := Try.sizeOf0
  v0 := Try.zeroValue0
  t3 := Try.underlying3
  a3 := Try.isAgg3
  z3 := Try.sizeOf3
  v3 := Try.zeroValue3
  t4 := Try.underlying4
  a4 := Try.isAgg4
  z4 := Try.sizeOf4
  v4 := Try.zeroValue4
  t5 := Try.underlying5
  a5 := Try.isAgg5
  z5 := Try.sizeOf5
  v5 := Try.zeroValue5
  t9 := Try.underlying9
  a9 := Try.isAgg9
  z9 := Try.sizeOf9
  v9 := Try.zeroValue9
  t22 := Try.underlying22
  a22 := Try.isAgg22
  z22 := Try.sizeOf22
  v22 := Try.zeroValue22
  t25 := Try.underlying94
  a25 := Try.isAgg94
  z25 := Try.sizeOf94
  v25 := Try.zeroValue94
  t39 := Try.underlying81
  a39 := Try.isAgg81
  z39 := Try.sizeOf81
  v39 := Try.zeroValue81
  t45 := Try.underlying138
  a45 := Try.isAgg138
  z45 := Try.sizeOf138
  v45 := Try.zeroValue138
  t46 := Try.underlying139
  a46 := Try.isAgg139
  z46 := Try.sizeOf139
  v46 := Try.zeroValue139
  t50 := Try.underlying143
  a50 := Try.isAgg143
  z50 := Try.sizeOf143
  v50 := Try.zeroValue143
  t53 := Try.underlying146
  a53 := Try.isAgg146
  z53 := Try.sizeOf146
  v53 := Try.zeroValue146
  t55 := Try.underlying148
  a55 := Try.isAgg148
  z55 := Try.sizeOf148
  v55 := Try.zeroValue148
  t66 := Try.underlying160
  a66 := Try.isAgg160
  z66 := Try.sizeOf160
  v66 := Try.zeroValue160
  t70 := Try.underlying164
  a70 := Try.isAgg164
  z70 := Try.sizeOf164
  v70 := Try.zeroValue164
  t76 := Try.underlying174
  a76 := Try.isAgg174
  z76 := Try.sizeOf174
  v76 := Try.zeroValue174
  t77 := Try.underlying175
  a77 := Try.isAgg175
  z77 := Try.sizeOf175
  v77 := Try.zeroValue175 }
def Try.laySortDot_ren : Go.Shelf.Ren := ⟨fun | 6 => 117 | 15 => 103 | 14 => 152 | 28 => 137 | 29 => 138 | 20 => 165 | 21 => 166 | 22 => 167 | 23 => 168 | 24 => 169 | 25 => 170 | 26 => 171 | 27 => 172 | 46 => 178 | 47 => 158 | 48 => 159 | 49 => 179 | 50 => 180 | 57 => 182 | n => n, fun | 22 => 41 | 24 => 38 | 25 => 132 | 3 => 3 | 39 => 81 | 0 => 0 | 53 => 146 | 55 => 148 | 4 => 4 | 46 => 139 | 45 => 138 | 50 => 143 | 5 => 5 | 9 => 9 | 66 => 160 | 70 => 164 | 76 => 174 | 77 => 175 | n => n, fun | n => n⟩
theorem Try.laySortDot : Go.Proofs.SlLaysF0.n6 Try.prog Try.laySortDot_ren := {
  mixed := by kernel_rfl
  f6 := ⟨Try.f117.name, by decide, Try.func117.trans (congrArg some (by kernel_rfl))⟩
  f14 := ⟨Try.f152.name, by decide, Try.func152.trans (congrArg some (by kernel_rfl))⟩
  f15 := Try.func103.trans (congrArg some (by kernel_rfl))
  f20 := ⟨Try.f165.name, by decide, Try.func165.trans (congrArg some (by kernel_rfl))⟩
  f21 := ⟨Try.f166.name, by decide, Try.func166.trans (congrArg some (by kernel_rfl))⟩
  f22 := ⟨Try.f167.name, by decide, Try.func167.trans (congrArg some (by kernel_rfl))⟩
  f23 := ⟨Try.f168.name, by decide, Try.func168.trans (congrArg some (by kernel_rfl))⟩
  f24 := ⟨Try.f169.name, by decide, Try.func169.trans (congrArg some (by kernel_rfl))⟩
  f25 := ⟨Try.f170.name, by decide, Try.func170.trans (congrArg some (by kernel_rfl))⟩
  f26 := ⟨Try.f171.name, by decide, Try.func171.trans (congrArg some (by kernel_rfl))⟩
  f27 := ⟨Try.f172.name, by decide, Try.func172.trans (congrArg some (by kernel_rfl))⟩
  f28 := Try.func137.trans (congrArg some (by kernel_rfl))
  f29 := Try.func138.trans (congrArg some (by kernel_rfl))
  f46 := ⟨Try.f178.name, by decide, Try.func178.trans (congrArg some (by kernel_rfl))⟩
  f47 := Try.func158.trans (congrArg some (by kernel_rfl))
  f48 := Try.func159.trans (congrArg some (by kernel_rfl))
  f49 := ⟨Try.f179.name, by decide, Try.func179.trans (congrArg some (by kernel_rfl))⟩
  f50 := ⟨Try.f180.name, by decide, Try.func180.trans (congrArg some (by kernel_rfl))⟩
  f57 := ⟨Try.f182.name, by decide, Try.func182.trans (congrArg some (by kernel_rfl))⟩
  t0 := Try.underlying0
  a0 := Try.isAgg0
  z0 := Try.sizeOf0
  v0 := Try.zeroValue0
  t3 := Try.underlying3
  a3 := Try.isAgg3
  z3 := Try.sizeOf3
  v3 := Try.zeroValue3
  t4 := Try.underlying4
  a4 := Try.isAgg4
  z4 := Try.sizeOf4
  v4 := Try.zeroValue4
  t5 := Try.underlying5
  a5 := Try.isAgg5
  z5 := Try.sizeOf5
  v5 := Try.zeroValue5
  t9 := Try.underlying9
  a9 := Try.isAgg9
  z9 := Try.sizeOf9
  v9 := Try.zeroValue9
  t22 := Try.underlying41
  a22 := Try.isAgg41
  z22 := Try.sizeOf41
  v22 := Try.zeroValue41
  t25 := Try.underlying132
  a25 := Try.isAgg132
  z25 := Try.sizeOf132
  v25 := Try.zeroValue132
  t39 := Try.underlying81
  a39 := Try.isAgg81
  z39 := Try.sizeOf81
  v39 := Try.zeroValue81
  t45 := Try.underlying138
  a45 := Try.isAgg138
  z45 := Try.sizeOf138
  v45 := Try.zeroValue138
  t46 := Try.underlying139
  a46 := Try.isAgg139
  z46 := Try.sizeOf139
  v46 := Try.zeroValue139
  t50 := Try.underlying143
  a50 := Try.isAgg143
  z50 := Try.sizeOf143
  v50 := Try.zeroValue143
  t53 := Try.underlying146
  a53 := Try.isAgg146
  z53 := Try.sizeOf146
  v53 := Try.zeroValue146
  t55 := Try.underlying148
  a55 := Try.isAgg148
  z55 := Try.sizeOf148
  v55 := Try.zeroValue148
  t66 := Try.underlying160
  a66 := Try.isAgg160
  z66 := Try.sizeOf160
  v66 := Try.zeroValue160
  t70 := Try.underlying164
  a70 := Try.isAgg164
  z70 := Try.sizeOf164
  v70 := Try.zeroValue164
  t76 := Try.underlying174
  a76 := Try.isAgg174
  z76 := Try.sizeOf174
  v76 := Try.zeroValue174
  t77 := Try.underlying175
  a77 := Try.isAgg175
  z77 := Try.sizeOf175
  v77 := Try.zeroValue175 }
end Go.Proofs
namespace Go.E2.Lib
open Go Go.E2 Go.RowKit Go.Proofs
set_option linter.unusedVariables false
set_option linter.unusedSimpArgs false
theorem good_sortItem : LibGood Try.prog 70 (libSortF Try.prog 8) := good_sortF Try.laySortItem (by omega) Try.isAgg40 Try.sizeOf40
theorem good_sortDot : LibGood Try.prog 117 (libSortF Try.prog 3) := good_sortF Try.laySortDot (by omega) Try.isAgg38 Try.sizeOf38
theorem good_cloneItem : LibGood Try.prog 69 (libClone 8 88) :=
  good_clone' (t := 22) (e := 40) (by kernel_rfl) (by kernel_rfl) (by decide) (by kernel_rfl) Try.func69 rfl rfl rfl ⟨rfl, rfl, rfl⟩ ⟨rfl, rfl, rfl⟩ ⟨rfl, rfl, rfl⟩ ⟨rfl, rfl, rfl⟩ ⟨rfl, rfl, rfl⟩ ⟨rfl, rfl, rfl⟩ ⟨rfl, rfl, rfl⟩ ⟨rfl, rfl, rfl⟩
theorem good_cloneStr : LibGood Try.prog 123 (libClone 1 16) :=
  good_clone' (t := 23) (e := 9) (by kernel_rfl) (by kernel_rfl) (by decide) (by kernel_rfl) Try.func123 rfl rfl rfl ⟨rfl, rfl, rfl⟩ ⟨rfl, rfl, rfl⟩ ⟨rfl, rfl, rfl⟩ ⟨rfl, rfl, rfl⟩ ⟨rfl, rfl, rfl⟩ ⟨rfl, rfl, rfl⟩ ⟨rfl, rfl, rfl⟩ ⟨rfl, rfl, rfl⟩
end Go.E2.Lib
namespace Go.E2
open Go.RowKit
set_option linter.unusedVariables false
set_option linter.unusedSimpArgs false
structure Dot where
  f0 : Int
  f1 : Int
  f2 : Int
  deriving DecidableEq
structure Item where
  f0 : ByteArray
  f1 : ByteArray
  f2 : Int
  f3 : ByteArray
  f4 : Int
  f5 : Dot
  deriving DecidableEq
structure Val where
  f0 : List ByteArray
  f1 : List ByteArray
  f2 : Int
  f3 : Bool
  deriving DecidableEq
abbrev encS (x : ByteArray) : List PV := [.str x]
abbrev encZ (x : Int) : List PV := [.int .i64 x]
abbrev encD (x : Dot) : List PV := [.int .i64 x.f0, .int .i64 x.f1, .int .i64 x.f2]
abbrev encI (x : Item) : List PV := [.str x.f0, .str x.f1, .int .i64 x.f2, .str x.f3, .int .i64 x.f4, .int .i64 x.f5.f0, .int .i64 x.f5.f1, .int .i64 x.f5.f2]
abbrev lS (l : List ByteArray) : PV := .list 1 (l.map encS)
abbrev lZ (l : List Int) : PV := .list 1 (l.map encZ)
abbrev lD (l : List Dot) : PV := .list 3 (l.map encD)
abbrev lI (l : List Item) : PV := .list 8 (l.map encI)
abbrev encV (v : Val) : List PV := [lS v.f0, lS v.f1, .int .i64 v.f2, .bool v.f3]
abbrev pv (p : PV) : V1 := .at (.pv p)
abbrev ag (ps : List PV) : V1 := .agg (ps.map .pv)
abbrev iv (n : Int) : V1 := .at (.pv (.int .i64 n))
abbrev bv (b : Bool) : V1 := .at (.pv (.bool b))
abbrev sv (s : ByteArray) : V1 := .at (.pv (.str s))
abbrev nov : V1 := .at .any
theorem wr (n : Int) (h0 : -9223372036854775808 ≤ n) (h1 : n < 9223372036854775808) : IntKind.i64.wrap n = n := by
  rw [IntKind.wrap_i64]
  omega
end Go.E2
