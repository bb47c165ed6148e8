/- What the engine knows of this seat's program: types, functions, what loops keep, the library (printed by env.py). -/
import Derived.Test.YtiliffhopdiepaaGreatProg
import Derived.Test.YtiliffhopdiepaaGreatE11
import Derived.Test.YtiliffhopdiepaaGreatVLibs
import Derived.Test.YtiliffhopdiepaaGreatVSortS
import Derived.KernelRfl
namespace Go.E2.S
open Go Go.E2 Go.RowKit Go.Proofs
set_option linter.unusedVariables false
set_option linter.unusedSimpArgs false
set_option maxRecDepth 100000
def modes : Modes := fun f j => 
  if f = 3 then if j = 0 then [.auto, .auto, .auto, .pv 1, .pv 1, .pv 1, .pv 1, .pv 8, .pv 4] else [] else
  if f = 4 then if j = 0 then [.auto, .auto, .auto, .pv 1, .pv 1, .pv 1, .pv 1, .pv 8, .pv 4] else [] else
  if f = 5 then if j = 0 then [.pv 1] else [] else
  if f = 6 then if j = 0 then [.auto, .auto, .auto, .pv 1, .pv 1, .pv 1, .pv 1, .pv 8, .pv 4] else if j = 1 then [.auto, .auto, .auto, .pv 1, .pv 1, .pv 1, .pv 1, .pv 8, .pv 4] else [] else
  if f = 7 then if j = 0 then [.auto, .auto, .auto, .pv 1, .pv 1, .pv 1, .pv 1, .pv 8, .pv 4] else [] else
  if f = 8 then if j = 2 then [.pv 10] else [] else
  if f = 9 then if j = 2 then [.pv 10] else if j = 3 then [.auto, .auto, .auto, .auto, .pv 1, .pv 1, .pv 1, .pv 1, .pv 8, .pv 4] else [] else
  if f = 10 then if j = 2 then [.pv 10] else [] else
  if f = 11 then if j = 2 then [.pv 10] else if j = 4 then [.auto, .auto, .auto, .pv 1, .pv 1, .pv 1, .pv 1, .pv 8, .pv 4] else [] else
  if f = 12 then if j = 0 then [.pv 10] else if j = 1 then [.pv 10] else [] else
  if f = 13 then if j = 2 then [.pv 10] else if j = 4 then [.auto, .auto, .auto, .pv 1, .pv 1, .pv 1, .pv 1, .pv 8, .pv 4] else [] else
  if f = 15 then if j = 0 then [.auto, .auto, .auto, .pv 1, .pv 1, .pv 1, .pv 1, .pv 8, .pv 4] else [] else
  if f = 16 then if j = 0 then [.auto, .auto, .auto, .pv 1, .pv 1, .pv 1, .pv 1, .pv 8, .pv 4] else [] else
  if f = 17 then if j = 0 then [.auto, .auto, .auto, .pv 1, .pv 1, .pv 1, .pv 1, .pv 8, .pv 4] else [] else
  if f = 18 then if j = 0 then [.auto, .auto, .auto, .pv 1, .pv 1, .pv 1, .pv 1, .pv 8, .pv 4] else [] else
  if f = 19 then if j = 0 then [.pv 1] else if j = 1 then [.pv 1] else [] else
  if f = 20 then if j = 0 then [.auto, .auto, .auto, .pv 1, .pv 1, .pv 1, .pv 1, .pv 8, .pv 4] else [] else
  if f = 21 then if j = 0 then [.pv 1] else [] else
  if f = 22 then if j = 0 then [.auto, .auto, .auto, .pv 1, .pv 1, .pv 1, .pv 1, .pv 8, .pv 4] else if j = 1 then [.auto, .auto, .auto, .pv 1, .pv 1, .pv 1, .pv 1, .pv 8, .pv 4] else [] else
  if f = 23 then if j = 0 then [.pv 1] else [] else
  if f = 24 then if j = 0 then [.pv 1] else if j = 1 then [.auto, .auto, .auto, .pv 1, .pv 1, .pv 1, .pv 1, .pv 8, .pv 4] else [] else
  if f = 25 then if j = 0 then [.pv 1] else [] else
  if f = 26 then if j = 0 then [.pv 1] else [] else
  if f = 29 then if j = 0 then [.auto, .auto, .pv 1, .pv 8, .pv 1, .pv 4, .pv 1] else if j = 1 then [.auto, .auto, .pv 1, .pv 8, .pv 1, .pv 4, .pv 1] else [] else
  if f = 31 then if j = 0 then [.pv 10] else [] else
  if f = 32 then if j = 0 then [.auto, .auto, .pv 1, .pv 8, .pv 1, .pv 4, .pv 1] else if j = 1 then [.pv 1] else [] else
  if f = 33 then if j = 0 then [.auto, .auto, .auto, .auto, .pv 1, .pv 1, .pv 1, .pv 1, .pv 8, .pv 4] else [] else
  if f = 34 then if j = 0 then [.auto, .auto, .pv 1, .pv 8, .pv 1, .pv 4, .pv 1] else if j = 1 then [.auto, .auto, .auto, .auto, .pv 1, .pv 1, .pv 1, .pv 1, .pv 8, .pv 4] else [] else
  if f = 35 then if j = 2 then [.pv 10] else [] else
  if f = 36 then if j = 0 then [.pv 1, .pv 8] else [] else
  if f = 37 then if j = 0 then [.pv 1, .pv 4] else [] else
  if f = 38 then if j = 0 then [.pv 1] else if j = 1 then [.pv 1] else [] else
  if f = 39 then if j = 0 then [.pv 1, .pv 4] else [] else
  if f = 40 then if j = 0 then [.auto, .auto, .pv 1, .pv 8, .pv 1, .pv 4, .pv 1] else if j = 2 then [.pv 1] else [] else
  if f = 41 then if j = 0 then [.pv 1] else if j = 1 then [.pv 1] else [] else
  if f = 42 then if j = 0 then [.pv 1] else [] else
  if f = 43 then if j = 0 then [.auto, .auto, .pv 1, .pv 8, .pv 1, .pv 4, .pv 1] else if j = 1 then [.auto, .auto, .pv 1, .pv 8, .pv 1, .pv 4, .pv 1] else [] else
  if f = 44 then if j = 0 then [.auto, .auto, .pv 1, .pv 8, .pv 1, .pv 4, .pv 1] else if j = 1 then [.auto, .auto, .pv 1, .pv 8, .pv 1, .pv 4, .pv 1] else [] else
  if f = 45 then if j = 0 then [.pv 8] else if j = 1 then [.pv 8] else [] else
  if f = 46 then if j = 0 then [.auto, .auto, .pv 1, .pv 8, .pv 1, .pv 4, .pv 1] else if j = 2 then [.pv 1] else [] else
  if f = 47 then if j = 0 then [.auto, .auto, .pv 1, .pv 8, .pv 1, .pv 4, .pv 1] else if j = 2 then [.auto, .auto, .auto, .pv 1, .pv 1, .pv 1, .pv 1, .pv 8, .pv 4] else [] else
  if f = 48 then if j = 0 then [.auto, .auto, .pv 1, .pv 8, .pv 1, .pv 4, .pv 1] else if j = 2 then [.auto, .auto, .auto, .pv 1, .pv 1, .pv 1, .pv 1, .pv 8, .pv 4] else [] else
  if f = 49 then if j = 0 then [.auto, .auto, .auto, .auto, .pv 1, .pv 1, .pv 1, .pv 1, .pv 8, .pv 4] else [] else
  if f = 50 then if j = 0 then [.auto, .auto, .pv 1, .pv 8, .pv 1, .pv 4, .pv 1] else [] else
  if f = 52 then if j = 0 then [.pv 1] else [] else
  if f = 53 then if j = 0 then [.pv 8] else [] else
  if f = 54 then if j = 0 then [.pv 4] else [] else
  if f = 55 then if j = 0 then [.ptr [.pv 1]] else if j = 1 then [.pv 1] else [] else
  if f = 56 then if j = 0 then [.ptr [.pv 1]] else if j = 1 then [.pv 1] else [] else
  if f = 57 then if j = 0 then [.ptr [.pv 1]] else if j = 1 then [.pv 1] else [] else
  if f = 58 then if j = 0 then [.ptr [.pv 1]] else [] else
  if f = 59 then if j = 0 then [.pv 1] else [] else
  if f = 60 then if j = 0 then [.pv 1] else if j = 1 then [.auto, .auto, .pv 1, .pv 7] else [] else
  if f = 61 then if j = 0 then [.auto, .auto, .auto, .pv 1, .pv 1, .pv 1, .pv 1, .pv 8, .pv 4] else [] else
  if f = 62 then if j = 0 then [.pv 1] else [] else
  if f = 63 then if j = 0 then [.pv 1] else [] else
  if f = 64 then if j = 0 then [.pv 8] else if j = 1 then [.pv 8] else [] else
  if f = 65 then if j = 0 then [.pv 8] else [] else
  if f = 67 then if j = 0 then [.auto, .auto, .pv 1, .pv 7] else [] else
  if f = 68 then if j = 0 then [.pv 7] else [] else
  if f = 69 then if j = 0 then [.auto, .auto, .auto, .auto, .auto, .auto, .pv 3] else [] else
  if f = 70 then if j = 0 then [.pv 1] else if j = 1 then [.pv 1] else if j = 2 then [.pv 4] else [] else
  if f = 71 then if j = 0 then [.pv 1] else [] else
  if f = 72 then if j = 0 then [.pv 1] else [] else
  if f = 74 then if j = 0 then [.pv 1] else [] else
  if f = 75 then if j = 0 then [.pv 8] else if j = 1 then [.pv 8] else [] else
  if f = 76 then if j = 0 then [.pv 8] else [] else
  if f = 77 then if j = 0 then [.auto, .auto, .pv 1, .pv 7] else [] else
  if f = 78 then if j = 0 then [.pv 1] else if j = 1 then [.auto, .auto, .pv 1, .pv 7] else [] else
  if f = 79 then if j = 0 then [.auto, .auto, .pv 1, .pv 7] else if j = 1 then [.auto, .auto, .pv 1, .pv 7] else [] else
  if f = 80 then if j = 0 then [.auto, .auto, .pv 1, .pv 7] else if j = 1 then [.pv 1] else [] else
  if f = 81 then if j = 0 then [.pv 1] else if j = 1 then [.auto, .auto, .pv 1, .pv 7] else [] else
  if f = 82 then if j = 0 then [.own 1] else if j = 1 then [.pv 1] else [] else
  if f = 83 then if j = 0 then [.own 1] else if j = 1 then [.pv 1] else [] else
  if f = 84 then if j = 0 then [.own 1] else [] else
  if f = 85 then if j = 0 then [.own 1] else [] else
  if f = 87 then if j = 0 then [.auto, .auto, .pv 1, .pv 7] else [] else
  if f = 93 then if j = 0 then [.pv 1] else [] else
  if f = 94 then if j = 1 then [.pv 1] else [] else
  if f = 95 then if j = 0 then [.pv 4] else if j = 1 then [.pv 4] else [] else
  if f = 96 then if j = 0 then [.pv 1] else [] else
  if f = 99 then if j = 0 then [.pv 1] else [] else
  if f = 100 then if j = 0 then [.pv 1, .pv 8] else if j = 1 then [.pv 1, .pv 8] else [] else
  if f = 101 then if j = 0 then [.pv 1, .pv 4] else if j = 1 then [.pv 1, .pv 4] else [] else
  if f = 102 then if j = 0 then [.pv 1] else [] else
  if f = 103 then if j = 0 then [.auto, .auto, .pv 1, .pv 8, .pv 1, .pv 4, .pv 1] else [] else
  if f = 104 then if j = 0 then [.auto, .auto, .pv 1, .pv 8, .pv 1, .pv 4, .pv 1] else if j = 1 then [.pv 4] else [] else
  if f = 105 then if j = 0 then [.pv 1, .pv 4] else if j = 1 then [.pv 1] else [] else
  if f = 106 then if j = 0 then [.auto, .auto, .pv 1, .pv 8, .pv 1, .pv 4, .pv 1] else [] else
  if f = 107 then if j = 0 then [.pv 1] else if j = 1 then [.pv 1] else [] else
  if f = 108 then if j = 0 then [.pv 1] else [] else
  if f = 109 then if j = 0 then [.auto, .auto, .pv 1, .pv 8, .pv 1, .pv 4, .pv 1] else if j = 1 then [.pv 4] else [] else
  if f = 110 then if j = 0 then [.pv 1] else if j = 1 then [.pv 1] else [] else
  if f = 111 then if j = 0 then [.pv 1, .pv 4] else if j = 1 then [.pv 1] else [] else
  if f = 112 then if j = 0 then [.pv 1] else if j = 1 then [.pv 1] else [] else
  if f = 113 then if j = 0 then [.pv 1] else [] else
  if f = 114 then if j = 0 then [.pv 1] else [] else
  if f = 116 then if j = 0 then [.pv 8] else [] else
  if f = 118 then if j = 0 then [.pv 1] else if j = 1 then [.pv 4] else [] else
  if f = 119 then if j = 0 then [.pv 4] else [] else
  if f = 120 then if j = 0 then [.auto, .auto, .pv 1, .pv 7] else [] else
  if f = 121 then if j = 0 then [.pv 1] else if j = 1 then [.auto, .auto, .pv 1, .pv 7] else [] else
  if f = 122 then if j = 0 then [.pv 1, .pv 4] else if j = 1 then [.pv 1] else [] else
  if f = 123 then if j = 0 then [.auto, .auto, .auto, .pv 1, .pv 1, .pv 1, .pv 1, .pv 8, .pv 4] else [] else
  if f = 124 then if j = 0 then [.pv 1] else if j = 1 then [.pv 1] else [] else
  if f = 125 then if j = 0 then [.pv 1] else if j = 1 then [.pv 1] else [] else
  if f = 126 then if j = 0 then [.auto, .auto, .pv 1, .pv 7] else if j = 1 then [.pv 1] else [] else
  if f = 127 then if j = 0 then [.pv 1, .pv 8] else if j = 1 then [.pv 1] else [] else
  if f = 129 then if j = 1 then [.auto, .auto, .auto, .pv 1, .pv 1, .pv 1, .pv 1, .pv 8, .pv 4] else [] else
  if f = 130 then if j = 0 then [.pv 1] else if j = 1 then [.pv 1] else [] else
  if f = 131 then if j = 0 then [.pv 4] else if j = 1 then [.pv 1] else [] else
  if f = 132 then if j = 0 then [.pv 8] else if j = 1 then [.pv 1] else [] else
  if f = 134 then if j = 0 then [.pv 7] else [] else
  if f = 135 then if j = 0 then [.pv 1] else [] else
  if f = 136 then if j = 0 then [.pv 1] else [] else
  if f = 137 then if j = 0 then [.pv 1] else [] else
  if f = 140 then if j = 0 then [.pv 1] else [] else
  if f = 141 then if j = 0 then [.pv 8] else [] else
  if f = 142 then if j = 0 then [.own 8] else [] else
  if f = 144 then if j = 0 then [.own 8] else [] else
  if f = 148 then if j = 2 then [.pv 7] else [] else
  if f = 149 then if j = 0 then [.pv 7] else if j = 3 then [.pv 1] else [] else
  if f = 150 then if j = 0 then [.pv 7] else [] else
  if f = 151 then if j = 0 then [.pv 1] else [] else
  if f = 152 then if j = 0 then [.pv 1] else [] else
  if f = 156 then if j = 0 then [.pv 8] else [] else
  if f = 157 then if j = 2 then [.pv 7] else [] else
  if f = 158 then if j = 0 then [.pv 7] else if j = 3 then [.pv 1] else [] else
  if f = 159 then if j = 0 then [.pv 7] else if j = 1 then [.pv 7] else [] else
  if f = 160 then if j = 0 then [.pv 7] else if j = 1 then [.pv 1] else [] else
  if f = 161 then if j = 0 then [.pv 1] else [] else
  if f = 163 then if j = 0 then [.own 1] else [] else
  if f = 164 then if j = 0 then [.own 1] else [] else
  if f = 166 then if j = 0 then [.pv 1] else [] else
  if f = 170 then if j = 0 then [.auto] else [] else
  if f = 172 then if j = 0 then [.pv 1] else [] else
  if f = 173 then if j = 0 then [.pv 1] else [] else
  if f = 174 then if j = 0 then [.pv 4] else [] else
  if f = 175 then if j = 0 then [.pv 1, .pv 8] else if j = 1 then [.auto, .auto, .pv 1, .pv 7] else [] else
  if f = 176 then if j = 0 then [.pv 1, .pv 4] else if j = 1 then [.auto, .auto, .pv 1, .pv 7] else [] else
  if f = 177 then if j = 0 then [.pv 4] else [] else
  if f = 178 then if j = 0 then [.pv 1] else if j = 1 then [.pv 1] else [] else
  if f = 179 then if j = 0 then [.pv 4] else [] else
  if f = 180 then if j = 0 then [.auto, .auto, .pv 1, .pv 7] else [] else
  if f = 181 then if j = 0 then [.auto, .auto, .pv 1, .pv 7] else [] else
  if f = 182 then if j = 0 then [.pv 1] else if j = 1 then [.pv 1] else [] else
  if f = 184 then if j = 0 then [.pv 1, .pv 8] else if j = 1 then [.auto, .auto, .pv 1, .pv 7] else [] else
  if f = 185 then if j = 0 then [.pv 1, .pv 4] else if j = 1 then [.auto, .auto, .pv 1, .pv 7] else [] else
  if f = 186 then if j = 0 then [.pv 4] else [] else
  if f = 187 then if j = 0 then [.pv 1, .pv 4] else [] else
  if f = 188 then if j = 0 then [.pv 1] else [] else
  if f = 189 then if j = 0 then [.auto] else [] else
  if f = 190 then if j = 0 then [.pv 1] else if j = 1 then [.auto, .auto, .pv 1, .pv 7] else [] else
  if f = 191 then if j = 0 then [.pv 4] else [] else
  if f = 192 then if j = 0 then [.pv 1] else [] else
  if f = 193 then if j = 0 then [.auto, .auto, .pv 1, .pv 7] else [] else
  if f = 194 then if j = 0 then [.pv 7] else if j = 1 then [.pv 1] else [] else
  if f = 195 then if j = 0 then [.pv 8] else if j = 1 then [.pv 1] else [] else
  if f = 196 then if j = 0 then [.pv 1] else if j = 1 then [.pv 1] else [] else
  if f = 197 then if j = 0 then [.pv 1] else if j = 1 then [.auto, .auto, .pv 1, .pv 7] else [] else
  if f = 198 then if j = 0 then [.pv 1] else [] else
  if f = 202 then if j = 0 then [.pv 1] else [] else
  if f = 206 then if j = 2 then [.auto, .auto, .auto, .auto, .auto, .auto, .pv 3] else [] else
  if f = 207 then if j = 0 then [.pv 3] else [] else
  if f = 209 then if j = 0 then [.pv 1] else [] else
  if f = 210 then if j = 2 then [.auto, .auto, .auto, .auto, .auto, .auto, .pv 3] else [] else
  if f = 211 then if j = 0 then [.pv 3] else if j = 1 then [.pv 3] else [] else
  if f = 212 then if j = 0 then [.pv 1] else [] else
  if f = 215 then if j = 0 then [.pv 8] else if j = 3 then [.pv 7] else [] else
  if f = 216 then if j = 0 then [.auto, .auto, .pv 1, .pv 7] else [] else
  if f = 218 then if j = 0 then [.pv 8] else if j = 3 then [.pv 7] else [] else
  if f = 219 then if j = 0 then [.pv 1] else [] else
  if f = 220 then if j = 0 then [.pv 7] else [] else
  if f = 221 then if j = 0 then [.pv 3] else [] else
  if f = 223 then if j = 0 then [.pv 1] else [] else
  if f = 224 then if j = 0 then [.own 1] else [] else
  if f = 225 then if j = 0 then [.own 1] else [] else
  if f = 241 then if j = 2 then [.auto, .auto, .auto, .auto, .auto, .auto, .pv 3] else [] else
  if f = 242 then if j = 0 then [.auto] else [] else
  if f = 245 then if j = 2 then [.auto, .auto, .auto, .auto, .auto, .auto, .pv 3] else [] else
  if f = 246 then if j = 0 then [.pv 8] else if j = 1 then [.pv 3] else [] else
  if f = 247 then if j = 0 then [.pv 8] else [] else
  if f = 248 then if j = 0 then [.pv 8] else if j = 1 then [.pv 3] else [] else
  if f = 256 then if j = 0 then [.auto] else [] else
  if f = 257 then if j = 0 then [.pv 3] else [] else
  if f = 268 then if j = 0 then [.auto] else [] else
  []
def rmod : FuncId → List (List CM) := fun f => if f = 23 then [[.own 1]] else if f = 59 then [[.own 1]] else if f = 65 then [[.own 8]] else if f = 82 then [[.own 1]] else if f = 83 then [[.own 1]] else if f = 84 then [[.own 1]] else if f = 85 then [[.own 1]] else if f = 108 then [[.own 1], []] else if f = 133 then [[.own 1], []] else if f = 135 then [[.own 1], []] else if f = 144 then [[.own 8]] else if f = 163 then [[.own 1]] else if f = 164 then [[.own 1]] else if f = 186 then [[.own 4]] else if f = 195 then [[.own 8]] else if f = 215 then [[.own 8]] else if f = 225 then [[.own 1]] else if f = 246 then [[.own 8]] else if f = 247 then [[.own 8]] else if f = 248 then [[.own 8]] else []
def hints : FuncId → Nat → Option Hint := fun f id => 
  if f = 7 then if id = 4 then some ⟨[(1, []), (4, []), (5, [])], [(1, []), (2, []), (4, [])]⟩ else if id = 2 then some ⟨[(1, []), (4, [])], [(2, [])]⟩ else if id = 0 then some ⟨[(1, []), (3, [])], [(1, []), (2, [])]⟩ else none else
  if f = 8 then if id = 0 then some ⟨[(2, []), (7, []), (9, []), (10, [])], [(6, [])]⟩ else none else
  if f = 11 then if id = 4 then some ⟨[(9, []), (16, []), (19, []), (20, [])], [(9, []), (10, []), (16, []), (19, [])]⟩ else if id = 2 then some ⟨[(9, []), (16, []), (19, [])], [(9, []), (10, []), (16, [])]⟩ else if id = 0 then some ⟨[(9, []), (16, []), (18, [])], [(9, []), (10, []), (16, [])]⟩ else none else
  if f = 16 then if id = 2 then some ⟨[(4, [.ptr [.pv 1]]), (101, []), (102, []), (103, [])], [(4, [.ptr [.pv 1]])]⟩ else if id = 0 then some ⟨[(1, []), (4, [.ptr [.pv 1]]), (48, []), (49, []), (50, [])], [(1, []), (4, [.ptr [.pv 1]])]⟩ else none else
  if f = 17 then if id = 2 then some ⟨[(1, []), (91, []), (92, []), (93, [])], [(1, []), (2, [])]⟩ else if id = 0 then some ⟨[(1, []), (64, []), (65, []), (66, [])], [(1, []), (2, [])]⟩ else none else
  if f = 18 then if id = 5 then some ⟨[(1, []), (8, []), (9, [])], [(1, []), (2, []), (8, [])]⟩ else if id = 3 then some ⟨[(1, []), (6, [])], [(1, []), (2, [])]⟩ else if id = 1 then some ⟨[(1, []), (3, []), (4, []), (5, [])], [(1, []), (2, [])]⟩ else none else
  if f = 19 then if id = 0 then some ⟨[(0, []), (1, []), (5, [])], [(4, [])]⟩ else none else
  if f = 20 then if id = 2 then some ⟨[(1, []), (4, [.own 1]), (7, [])], [(4, [.own 1])]⟩ else if id = 0 then some ⟨[(1, []), (4, []), (5, [])], [(1, []), (4, [])]⟩ else none else
  if f = 21 then if id = 2 then some ⟨[(2, []), (4, []), (5, [.ptr [.auto, .auto, .auto, .auto, .auto, .auto, .auto, .auto, .own 4]]), (6, []), (48, []), (49, [])], [(2, []), (4, []), (5, [.ptr [.auto, .auto, .auto, .auto, .auto, .auto, .auto, .auto, .own 4]]), (6, [])]⟩ else if id = 0 then some ⟨[(2, []), (4, []), (5, [.ptr [.auto, .auto, .auto, .auto, .auto, .auto, .auto, .own 8, .auto]]), (6, []), (36, []), (37, [])], [(2, []), (4, []), (5, [.ptr [.auto, .auto, .auto, .auto, .auto, .auto, .auto, .own 8, .auto]]), (6, [])]⟩ else none else
  if f = 29 then if id = 0 then some ⟨[(2, []), (3, []), (5, [])], [(4, [])]⟩ else none else
  if f = 31 then if id = 0 then some ⟨[(0, []), (3, [])], [(2, [])]⟩ else none else
  if f = 34 then if id = 1 then some ⟨[(2, []), (4, []), (6, []), (7, []), (8, [])], [(2, []), (4, []), (6, []), (7, [])]⟩ else none else
  if f = 35 then if id = 0 then some ⟨[(2, []), (6, []), (8, []), (10, [])], [(6, []), (8, [])]⟩ else none else
  if f = 38 then if id = 0 then some ⟨[(0, []), (1, []), (5, [])], [(4, [])]⟩ else none else
  if f = 39 then if id = 0 then some ⟨[(3, []), (10, []), (11, []), (12, [])], [(3, [])]⟩ else none else
  if f = 40 then if id = 1 then some ⟨[(3, []), (8, []), (12, [.ptr [.auto, .auto, .auto, .auto, .auto, .auto, .auto, .auto, .own 4]]), (109, []), (110, []), (111, [])], [(3, []), (8, []), (12, [.ptr [.auto, .auto, .auto, .auto, .auto, .auto, .auto, .auto, .own 4]])]⟩ else none else
  if f = 41 then if id = 0 then some ⟨[(0, []), (1, []), (5, [])], [(4, [])]⟩ else none else
  if f = 42 then if id = 0 then some ⟨[(0, []), (1, []), (5, [])], [(4, [])]⟩ else none else
  if f = 43 then if id = 2 then some ⟨[(2, []), (3, []), (5, []), (6, [])], [(2, []), (3, []), (4, []), (5, [])]⟩ else if id = 0 then some ⟨[(2, []), (3, []), (5, [])], [(4, [])]⟩ else none else
  if f = 45 then if id = 0 then some ⟨[(0, []), (1, []), (5, [])], [(4, [])]⟩ else none else
  if f = 48 then if id = 0 then some ⟨[(3, []), (5, []), (6, []), (8, []), (9, []), (10, [.ptr [.auto, .auto, .auto, .auto, .auto, .auto, .auto, .auto, .own 4]]), (11, [])], [(3, []), (5, []), (6, []), (8, []), (10, [.ptr [.auto, .auto, .auto, .auto, .auto, .auto, .auto, .auto, .own 4]])]⟩ else none else
  if f = 52 then if id = 0 then some ⟨[(0, []), (3, [])], [(2, [])]⟩ else none else
  if f = 53 then if id = 0 then some ⟨[(0, []), (3, [])], [(2, [])]⟩ else none else
  if f = 54 then if id = 0 then some ⟨[(0, []), (3, [])], [(2, [])]⟩ else none else
  if f = 55 then if id = 0 then some ⟨[(0, [.ptr [.pv 1]]), (6, []), (7, []), (8, [])], [(0, [.ptr [.pv 1]])]⟩ else none else
  if f = 57 then if id = 0 then some ⟨[(0, [.ptr [.pv 1]]), (11, []), (12, []), (13, [])], [(0, [.ptr [.pv 1]])]⟩ else none else
  if f = 59 then if id = 0 then some ⟨[(1, []), (5, [.own 1]), (9, [])], [(5, [.own 1])]⟩ else none else
  if f = 60 then if id = 2 then some ⟨[(6, [.ptr [.pv 1]]), (7, []), (8, []), (41, []), (42, []), (43, []), (80, []), (81, []), (82, [])], [(6, [.ptr [.pv 1]]), (7, []), (8, []), (41, []), (42, []), (43, [])]⟩ else if id = 0 then some ⟨[(6, [.ptr [.pv 1]]), (7, []), (8, []), (41, []), (42, []), (43, [])], [(6, [.ptr [.pv 1]])]⟩ else none else
  if f = 64 then if id = 0 then some ⟨[(0, []), (1, []), (12, []), (13, [])], [(4, [])]⟩ else none else
  if f = 70 then if id = 0 then some ⟨[(0, []), (1, []), (13, []), (14, []), (15, [])], [(0, []), (1, [])]⟩ else none else
  if f = 71 then if id = 0 then some ⟨[(0, []), (3, [])], [(0, []), (2, [])]⟩ else none else
  if f = 74 then if id = 0 then some ⟨[(0, []), (1, []), (5, [])], [(4, [])]⟩ else none else
  if f = 75 then if id = 0 then some ⟨[(0, []), (1, []), (5, [])], [(4, [])]⟩ else none else
  if f = 76 then if id = 2 then some ⟨[(0, []), (3, []), (4, []), (5, []), (6, [])], [(0, []), (3, []), (4, []), (5, [])]⟩ else if id = 0 then some ⟨[(0, []), (3, []), (4, [])], [(3, [])]⟩ else none else
  if f = 77 then if id = 0 then some ⟨[(1, []), (3, [])], [(1, []), (2, [])]⟩ else none else
  if f = 82 then if id = 0 then some ⟨[(0, []), (1, []), (5, [])], [(0, [])]⟩ else none else
  if f = 83 then if id = 0 then some ⟨[(0, []), (1, []), (5, [])], [(0, [])]⟩ else none else
  if f = 86 then if id = 0 then some ⟨[(0, []), (3, [.own 1]), (4, [])], [(3, [.own 1])]⟩ else none else
  if f = 87 then if id = 4 then some ⟨[(1, []), (3, []), (5, []), (6, []), (7, [])], [(1, []), (3, []), (5, [])]⟩ else if id = 2 then some ⟨[(1, []), (3, []), (5, [])], [(3, [])]⟩ else if id = 0 then some ⟨[(1, []), (3, []), (4, [])], [(1, []), (3, [])]⟩ else none else
  if f = 89 then if id = 0 then some ⟨[(0, []), (3, [.own 1]), (5, []), (6, [])], [(3, [.own 1])]⟩ else none else
  if f = 90 then if id = 0 then some ⟨[(0, []), (3, [.own 1]), (5, []), (6, [])], [(3, [.own 1])]⟩ else none else
  if f = 93 then if id = 2 then some ⟨[(2, []), (5, []), (6, [.ptr [.auto, .auto, .auto, .own 7]]), (28, []), (29, [])], [(2, []), (5, []), (6, [.ptr [.auto, .auto, .auto, .own 7]])]⟩ else if id = 0 then some ⟨[(2, []), (5, []), (6, [.ptr [.auto, .auto, .own 1, .auto]]), (16, []), (17, [])], [(2, []), (5, []), (6, [.ptr [.auto, .auto, .own 1, .auto]])]⟩ else none else
  if f = 95 then if id = 0 then some ⟨[(0, []), (1, []), (5, [])], [(4, [])]⟩ else none else
  if f = 102 then if id = 0 then some ⟨[(0, []), (5, []), (8, []), (9, []), (10, [])], [(2, []), (3, []), (4, [])]⟩ else none else
  if f = 103 then if id = 2 then some ⟨[(1, []), (2, []), (40, []), (41, [])], [(1, []), (2, [])]⟩ else if id = 0 then some ⟨[(1, []), (2, []), (3, [.own 4]), (14, []), (15, []), (16, [])], [(1, []), (2, []), (3, [.own 4])]⟩ else none else
  if f = 104 then if id = 0 then some ⟨[(2, []), (4, []), (6, []), (7, [.own 4]), (8, [])], [(2, []), (4, []), (7, [.own 4])]⟩ else none else
  if f = 106 then if id = 0 then some ⟨[(1, []), (3, []), (10, []), (11, []), (12, [])], [(3, [])]⟩ else none else
  if f = 108 then if id = 0 then some ⟨[(1, []), (6, [.own 1])], [(1, []), (6, [.own 1])]⟩ else none else
  if f = 109 then if id = 2 then some ⟨[(1, []), (2, []), (4, []), (6, []), (7, [.own 4]), (8, []), (9, [])], [(1, []), (2, []), (4, []), (6, []), (7, [.own 4]), (8, [])]⟩ else if id = 0 then some ⟨[(1, []), (2, []), (4, []), (6, []), (7, [.own 4]), (8, [])], [(2, []), (4, []), (7, [.own 4])]⟩ else none else
  if f = 110 then if id = 0 then some ⟨[(0, []), (1, []), (2, []), (7, [.own 1]), (8, [])], [(7, [.own 1])]⟩ else none else
  if f = 112 then if id = 0 then some ⟨[(0, []), (1, []), (12, []), (13, [])], [(4, [])]⟩ else none else
  if f = 113 then if id = 2 then some ⟨[(4, []), (25, []), (26, [])], [(4, [])]⟩ else if id = 0 then some ⟨[(0, []), (3, [])], [(0, []), (3, [])]⟩ else none else
  if f = 118 then if id = 0 then some ⟨[(0, []), (7, []), (8, []), (9, [])], [(4, [])]⟩ else none else
  if f = 124 then if id = 0 then some ⟨[(0, []), (1, []), (7, []), (8, [])], [(4, [])]⟩ else none else
  if f = 125 then if id = 0 then some ⟨[(0, []), (1, []), (12, []), (13, [])], [(4, [])]⟩ else none else
  if f = 128 then if id = 0 then some ⟨[(0, []), (1, []), (5, [])], [(4, [])]⟩ else none else
  if f = 131 then if id = 0 then some ⟨[(0, []), (1, []), (5, [.own 4]), (6, [])], [(5, [.own 4])]⟩ else none else
  if f = 132 then if id = 0 then some ⟨[(0, []), (1, []), (5, [.own 8]), (6, [])], [(5, [.own 8])]⟩ else none else
  if f = 133 then if id = 0 then some ⟨[(0, []), (4, [.own 1])], [(2, [.own 1]), (3, [])]⟩ else none else
  if f = 134 then if id = 0 then some ⟨[(0, []), (3, [])], [(2, [])]⟩ else none else
  if f = 137 then if id = 0 then some ⟨[(1, [.ptr [.pv 1]]), (5, []), (6, []), (7, [])], [(1, [.ptr [.pv 1]])]⟩ else none else
  if f = 140 then if id = 0 then some ⟨[(4, [.own 1]), (8, []), (9, []), (10, [])], [(2, []), (3, []), (4, [.own 1])]⟩ else none else
  if f = 144 then if id = 0 then some ⟨[(0, []), (1, []), (5, []), (6, [])], [(0, []), (5, [])]⟩ else none else
  if f = 148 then if id = 0 then some ⟨[(2, []), (3, []), (4, []), (9, []), (10, []), (11, [])], [(6, [])]⟩ else none else
  if f = 149 then if id = 2 then some ⟨[(1, []), (2, []), (3, []), (13, []), (14, []), (15, []), (20, []), (21, []), (22, [])], [(1, []), (2, []), (3, []), (8, []), (13, []), (14, []), (15, [])]⟩ else if id = 0 then some ⟨[(1, []), (2, []), (3, []), (13, []), (14, []), (15, [])], [(8, [])]⟩ else none else
  if f = 150 then if id = 0 then some ⟨[(0, []), (1, []), (7, []), (8, [])], [(4, [])]⟩ else none else
  if f = 151 then if id = 2 then some ⟨[(0, []), (3, []), (5, [.own 1]), (6, [])], [(5, [.own 1])]⟩ else if id = 0 then some ⟨[(0, []), (3, []), (4, [])], [(0, []), (3, [])]⟩ else none else
  if f = 152 then if id = 2 then some ⟨[(0, []), (4, []), (5, []), (6, []), (7, [])], [(0, []), (4, []), (5, []), (6, [])]⟩ else if id = 0 then some ⟨[(0, []), (4, [.own 1]), (5, [])], [(2, []), (3, []), (4, [.own 1])]⟩ else none else
  if f = 154 then if id = 0 then some ⟨[(0, []), (3, [])], [(0, []), (2, [])]⟩ else none else
  if f = 155 then if id = 0 then some ⟨[(2, []), (3, []), (53, []), (54, []), (55, [])], [(2, []), (3, []), (4, [])]⟩ else none else
  if f = 156 then if id = 0 then some ⟨[(0, []), (3, []), (5, [])], [(0, []), (3, []), (5, [])]⟩ else none else
  if f = 157 then if id = 2 then some ⟨[(0, []), (1, []), (2, []), (7, []), (8, [])], [(0, []), (1, []), (2, []), (6, []), (7, [])]⟩ else if id = 0 then some ⟨[(0, []), (1, []), (2, []), (7, [])], [(6, [])]⟩ else none else
  if f = 158 then if id = 2 then some ⟨[(0, []), (1, []), (2, []), (3, []), (9, []), (10, [])], [(0, []), (1, []), (2, []), (3, []), (8, []), (9, [])]⟩ else if id = 0 then some ⟨[(0, []), (1, []), (2, []), (3, []), (9, [])], [(8, [])]⟩ else none else
  if f = 159 then if id = 0 then some ⟨[(0, []), (1, []), (5, [])], [(4, [])]⟩ else none else
  if f = 160 then if id = 0 then some ⟨[(0, []), (1, []), (5, [.own 7]), (6, [])], [(5, [.own 7])]⟩ else none else
  if f = 161 then if id = 0 then some ⟨[(0, []), (1, []), (2, []), (8, [.own 1]), (9, [])], [(8, [.own 1])]⟩ else none else
  if f = 166 then if id = 0 then some ⟨[(0, []), (5, []), (10, [])], [(0, []), (5, [])]⟩ else none else
  if f = 169 then if id = 0 then some ⟨[(0, []), (2, []), (3, [.ptr [.auto, .auto, .auto, .auto, .auto, .auto, .own 3]]), (18, []), (19, [])], [(2, []), (3, [.ptr [.auto, .auto, .auto, .auto, .auto, .auto, .own 3]])]⟩ else none else
  if f = 170 then if id = 0 then some ⟨[(0, []), (1, []), (7, []), (8, [])], [(4, [])]⟩ else none else
  if f = 179 then if id = 0 then some ⟨[(1, []), (5, [.own 4]), (8, []), (9, []), (10, [])], [(5, [.own 4])]⟩ else none else
  if f = 182 then if id = 0 then some ⟨[(0, []), (1, []), (2, []), (7, []), (16, []), (17, [])], [(7, [])]⟩ else none else
  if f = 186 then if id = 0 then some ⟨[(0, []), (3, [.own 4]), (4, [])], [(3, [.own 4])]⟩ else none else
  if f = 187 then if id = 0 then some ⟨[(1, []), (3, []), (4, [])], [(3, [])]⟩ else none else
  if f = 188 then if id = 0 then some ⟨[(0, []), (1, []), (7, []), (8, [])], [(4, [])]⟩ else none else
  if f = 189 then if id = 0 then some ⟨[(0, []), (1, []), (7, []), (8, [])], [(4, [])]⟩ else none else
  if f = 191 then if id = 0 then some ⟨[(0, []), (1, []), (7, []), (8, [])], [(4, [])]⟩ else none else
  if f = 192 then if id = 0 then some ⟨[(1, []), (2, []), (8, [.own 1])], [(1, []), (2, []), (8, [.own 1])]⟩ else none else
  if f = 194 then if id = 0 then some ⟨[(1, []), (5, [.own 7]), (8, []), (9, []), (10, [])], [(5, [.own 7])]⟩ else none else
  if f = 196 then if id = 0 then some ⟨[(0, []), (1, []), (5, [])], [(4, [])]⟩ else none else
  if f = 199 then if id = 0 then some ⟨[(0, []), (9, []), (10, [])], [(2, [])]⟩ else none else
  if f = 202 then if id = 0 then some ⟨[(3, []), (6, []), (7, []), (8, [])], [(2, []), (3, [])]⟩ else none else
  if f = 206 then if id = 0 then some ⟨[(0, []), (1, []), (5, []), (15, []), (16, []), (17, [])], [(0, []), (1, []), (5, []), (6, [])]⟩ else none else
  if f = 209 then if id = 2 then some ⟨[(0, []), (3, []), (4, []), (5, []), (6, [])], [(0, []), (3, []), (4, []), (5, [])]⟩ else if id = 0 then some ⟨[(0, []), (3, [.own 1])], [(2, [])]⟩ else none else
  if f = 210 then if id = 0 then some ⟨[(0, []), (1, []), (5, []), (7, [])], [(0, []), (1, []), (5, []), (6, [])]⟩ else none else
  if f = 211 then if id = 0 then some ⟨[(0, []), (1, []), (5, [])], [(4, [])]⟩ else none else
  if f = 215 then if id = 0 then some ⟨[(1, []), (2, []), (9, [.own 8]), (14, []), (15, []), (16, [])], [(9, [.own 8])]⟩ else none else
  if f = 218 then if id = 0 then some ⟨[(1, []), (2, []), (3, []), (9, []), (10, [])], [(9, [])]⟩ else none else
  if f = 220 then if id = 0 then some ⟨[(0, []), (3, [.own 7]), (4, [])], [(3, [.own 7])]⟩ else none else
  if f = 242 then if id = 0 then some ⟨[(0, []), (1, []), (7, []), (8, [])], [(4, [])]⟩ else none else
  if f = 248 then if id = 0 then some ⟨[(0, []), (1, []), (5, [.own 8]), (6, [])], [(5, [.own 8])]⟩ else none else
  if f = 257 then if id = 0 then some ⟨[(0, []), (3, []), (5, [])], [(4, [])]⟩ else none else
  if f = 268 then if id = 0 then some ⟨[(0, []), (3, []), (7, []), (8, [])], [(4, [])]⟩ else none else
  none
noncomputable def libs : List (FuncId × LibFn) := [(136, libClone 1 1), (141, libClone 8 88), (142, libSortF Tryz.prog 8), (172, libClone 1 8), (173, libClone 1 24), (174, libClone 4 64), (221, libClone 3 24), (223, libClone 1 16), (224, Lib.libSort), (225, Lib.libCompact)]
def mvs : Nat → Nat → Bool := fun t d => if t = 25 ∧ d = 38 then true else if t = 25 ∧ d = 41 then true else false
def cls : FuncId → Option ClM := fun f => if f = 69 then some (.frz [[0, 0, 0, 1, 1, 1, 1, 8, 4]]) else if f = 97 then some (.frz [[0]]) else if f = 117 then some (.frz [[1, 8]]) else if f = 137 then some (.own) else if f = 138 then some (.own) else if f = 145 then some (.own) else if f = 180 then some (.frz [[1]]) else if f = 193 then some (.frz [[1]]) else if f = 208 then some (.frz [[0], [0], [0, 0, 0, 0, 0, 0, 3]]) else if f = 222 then some (.frz [[1]]) else if f = 255 then some (.frz [[3]]) else none
def mps : Nat → Bool := fun t => if t = 176 then true else false
theorem map176 : MapOk Tryz.prog 176 := ⟨45, 4, Tryz.underlying176, ⟨_, Tryz.underlying45⟩, fun em d w => by kernel_rfl, run_eq_key (tagsOf_ok _ _ (by kernel_rfl)), Tryz.zeroValue4⟩
theorem mpsOk : ∀ t, mps t = true → MapOk Tryz.prog t := fun t h => by
  unfold mps at h
  split at h
  · rename_i e; subst e; exact map176
  cases h
noncomputable def env : Env := ⟨tyOf Tryz.prog, fnOf Tryz.prog, tagsOf Tryz.prog, modes, rmod, hints, plainOf Tryz.prog, fun f => lookL f libs, mvs, cls, mps⟩
theorem hE : EnvOk Tryz.prog env := envOk modes rmod hints _ mvs cls mps (by kernel_rfl) mpsOk
@[simp] theorem mv9_14 : env.mv 9 14 = false := rfl
@[simp] theorem mv23_22 : env.mv 23 22 = false := rfl
@[simp] theorem mv25_24 : env.mv 25 24 = false := rfl
@[simp] theorem mv25_32 : env.mv 25 32 = false := rfl
@[simp] theorem mv25_38 : env.mv 25 38 = true := rfl
@[simp] theorem mv25_41 : env.mv 25 41 = true := rfl
@[simp] theorem mv26_13 : env.mv 26 13 = false := rfl
@[simp] theorem mv26_22 : env.mv 26 22 = false := rfl
@[simp] theorem mv26_25 : env.mv 26 25 = false := rfl
@[simp] theorem mv26_31 : env.mv 26 31 = false := rfl
@[simp] theorem mv31_28 : env.mv 31 28 = false := rfl
@[simp] theorem mv31_32 : env.mv 31 32 = false := rfl
@[simp] theorem mv31_41 : env.mv 31 41 = false := rfl
@[simp] theorem mv31_44 : env.mv 31 44 = false := rfl
@[simp] theorem cl69 : env.cl 69 = some (.frz [[0, 0, 0, 1, 1, 1, 1, 8, 4]]) := rfl
@[simp] theorem cl97 : env.cl 97 = some (.frz [[0]]) := rfl
@[simp] theorem cl117 : env.cl 117 = some (.frz [[1, 8]]) := rfl
@[simp] theorem cl137 : env.cl 137 = some (.own) := rfl
@[simp] theorem cl138 : env.cl 138 = some (.own) := rfl
@[simp] theorem cl145 : env.cl 145 = some (.own) := rfl
@[simp] theorem cl180 : env.cl 180 = some (.frz [[1]]) := rfl
@[simp] theorem cl193 : env.cl 193 = some (.frz [[1]]) := rfl
@[simp] theorem cl208 : env.cl 208 = some (.frz [[0], [0], [0, 0, 0, 0, 0, 0, 3]]) := rfl
@[simp] theorem cl222 : env.cl 222 = some (.frz [[1]]) := rfl
@[simp] theorem cl255 : env.cl 255 = some (.frz [[3]]) := rfl
@[simp] theorem mp176 : env.mps 176 = true := rfl
theorem hL : LibOk Tryz.prog env := libOk_of (by
  intro e he
  simp only [libs, List.mem_cons, List.not_mem_nil, or_false] at he
  rcases he with rfl | rfl | rfl | rfl | rfl | rfl | rfl | rfl | rfl | rfl
  · exact Lib.good_cloneByte
  · exact Lib.good_cloneItem
  · exact Lib.good_sortItem
  · exact Lib.good_cloneVec
  · exact Lib.good_cloneVecs
  · exact Lib.good_cloneTxn
  · exact Lib.good_cloneDot
  · exact Lib.good_cloneStr
  · exact Lib.good_sort
  · exact Lib.good_compact)
noncomputable abbrev A : Ora := ans Tryz.prog env
@[simp] theorem t1 : env.tab 1 = some { agg := false, size := 1, bytes := 8, elem := 0, fields := [], zero := [.any], es := [0], str := false, bool := false, int := none, apl := [] } := by kernel_rfl
@[simp] theorem t2 : env.tab 2 = some { agg := false, size := 1, bytes := 8, elem := 0, fields := [], zero := [.pv (.int .i64 0)], es := [0], str := false, bool := false, int := some .i64, apl := [] } := by kernel_rfl
@[simp] theorem t3 : env.tab 3 = some { agg := false, size := 1, bytes := 8, elem := 0, fields := [], zero := [.pv (.int .i64 0)], es := [0], str := false, bool := false, int := some .i64, apl := [] } := by kernel_rfl
@[simp] theorem t4 : env.tab 4 = some { agg := false, size := 1, bytes := 1, elem := 0, fields := [], zero := [.pv (.bool false)], es := [0], str := false, bool := true, int := none, apl := [] } := by kernel_rfl
@[simp] theorem t5 : env.tab 5 = some { agg := false, size := 1, bytes := 1, elem := 0, fields := [], zero := [.pv (.int .u8 0)], es := [0], str := false, bool := false, int := some .u8, apl := [] } := by kernel_rfl
@[simp] theorem t6 : env.tab 6 = some { agg := false, size := 1, bytes := 1, elem := 0, fields := [], zero := [.pv (.int .u8 0)], es := [0], str := false, bool := false, int := some .u8, apl := [] } := by kernel_rfl
@[simp] theorem t7 : env.tab 7 = some { agg := true, size := 4, bytes := 24, elem := 0, fields := [(0, 2), (1, 3), (2, 4), (3, 6)], zero := [.pv (.int .i64 0), .pv (.int .i64 0), .pv (.bool false), .pv (.int .u8 0)], es := [0, 0, 0, 0], str := false, bool := false, int := none, apl := [] } := by kernel_rfl
@[simp] theorem t8 : env.tab 8 = some { agg := true, size := 4, bytes := 24, elem := 0, fields := [(0, 2), (1, 3), (2, 4), (3, 6)], zero := [.pv (.int .i64 0), .pv (.int .i64 0), .pv (.bool false), .pv (.int .u8 0)], es := [0, 0, 0, 0], str := false, bool := false, int := none, apl := [] } := by kernel_rfl
@[simp] theorem t9 : env.tab 9 = some { agg := false, size := 1, bytes := 16, elem := 0, fields := [], zero := [.pv (.str ⟨#[]⟩)], es := [0], str := true, bool := false, int := none, apl := [] } := by kernel_rfl
@[simp] theorem t10 : env.tab 10 = some { agg := false, size := 1, bytes := 16, elem := 0, fields := [], zero := [.pv (.str ⟨#[]⟩)], es := [0], str := true, bool := false, int := none, apl := [] } := by kernel_rfl
@[simp] theorem t11 : env.tab 11 = some { agg := false, size := 1, bytes := 16, elem := 0, fields := [], zero := [.pv (.str ⟨#[]⟩)], es := [0], str := true, bool := false, int := none, apl := [] } := by kernel_rfl
@[simp] theorem t12 : env.tab 12 = some { agg := false, size := 1, bytes := 8, elem := 0, fields := [], zero := [.pv (.int .u64 0)], es := [0], str := false, bool := false, int := some .u64, apl := [] } := by kernel_rfl
@[simp] theorem t14 : env.tab 14 = some { agg := true, size := 2, bytes := 24, elem := 0, fields := [(0, 9), (1, 12)], zero := [.pv (.str ⟨#[]⟩), .pv (.int .u64 0)], es := [0, 0], str := false, bool := false, int := none, apl := [] } := by kernel_rfl
@[simp] theorem t15 : env.tab 15 = some { agg := false, size := 1, bytes := 8, elem := 0, fields := [], zero := [.any], es := [0], str := false, bool := false, int := none, apl := [] } := by kernel_rfl
@[simp] theorem t16 : env.tab 16 = some { agg := false, size := 1, bytes := 8, elem := 0, fields := [], zero := [.any], es := [0], str := false, bool := false, int := none, apl := [] } := by kernel_rfl
@[simp] theorem t17 : env.tab 17 = some { agg := false, size := 1, bytes := 8, elem := 0, fields := [], zero := [.any], es := [0], str := false, bool := false, int := none, apl := [] } := by kernel_rfl
@[simp] theorem t18 : env.tab 18 = some { agg := true, size := 1, bytes := 8, elem := 0, fields := [(0, 17)], zero := [.any], es := [0], str := false, bool := false, int := none, apl := [] } := by kernel_rfl
@[simp] theorem t19 : env.tab 19 = some { agg := true, size := 1, bytes := 8, elem := 0, fields := [(0, 17)], zero := [.any], es := [0], str := false, bool := false, int := none, apl := [] } := by kernel_rfl
@[simp] theorem t21 : env.tab 21 = some { agg := false, size := 1, bytes := 4, elem := 0, fields := [], zero := [.pv (.int .i32 0)], es := [0], str := false, bool := false, int := some .i32, apl := [] } := by kernel_rfl
@[simp] theorem t22 : env.tab 22 = some { agg := false, size := 1, bytes := 24, elem := 3, fields := [], zero := [.nil], es := [1], str := false, bool := false, int := none, apl := [] } := by kernel_rfl
@[simp] theorem t23 : env.tab 23 = some { agg := false, size := 1, bytes := 24, elem := 3, fields := [], zero := [.nil], es := [1], str := false, bool := false, int := none, apl := [] } := by kernel_rfl
@[simp] theorem t24 : env.tab 24 = some { agg := false, size := 1, bytes := 24, elem := 9, fields := [], zero := [.nil], es := [1], str := false, bool := false, int := none, apl := [] } := by kernel_rfl
@[simp] theorem t25 : env.tab 25 = some { agg := false, size := 1, bytes := 24, elem := 47, fields := [], zero := [.nil], es := [8], str := false, bool := false, int := none, apl := [] } := by kernel_rfl
@[simp] theorem t26 : env.tab 26 = some { agg := false, size := 1, bytes := 24, elem := 51, fields := [], zero := [.nil], es := [4], str := false, bool := false, int := none, apl := [] } := by kernel_rfl
@[simp] theorem t27 : env.tab 27 = some { agg := true, size := 9, bytes := 168, elem := 0, fields := [(0, 3), (1, 3), (2, 4), (3, 23), (4, 23), (5, 24), (6, 24), (7, 25), (8, 26)], zero := [.pv (.int .i64 0), .pv (.int .i64 0), .pv (.bool false), .nil, .nil, .nil, .nil, .nil, .nil], es := [0, 0, 0, 1, 1, 1, 1, 8, 4], str := false, bool := false, int := none, apl := [] } := by kernel_rfl
@[simp] theorem t28 : env.tab 28 = some { agg := true, size := 9, bytes := 168, elem := 0, fields := [(0, 3), (1, 3), (2, 4), (3, 23), (4, 23), (5, 24), (6, 24), (7, 25), (8, 26)], zero := [.pv (.int .i64 0), .pv (.int .i64 0), .pv (.bool false), .nil, .nil, .nil, .nil, .nil, .nil], es := [0, 0, 0, 1, 1, 1, 1, 8, 4], str := false, bool := false, int := none, apl := [] } := by kernel_rfl
@[simp] theorem t29 : env.tab 29 = some { agg := false, size := 1, bytes := 8, elem := 0, fields := [], zero := [.any], es := [0], str := false, bool := false, int := none, apl := [] } := by kernel_rfl
@[simp] theorem t30 : env.tab 30 = some { agg := false, size := 1, bytes := 8, elem := 0, fields := [], zero := [.any], es := [0], str := false, bool := false, int := none, apl := [] } := by kernel_rfl
@[simp] theorem t31 : env.tab 31 = some { agg := false, size := 1, bytes := 24, elem := 5, fields := [], zero := [.nil], es := [1], str := false, bool := false, int := none, apl := [] } := by kernel_rfl
@[simp] theorem t32 : env.tab 32 = some { agg := false, size := 1, bytes := 8, elem := 0, fields := [], zero := [.pv (.int .i64 0)], es := [0], str := false, bool := false, int := some .i64, apl := [] } := by kernel_rfl
@[simp] theorem t34 : env.tab 34 = some { agg := false, size := 1, bytes := 8, elem := 0, fields := [], zero := [.any], es := [0], str := false, bool := false, int := none, apl := [] } := by kernel_rfl
@[simp] theorem t35 : env.tab 35 = some { agg := false, size := 1, bytes := 8, elem := 0, fields := [], zero := [.any], es := [0], str := false, bool := false, int := none, apl := [] } := by kernel_rfl
@[simp] theorem t36 : env.tab 36 = some { agg := false, size := 1, bytes := 8, elem := 0, fields := [], zero := [.any], es := [0], str := false, bool := false, int := none, apl := [] } := by kernel_rfl
@[simp] theorem t38 : env.tab 38 = some { agg := false, size := 1, bytes := 8, elem := 0, fields := [], zero := [.any], es := [0], str := false, bool := false, int := none, apl := [] } := by kernel_rfl
@[simp] theorem t39 : env.tab 39 = some { agg := false, size := 1, bytes := 8, elem := 0, fields := [], zero := [.any], es := [0], str := false, bool := false, int := none, apl := [] } := by kernel_rfl
@[simp] theorem t40 : env.tab 40 = some { agg := false, size := 1, bytes := 8, elem := 0, fields := [], zero := [.any], es := [0], str := false, bool := false, int := none, apl := [] } := by kernel_rfl
@[simp] theorem t41 : env.tab 41 = some { agg := false, size := 1, bytes := 8, elem := 0, fields := [], zero := [.any], es := [0], str := false, bool := false, int := none, apl := [] } := by kernel_rfl
@[simp] theorem t42 : env.tab 42 = some { agg := false, size := 1, bytes := 8, elem := 0, fields := [], zero := [.any], es := [0], str := false, bool := false, int := none, apl := [] } := by kernel_rfl
@[simp] theorem t43 : env.tab 43 = some { agg := false, size := 1, bytes := 8, elem := 0, fields := [], zero := [.any], es := [0], str := false, bool := false, int := none, apl := [] } := by kernel_rfl
@[simp] theorem t44 : env.tab 44 = some { agg := true, size := 3, bytes := 24, elem := 0, fields := [(0, 3), (1, 3), (2, 3)], zero := [.pv (.int .i64 0), .pv (.int .i64 0), .pv (.int .i64 0)], es := [0, 0, 0], str := false, bool := false, int := none, apl := [] } := by kernel_rfl
@[simp] theorem t45 : env.tab 45 = some { agg := true, size := 3, bytes := 24, elem := 0, fields := [(0, 3), (1, 3), (2, 3)], zero := [.pv (.int .i64 0), .pv (.int .i64 0), .pv (.int .i64 0)], es := [0, 0, 0], str := false, bool := false, int := none, apl := [] } := by kernel_rfl
@[simp] theorem t46 : env.tab 46 = some { agg := true, size := 8, bytes := 88, elem := 0, fields := [(0, 9), (1, 9), (2, 3), (3, 9), (4, 2), (5, 45)], zero := [.pv (.str ⟨#[]⟩), .pv (.str ⟨#[]⟩), .pv (.int .i64 0), .pv (.str ⟨#[]⟩), .pv (.int .i64 0), .pv (.int .i64 0), .pv (.int .i64 0), .pv (.int .i64 0)], es := [0, 0, 0, 0, 0, 0, 0, 0], str := false, bool := false, int := none, apl := [] } := by kernel_rfl
@[simp] theorem t47 : env.tab 47 = some { agg := true, size := 8, bytes := 88, elem := 0, fields := [(0, 9), (1, 9), (2, 3), (3, 9), (4, 2), (5, 45)], zero := [.pv (.str ⟨#[]⟩), .pv (.str ⟨#[]⟩), .pv (.int .i64 0), .pv (.str ⟨#[]⟩), .pv (.int .i64 0), .pv (.int .i64 0), .pv (.int .i64 0), .pv (.int .i64 0)], es := [0, 0, 0, 0, 0, 0, 0, 0], str := false, bool := false, int := none, apl := [] } := by kernel_rfl
@[simp] theorem t48 : env.tab 48 = some { agg := false, size := 1, bytes := 8, elem := 0, fields := [], zero := [.any], es := [0], str := false, bool := false, int := none, apl := [] } := by kernel_rfl
@[simp] theorem t49 : env.tab 49 = some { agg := false, size := 1, bytes := 24, elem := 54, fields := [], zero := [.nil], es := [7], str := false, bool := false, int := none, apl := [] } := by kernel_rfl
@[simp] theorem t50 : env.tab 50 = some { agg := true, size := 4, bytes := 64, elem := 0, fields := [(0, 3), (1, 3), (2, 23), (3, 49)], zero := [.pv (.int .i64 0), .pv (.int .i64 0), .nil, .nil], es := [0, 0, 1, 7], str := false, bool := false, int := none, apl := [] } := by kernel_rfl
@[simp] theorem t51 : env.tab 51 = some { agg := true, size := 4, bytes := 64, elem := 0, fields := [(0, 3), (1, 3), (2, 23), (3, 49)], zero := [.pv (.int .i64 0), .pv (.int .i64 0), .nil, .nil], es := [0, 0, 1, 7], str := false, bool := false, int := none, apl := [] } := by kernel_rfl
@[simp] theorem t52 : env.tab 52 = some { agg := false, size := 1, bytes := 24, elem := 45, fields := [], zero := [.nil], es := [3], str := false, bool := false, int := none, apl := [] } := by kernel_rfl
@[simp] theorem t53 : env.tab 53 = some { agg := true, size := 7, bytes := 96, elem := 0, fields := [(0, 3), (1, 9), (2, 9), (3, 3), (4, 9), (5, 2), (6, 52)], zero := [.pv (.int .i64 0), .pv (.str ⟨#[]⟩), .pv (.str ⟨#[]⟩), .pv (.int .i64 0), .pv (.str ⟨#[]⟩), .pv (.int .i64 0), .nil], es := [0, 0, 0, 0, 0, 0, 3], str := false, bool := false, int := none, apl := [] } := by kernel_rfl
@[simp] theorem t54 : env.tab 54 = some { agg := true, size := 7, bytes := 96, elem := 0, fields := [(0, 3), (1, 9), (2, 9), (3, 3), (4, 9), (5, 2), (6, 52)], zero := [.pv (.int .i64 0), .pv (.str ⟨#[]⟩), .pv (.str ⟨#[]⟩), .pv (.int .i64 0), .pv (.str ⟨#[]⟩), .pv (.int .i64 0), .nil], es := [0, 0, 0, 0, 0, 0, 3], str := false, bool := false, int := none, apl := [] } := by kernel_rfl
@[simp] theorem t55 : env.tab 55 = some { agg := false, size := 1, bytes := 24, elem := 71, fields := [], zero := [.nil], es := [10], str := false, bool := false, int := none, apl := [] } := by kernel_rfl
@[simp] theorem t56 : env.tab 56 = some { agg := true, size := 2, bytes := 48, elem := 0, fields := [(0, 23), (1, 25)], zero := [.nil, .nil], es := [1, 8], str := false, bool := false, int := none, apl := [] } := by kernel_rfl
@[simp] theorem t57 : env.tab 57 = some { agg := true, size := 2, bytes := 48, elem := 0, fields := [(0, 23), (1, 25)], zero := [.nil, .nil], es := [1, 8], str := false, bool := false, int := none, apl := [] } := by kernel_rfl
@[simp] theorem t58 : env.tab 58 = some { agg := true, size := 2, bytes := 48, elem := 0, fields := [(0, 23), (1, 26)], zero := [.nil, .nil], es := [1, 4], str := false, bool := false, int := none, apl := [] } := by kernel_rfl
@[simp] theorem t59 : env.tab 59 = some { agg := true, size := 2, bytes := 48, elem := 0, fields := [(0, 23), (1, 26)], zero := [.nil, .nil], es := [1, 4], str := false, bool := false, int := none, apl := [] } := by kernel_rfl
@[simp] theorem t60 : env.tab 60 = some { agg := false, size := 1, bytes := 24, elem := 23, fields := [], zero := [.nil], es := [1], str := false, bool := false, int := none, apl := [] } := by kernel_rfl
@[simp] theorem t61 : env.tab 61 = some { agg := true, size := 7, bytes := 136, elem := 0, fields := [(0, 3), (1, 3), (2, 57), (4, 59), (6, 60)], zero := [.pv (.int .i64 0), .pv (.int .i64 0), .nil, .nil, .nil, .nil, .nil], es := [0, 0, 1, 8, 1, 4, 1], str := false, bool := false, int := none, apl := [] } := by kernel_rfl
@[simp] theorem t62 : env.tab 62 = some { agg := true, size := 7, bytes := 136, elem := 0, fields := [(0, 3), (1, 3), (2, 57), (4, 59), (6, 60)], zero := [.pv (.int .i64 0), .pv (.int .i64 0), .nil, .nil, .nil, .nil, .nil], es := [0, 0, 1, 8, 1, 4, 1], str := false, bool := false, int := none, apl := [] } := by kernel_rfl
@[simp] theorem t64 : env.tab 64 = some { agg := false, size := 1, bytes := 8, elem := 0, fields := [], zero := [.any], es := [0], str := false, bool := false, int := none, apl := [] } := by kernel_rfl
@[simp] theorem t65 : env.tab 65 = some { agg := false, size := 1, bytes := 8, elem := 0, fields := [], zero := [.any], es := [0], str := false, bool := false, int := none, apl := [] } := by kernel_rfl
@[simp] theorem t66 : env.tab 66 = some { agg := false, size := 1, bytes := 8, elem := 0, fields := [], zero := [.any], es := [0], str := false, bool := false, int := none, apl := [] } := by kernel_rfl
@[simp] theorem t67 : env.tab 67 = some { agg := false, size := 1, bytes := 8, elem := 0, fields := [], zero := [.any], es := [0], str := false, bool := false, int := none, apl := [] } := by kernel_rfl
@[simp] theorem t68 : env.tab 68 = some { agg := false, size := 1, bytes := 8, elem := 0, fields := [], zero := [.any], es := [0], str := false, bool := false, int := none, apl := [] } := by kernel_rfl
@[simp] theorem t69 : env.tab 69 = some { agg := false, size := 1, bytes := 8, elem := 0, fields := [], zero := [.any], es := [0], str := false, bool := false, int := none, apl := [] } := by kernel_rfl
@[simp] theorem t70 : env.tab 70 = some { agg := true, size := 10, bytes := 176, elem := 0, fields := [(0, 3), (1, 28)], zero := [.pv (.int .i64 0), .pv (.int .i64 0), .pv (.int .i64 0), .pv (.bool false), .nil, .nil, .nil, .nil, .nil, .nil], es := [0, 0, 0, 0, 1, 1, 1, 1, 8, 4], str := false, bool := false, int := none, apl := [] } := by kernel_rfl
@[simp] theorem t71 : env.tab 71 = some { agg := true, size := 10, bytes := 176, elem := 0, fields := [(0, 3), (1, 28)], zero := [.pv (.int .i64 0), .pv (.int .i64 0), .pv (.int .i64 0), .pv (.bool false), .nil, .nil, .nil, .nil, .nil, .nil], es := [0, 0, 0, 0, 1, 1, 1, 1, 8, 4], str := false, bool := false, int := none, apl := [] } := by kernel_rfl
@[simp] theorem t73 : env.tab 73 = some { agg := false, size := 1, bytes := 8, elem := 0, fields := [], zero := [.any], es := [0], str := false, bool := false, int := none, apl := [] } := by kernel_rfl
@[simp] theorem t74 : env.tab 74 = some { agg := false, size := 1, bytes := 8, elem := 0, fields := [], zero := [.any], es := [0], str := false, bool := false, int := none, apl := [] } := by kernel_rfl
@[simp] theorem t76 : env.tab 76 = some { agg := false, size := 1, bytes := 8, elem := 0, fields := [], zero := [.any], es := [0], str := false, bool := false, int := none, apl := [] } := by kernel_rfl
@[simp] theorem t77 : env.tab 77 = some { agg := false, size := 1, bytes := 8, elem := 0, fields := [], zero := [.any], es := [0], str := false, bool := false, int := none, apl := [] } := by kernel_rfl
@[simp] theorem t78 : env.tab 78 = some { agg := false, size := 1, bytes := 8, elem := 0, fields := [], zero := [.any], es := [0], str := false, bool := false, int := none, apl := [] } := by kernel_rfl
@[simp] theorem t79 : env.tab 79 = some { agg := false, size := 1, bytes := 8, elem := 0, fields := [], zero := [.any], es := [0], str := false, bool := false, int := none, apl := [] } := by kernel_rfl
@[simp] theorem t80 : env.tab 80 = some { agg := false, size := 1, bytes := 8, elem := 0, fields := [], zero := [.any], es := [0], str := false, bool := false, int := none, apl := [] } := by kernel_rfl
@[simp] theorem t81 : env.tab 81 = some { agg := false, size := 1, bytes := 8, elem := 0, fields := [], zero := [.any], es := [0], str := false, bool := false, int := none, apl := [] } := by kernel_rfl
@[simp] theorem t83 : env.tab 83 = some { agg := false, size := 1, bytes := 8, elem := 0, fields := [], zero := [.any], es := [0], str := false, bool := false, int := none, apl := [] } := by kernel_rfl
@[simp] theorem t84 : env.tab 84 = some { agg := false, size := 1, bytes := 8, elem := 0, fields := [], zero := [.any], es := [0], str := false, bool := false, int := none, apl := [] } := by kernel_rfl
@[simp] theorem t85 : env.tab 85 = some { agg := false, size := 1, bytes := 8, elem := 0, fields := [], zero := [.any], es := [0], str := false, bool := false, int := none, apl := [] } := by kernel_rfl
@[simp] theorem t86 : env.tab 86 = some { agg := false, size := 1, bytes := 8, elem := 0, fields := [], zero := [.any], es := [0], str := false, bool := false, int := none, apl := [] } := by kernel_rfl
@[simp] theorem t87 : env.tab 87 = some { agg := false, size := 1, bytes := 8, elem := 0, fields := [], zero := [.any], es := [0], str := false, bool := false, int := none, apl := [] } := by kernel_rfl
@[simp] theorem t88 : env.tab 88 = some { agg := false, size := 1, bytes := 8, elem := 0, fields := [], zero := [.any], es := [0], str := false, bool := false, int := none, apl := [] } := by kernel_rfl
@[simp] theorem t90 : env.tab 90 = some { agg := false, size := 1, bytes := 8, elem := 0, fields := [], zero := [.any], es := [0], str := false, bool := false, int := none, apl := [] } := by kernel_rfl
@[simp] theorem t92 : env.tab 92 = some { agg := false, size := 1, bytes := 8, elem := 0, fields := [], zero := [.any], es := [0], str := false, bool := false, int := none, apl := [] } := by kernel_rfl
@[simp] theorem t93 : env.tab 93 = some { agg := false, size := 1, bytes := 8, elem := 0, fields := [], zero := [.any], es := [0], str := false, bool := false, int := none, apl := [] } := by kernel_rfl
@[simp] theorem t94 : env.tab 94 = some { agg := false, size := 1, bytes := 8, elem := 0, fields := [], zero := [.any], es := [0], str := false, bool := false, int := none, apl := [] } := by kernel_rfl
@[simp] theorem t95 : env.tab 95 = some { agg := false, size := 1, bytes := 8, elem := 0, fields := [], zero := [.any], es := [0], str := false, bool := false, int := none, apl := [] } := by kernel_rfl
@[simp] theorem t96 : env.tab 96 = some { agg := false, size := 1, bytes := 8, elem := 0, fields := [], zero := [.any], es := [0], str := false, bool := false, int := none, apl := [] } := by kernel_rfl
@[simp] theorem t97 : env.tab 97 = some { agg := false, size := 1, bytes := 8, elem := 0, fields := [], zero := [.any], es := [0], str := false, bool := false, int := none, apl := [] } := by kernel_rfl
@[simp] theorem t98 : env.tab 98 = some { agg := false, size := 1, bytes := 8, elem := 0, fields := [], zero := [.any], es := [0], str := false, bool := false, int := none, apl := [] } := by kernel_rfl
@[simp] theorem t99 : env.tab 99 = some { agg := true, size := 1, bytes := 24, elem := 0, fields := [(0, 31)], zero := [.nil], es := [1], str := false, bool := false, int := none, apl := [] } := by kernel_rfl
@[simp] theorem t100 : env.tab 100 = some { agg := true, size := 1, bytes := 24, elem := 0, fields := [(0, 31)], zero := [.nil], es := [1], str := false, bool := false, int := none, apl := [] } := by kernel_rfl
@[simp] theorem t101 : env.tab 101 = some { agg := false, size := 1, bytes := 8, elem := 0, fields := [], zero := [.any], es := [0], str := false, bool := false, int := none, apl := [] } := by kernel_rfl
@[simp] theorem t102 : env.tab 102 = some { agg := false, size := 1, bytes := 8, elem := 0, fields := [], zero := [.any], es := [0], str := false, bool := false, int := none, apl := [] } := by kernel_rfl
@[simp] theorem t103 : env.tab 103 = some { agg := false, size := 1, bytes := 8, elem := 0, fields := [], zero := [.any], es := [0], str := false, bool := false, int := none, apl := [] } := by kernel_rfl
@[simp] theorem t104 : env.tab 104 = some { agg := false, size := 1, bytes := 8, elem := 0, fields := [], zero := [.any], es := [0], str := false, bool := false, int := none, apl := [] } := by kernel_rfl
@[simp] theorem t105 : env.tab 105 = some { agg := false, size := 1, bytes := 8, elem := 0, fields := [], zero := [.any], es := [0], str := false, bool := false, int := none, apl := [] } := by kernel_rfl
@[simp] theorem t106 : env.tab 106 = some { agg := false, size := 1, bytes := 8, elem := 0, fields := [], zero := [.any], es := [0], str := false, bool := false, int := none, apl := [] } := by kernel_rfl
@[simp] theorem t107 : env.tab 107 = some { agg := false, size := 1, bytes := 8, elem := 0, fields := [], zero := [.any], es := [0], str := false, bool := false, int := none, apl := [] } := by kernel_rfl
@[simp] theorem t108 : env.tab 108 = some { agg := false, size := 1, bytes := 8, elem := 0, fields := [], zero := [.any], es := [0], str := false, bool := false, int := none, apl := [] } := by kernel_rfl
@[simp] theorem t109 : env.tab 109 = some { agg := false, size := 1, bytes := 8, elem := 0, fields := [], zero := [.any], es := [0], str := false, bool := false, int := none, apl := [] } := by kernel_rfl
@[simp] theorem t110 : env.tab 110 = some { agg := false, size := 1, bytes := 8, elem := 0, fields := [], zero := [.any], es := [0], str := false, bool := false, int := none, apl := [] } := by kernel_rfl
@[simp] theorem t111 : env.tab 111 = some { agg := false, size := 1, bytes := 8, elem := 0, fields := [], zero := [.any], es := [0], str := false, bool := false, int := none, apl := [] } := by kernel_rfl
@[simp] theorem t112 : env.tab 112 = some { agg := false, size := 1, bytes := 8, elem := 0, fields := [], zero := [.any], es := [0], str := false, bool := false, int := none, apl := [] } := by kernel_rfl
@[simp] theorem t113 : env.tab 113 = some { agg := false, size := 1, bytes := 8, elem := 0, fields := [], zero := [.any], es := [0], str := false, bool := false, int := none, apl := [] } := by kernel_rfl
@[simp] theorem t114 : env.tab 114 = some { agg := false, size := 1, bytes := 24, elem := 4, fields := [], zero := [.nil], es := [1], str := false, bool := false, int := none, apl := [] } := by kernel_rfl
@[simp] theorem t115 : env.tab 115 = some { agg := false, size := 1, bytes := 8, elem := 0, fields := [], zero := [.any], es := [0], str := false, bool := false, int := none, apl := [] } := by kernel_rfl
@[simp] theorem t116 : env.tab 116 = some { agg := false, size := 1, bytes := 8, elem := 0, fields := [], zero := [.any], es := [0], str := false, bool := false, int := none, apl := [] } := by kernel_rfl
@[simp] theorem t117 : env.tab 117 = some { agg := false, size := 1, bytes := 8, elem := 0, fields := [], zero := [.any], es := [0], str := false, bool := false, int := none, apl := [] } := by kernel_rfl
@[simp] theorem t118 : env.tab 118 = some { agg := false, size := 1, bytes := 8, elem := 0, fields := [], zero := [.any], es := [0], str := false, bool := false, int := none, apl := [] } := by kernel_rfl
@[simp] theorem t119 : env.tab 119 = some { agg := false, size := 1, bytes := 8, elem := 0, fields := [], zero := [.any], es := [0], str := false, bool := false, int := none, apl := [] } := by kernel_rfl
@[simp] theorem t120 : env.tab 120 = some { agg := false, size := 1, bytes := 8, elem := 0, fields := [], zero := [.any], es := [0], str := false, bool := false, int := none, apl := [] } := by kernel_rfl
@[simp] theorem t121 : env.tab 121 = some { agg := false, size := 1, bytes := 8, elem := 0, fields := [], zero := [.any], es := [0], str := false, bool := false, int := none, apl := [] } := by kernel_rfl
@[simp] theorem t122 : env.tab 122 = some { agg := false, size := 1, bytes := 8, elem := 0, fields := [], zero := [.any], es := [0], str := false, bool := false, int := none, apl := [] } := by kernel_rfl
@[simp] theorem t123 : env.tab 123 = some { agg := false, size := 1, bytes := 8, elem := 0, fields := [], zero := [.any], es := [0], str := false, bool := false, int := none, apl := [] } := by kernel_rfl
@[simp] theorem t124 : env.tab 124 = some { agg := false, size := 1, bytes := 8, elem := 0, fields := [], zero := [.any], es := [0], str := false, bool := false, int := none, apl := [] } := by kernel_rfl
@[simp] theorem t125 : env.tab 125 = some { agg := false, size := 1, bytes := 8, elem := 0, fields := [], zero := [.any], es := [0], str := false, bool := false, int := none, apl := [] } := by kernel_rfl
@[simp] theorem t126 : env.tab 126 = some { agg := false, size := 1, bytes := 8, elem := 0, fields := [], zero := [.any], es := [0], str := false, bool := false, int := none, apl := [] } := by kernel_rfl
@[simp] theorem t127 : env.tab 127 = some { agg := true, size := 2, bytes := 32, elem := 0, fields := [(0, 31), (1, 4)], zero := [.nil, .pv (.bool false)], es := [1, 0], str := false, bool := false, int := none, apl := [] } := by kernel_rfl
@[simp] theorem t128 : env.tab 128 = some { agg := true, size := 2, bytes := 32, elem := 0, fields := [(0, 31), (1, 4)], zero := [.nil, .pv (.bool false)], es := [1, 0], str := false, bool := false, int := none, apl := [] } := by kernel_rfl
@[simp] theorem t129 : env.tab 129 = some { agg := false, size := 1, bytes := 8, elem := 0, fields := [], zero := [.any], es := [0], str := false, bool := false, int := none, apl := [] } := by kernel_rfl
@[simp] theorem t130 : env.tab 130 = some { agg := false, size := 1, bytes := 8, elem := 0, fields := [], zero := [.any], es := [0], str := false, bool := false, int := none, apl := [] } := by kernel_rfl
@[simp] theorem t131 : env.tab 131 = some { agg := false, size := 1, bytes := 8, elem := 0, fields := [], zero := [.any], es := [0], str := false, bool := false, int := none, apl := [] } := by kernel_rfl
@[simp] theorem t132 : env.tab 132 = some { agg := false, size := 1, bytes := 8, elem := 0, fields := [], zero := [.any], es := [0], str := false, bool := false, int := none, apl := [] } := by kernel_rfl
@[simp] theorem t133 : env.tab 133 = some { agg := false, size := 1, bytes := 8, elem := 0, fields := [], zero := [.any], es := [0], str := false, bool := false, int := none, apl := [] } := by kernel_rfl
@[simp] theorem t135 : env.tab 135 = some { agg := false, size := 1, bytes := 8, elem := 0, fields := [], zero := [.any], es := [0], str := false, bool := false, int := none, apl := [] } := by kernel_rfl
@[simp] theorem t136 : env.tab 136 = some { agg := false, size := 1, bytes := 8, elem := 0, fields := [], zero := [.any], es := [0], str := false, bool := false, int := none, apl := [] } := by kernel_rfl
@[simp] theorem t137 : env.tab 137 = some { agg := false, size := 1, bytes := 8, elem := 0, fields := [], zero := [.any], es := [0], str := false, bool := false, int := none, apl := [] } := by kernel_rfl
@[simp] theorem t138 : env.tab 138 = some { agg := false, size := 1, bytes := 8, elem := 0, fields := [], zero := [.any], es := [0], str := false, bool := false, int := none, apl := [] } := by kernel_rfl
@[simp] theorem t139 : env.tab 139 = some { agg := false, size := 1, bytes := 8, elem := 0, fields := [], zero := [.any], es := [0], str := false, bool := false, int := none, apl := [] } := by kernel_rfl
@[simp] theorem t140 : env.tab 140 = some { agg := false, size := 1, bytes := 8, elem := 0, fields := [], zero := [.any], es := [0], str := false, bool := false, int := none, apl := [] } := by kernel_rfl
@[simp] theorem t141 : env.tab 141 = some { agg := false, size := 1, bytes := 8, elem := 0, fields := [], zero := [.any], es := [0], str := false, bool := false, int := none, apl := [] } := by kernel_rfl
@[simp] theorem t142 : env.tab 142 = some { agg := false, size := 1, bytes := 8, elem := 0, fields := [], zero := [.any], es := [0], str := false, bool := false, int := none, apl := [] } := by kernel_rfl
@[simp] theorem t144 : env.tab 144 = some { agg := false, size := 1, bytes := 8, elem := 0, fields := [], zero := [.any], es := [0], str := false, bool := false, int := none, apl := [] } := by kernel_rfl
@[simp] theorem t145 : env.tab 145 = some { agg := false, size := 1, bytes := 8, elem := 0, fields := [], zero := [.any], es := [0], str := false, bool := false, int := none, apl := [] } := by kernel_rfl
@[simp] theorem t147 : env.tab 147 = some { agg := false, size := 1, bytes := 8, elem := 0, fields := [], zero := [.any], es := [0], str := false, bool := false, int := none, apl := [] } := by kernel_rfl
@[simp] theorem t148 : env.tab 148 = some { agg := false, size := 1, bytes := 8, elem := 0, fields := [], zero := [.any], es := [0], str := false, bool := false, int := none, apl := [] } := by kernel_rfl
@[simp] theorem t149 : env.tab 149 = some { agg := false, size := 1, bytes := 8, elem := 0, fields := [], zero := [.any], es := [0], str := false, bool := false, int := none, apl := [] } := by kernel_rfl
@[simp] theorem t150 : env.tab 150 = some { agg := false, size := 1, bytes := 8, elem := 0, fields := [], zero := [.any], es := [0], str := false, bool := false, int := none, apl := [] } := by kernel_rfl
@[simp] theorem t151 : env.tab 151 = some { agg := false, size := 1, bytes := 8, elem := 0, fields := [], zero := [.any], es := [0], str := false, bool := false, int := none, apl := [] } := by kernel_rfl
@[simp] theorem t152 : env.tab 152 = some { agg := false, size := 1, bytes := 8, elem := 0, fields := [], zero := [.any], es := [0], str := false, bool := false, int := none, apl := [] } := by kernel_rfl
@[simp] theorem t153 : env.tab 153 = some { agg := false, size := 1, bytes := 8, elem := 0, fields := [], zero := [.any], es := [0], str := false, bool := false, int := none, apl := [] } := by kernel_rfl
@[simp] theorem t154 : env.tab 154 = some { agg := false, size := 1, bytes := 8, elem := 0, fields := [], zero := [.any], es := [0], str := false, bool := false, int := none, apl := [] } := by kernel_rfl
@[simp] theorem t155 : env.tab 155 = some { agg := false, size := 1, bytes := 8, elem := 0, fields := [], zero := [.any], es := [0], str := false, bool := false, int := none, apl := [] } := by kernel_rfl
@[simp] theorem t156 : env.tab 156 = some { agg := false, size := 1, bytes := 8, elem := 0, fields := [], zero := [.any], es := [0], str := false, bool := false, int := none, apl := [] } := by kernel_rfl
@[simp] theorem t157 : env.tab 157 = some { agg := false, size := 1, bytes := 8, elem := 0, fields := [], zero := [.any], es := [0], str := false, bool := false, int := none, apl := [] } := by kernel_rfl
@[simp] theorem t158 : env.tab 158 = some { agg := false, size := 1, bytes := 8, elem := 0, fields := [], zero := [.any], es := [0], str := false, bool := false, int := none, apl := [] } := by kernel_rfl
@[simp] theorem t160 : env.tab 160 = some { agg := false, size := 1, bytes := 8, elem := 0, fields := [], zero := [.any], es := [0], str := false, bool := false, int := none, apl := [] } := by kernel_rfl
@[simp] theorem t161 : env.tab 161 = some { agg := false, size := 1, bytes := 8, elem := 0, fields := [], zero := [.any], es := [0], str := false, bool := false, int := none, apl := [] } := by kernel_rfl
@[simp] theorem t162 : env.tab 162 = some { agg := false, size := 1, bytes := 8, elem := 0, fields := [], zero := [.any], es := [0], str := false, bool := false, int := none, apl := [] } := by kernel_rfl
@[simp] theorem t163 : env.tab 163 = some { agg := false, size := 1, bytes := 8, elem := 0, fields := [], zero := [.any], es := [0], str := false, bool := false, int := none, apl := [] } := by kernel_rfl
@[simp] theorem t164 : env.tab 164 = some { agg := false, size := 1, bytes := 8, elem := 0, fields := [], zero := [.any], es := [0], str := false, bool := false, int := none, apl := [] } := by kernel_rfl
@[simp] theorem t165 : env.tab 165 = some { agg := false, size := 1, bytes := 8, elem := 0, fields := [], zero := [.any], es := [0], str := false, bool := false, int := none, apl := [] } := by kernel_rfl
@[simp] theorem t167 : env.tab 167 = some { agg := false, size := 1, bytes := 8, elem := 0, fields := [], zero := [.any], es := [0], str := false, bool := false, int := none, apl := [] } := by kernel_rfl
@[simp] theorem t168 : env.tab 168 = some { agg := false, size := 1, bytes := 8, elem := 0, fields := [], zero := [.any], es := [0], str := false, bool := false, int := none, apl := [] } := by kernel_rfl
@[simp] theorem t169 : env.tab 169 = some { agg := false, size := 1, bytes := 8, elem := 0, fields := [], zero := [.any], es := [0], str := false, bool := false, int := none, apl := [] } := by kernel_rfl
@[simp] theorem t170 : env.tab 170 = some { agg := false, size := 1, bytes := 8, elem := 0, fields := [], zero := [.pv (.int .u64 0)], es := [0], str := false, bool := false, int := some .u64, apl := [] } := by kernel_rfl
@[simp] theorem t171 : env.tab 171 = some { agg := false, size := 1, bytes := 8, elem := 0, fields := [], zero := [.pv (.int .u64 0)], es := [0], str := false, bool := false, int := some .u64, apl := [] } := by kernel_rfl
@[simp] theorem t173 : env.tab 173 = some { agg := false, size := 1, bytes := 8, elem := 0, fields := [], zero := [.any], es := [0], str := false, bool := false, int := none, apl := [] } := by kernel_rfl
@[simp] theorem t174 : env.tab 174 = some { agg := false, size := 1, bytes := 8, elem := 0, fields := [], zero := [.any], es := [0], str := false, bool := false, int := none, apl := [] } := by kernel_rfl
@[simp] theorem t175 : env.tab 175 = some { agg := false, size := 1, bytes := 8, elem := 0, fields := [], zero := [.any], es := [0], str := false, bool := false, int := none, apl := [] } := by kernel_rfl
@[simp] theorem t176 : env.tab 176 = some { agg := false, size := 1, bytes := 8, elem := 0, fields := [], zero := [.any], es := [0], str := false, bool := false, int := none, apl := [] } := by kernel_rfl
@[simp] theorem t177 : env.tab 177 = some { agg := false, size := 1, bytes := 8, elem := 0, fields := [], zero := [.any], es := [0], str := false, bool := false, int := none, apl := [] } := by kernel_rfl
@[simp] theorem t178 : env.tab 178 = some { agg := false, size := 1, bytes := 8, elem := 0, fields := [], zero := [.any], es := [0], str := false, bool := false, int := none, apl := [] } := by kernel_rfl
@[simp] theorem t179 : env.tab 179 = some { agg := false, size := 1, bytes := 8, elem := 0, fields := [], zero := [.any], es := [0], str := false, bool := false, int := none, apl := [] } := by kernel_rfl
@[simp] theorem t180 : env.tab 180 = some { agg := false, size := 1, bytes := 8, elem := 0, fields := [], zero := [.any], es := [0], str := false, bool := false, int := none, apl := [] } := by kernel_rfl
@[simp] theorem t182 : env.tab 182 = some { agg := false, size := 1, bytes := 8, elem := 0, fields := [], zero := [.any], es := [0], str := false, bool := false, int := none, apl := [] } := by kernel_rfl
@[simp] theorem t183 : env.tab 183 = some { agg := false, size := 1, bytes := 8, elem := 0, fields := [], zero := [.any], es := [0], str := false, bool := false, int := none, apl := [] } := by kernel_rfl
@[simp] theorem t184 : env.tab 184 = some { agg := false, size := 1, bytes := 8, elem := 0, fields := [], zero := [.any], es := [0], str := false, bool := false, int := none, apl := [] } := by kernel_rfl
@[simp] theorem t185 : env.tab 185 = some { agg := false, size := 1, bytes := 8, elem := 0, fields := [], zero := [.any], es := [0], str := false, bool := false, int := none, apl := [] } := by kernel_rfl
@[simp] theorem t186 : env.tab 186 = some { agg := false, size := 1, bytes := 8, elem := 0, fields := [], zero := [.any], es := [0], str := false, bool := false, int := none, apl := [] } := by kernel_rfl
@[simp] theorem t188 : env.tab 188 = some { agg := false, size := 1, bytes := 8, elem := 0, fields := [], zero := [.any], es := [0], str := false, bool := false, int := none, apl := [] } := by kernel_rfl
@[simp] theorem t189 : env.tab 189 = some { agg := false, size := 1, bytes := 8, elem := 0, fields := [], zero := [.any], es := [0], str := false, bool := false, int := none, apl := [] } := by kernel_rfl
@[simp] theorem t190 : env.tab 190 = some { agg := false, size := 1, bytes := 8, elem := 0, fields := [], zero := [.any], es := [0], str := false, bool := false, int := none, apl := [] } := by kernel_rfl
@[simp] theorem t192 : env.tab 192 = some { agg := false, size := 1, bytes := 8, elem := 0, fields := [], zero := [.any], es := [0], str := false, bool := false, int := none, apl := [] } := by kernel_rfl
@[simp] theorem t193 : env.tab 193 = some { agg := false, size := 1, bytes := 8, elem := 0, fields := [], zero := [.any], es := [0], str := false, bool := false, int := none, apl := [] } := by kernel_rfl
@[simp] theorem t194 : env.tab 194 = some { agg := true, size := 2, bytes := 32, elem := 0, fields := [(0, 31), (1, 32)], zero := [.nil, .pv (.int .i64 0)], es := [1, 0], str := false, bool := false, int := none, apl := [] } := by kernel_rfl
@[simp] theorem t195 : env.tab 195 = some { agg := true, size := 2, bytes := 32, elem := 0, fields := [(0, 31), (1, 32)], zero := [.nil, .pv (.int .i64 0)], es := [1, 0], str := false, bool := false, int := none, apl := [] } := by kernel_rfl
@[simp] theorem t196 : env.tab 196 = some { agg := false, size := 1, bytes := 8, elem := 0, fields := [], zero := [.any], es := [0], str := false, bool := false, int := none, apl := [] } := by kernel_rfl
@[simp] theorem t197 : env.tab 197 = some { agg := false, size := 1, bytes := 8, elem := 0, fields := [], zero := [.any], es := [0], str := false, bool := false, int := none, apl := [] } := by kernel_rfl
@[simp] theorem t198 : env.tab 198 = some { agg := false, size := 1, bytes := 8, elem := 0, fields := [], zero := [.any], es := [0], str := false, bool := false, int := none, apl := [] } := by kernel_rfl
@[simp] theorem t199 : env.tab 199 = some { agg := false, size := 1, bytes := 8, elem := 0, fields := [], zero := [.any], es := [0], str := false, bool := false, int := none, apl := [] } := by kernel_rfl
@[simp] theorem t203 : env.tab 203 = some { agg := false, size := 1, bytes := 8, elem := 0, fields := [], zero := [.any], es := [0], str := false, bool := false, int := none, apl := [] } := by kernel_rfl
@[simp] theorem t204 : env.tab 204 = some { agg := false, size := 1, bytes := 8, elem := 0, fields := [], zero := [.any], es := [0], str := false, bool := false, int := none, apl := [] } := by kernel_rfl
@[simp] theorem t205 : env.tab 205 = some { agg := false, size := 1, bytes := 8, elem := 0, fields := [], zero := [.any], es := [0], str := false, bool := false, int := none, apl := [] } := by kernel_rfl
@[simp] theorem t206 : env.tab 206 = some { agg := false, size := 1, bytes := 8, elem := 0, fields := [], zero := [.any], es := [0], str := false, bool := false, int := none, apl := [] } := by kernel_rfl
@[simp] theorem t207 : env.tab 207 = some { agg := false, size := 1, bytes := 8, elem := 0, fields := [], zero := [.any], es := [0], str := false, bool := false, int := none, apl := [] } := by kernel_rfl
@[simp] theorem t208 : env.tab 208 = some { agg := false, size := 1, bytes := 8, elem := 0, fields := [], zero := [.any], es := [0], str := false, bool := false, int := none, apl := [] } := by kernel_rfl
@[simp] theorem t210 : env.tab 210 = some { agg := false, size := 1, bytes := 8, elem := 0, fields := [], zero := [.any], es := [0], str := false, bool := false, int := none, apl := [] } := by kernel_rfl
@[simp] theorem t211 : env.tab 211 = some { agg := false, size := 1, bytes := 8, elem := 0, fields := [], zero := [.any], es := [0], str := false, bool := false, int := none, apl := [] } := by kernel_rfl
@[simp] theorem t212 : env.tab 212 = some { agg := false, size := 1, bytes := 8, elem := 0, fields := [], zero := [.any], es := [0], str := false, bool := false, int := none, apl := [] } := by kernel_rfl
@[simp] theorem t213 : env.tab 213 = some { agg := false, size := 1, bytes := 8, elem := 0, fields := [], zero := [.any], es := [0], str := false, bool := false, int := none, apl := [] } := by kernel_rfl
@[simp] theorem t214 : env.tab 214 = some { agg := false, size := 1, bytes := 8, elem := 0, fields := [], zero := [.any], es := [0], str := false, bool := false, int := none, apl := [] } := by kernel_rfl
@[simp] theorem t216 : env.tab 216 = some { agg := false, size := 1, bytes := 8, elem := 0, fields := [], zero := [.any], es := [0], str := false, bool := false, int := none, apl := [] } := by kernel_rfl
@[simp] theorem t217 : env.tab 217 = some { agg := false, size := 1, bytes := 8, elem := 0, fields := [], zero := [.any], es := [0], str := false, bool := false, int := none, apl := [] } := by kernel_rfl
@[simp] theorem t218 : env.tab 218 = some { agg := false, size := 1, bytes := 8, elem := 0, fields := [], zero := [.any], es := [0], str := false, bool := false, int := none, apl := [] } := by kernel_rfl
@[simp] theorem t219 : env.tab 219 = some { agg := false, size := 1, bytes := 8, elem := 0, fields := [], zero := [.any], es := [0], str := false, bool := false, int := none, apl := [] } := by kernel_rfl
@[simp] theorem t220 : env.tab 220 = some { agg := false, size := 1, bytes := 8, elem := 0, fields := [], zero := [.any], es := [0], str := false, bool := false, int := none, apl := [] } := by kernel_rfl
@[simp] theorem t221 : env.tab 221 = some { agg := false, size := 1, bytes := 8, elem := 0, fields := [], zero := [.any], es := [0], str := false, bool := false, int := none, apl := [] } := by kernel_rfl
@[simp] theorem t222 : env.tab 222 = some { agg := false, size := 1, bytes := 8, elem := 0, fields := [], zero := [.any], es := [0], str := false, bool := false, int := none, apl := [] } := by kernel_rfl
@[simp] theorem t223 : env.tab 223 = some { agg := false, size := 1, bytes := 8, elem := 0, fields := [], zero := [.any], es := [0], str := false, bool := false, int := none, apl := [] } := by kernel_rfl
@[simp] theorem t224 : env.tab 224 = some { agg := false, size := 1, bytes := 8, elem := 0, fields := [], zero := [.any], es := [0], str := false, bool := false, int := none, apl := [] } := by kernel_rfl
@[simp] theorem t225 : env.tab 225 = some { agg := false, size := 1, bytes := 8, elem := 0, fields := [], zero := [.any], es := [0], str := false, bool := false, int := none, apl := [] } := by kernel_rfl
@[simp] theorem t226 : env.tab 226 = some { agg := true, size := 2, bytes := 16, elem := 0, fields := [], zero := [.pv (.int .i64 0), .pv (.int .i64 0)], es := [0, 0], str := false, bool := false, int := none, apl := [(0, 3), (1, 3)] } := by kernel_rfl
@[simp] theorem t227 : env.tab 227 = some { agg := false, size := 1, bytes := 24, elem := 226, fields := [], zero := [.nil], es := [2], str := false, bool := false, int := none, apl := [] } := by kernel_rfl
@[simp] theorem t236 : env.tab 236 = some { agg := false, size := 1, bytes := 8, elem := 0, fields := [], zero := [.pv (.int .i64 0)], es := [0], str := false, bool := false, int := some .i64, apl := [] } := by kernel_rfl
@[simp] theorem t238 : env.tab 238 = some { agg := false, size := 1, bytes := 8, elem := 0, fields := [], zero := [.any], es := [0], str := false, bool := false, int := none, apl := [] } := by kernel_rfl
@[simp] theorem t239 : env.tab 239 = some { agg := false, size := 1, bytes := 8, elem := 0, fields := [], zero := [.any], es := [0], str := false, bool := false, int := none, apl := [] } := by kernel_rfl
@[simp] theorem t240 : env.tab 240 = some { agg := false, size := 1, bytes := 8, elem := 0, fields := [], zero := [.any], es := [0], str := false, bool := false, int := none, apl := [] } := by kernel_rfl
@[simp] theorem t242 : env.tab 242 = some { agg := false, size := 1, bytes := 8, elem := 0, fields := [], zero := [.any], es := [0], str := false, bool := false, int := none, apl := [] } := by kernel_rfl
@[simp] theorem t243 : env.tab 243 = some { agg := false, size := 1, bytes := 8, elem := 0, fields := [], zero := [.any], es := [0], str := false, bool := false, int := none, apl := [] } := by kernel_rfl
@[simp] theorem t244 : env.tab 244 = some { agg := false, size := 1, bytes := 4, elem := 0, fields := [], zero := [.pv (.int .u32 0)], es := [0], str := false, bool := false, int := some .u32, apl := [] } := by kernel_rfl
@[simp] theorem t245 : env.tab 245 = some { agg := false, size := 1, bytes := 8, elem := 0, fields := [], zero := [.any], es := [0], str := false, bool := false, int := none, apl := [] } := by kernel_rfl
@[simp] theorem t246 : env.tab 246 = some { agg := false, size := 1, bytes := 8, elem := 0, fields := [], zero := [.any], es := [0], str := false, bool := false, int := none, apl := [] } := by kernel_rfl
@[simp] theorem t247 : env.tab 247 = some { agg := false, size := 1, bytes := 8, elem := 0, fields := [], zero := [.any], es := [0], str := false, bool := false, int := none, apl := [] } := by kernel_rfl
@[simp] theorem t248 : env.tab 248 = some { agg := false, size := 1, bytes := 8, elem := 0, fields := [], zero := [.any], es := [0], str := false, bool := false, int := none, apl := [] } := by kernel_rfl
@[simp] theorem t255 : env.tab 255 = some { agg := false, size := 1, bytes := 8, elem := 0, fields := [], zero := [.any], es := [0], str := false, bool := false, int := none, apl := [] } := by kernel_rfl
@[simp] theorem t256 : env.tab 256 = some { agg := false, size := 1, bytes := 8, elem := 0, fields := [], zero := [.any], es := [0], str := false, bool := false, int := none, apl := [] } := by kernel_rfl
@[simp] theorem t257 : env.tab 257 = some { agg := false, size := 1, bytes := 8, elem := 0, fields := [], zero := [.any], es := [0], str := false, bool := false, int := none, apl := [] } := by kernel_rfl
@[simp] theorem t268 : env.tab 268 = some { agg := false, size := 1, bytes := 8, elem := 0, fields := [], zero := [.any], es := [0], str := false, bool := false, int := none, apl := [] } := by kernel_rfl
@[simp] theorem tg45 : env.tags 45 = some [.i, .i, .i] := by kernel_rfl
@[simp] theorem tg47 : env.tags 47 = some [.s, .s, .i, .s, .i, .i, .i, .i] := by kernel_rfl
@[simp] theorem F3 : env.fns 3 = true := by kernel_rfl
@[simp] theorem M3_0 : env.M 3 0 = [.auto, .auto, .auto, .pv 1, .pv 1, .pv 1, .pv 1, .pv 8, .pv 4] := rfl
theorem L3 : env.lib 3 = none := by show lookL 3 libs = _; simp [libs, lookL]
@[simp] theorem R3 : env.R 3 = [] := rfl
@[simp] theorem F4 : env.fns 4 = true := by kernel_rfl
@[simp] theorem M4_0 : env.M 4 0 = [.auto, .auto, .auto, .pv 1, .pv 1, .pv 1, .pv 1, .pv 8, .pv 4] := rfl
theorem L4 : env.lib 4 = none := by show lookL 4 libs = _; simp [libs, lookL]
@[simp] theorem R4 : env.R 4 = [] := rfl
@[simp] theorem F5 : env.fns 5 = true := by kernel_rfl
@[simp] theorem M5_0 : env.M 5 0 = [.pv 1] := rfl
theorem L5 : env.lib 5 = none := by show lookL 5 libs = _; simp [libs, lookL]
@[simp] theorem R5 : env.R 5 = [] := rfl
@[simp] theorem F6 : env.fns 6 = true := by kernel_rfl
@[simp] theorem M6_0 : env.M 6 0 = [.auto, .auto, .auto, .pv 1, .pv 1, .pv 1, .pv 1, .pv 8, .pv 4] := rfl
@[simp] theorem M6_1 : env.M 6 1 = [.auto, .auto, .auto, .pv 1, .pv 1, .pv 1, .pv 1, .pv 8, .pv 4] := rfl
theorem L6 : env.lib 6 = none := by show lookL 6 libs = _; simp [libs, lookL]
@[simp] theorem R6 : env.R 6 = [] := rfl
@[simp] theorem F7 : env.fns 7 = true := by kernel_rfl
@[simp] theorem M7_0 : env.M 7 0 = [.auto, .auto, .auto, .pv 1, .pv 1, .pv 1, .pv 1, .pv 8, .pv 4] := rfl
theorem L7 : env.lib 7 = none := by show lookL 7 libs = _; simp [libs, lookL]
@[simp] theorem R7 : env.R 7 = [] := rfl
@[simp] theorem F8 : env.fns 8 = true := by kernel_rfl
@[simp] theorem M8_0 : env.M 8 0 = [] := rfl
@[simp] theorem M8_1 : env.M 8 1 = [] := rfl
@[simp] theorem M8_2 : env.M 8 2 = [.pv 10] := rfl
theorem L8 : env.lib 8 = none := by show lookL 8 libs = _; simp [libs, lookL]
@[simp] theorem R8 : env.R 8 = [] := rfl
@[simp] theorem F9 : env.fns 9 = true := by kernel_rfl
@[simp] theorem M9_0 : env.M 9 0 = [] := rfl
@[simp] theorem M9_1 : env.M 9 1 = [] := rfl
@[simp] theorem M9_2 : env.M 9 2 = [.pv 10] := rfl
@[simp] theorem M9_3 : env.M 9 3 = [.auto, .auto, .auto, .auto, .pv 1, .pv 1, .pv 1, .pv 1, .pv 8, .pv 4] := rfl
theorem L9 : env.lib 9 = none := by show lookL 9 libs = _; simp [libs, lookL]
@[simp] theorem R9 : env.R 9 = [] := rfl
@[simp] theorem F10 : env.fns 10 = true := by kernel_rfl
@[simp] theorem M10_0 : env.M 10 0 = [] := rfl
@[simp] theorem M10_1 : env.M 10 1 = [] := rfl
@[simp] theorem M10_2 : env.M 10 2 = [.pv 10] := rfl
theorem L10 : env.lib 10 = none := by show lookL 10 libs = _; simp [libs, lookL]
@[simp] theorem R10 : env.R 10 = [] := rfl
@[simp] theorem F11 : env.fns 11 = true := by kernel_rfl
@[simp] theorem M11_0 : env.M 11 0 = [] := rfl
@[simp] theorem M11_1 : env.M 11 1 = [] := rfl
@[simp] theorem M11_2 : env.M 11 2 = [.pv 10] := rfl
@[simp] theorem M11_3 : env.M 11 3 = [] := rfl
@[simp] theorem M11_4 : env.M 11 4 = [.auto, .auto, .auto, .pv 1, .pv 1, .pv 1, .pv 1, .pv 8, .pv 4] := rfl
theorem L11 : env.lib 11 = none := by show lookL 11 libs = _; simp [libs, lookL]
@[simp] theorem R11 : env.R 11 = [] := rfl
@[simp] theorem F12 : env.fns 12 = true := by kernel_rfl
@[simp] theorem M12_0 : env.M 12 0 = [.pv 10] := rfl
@[simp] theorem M12_1 : env.M 12 1 = [.pv 10] := rfl
theorem L12 : env.lib 12 = none := by show lookL 12 libs = _; simp [libs, lookL]
@[simp] theorem R12 : env.R 12 = [] := rfl
@[simp] theorem F13 : env.fns 13 = true := by kernel_rfl
@[simp] theorem M13_0 : env.M 13 0 = [] := rfl
@[simp] theorem M13_1 : env.M 13 1 = [] := rfl
@[simp] theorem M13_2 : env.M 13 2 = [.pv 10] := rfl
@[simp] theorem M13_3 : env.M 13 3 = [] := rfl
@[simp] theorem M13_4 : env.M 13 4 = [.auto, .auto, .auto, .pv 1, .pv 1, .pv 1, .pv 1, .pv 8, .pv 4] := rfl
theorem L13 : env.lib 13 = none := by show lookL 13 libs = _; simp [libs, lookL]
@[simp] theorem R13 : env.R 13 = [] := rfl
@[simp] theorem F14 : env.fns 14 = true := by kernel_rfl
theorem L14 : env.lib 14 = none := by show lookL 14 libs = _; simp [libs, lookL]
@[simp] theorem R14 : env.R 14 = [] := rfl
@[simp] theorem F15 : env.fns 15 = true := by kernel_rfl
@[simp] theorem M15_0 : env.M 15 0 = [.auto, .auto, .auto, .pv 1, .pv 1, .pv 1, .pv 1, .pv 8, .pv 4] := rfl
theorem L15 : env.lib 15 = none := by show lookL 15 libs = _; simp [libs, lookL]
@[simp] theorem R15 : env.R 15 = [] := rfl
@[simp] theorem F16 : env.fns 16 = true := by kernel_rfl
@[simp] theorem M16_0 : env.M 16 0 = [.auto, .auto, .auto, .pv 1, .pv 1, .pv 1, .pv 1, .pv 8, .pv 4] := rfl
theorem L16 : env.lib 16 = none := by show lookL 16 libs = _; simp [libs, lookL]
@[simp] theorem R16 : env.R 16 = [] := rfl
@[simp] theorem F17 : env.fns 17 = true := by kernel_rfl
@[simp] theorem M17_0 : env.M 17 0 = [.auto, .auto, .auto, .pv 1, .pv 1, .pv 1, .pv 1, .pv 8, .pv 4] := rfl
theorem L17 : env.lib 17 = none := by show lookL 17 libs = _; simp [libs, lookL]
@[simp] theorem R17 : env.R 17 = [] := rfl
@[simp] theorem F18 : env.fns 18 = true := by kernel_rfl
@[simp] theorem M18_0 : env.M 18 0 = [.auto, .auto, .auto, .pv 1, .pv 1, .pv 1, .pv 1, .pv 8, .pv 4] := rfl
theorem L18 : env.lib 18 = none := by show lookL 18 libs = _; simp [libs, lookL]
@[simp] theorem R18 : env.R 18 = [] := rfl
@[simp] theorem F19 : env.fns 19 = true := by kernel_rfl
@[simp] theorem M19_0 : env.M 19 0 = [.pv 1] := rfl
@[simp] theorem M19_1 : env.M 19 1 = [.pv 1] := rfl
theorem L19 : env.lib 19 = none := by show lookL 19 libs = _; simp [libs, lookL]
@[simp] theorem R19 : env.R 19 = [] := rfl
@[simp] theorem F20 : env.fns 20 = true := by kernel_rfl
@[simp] theorem M20_0 : env.M 20 0 = [.auto, .auto, .auto, .pv 1, .pv 1, .pv 1, .pv 1, .pv 8, .pv 4] := rfl
theorem L20 : env.lib 20 = none := by show lookL 20 libs = _; simp [libs, lookL]
@[simp] theorem R20 : env.R 20 = [] := rfl
@[simp] theorem F21 : env.fns 21 = true := by kernel_rfl
@[simp] theorem M21_0 : env.M 21 0 = [.pv 1] := rfl
theorem L21 : env.lib 21 = none := by show lookL 21 libs = _; simp [libs, lookL]
@[simp] theorem R21 : env.R 21 = [] := rfl
@[simp] theorem F22 : env.fns 22 = true := by kernel_rfl
@[simp] theorem M22_0 : env.M 22 0 = [.auto, .auto, .auto, .pv 1, .pv 1, .pv 1, .pv 1, .pv 8, .pv 4] := rfl
@[simp] theorem M22_1 : env.M 22 1 = [.auto, .auto, .auto, .pv 1, .pv 1, .pv 1, .pv 1, .pv 8, .pv 4] := rfl
theorem L22 : env.lib 22 = none := by show lookL 22 libs = _; simp [libs, lookL]
@[simp] theorem R22 : env.R 22 = [] := rfl
@[simp] theorem F23 : env.fns 23 = true := by kernel_rfl
@[simp] theorem M23_0 : env.M 23 0 = [.pv 1] := rfl
theorem L23 : env.lib 23 = none := by show lookL 23 libs = _; simp [libs, lookL]
@[simp] theorem R23 : env.R 23 = [[.own 1]] := rfl
@[simp] theorem F24 : env.fns 24 = true := by kernel_rfl
@[simp] theorem M24_0 : env.M 24 0 = [.pv 1] := rfl
@[simp] theorem M24_1 : env.M 24 1 = [.auto, .auto, .auto, .pv 1, .pv 1, .pv 1, .pv 1, .pv 8, .pv 4] := rfl
theorem L24 : env.lib 24 = none := by show lookL 24 libs = _; simp [libs, lookL]
@[simp] theorem R24 : env.R 24 = [] := rfl
@[simp] theorem F25 : env.fns 25 = true := by kernel_rfl
@[simp] theorem M25_0 : env.M 25 0 = [.pv 1] := rfl
@[simp] theorem M25_1 : env.M 25 1 = [] := rfl
theorem L25 : env.lib 25 = none := by show lookL 25 libs = _; simp [libs, lookL]
@[simp] theorem R25 : env.R 25 = [] := rfl
@[simp] theorem F26 : env.fns 26 = true := by kernel_rfl
@[simp] theorem M26_0 : env.M 26 0 = [.pv 1] := rfl
@[simp] theorem M26_1 : env.M 26 1 = [] := rfl
theorem L26 : env.lib 26 = none := by show lookL 26 libs = _; simp [libs, lookL]
@[simp] theorem R26 : env.R 26 = [] := rfl
@[simp] theorem F27 : env.fns 27 = true := by kernel_rfl
theorem L27 : env.lib 27 = none := by show lookL 27 libs = _; simp [libs, lookL]
@[simp] theorem R27 : env.R 27 = [] := rfl
@[simp] theorem F28 : env.fns 28 = true := by kernel_rfl
@[simp] theorem M28_0 : env.M 28 0 = [] := rfl
@[simp] theorem M28_1 : env.M 28 1 = [] := rfl
theorem L28 : env.lib 28 = none := by show lookL 28 libs = _; simp [libs, lookL]
@[simp] theorem R28 : env.R 28 = [] := rfl
@[simp] theorem F29 : env.fns 29 = true := by kernel_rfl
@[simp] theorem M29_0 : env.M 29 0 = [.auto, .auto, .pv 1, .pv 8, .pv 1, .pv 4, .pv 1] := rfl
@[simp] theorem M29_1 : env.M 29 1 = [.auto, .auto, .pv 1, .pv 8, .pv 1, .pv 4, .pv 1] := rfl
theorem L29 : env.lib 29 = none := by show lookL 29 libs = _; simp [libs, lookL]
@[simp] theorem R29 : env.R 29 = [] := rfl
@[simp] theorem F30 : env.fns 30 = true := by kernel_rfl
@[simp] theorem M30_0 : env.M 30 0 = [] := rfl
@[simp] theorem M30_1 : env.M 30 1 = [] := rfl
theorem L30 : env.lib 30 = none := by show lookL 30 libs = _; simp [libs, lookL]
@[simp] theorem R30 : env.R 30 = [] := rfl
@[simp] theorem F31 : env.fns 31 = true := by kernel_rfl
@[simp] theorem M31_0 : env.M 31 0 = [.pv 10] := rfl
theorem L31 : env.lib 31 = none := by show lookL 31 libs = _; simp [libs, lookL]
@[simp] theorem R31 : env.R 31 = [] := rfl
@[simp] theorem F32 : env.fns 32 = true := by kernel_rfl
@[simp] theorem M32_0 : env.M 32 0 = [.auto, .auto, .pv 1, .pv 8, .pv 1, .pv 4, .pv 1] := rfl
@[simp] theorem M32_1 : env.M 32 1 = [.pv 1] := rfl
theorem L32 : env.lib 32 = none := by show lookL 32 libs = _; simp [libs, lookL]
@[simp] theorem R32 : env.R 32 = [] := rfl
@[simp] theorem F33 : env.fns 33 = true := by kernel_rfl
@[simp] theorem M33_0 : env.M 33 0 = [.auto, .auto, .auto, .auto, .pv 1, .pv 1, .pv 1, .pv 1, .pv 8, .pv 4] := rfl
theorem L33 : env.lib 33 = none := by show lookL 33 libs = _; simp [libs, lookL]
@[simp] theorem R33 : env.R 33 = [] := rfl
@[simp] theorem F34 : env.fns 34 = true := by kernel_rfl
@[simp] theorem M34_0 : env.M 34 0 = [.auto, .auto, .pv 1, .pv 8, .pv 1, .pv 4, .pv 1] := rfl
@[simp] theorem M34_1 : env.M 34 1 = [.auto, .auto, .auto, .auto, .pv 1, .pv 1, .pv 1, .pv 1, .pv 8, .pv 4] := rfl
theorem L34 : env.lib 34 = none := by show lookL 34 libs = _; simp [libs, lookL]
@[simp] theorem R34 : env.R 34 = [] := rfl
@[simp] theorem F35 : env.fns 35 = true := by kernel_rfl
@[simp] theorem M35_0 : env.M 35 0 = [] := rfl
@[simp] theorem M35_1 : env.M 35 1 = [] := rfl
@[simp] theorem M35_2 : env.M 35 2 = [.pv 10] := rfl
theorem L35 : env.lib 35 = none := by show lookL 35 libs = _; simp [libs, lookL]
@[simp] theorem R35 : env.R 35 = [] := rfl
@[simp] theorem F36 : env.fns 36 = true := by kernel_rfl
@[simp] theorem M36_0 : env.M 36 0 = [.pv 1, .pv 8] := rfl
theorem L36 : env.lib 36 = none := by show lookL 36 libs = _; simp [libs, lookL]
@[simp] theorem R36 : env.R 36 = [] := rfl
@[simp] theorem F37 : env.fns 37 = true := by kernel_rfl
@[simp] theorem M37_0 : env.M 37 0 = [.pv 1, .pv 4] := rfl
theorem L37 : env.lib 37 = none := by show lookL 37 libs = _; simp [libs, lookL]
@[simp] theorem R37 : env.R 37 = [] := rfl
@[simp] theorem F38 : env.fns 38 = true := by kernel_rfl
@[simp] theorem M38_0 : env.M 38 0 = [.pv 1] := rfl
@[simp] theorem M38_1 : env.M 38 1 = [.pv 1] := rfl
theorem L38 : env.lib 38 = none := by show lookL 38 libs = _; simp [libs, lookL]
@[simp] theorem R38 : env.R 38 = [] := rfl
@[simp] theorem F39 : env.fns 39 = true := by kernel_rfl
@[simp] theorem M39_0 : env.M 39 0 = [.pv 1, .pv 4] := rfl
theorem L39 : env.lib 39 = none := by show lookL 39 libs = _; simp [libs, lookL]
@[simp] theorem R39 : env.R 39 = [] := rfl
@[simp] theorem F40 : env.fns 40 = true := by kernel_rfl
@[simp] theorem M40_0 : env.M 40 0 = [.auto, .auto, .pv 1, .pv 8, .pv 1, .pv 4, .pv 1] := rfl
@[simp] theorem M40_1 : env.M 40 1 = [] := rfl
@[simp] theorem M40_2 : env.M 40 2 = [.pv 1] := rfl
theorem L40 : env.lib 40 = none := by show lookL 40 libs = _; simp [libs, lookL]
@[simp] theorem R40 : env.R 40 = [] := rfl
@[simp] theorem F41 : env.fns 41 = true := by kernel_rfl
@[simp] theorem M41_0 : env.M 41 0 = [.pv 1] := rfl
@[simp] theorem M41_1 : env.M 41 1 = [.pv 1] := rfl
theorem L41 : env.lib 41 = none := by show lookL 41 libs = _; simp [libs, lookL]
@[simp] theorem R41 : env.R 41 = [] := rfl
@[simp] theorem F42 : env.fns 42 = true := by kernel_rfl
@[simp] theorem M42_0 : env.M 42 0 = [.pv 1] := rfl
@[simp] theorem M42_1 : env.M 42 1 = [] := rfl
theorem L42 : env.lib 42 = none := by show lookL 42 libs = _; simp [libs, lookL]
@[simp] theorem R42 : env.R 42 = [] := rfl
@[simp] theorem F43 : env.fns 43 = true := by kernel_rfl
@[simp] theorem M43_0 : env.M 43 0 = [.auto, .auto, .pv 1, .pv 8, .pv 1, .pv 4, .pv 1] := rfl
@[simp] theorem M43_1 : env.M 43 1 = [.auto, .auto, .pv 1, .pv 8, .pv 1, .pv 4, .pv 1] := rfl
theorem L43 : env.lib 43 = none := by show lookL 43 libs = _; simp [libs, lookL]
@[simp] theorem R43 : env.R 43 = [] := rfl
@[simp] theorem F44 : env.fns 44 = true := by kernel_rfl
@[simp] theorem M44_0 : env.M 44 0 = [.auto, .auto, .pv 1, .pv 8, .pv 1, .pv 4, .pv 1] := rfl
@[simp] theorem M44_1 : env.M 44 1 = [.auto, .auto, .pv 1, .pv 8, .pv 1, .pv 4, .pv 1] := rfl
theorem L44 : env.lib 44 = none := by show lookL 44 libs = _; simp [libs, lookL]
@[simp] theorem R44 : env.R 44 = [] := rfl
@[simp] theorem F45 : env.fns 45 = true := by kernel_rfl
@[simp] theorem M45_0 : env.M 45 0 = [.pv 8] := rfl
@[simp] theorem M45_1 : env.M 45 1 = [.pv 8] := rfl
theorem L45 : env.lib 45 = none := by show lookL 45 libs = _; simp [libs, lookL]
@[simp] theorem R45 : env.R 45 = [] := rfl
@[simp] theorem F46 : env.fns 46 = true := by kernel_rfl
@[simp] theorem M46_0 : env.M 46 0 = [.auto, .auto, .pv 1, .pv 8, .pv 1, .pv 4, .pv 1] := rfl
@[simp] theorem M46_1 : env.M 46 1 = [] := rfl
@[simp] theorem M46_2 : env.M 46 2 = [.pv 1] := rfl
theorem L46 : env.lib 46 = none := by show lookL 46 libs = _; simp [libs, lookL]
@[simp] theorem R46 : env.R 46 = [] := rfl
@[simp] theorem F47 : env.fns 47 = true := by kernel_rfl
@[simp] theorem M47_0 : env.M 47 0 = [.auto, .auto, .pv 1, .pv 8, .pv 1, .pv 4, .pv 1] := rfl
@[simp] theorem M47_1 : env.M 47 1 = [] := rfl
@[simp] theorem M47_2 : env.M 47 2 = [.auto, .auto, .auto, .pv 1, .pv 1, .pv 1, .pv 1, .pv 8, .pv 4] := rfl
theorem L47 : env.lib 47 = none := by show lookL 47 libs = _; simp [libs, lookL]
@[simp] theorem R47 : env.R 47 = [] := rfl
@[simp] theorem F48 : env.fns 48 = true := by kernel_rfl
@[simp] theorem M48_0 : env.M 48 0 = [.auto, .auto, .pv 1, .pv 8, .pv 1, .pv 4, .pv 1] := rfl
@[simp] theorem M48_1 : env.M 48 1 = [] := rfl
@[simp] theorem M48_2 : env.M 48 2 = [.auto, .auto, .auto, .pv 1, .pv 1, .pv 1, .pv 1, .pv 8, .pv 4] := rfl
theorem L48 : env.lib 48 = none := by show lookL 48 libs = _; simp [libs, lookL]
@[simp] theorem R48 : env.R 48 = [] := rfl
@[simp] theorem F49 : env.fns 49 = true := by kernel_rfl
@[simp] theorem M49_0 : env.M 49 0 = [.auto, .auto, .auto, .auto, .pv 1, .pv 1, .pv 1, .pv 1, .pv 8, .pv 4] := rfl
theorem L49 : env.lib 49 = none := by show lookL 49 libs = _; simp [libs, lookL]
@[simp] theorem R49 : env.R 49 = [] := rfl
@[simp] theorem F50 : env.fns 50 = true := by kernel_rfl
@[simp] theorem M50_0 : env.M 50 0 = [.auto, .auto, .pv 1, .pv 8, .pv 1, .pv 4, .pv 1] := rfl
theorem L50 : env.lib 50 = none := by show lookL 50 libs = _; simp [libs, lookL]
@[simp] theorem R50 : env.R 50 = [] := rfl
@[simp] theorem F51 : env.fns 51 = true := by kernel_rfl
theorem L51 : env.lib 51 = none := by show lookL 51 libs = _; simp [libs, lookL]
@[simp] theorem R51 : env.R 51 = [] := rfl
@[simp] theorem F52 : env.fns 52 = true := by kernel_rfl
@[simp] theorem M52_0 : env.M 52 0 = [.pv 1] := rfl
theorem L52 : env.lib 52 = none := by show lookL 52 libs = _; simp [libs, lookL]
@[simp] theorem R52 : env.R 52 = [] := rfl
@[simp] theorem F53 : env.fns 53 = true := by kernel_rfl
@[simp] theorem M53_0 : env.M 53 0 = [.pv 8] := rfl
theorem L53 : env.lib 53 = none := by show lookL 53 libs = _; simp [libs, lookL]
@[simp] theorem R53 : env.R 53 = [] := rfl
@[simp] theorem F54 : env.fns 54 = true := by kernel_rfl
@[simp] theorem M54_0 : env.M 54 0 = [.pv 4] := rfl
theorem L54 : env.lib 54 = none := by show lookL 54 libs = _; simp [libs, lookL]
@[simp] theorem R54 : env.R 54 = [] := rfl
@[simp] theorem F55 : env.fns 55 = true := by kernel_rfl
@[simp] theorem M55_0 : env.M 55 0 = [.ptr [.pv 1]] := rfl
@[simp] theorem M55_1 : env.M 55 1 = [.pv 1] := rfl
theorem L55 : env.lib 55 = none := by show lookL 55 libs = _; simp [libs, lookL]
@[simp] theorem R55 : env.R 55 = [] := rfl
@[simp] theorem F56 : env.fns 56 = true := by kernel_rfl
@[simp] theorem M56_0 : env.M 56 0 = [.ptr [.pv 1]] := rfl
@[simp] theorem M56_1 : env.M 56 1 = [.pv 1] := rfl
theorem L56 : env.lib 56 = none := by show lookL 56 libs = _; simp [libs, lookL]
@[simp] theorem R56 : env.R 56 = [] := rfl
@[simp] theorem F57 : env.fns 57 = true := by kernel_rfl
@[simp] theorem M57_0 : env.M 57 0 = [.ptr [.pv 1]] := rfl
@[simp] theorem M57_1 : env.M 57 1 = [.pv 1] := rfl
theorem L57 : env.lib 57 = none := by show lookL 57 libs = _; simp [libs, lookL]
@[simp] theorem R57 : env.R 57 = [] := rfl
@[simp] theorem F58 : env.fns 58 = true := by kernel_rfl
@[simp] theorem M58_0 : env.M 58 0 = [.ptr [.pv 1]] := rfl
@[simp] theorem M58_1 : env.M 58 1 = [] := rfl
theorem L58 : env.lib 58 = none := by show lookL 58 libs = _; simp [libs, lookL]
@[simp] theorem R58 : env.R 58 = [] := rfl
@[simp] theorem F59 : env.fns 59 = true := by kernel_rfl
@[simp] theorem M59_0 : env.M 59 0 = [.pv 1] := rfl
@[simp] theorem M59_1 : env.M 59 1 = [] := rfl
theorem L59 : env.lib 59 = none := by show lookL 59 libs = _; simp [libs, lookL]
@[simp] theorem R59 : env.R 59 = [[.own 1]] := rfl
@[simp] theorem F60 : env.fns 60 = true := by kernel_rfl
@[simp] theorem M60_0 : env.M 60 0 = [.pv 1] := rfl
@[simp] theorem M60_1 : env.M 60 1 = [.auto, .auto, .pv 1, .pv 7] := rfl
theorem L60 : env.lib 60 = none := by show lookL 60 libs = _; simp [libs, lookL]
@[simp] theorem R60 : env.R 60 = [] := rfl
@[simp] theorem F61 : env.fns 61 = true := by kernel_rfl
@[simp] theorem M61_0 : env.M 61 0 = [.auto, .auto, .auto, .pv 1, .pv 1, .pv 1, .pv 1, .pv 8, .pv 4] := rfl
theorem L61 : env.lib 61 = none := by show lookL 61 libs = _; simp [libs, lookL]
@[simp] theorem R61 : env.R 61 = [] := rfl
@[simp] theorem F62 : env.fns 62 = true := by kernel_rfl
@[simp] theorem M62_0 : env.M 62 0 = [.pv 1] := rfl
theorem L62 : env.lib 62 = none := by show lookL 62 libs = _; simp [libs, lookL]
@[simp] theorem R62 : env.R 62 = [] := rfl
@[simp] theorem F63 : env.fns 63 = true := by kernel_rfl
@[simp] theorem M63_0 : env.M 63 0 = [.pv 1] := rfl
theorem L63 : env.lib 63 = none := by show lookL 63 libs = _; simp [libs, lookL]
@[simp] theorem R63 : env.R 63 = [] := rfl
@[simp] theorem F64 : env.fns 64 = true := by kernel_rfl
@[simp] theorem M64_0 : env.M 64 0 = [.pv 8] := rfl
@[simp] theorem M64_1 : env.M 64 1 = [.pv 8] := rfl
theorem L64 : env.lib 64 = none := by show lookL 64 libs = _; simp [libs, lookL]
@[simp] theorem R64 : env.R 64 = [] := rfl
@[simp] theorem F65 : env.fns 65 = true := by kernel_rfl
@[simp] theorem M65_0 : env.M 65 0 = [.pv 8] := rfl
theorem L65 : env.lib 65 = none := by show lookL 65 libs = _; simp [libs, lookL]
@[simp] theorem R65 : env.R 65 = [[.own 8]] := rfl
@[simp] theorem F66 : env.fns 66 = true := by kernel_rfl
@[simp] theorem M66_0 : env.M 66 0 = [] := rfl
theorem L66 : env.lib 66 = none := by show lookL 66 libs = _; simp [libs, lookL]
@[simp] theorem R66 : env.R 66 = [] := rfl
@[simp] theorem F67 : env.fns 67 = true := by kernel_rfl
@[simp] theorem M67_0 : env.M 67 0 = [.auto, .auto, .pv 1, .pv 7] := rfl
theorem L67 : env.lib 67 = none := by show lookL 67 libs = _; simp [libs, lookL]
@[simp] theorem R67 : env.R 67 = [] := rfl
@[simp] theorem F68 : env.fns 68 = true := by kernel_rfl
@[simp] theorem M68_0 : env.M 68 0 = [.pv 7] := rfl
@[simp] theorem M68_1 : env.M 68 1 = [] := rfl
theorem L68 : env.lib 68 = none := by show lookL 68 libs = _; simp [libs, lookL]
@[simp] theorem R68 : env.R 68 = [] := rfl
@[simp] theorem F69 : env.fns 69 = true := by kernel_rfl
@[simp] theorem M69_0 : env.M 69 0 = [.auto, .auto, .auto, .auto, .auto, .auto, .pv 3] := rfl
theorem L69 : env.lib 69 = none := by show lookL 69 libs = _; simp [libs, lookL]
@[simp] theorem R69 : env.R 69 = [] := rfl
@[simp] theorem F70 : env.fns 70 = true := by kernel_rfl
@[simp] theorem M70_0 : env.M 70 0 = [.pv 1] := rfl
@[simp] theorem M70_1 : env.M 70 1 = [.pv 1] := rfl
@[simp] theorem M70_2 : env.M 70 2 = [.pv 4] := rfl
theorem L70 : env.lib 70 = none := by show lookL 70 libs = _; simp [libs, lookL]
@[simp] theorem R70 : env.R 70 = [] := rfl
@[simp] theorem F71 : env.fns 71 = true := by kernel_rfl
@[simp] theorem M71_0 : env.M 71 0 = [.pv 1] := rfl
theorem L71 : env.lib 71 = none := by show lookL 71 libs = _; simp [libs, lookL]
@[simp] theorem R71 : env.R 71 = [] := rfl
@[simp] theorem F72 : env.fns 72 = true := by kernel_rfl
@[simp] theorem M72_0 : env.M 72 0 = [.pv 1] := rfl
theorem L72 : env.lib 72 = none := by show lookL 72 libs = _; simp [libs, lookL]
@[simp] theorem R72 : env.R 72 = [] := rfl
@[simp] theorem F73 : env.fns 73 = true := by kernel_rfl
@[simp] theorem M73_0 : env.M 73 0 = [] := rfl
theorem L73 : env.lib 73 = none := by show lookL 73 libs = _; simp [libs, lookL]
@[simp] theorem R73 : env.R 73 = [] := rfl
@[simp] theorem F74 : env.fns 74 = true := by kernel_rfl
@[simp] theorem M74_0 : env.M 74 0 = [.pv 1] := rfl
@[simp] theorem M74_1 : env.M 74 1 = [] := rfl
theorem L74 : env.lib 74 = none := by show lookL 74 libs = _; simp [libs, lookL]
@[simp] theorem R74 : env.R 74 = [] := rfl
@[simp] theorem F75 : env.fns 75 = true := by kernel_rfl
@[simp] theorem M75_0 : env.M 75 0 = [.pv 8] := rfl
@[simp] theorem M75_1 : env.M 75 1 = [.pv 8] := rfl
theorem L75 : env.lib 75 = none := by show lookL 75 libs = _; simp [libs, lookL]
@[simp] theorem R75 : env.R 75 = [] := rfl
@[simp] theorem F76 : env.fns 76 = true := by kernel_rfl
@[simp] theorem M76_0 : env.M 76 0 = [.pv 8] := rfl
theorem L76 : env.lib 76 = none := by show lookL 76 libs = _; simp [libs, lookL]
@[simp] theorem R76 : env.R 76 = [] := rfl
@[simp] theorem F77 : env.fns 77 = true := by kernel_rfl
@[simp] theorem M77_0 : env.M 77 0 = [.auto, .auto, .pv 1, .pv 7] := rfl
theorem L77 : env.lib 77 = none := by show lookL 77 libs = _; simp [libs, lookL]
@[simp] theorem R77 : env.R 77 = [] := rfl
@[simp] theorem F78 : env.fns 78 = true := by kernel_rfl
@[simp] theorem M78_0 : env.M 78 0 = [.pv 1] := rfl
@[simp] theorem M78_1 : env.M 78 1 = [.auto, .auto, .pv 1, .pv 7] := rfl
theorem L78 : env.lib 78 = none := by show lookL 78 libs = _; simp [libs, lookL]
@[simp] theorem R78 : env.R 78 = [] := rfl
@[simp] theorem F79 : env.fns 79 = true := by kernel_rfl
@[simp] theorem M79_0 : env.M 79 0 = [.auto, .auto, .pv 1, .pv 7] := rfl
@[simp] theorem M79_1 : env.M 79 1 = [.auto, .auto, .pv 1, .pv 7] := rfl
theorem L79 : env.lib 79 = none := by show lookL 79 libs = _; simp [libs, lookL]
@[simp] theorem R79 : env.R 79 = [] := rfl
@[simp] theorem F80 : env.fns 80 = true := by kernel_rfl
@[simp] theorem M80_0 : env.M 80 0 = [.auto, .auto, .pv 1, .pv 7] := rfl
@[simp] theorem M80_1 : env.M 80 1 = [.pv 1] := rfl
theorem L80 : env.lib 80 = none := by show lookL 80 libs = _; simp [libs, lookL]
@[simp] theorem R80 : env.R 80 = [] := rfl
@[simp] theorem F81 : env.fns 81 = true := by kernel_rfl
@[simp] theorem M81_0 : env.M 81 0 = [.pv 1] := rfl
@[simp] theorem M81_1 : env.M 81 1 = [.auto, .auto, .pv 1, .pv 7] := rfl
theorem L81 : env.lib 81 = none := by show lookL 81 libs = _; simp [libs, lookL]
@[simp] theorem R81 : env.R 81 = [] := rfl
@[simp] theorem F82 : env.fns 82 = true := by kernel_rfl
@[simp] theorem M82_0 : env.M 82 0 = [.own 1] := rfl
@[simp] theorem M82_1 : env.M 82 1 = [.pv 1] := rfl
theorem L82 : env.lib 82 = none := by show lookL 82 libs = _; simp [libs, lookL]
@[simp] theorem R82 : env.R 82 = [[.own 1]] := rfl
@[simp] theorem F83 : env.fns 83 = true := by kernel_rfl
@[simp] theorem M83_0 : env.M 83 0 = [.own 1] := rfl
@[simp] theorem M83_1 : env.M 83 1 = [.pv 1] := rfl
theorem L83 : env.lib 83 = none := by show lookL 83 libs = _; simp [libs, lookL]
@[simp] theorem R83 : env.R 83 = [[.own 1]] := rfl
@[simp] theorem F84 : env.fns 84 = true := by kernel_rfl
@[simp] theorem M84_0 : env.M 84 0 = [.own 1] := rfl
@[simp] theorem M84_1 : env.M 84 1 = [] := rfl
theorem L84 : env.lib 84 = none := by show lookL 84 libs = _; simp [libs, lookL]
@[simp] theorem R84 : env.R 84 = [[.own 1]] := rfl
@[simp] theorem F85 : env.fns 85 = true := by kernel_rfl
@[simp] theorem M85_0 : env.M 85 0 = [.own 1] := rfl
@[simp] theorem M85_1 : env.M 85 1 = [] := rfl
theorem L85 : env.lib 85 = none := by show lookL 85 libs = _; simp [libs, lookL]
@[simp] theorem R85 : env.R 85 = [[.own 1]] := rfl
@[simp] theorem F86 : env.fns 86 = true := by kernel_rfl
@[simp] theorem M86_0 : env.M 86 0 = [] := rfl
theorem L86 : env.lib 86 = none := by show lookL 86 libs = _; simp [libs, lookL]
@[simp] theorem R86 : env.R 86 = [] := rfl
@[simp] theorem F87 : env.fns 87 = true := by kernel_rfl
@[simp] theorem M87_0 : env.M 87 0 = [.auto, .auto, .pv 1, .pv 7] := rfl
theorem L87 : env.lib 87 = none := by show lookL 87 libs = _; simp [libs, lookL]
@[simp] theorem R87 : env.R 87 = [] := rfl
@[simp] theorem F88 : env.fns 88 = true := by kernel_rfl
@[simp] theorem M88_0 : env.M 88 0 = [] := rfl
theorem L88 : env.lib 88 = none := by show lookL 88 libs = _; simp [libs, lookL]
@[simp] theorem R88 : env.R 88 = [] := rfl
@[simp] theorem F89 : env.fns 89 = true := by kernel_rfl
@[simp] theorem M89_0 : env.M 89 0 = [] := rfl
theorem L89 : env.lib 89 = none := by show lookL 89 libs = _; simp [libs, lookL]
@[simp] theorem R89 : env.R 89 = [] := rfl
@[simp] theorem F90 : env.fns 90 = true := by kernel_rfl
@[simp] theorem M90_0 : env.M 90 0 = [] := rfl
theorem L90 : env.lib 90 = none := by show lookL 90 libs = _; simp [libs, lookL]
@[simp] theorem R90 : env.R 90 = [] := rfl
@[simp] theorem F91 : env.fns 91 = true := by kernel_rfl
@[simp] theorem M91_0 : env.M 91 0 = [] := rfl
@[simp] theorem M91_1 : env.M 91 1 = [] := rfl
theorem L91 : env.lib 91 = none := by show lookL 91 libs = _; simp [libs, lookL]
@[simp] theorem R91 : env.R 91 = [] := rfl
@[simp] theorem F92 : env.fns 92 = true := by kernel_rfl
@[simp] theorem M92_0 : env.M 92 0 = [] := rfl
theorem L92 : env.lib 92 = none := by show lookL 92 libs = _; simp [libs, lookL]
@[simp] theorem R92 : env.R 92 = [] := rfl
@[simp] theorem F93 : env.fns 93 = true := by kernel_rfl
@[simp] theorem M93_0 : env.M 93 0 = [.pv 1] := rfl
theorem L93 : env.lib 93 = none := by show lookL 93 libs = _; simp [libs, lookL]
@[simp] theorem R93 : env.R 93 = [] := rfl
@[simp] theorem F94 : env.fns 94 = true := by kernel_rfl
@[simp] theorem M94_0 : env.M 94 0 = [] := rfl
@[simp] theorem M94_1 : env.M 94 1 = [.pv 1] := rfl
@[simp] theorem M94_2 : env.M 94 2 = [] := rfl
theorem L94 : env.lib 94 = none := by show lookL 94 libs = _; simp [libs, lookL]
@[simp] theorem R94 : env.R 94 = [] := rfl
@[simp] theorem F95 : env.fns 95 = true := by kernel_rfl
@[simp] theorem M95_0 : env.M 95 0 = [.pv 4] := rfl
@[simp] theorem M95_1 : env.M 95 1 = [.pv 4] := rfl
theorem L95 : env.lib 95 = none := by show lookL 95 libs = _; simp [libs, lookL]
@[simp] theorem R95 : env.R 95 = [] := rfl
@[simp] theorem F96 : env.fns 96 = true := by kernel_rfl
@[simp] theorem M96_0 : env.M 96 0 = [.pv 1] := rfl
@[simp] theorem M96_1 : env.M 96 1 = [] := rfl
theorem L96 : env.lib 96 = none := by show lookL 96 libs = _; simp [libs, lookL]
@[simp] theorem R96 : env.R 96 = [] := rfl
@[simp] theorem F97 : env.fns 97 = true := by kernel_rfl
@[simp] theorem M97_0 : env.M 97 0 = [] := rfl
theorem L97 : env.lib 97 = none := by show lookL 97 libs = _; simp [libs, lookL]
@[simp] theorem R97 : env.R 97 = [] := rfl
@[simp] theorem F98 : env.fns 98 = true := by kernel_rfl
@[simp] theorem M98_0 : env.M 98 0 = [] := rfl
@[simp] theorem M98_1 : env.M 98 1 = [] := rfl
theorem L98 : env.lib 98 = none := by show lookL 98 libs = _; simp [libs, lookL]
@[simp] theorem R98 : env.R 98 = [] := rfl
@[simp] theorem F99 : env.fns 99 = true := by kernel_rfl
@[simp] theorem M99_0 : env.M 99 0 = [.pv 1] := rfl
@[simp] theorem M99_1 : env.M 99 1 = [] := rfl
theorem L99 : env.lib 99 = none := by show lookL 99 libs = _; simp [libs, lookL]
@[simp] theorem R99 : env.R 99 = [] := rfl
@[simp] theorem F100 : env.fns 100 = true := by kernel_rfl
@[simp] theorem M100_0 : env.M 100 0 = [.pv 1, .pv 8] := rfl
@[simp] theorem M100_1 : env.M 100 1 = [.pv 1, .pv 8] := rfl
theorem L100 : env.lib 100 = none := by show lookL 100 libs = _; simp [libs, lookL]
@[simp] theorem R100 : env.R 100 = [] := rfl
@[simp] theorem F101 : env.fns 101 = true := by kernel_rfl
@[simp] theorem M101_0 : env.M 101 0 = [.pv 1, .pv 4] := rfl
@[simp] theorem M101_1 : env.M 101 1 = [.pv 1, .pv 4] := rfl
theorem L101 : env.lib 101 = none := by show lookL 101 libs = _; simp [libs, lookL]
@[simp] theorem R101 : env.R 101 = [] := rfl
@[simp] theorem F102 : env.fns 102 = true := by kernel_rfl
@[simp] theorem M102_0 : env.M 102 0 = [.pv 1] := rfl
theorem L102 : env.lib 102 = none := by show lookL 102 libs = _; simp [libs, lookL]
@[simp] theorem R102 : env.R 102 = [] := rfl
@[simp] theorem F103 : env.fns 103 = true := by kernel_rfl
@[simp] theorem M103_0 : env.M 103 0 = [.auto, .auto, .pv 1, .pv 8, .pv 1, .pv 4, .pv 1] := rfl
theorem L103 : env.lib 103 = none := by show lookL 103 libs = _; simp [libs, lookL]
@[simp] theorem R103 : env.R 103 = [] := rfl
@[simp] theorem F104 : env.fns 104 = true := by kernel_rfl
@[simp] theorem M104_0 : env.M 104 0 = [.auto, .auto, .pv 1, .pv 8, .pv 1, .pv 4, .pv 1] := rfl
@[simp] theorem M104_1 : env.M 104 1 = [.pv 4] := rfl
theorem L104 : env.lib 104 = none := by show lookL 104 libs = _; simp [libs, lookL]
@[simp] theorem R104 : env.R 104 = [] := rfl
@[simp] theorem F105 : env.fns 105 = true := by kernel_rfl
@[simp] theorem M105_0 : env.M 105 0 = [.pv 1, .pv 4] := rfl
@[simp] theorem M105_1 : env.M 105 1 = [.pv 1] := rfl
theorem L105 : env.lib 105 = none := by show lookL 105 libs = _; simp [libs, lookL]
@[simp] theorem R105 : env.R 105 = [] := rfl
@[simp] theorem F106 : env.fns 106 = true := by kernel_rfl
@[simp] theorem M106_0 : env.M 106 0 = [.auto, .auto, .pv 1, .pv 8, .pv 1, .pv 4, .pv 1] := rfl
theorem L106 : env.lib 106 = none := by show lookL 106 libs = _; simp [libs, lookL]
@[simp] theorem R106 : env.R 106 = [] := rfl
@[simp] theorem F107 : env.fns 107 = true := by kernel_rfl
@[simp] theorem M107_0 : env.M 107 0 = [.pv 1] := rfl
@[simp] theorem M107_1 : env.M 107 1 = [.pv 1] := rfl
theorem L107 : env.lib 107 = none := by show lookL 107 libs = _; simp [libs, lookL]
@[simp] theorem R107 : env.R 107 = [] := rfl
@[simp] theorem F108 : env.fns 108 = true := by kernel_rfl
@[simp] theorem M108_0 : env.M 108 0 = [.pv 1] := rfl
@[simp] theorem M108_1 : env.M 108 1 = [] := rfl
theorem L108 : env.lib 108 = none := by show lookL 108 libs = _; simp [libs, lookL]
@[simp] theorem R108 : env.R 108 = [[.own 1], []] := rfl
@[simp] theorem F109 : env.fns 109 = true := by kernel_rfl
@[simp] theorem M109_0 : env.M 109 0 = [.auto, .auto, .pv 1, .pv 8, .pv 1, .pv 4, .pv 1] := rfl
@[simp] theorem M109_1 : env.M 109 1 = [.pv 4] := rfl
theorem L109 : env.lib 109 = none := by show lookL 109 libs = _; simp [libs, lookL]
@[simp] theorem R109 : env.R 109 = [] := rfl
@[simp] theorem F110 : env.fns 110 = true := by kernel_rfl
@[simp] theorem M110_0 : env.M 110 0 = [.pv 1] := rfl
@[simp] theorem M110_1 : env.M 110 1 = [.pv 1] := rfl
@[simp] theorem M110_2 : env.M 110 2 = [] := rfl
theorem L110 : env.lib 110 = none := by show lookL 110 libs = _; simp [libs, lookL]
@[simp] theorem R110 : env.R 110 = [] := rfl
@[simp] theorem F111 : env.fns 111 = true := by kernel_rfl
@[simp] theorem M111_0 : env.M 111 0 = [.pv 1, .pv 4] := rfl
@[simp] theorem M111_1 : env.M 111 1 = [.pv 1] := rfl
theorem L111 : env.lib 111 = none := by show lookL 111 libs = _; simp [libs, lookL]
@[simp] theorem R111 : env.R 111 = [] := rfl
@[simp] theorem F112 : env.fns 112 = true := by kernel_rfl
@[simp] theorem M112_0 : env.M 112 0 = [.pv 1] := rfl
@[simp] theorem M112_1 : env.M 112 1 = [.pv 1] := rfl
theorem L112 : env.lib 112 = none := by show lookL 112 libs = _; simp [libs, lookL]
@[simp] theorem R112 : env.R 112 = [] := rfl
@[simp] theorem F113 : env.fns 113 = true := by kernel_rfl
@[simp] theorem M113_0 : env.M 113 0 = [.pv 1] := rfl
theorem L113 : env.lib 113 = none := by show lookL 113 libs = _; simp [libs, lookL]
@[simp] theorem R113 : env.R 113 = [] := rfl
@[simp] theorem F114 : env.fns 114 = true := by kernel_rfl
@[simp] theorem M114_0 : env.M 114 0 = [.pv 1] := rfl
@[simp] theorem M114_1 : env.M 114 1 = [] := rfl
theorem L114 : env.lib 114 = none := by show lookL 114 libs = _; simp [libs, lookL]
@[simp] theorem R114 : env.R 114 = [] := rfl
@[simp] theorem F115 : env.fns 115 = true := by kernel_rfl
@[simp] theorem M115_0 : env.M 115 0 = [] := rfl
theorem L115 : env.lib 115 = none := by show lookL 115 libs = _; simp [libs, lookL]
@[simp] theorem R115 : env.R 115 = [] := rfl
@[simp] theorem F116 : env.fns 116 = true := by kernel_rfl
@[simp] theorem M116_0 : env.M 116 0 = [.pv 8] := rfl
@[simp] theorem M116_1 : env.M 116 1 = [] := rfl
theorem L116 : env.lib 116 = none := by show lookL 116 libs = _; simp [libs, lookL]
@[simp] theorem R116 : env.R 116 = [] := rfl
@[simp] theorem F117 : env.fns 117 = true := by kernel_rfl
@[simp] theorem M117_0 : env.M 117 0 = [] := rfl
theorem L117 : env.lib 117 = none := by show lookL 117 libs = _; simp [libs, lookL]
@[simp] theorem R117 : env.R 117 = [] := rfl
@[simp] theorem F118 : env.fns 118 = true := by kernel_rfl
@[simp] theorem M118_0 : env.M 118 0 = [.pv 1] := rfl
@[simp] theorem M118_1 : env.M 118 1 = [.pv 4] := rfl
theorem L118 : env.lib 118 = none := by show lookL 118 libs = _; simp [libs, lookL]
@[simp] theorem R118 : env.R 118 = [] := rfl
@[simp] theorem F119 : env.fns 119 = true := by kernel_rfl
@[simp] theorem M119_0 : env.M 119 0 = [.pv 4] := rfl
@[simp] theorem M119_1 : env.M 119 1 = [] := rfl
theorem L119 : env.lib 119 = none := by show lookL 119 libs = _; simp [libs, lookL]
@[simp] theorem R119 : env.R 119 = [] := rfl
@[simp] theorem F120 : env.fns 120 = true := by kernel_rfl
@[simp] theorem M120_0 : env.M 120 0 = [.auto, .auto, .pv 1, .pv 7] := rfl
theorem L120 : env.lib 120 = none := by show lookL 120 libs = _; simp [libs, lookL]
@[simp] theorem R120 : env.R 120 = [] := rfl
@[simp] theorem F121 : env.fns 121 = true := by kernel_rfl
@[simp] theorem M121_0 : env.M 121 0 = [.pv 1] := rfl
@[simp] theorem M121_1 : env.M 121 1 = [.auto, .auto, .pv 1, .pv 7] := rfl
theorem L121 : env.lib 121 = none := by show lookL 121 libs = _; simp [libs, lookL]
@[simp] theorem R121 : env.R 121 = [] := rfl
@[simp] theorem F122 : env.fns 122 = true := by kernel_rfl
@[simp] theorem M122_0 : env.M 122 0 = [.pv 1, .pv 4] := rfl
@[simp] theorem M122_1 : env.M 122 1 = [.pv 1] := rfl
theorem L122 : env.lib 122 = none := by show lookL 122 libs = _; simp [libs, lookL]
@[simp] theorem R122 : env.R 122 = [] := rfl
@[simp] theorem F123 : env.fns 123 = true := by kernel_rfl
@[simp] theorem M123_0 : env.M 123 0 = [.auto, .auto, .auto, .pv 1, .pv 1, .pv 1, .pv 1, .pv 8, .pv 4] := rfl
theorem L123 : env.lib 123 = none := by show lookL 123 libs = _; simp [libs, lookL]
@[simp] theorem R123 : env.R 123 = [] := rfl
@[simp] theorem F124 : env.fns 124 = true := by kernel_rfl
@[simp] theorem M124_0 : env.M 124 0 = [.pv 1] := rfl
@[simp] theorem M124_1 : env.M 124 1 = [.pv 1] := rfl
theorem L124 : env.lib 124 = none := by show lookL 124 libs = _; simp [libs, lookL]
@[simp] theorem R124 : env.R 124 = [] := rfl
@[simp] theorem F125 : env.fns 125 = true := by kernel_rfl
@[simp] theorem M125_0 : env.M 125 0 = [.pv 1] := rfl
@[simp] theorem M125_1 : env.M 125 1 = [.pv 1] := rfl
theorem L125 : env.lib 125 = none := by show lookL 125 libs = _; simp [libs, lookL]
@[simp] theorem R125 : env.R 125 = [] := rfl
@[simp] theorem F126 : env.fns 126 = true := by kernel_rfl
@[simp] theorem M126_0 : env.M 126 0 = [.auto, .auto, .pv 1, .pv 7] := rfl
@[simp] theorem M126_1 : env.M 126 1 = [.pv 1] := rfl
theorem L126 : env.lib 126 = none := by show lookL 126 libs = _; simp [libs, lookL]
@[simp] theorem R126 : env.R 126 = [] := rfl
@[simp] theorem F127 : env.fns 127 = true := by kernel_rfl
@[simp] theorem M127_0 : env.M 127 0 = [.pv 1, .pv 8] := rfl
@[simp] theorem M127_1 : env.M 127 1 = [.pv 1] := rfl
theorem L127 : env.lib 127 = none := by show lookL 127 libs = _; simp [libs, lookL]
@[simp] theorem R127 : env.R 127 = [] := rfl
@[simp] theorem F128 : env.fns 128 = true := by kernel_rfl
@[simp] theorem M128_0 : env.M 128 0 = [] := rfl
@[simp] theorem M128_1 : env.M 128 1 = [] := rfl
theorem L128 : env.lib 128 = none := by show lookL 128 libs = _; simp [libs, lookL]
@[simp] theorem R128 : env.R 128 = [] := rfl
@[simp] theorem F129 : env.fns 129 = true := by kernel_rfl
@[simp] theorem M129_0 : env.M 129 0 = [] := rfl
@[simp] theorem M129_1 : env.M 129 1 = [.auto, .auto, .auto, .pv 1, .pv 1, .pv 1, .pv 1, .pv 8, .pv 4] := rfl
theorem L129 : env.lib 129 = none := by show lookL 129 libs = _; simp [libs, lookL]
@[simp] theorem R129 : env.R 129 = [] := rfl
@[simp] theorem F130 : env.fns 130 = true := by kernel_rfl
@[simp] theorem M130_0 : env.M 130 0 = [.pv 1] := rfl
@[simp] theorem M130_1 : env.M 130 1 = [.pv 1] := rfl
theorem L130 : env.lib 130 = none := by show lookL 130 libs = _; simp [libs, lookL]
@[simp] theorem R130 : env.R 130 = [] := rfl
@[simp] theorem F131 : env.fns 131 = true := by kernel_rfl
@[simp] theorem M131_0 : env.M 131 0 = [.pv 4] := rfl
@[simp] theorem M131_1 : env.M 131 1 = [.pv 1] := rfl
theorem L131 : env.lib 131 = none := by show lookL 131 libs = _; simp [libs, lookL]
@[simp] theorem R131 : env.R 131 = [] := rfl
@[simp] theorem F132 : env.fns 132 = true := by kernel_rfl
@[simp] theorem M132_0 : env.M 132 0 = [.pv 8] := rfl
@[simp] theorem M132_1 : env.M 132 1 = [.pv 1] := rfl
theorem L132 : env.lib 132 = none := by show lookL 132 libs = _; simp [libs, lookL]
@[simp] theorem R132 : env.R 132 = [] := rfl
@[simp] theorem F133 : env.fns 133 = true := by kernel_rfl
@[simp] theorem M133_0 : env.M 133 0 = [] := rfl
theorem L133 : env.lib 133 = none := by show lookL 133 libs = _; simp [libs, lookL]
@[simp] theorem R133 : env.R 133 = [[.own 1], []] := rfl
@[simp] theorem F134 : env.fns 134 = true := by kernel_rfl
@[simp] theorem M134_0 : env.M 134 0 = [.pv 7] := rfl
theorem L134 : env.lib 134 = none := by show lookL 134 libs = _; simp [libs, lookL]
@[simp] theorem R134 : env.R 134 = [] := rfl
@[simp] theorem F135 : env.fns 135 = true := by kernel_rfl
@[simp] theorem M135_0 : env.M 135 0 = [.pv 1] := rfl
@[simp] theorem M135_1 : env.M 135 1 = [] := rfl
theorem L135 : env.lib 135 = none := by show lookL 135 libs = _; simp [libs, lookL]
@[simp] theorem R135 : env.R 135 = [[.own 1], []] := rfl
@[simp] theorem F136 : env.fns 136 = true := by kernel_rfl
@[simp] theorem M136_0 : env.M 136 0 = [.pv 1] := rfl
theorem L136 : env.lib 136 = some (libClone 1 1) := by show lookL 136 libs = _; simp [libs, lookL]
@[simp] theorem F137 : env.fns 137 = true := by kernel_rfl
@[simp] theorem M137_0 : env.M 137 0 = [.pv 1] := rfl
theorem L137 : env.lib 137 = none := by show lookL 137 libs = _; simp [libs, lookL]
@[simp] theorem R137 : env.R 137 = [] := rfl
@[simp] theorem F138 : env.fns 138 = true := by kernel_rfl
@[simp] theorem M138_0 : env.M 138 0 = [] := rfl
theorem L138 : env.lib 138 = none := by show lookL 138 libs = _; simp [libs, lookL]
@[simp] theorem R138 : env.R 138 = [] := rfl
@[simp] theorem F139 : env.fns 139 = true := by kernel_rfl
@[simp] theorem M139_0 : env.M 139 0 = [] := rfl
theorem L139 : env.lib 139 = none := by show lookL 139 libs = _; simp [libs, lookL]
@[simp] theorem R139 : env.R 139 = [] := rfl
@[simp] theorem F140 : env.fns 140 = true := by kernel_rfl
@[simp] theorem M140_0 : env.M 140 0 = [.pv 1] := rfl
theorem L140 : env.lib 140 = none := by show lookL 140 libs = _; simp [libs, lookL]
@[simp] theorem R140 : env.R 140 = [] := rfl
@[simp] theorem F141 : env.fns 141 = true := by kernel_rfl
@[simp] theorem M141_0 : env.M 141 0 = [.pv 8] := rfl
theorem L141 : env.lib 141 = some (libClone 8 88) := by show lookL 141 libs = _; simp [libs, lookL]
@[simp] theorem F142 : env.fns 142 = true := by kernel_rfl
@[simp] theorem M142_0 : env.M 142 0 = [.own 8] := rfl
@[simp] theorem M142_1 : env.M 142 1 = [] := rfl
theorem L142 : env.lib 142 = some (libSortF Tryz.prog 8) := by show lookL 142 libs = _; simp [libs, lookL]
@[simp] theorem F143 : env.fns 143 = true := by kernel_rfl
@[simp] theorem M143_0 : env.M 143 0 = [] := rfl
@[simp] theorem M143_1 : env.M 143 1 = [] := rfl
theorem L143 : env.lib 143 = none := by show lookL 143 libs = _; simp [libs, lookL]
@[simp] theorem R143 : env.R 143 = [] := rfl
@[simp] theorem F144 : env.fns 144 = true := by kernel_rfl
@[simp] theorem M144_0 : env.M 144 0 = [.own 8] := rfl
@[simp] theorem M144_1 : env.M 144 1 = [] := rfl
theorem L144 : env.lib 144 = none := by show lookL 144 libs = _; simp [libs, lookL]
@[simp] theorem R144 : env.R 144 = [[.own 8]] := rfl
@[simp] theorem F145 : env.fns 145 = true := by kernel_rfl
@[simp] theorem M145_0 : env.M 145 0 = [] := rfl
theorem L145 : env.lib 145 = none := by show lookL 145 libs = _; simp [libs, lookL]
@[simp] theorem R145 : env.R 145 = [] := rfl
@[simp] theorem F146 : env.fns 146 = true := by kernel_rfl
@[simp] theorem M146_0 : env.M 146 0 = [] := rfl
theorem L146 : env.lib 146 = none := by show lookL 146 libs = _; simp [libs, lookL]
@[simp] theorem R146 : env.R 146 = [] := rfl
@[simp] theorem F147 : env.fns 147 = true := by kernel_rfl
@[simp] theorem M147_0 : env.M 147 0 = [] := rfl
theorem L147 : env.lib 147 = none := by show lookL 147 libs = _; simp [libs, lookL]
@[simp] theorem R147 : env.R 147 = [] := rfl
@[simp] theorem F148 : env.fns 148 = true := by kernel_rfl
@[simp] theorem M148_0 : env.M 148 0 = [] := rfl
@[simp] theorem M148_1 : env.M 148 1 = [] := rfl
@[simp] theorem M148_2 : env.M 148 2 = [.pv 7] := rfl
theorem L148 : env.lib 148 = none := by show lookL 148 libs = _; simp [libs, lookL]
@[simp] theorem R148 : env.R 148 = [] := rfl
@[simp] theorem F149 : env.fns 149 = true := by kernel_rfl
@[simp] theorem M149_0 : env.M 149 0 = [.pv 7] := rfl
@[simp] theorem M149_1 : env.M 149 1 = [] := rfl
@[simp] theorem M149_2 : env.M 149 2 = [] := rfl
@[simp] theorem M149_3 : env.M 149 3 = [.pv 1] := rfl
theorem L149 : env.lib 149 = none := by show lookL 149 libs = _; simp [libs, lookL]
@[simp] theorem R149 : env.R 149 = [] := rfl
@[simp] theorem F150 : env.fns 150 = true := by kernel_rfl
@[simp] theorem M150_0 : env.M 150 0 = [.pv 7] := rfl
@[simp] theorem M150_1 : env.M 150 1 = [] := rfl
theorem L150 : env.lib 150 = none := by show lookL 150 libs = _; simp [libs, lookL]
@[simp] theorem R150 : env.R 150 = [] := rfl
@[simp] theorem F151 : env.fns 151 = true := by kernel_rfl
@[simp] theorem M151_0 : env.M 151 0 = [.pv 1] := rfl
theorem L151 : env.lib 151 = none := by show lookL 151 libs = _; simp [libs, lookL]
@[simp] theorem R151 : env.R 151 = [] := rfl
@[simp] theorem F152 : env.fns 152 = true := by kernel_rfl
@[simp] theorem M152_0 : env.M 152 0 = [.pv 1] := rfl
theorem L152 : env.lib 152 = none := by show lookL 152 libs = _; simp [libs, lookL]
@[simp] theorem R152 : env.R 152 = [] := rfl
@[simp] theorem F153 : env.fns 153 = true := by kernel_rfl
@[simp] theorem M153_0 : env.M 153 0 = [] := rfl
theorem L153 : env.lib 153 = none := by show lookL 153 libs = _; simp [libs, lookL]
@[simp] theorem R153 : env.R 153 = [] := rfl
@[simp] theorem F154 : env.fns 154 = true := by kernel_rfl
@[simp] theorem M154_0 : env.M 154 0 = [] := rfl
theorem L154 : env.lib 154 = none := by show lookL 154 libs = _; simp [libs, lookL]
@[simp] theorem R154 : env.R 154 = [] := rfl
@[simp] theorem F155 : env.fns 155 = true := by kernel_rfl
@[simp] theorem M155_0 : env.M 155 0 = [] := rfl
@[simp] theorem M155_1 : env.M 155 1 = [] := rfl
theorem L155 : env.lib 155 = none := by show lookL 155 libs = _; simp [libs, lookL]
@[simp] theorem R155 : env.R 155 = [] := rfl
@[simp] theorem F156 : env.fns 156 = true := by kernel_rfl
@[simp] theorem M156_0 : env.M 156 0 = [.pv 8] := rfl
@[simp] theorem M156_1 : env.M 156 1 = [] := rfl
theorem L156 : env.lib 156 = none := by show lookL 156 libs = _; simp [libs, lookL]
@[simp] theorem R156 : env.R 156 = [] := rfl
@[simp] theorem F157 : env.fns 157 = true := by kernel_rfl
@[simp] theorem M157_0 : env.M 157 0 = [] := rfl
@[simp] theorem M157_1 : env.M 157 1 = [] := rfl
@[simp] theorem M157_2 : env.M 157 2 = [.pv 7] := rfl
theorem L157 : env.lib 157 = none := by show lookL 157 libs = _; simp [libs, lookL]
@[simp] theorem R157 : env.R 157 = [] := rfl
@[simp] theorem F158 : env.fns 158 = true := by kernel_rfl
@[simp] theorem M158_0 : env.M 158 0 = [.pv 7] := rfl
@[simp] theorem M158_1 : env.M 158 1 = [] := rfl
@[simp] theorem M158_2 : env.M 158 2 = [] := rfl
@[simp] theorem M158_3 : env.M 158 3 = [.pv 1] := rfl
theorem L158 : env.lib 158 = none := by show lookL 158 libs = _; simp [libs, lookL]
@[simp] theorem R158 : env.R 158 = [] := rfl
@[simp] theorem F159 : env.fns 159 = true := by kernel_rfl
@[simp] theorem M159_0 : env.M 159 0 = [.pv 7] := rfl
@[simp] theorem M159_1 : env.M 159 1 = [.pv 7] := rfl
theorem L159 : env.lib 159 = none := by show lookL 159 libs = _; simp [libs, lookL]
@[simp] theorem R159 : env.R 159 = [] := rfl
@[simp] theorem F160 : env.fns 160 = true := by kernel_rfl
@[simp] theorem M160_0 : env.M 160 0 = [.pv 7] := rfl
@[simp] theorem M160_1 : env.M 160 1 = [.pv 1] := rfl
theorem L160 : env.lib 160 = none := by show lookL 160 libs = _; simp [libs, lookL]
@[simp] theorem R160 : env.R 160 = [] := rfl
@[simp] theorem F161 : env.fns 161 = true := by kernel_rfl
@[simp] theorem M161_0 : env.M 161 0 = [.pv 1] := rfl
@[simp] theorem M161_1 : env.M 161 1 = [] := rfl
@[simp] theorem M161_2 : env.M 161 2 = [] := rfl
theorem L161 : env.lib 161 = none := by show lookL 161 libs = _; simp [libs, lookL]
@[simp] theorem R161 : env.R 161 = [] := rfl
@[simp] theorem F162 : env.fns 162 = true := by kernel_rfl
@[simp] theorem M162_0 : env.M 162 0 = [] := rfl
theorem L162 : env.lib 162 = none := by show lookL 162 libs = _; simp [libs, lookL]
@[simp] theorem R162 : env.R 162 = [] := rfl
@[simp] theorem F163 : env.fns 163 = true := by kernel_rfl
@[simp] theorem M163_0 : env.M 163 0 = [.own 1] := rfl
@[simp] theorem M163_1 : env.M 163 1 = [] := rfl
theorem L163 : env.lib 163 = none := by show lookL 163 libs = _; simp [libs, lookL]
@[simp] theorem R163 : env.R 163 = [[.own 1]] := rfl
@[simp] theorem F164 : env.fns 164 = true := by kernel_rfl
@[simp] theorem M164_0 : env.M 164 0 = [.own 1] := rfl
@[simp] theorem M164_1 : env.M 164 1 = [] := rfl
theorem L164 : env.lib 164 = none := by show lookL 164 libs = _; simp [libs, lookL]
@[simp] theorem R164 : env.R 164 = [[.own 1]] := rfl
@[simp] theorem F165 : env.fns 165 = true := by kernel_rfl
@[simp] theorem M165_0 : env.M 165 0 = [] := rfl
theorem L165 : env.lib 165 = none := by show lookL 165 libs = _; simp [libs, lookL]
@[simp] theorem R165 : env.R 165 = [] := rfl
@[simp] theorem F166 : env.fns 166 = true := by kernel_rfl
@[simp] theorem M166_0 : env.M 166 0 = [.pv 1] := rfl
theorem L166 : env.lib 166 = none := by show lookL 166 libs = _; simp [libs, lookL]
@[simp] theorem R166 : env.R 166 = [] := rfl
@[simp] theorem F167 : env.fns 167 = true := by kernel_rfl
@[simp] theorem M167_0 : env.M 167 0 = [] := rfl
theorem L167 : env.lib 167 = none := by show lookL 167 libs = _; simp [libs, lookL]
@[simp] theorem R167 : env.R 167 = [] := rfl
@[simp] theorem F168 : env.fns 168 = true := by kernel_rfl
@[simp] theorem M168_0 : env.M 168 0 = [] := rfl
@[simp] theorem M168_1 : env.M 168 1 = [] := rfl
theorem L168 : env.lib 168 = none := by show lookL 168 libs = _; simp [libs, lookL]
@[simp] theorem R168 : env.R 168 = [] := rfl
@[simp] theorem F169 : env.fns 169 = true := by kernel_rfl
@[simp] theorem M169_0 : env.M 169 0 = [] := rfl
theorem L169 : env.lib 169 = none := by show lookL 169 libs = _; simp [libs, lookL]
@[simp] theorem R169 : env.R 169 = [] := rfl
@[simp] theorem F170 : env.fns 170 = true := by kernel_rfl
@[simp] theorem M170_0 : env.M 170 0 = [.auto] := rfl
@[simp] theorem M170_1 : env.M 170 1 = [] := rfl
theorem L170 : env.lib 170 = none := by show lookL 170 libs = _; simp [libs, lookL]
@[simp] theorem R170 : env.R 170 = [] := rfl
@[simp] theorem F171 : env.fns 171 = true := by kernel_rfl
@[simp] theorem M171_0 : env.M 171 0 = [] := rfl
@[simp] theorem M171_1 : env.M 171 1 = [] := rfl
theorem L171 : env.lib 171 = none := by show lookL 171 libs = _; simp [libs, lookL]
@[simp] theorem R171 : env.R 171 = [] := rfl
@[simp] theorem F172 : env.fns 172 = true := by kernel_rfl
@[simp] theorem M172_0 : env.M 172 0 = [.pv 1] := rfl
theorem L172 : env.lib 172 = some (libClone 1 8) := by show lookL 172 libs = _; simp [libs, lookL]
@[simp] theorem F173 : env.fns 173 = true := by kernel_rfl
@[simp] theorem M173_0 : env.M 173 0 = [.pv 1] := rfl
theorem L173 : env.lib 173 = some (libClone 1 24) := by show lookL 173 libs = _; simp [libs, lookL]
@[simp] theorem F174 : env.fns 174 = true := by kernel_rfl
@[simp] theorem M174_0 : env.M 174 0 = [.pv 4] := rfl
theorem L174 : env.lib 174 = some (libClone 4 64) := by show lookL 174 libs = _; simp [libs, lookL]
@[simp] theorem F175 : env.fns 175 = true := by kernel_rfl
@[simp] theorem M175_0 : env.M 175 0 = [.pv 1, .pv 8] := rfl
@[simp] theorem M175_1 : env.M 175 1 = [.auto, .auto, .pv 1, .pv 7] := rfl
theorem L175 : env.lib 175 = none := by show lookL 175 libs = _; simp [libs, lookL]
@[simp] theorem R175 : env.R 175 = [] := rfl
@[simp] theorem F176 : env.fns 176 = true := by kernel_rfl
@[simp] theorem M176_0 : env.M 176 0 = [.pv 1, .pv 4] := rfl
@[simp] theorem M176_1 : env.M 176 1 = [.auto, .auto, .pv 1, .pv 7] := rfl
theorem L176 : env.lib 176 = none := by show lookL 176 libs = _; simp [libs, lookL]
@[simp] theorem R176 : env.R 176 = [] := rfl
@[simp] theorem F177 : env.fns 177 = true := by kernel_rfl
@[simp] theorem M177_0 : env.M 177 0 = [.pv 4] := rfl
@[simp] theorem M177_1 : env.M 177 1 = [] := rfl
@[simp] theorem M177_2 : env.M 177 2 = [] := rfl
theorem L177 : env.lib 177 = none := by show lookL 177 libs = _; simp [libs, lookL]
@[simp] theorem R177 : env.R 177 = [] := rfl
@[simp] theorem F178 : env.fns 178 = true := by kernel_rfl
@[simp] theorem M178_0 : env.M 178 0 = [.pv 1] := rfl
@[simp] theorem M178_1 : env.M 178 1 = [.pv 1] := rfl
theorem L178 : env.lib 178 = none := by show lookL 178 libs = _; simp [libs, lookL]
@[simp] theorem R178 : env.R 178 = [] := rfl
@[simp] theorem F179 : env.fns 179 = true := by kernel_rfl
@[simp] theorem M179_0 : env.M 179 0 = [.pv 4] := rfl
@[simp] theorem M179_1 : env.M 179 1 = [] := rfl
theorem L179 : env.lib 179 = none := by show lookL 179 libs = _; simp [libs, lookL]
@[simp] theorem R179 : env.R 179 = [] := rfl
@[simp] theorem F180 : env.fns 180 = true := by kernel_rfl
@[simp] theorem M180_0 : env.M 180 0 = [.auto, .auto, .pv 1, .pv 7] := rfl
theorem L180 : env.lib 180 = none := by show lookL 180 libs = _; simp [libs, lookL]
@[simp] theorem R180 : env.R 180 = [] := rfl
@[simp] theorem F181 : env.fns 181 = true := by kernel_rfl
@[simp] theorem M181_0 : env.M 181 0 = [.auto, .auto, .pv 1, .pv 7] := rfl
theorem L181 : env.lib 181 = none := by show lookL 181 libs = _; simp [libs, lookL]
@[simp] theorem R181 : env.R 181 = [] := rfl
@[simp] theorem F182 : env.fns 182 = true := by kernel_rfl
@[simp] theorem M182_0 : env.M 182 0 = [.pv 1] := rfl
@[simp] theorem M182_1 : env.M 182 1 = [.pv 1] := rfl
@[simp] theorem M182_2 : env.M 182 2 = [] := rfl
theorem L182 : env.lib 182 = none := by show lookL 182 libs = _; simp [libs, lookL]
@[simp] theorem R182 : env.R 182 = [] := rfl
@[simp] theorem F183 : env.fns 183 = true := by kernel_rfl
@[simp] theorem M183_0 : env.M 183 0 = [] := rfl
@[simp] theorem M183_1 : env.M 183 1 = [] := rfl
theorem L183 : env.lib 183 = none := by show lookL 183 libs = _; simp [libs, lookL]
@[simp] theorem R183 : env.R 183 = [] := rfl
@[simp] theorem F184 : env.fns 184 = true := by kernel_rfl
@[simp] theorem M184_0 : env.M 184 0 = [.pv 1, .pv 8] := rfl
@[simp] theorem M184_1 : env.M 184 1 = [.auto, .auto, .pv 1, .pv 7] := rfl
theorem L184 : env.lib 184 = none := by show lookL 184 libs = _; simp [libs, lookL]
@[simp] theorem R184 : env.R 184 = [] := rfl
@[simp] theorem F185 : env.fns 185 = true := by kernel_rfl
@[simp] theorem M185_0 : env.M 185 0 = [.pv 1, .pv 4] := rfl
@[simp] theorem M185_1 : env.M 185 1 = [.auto, .auto, .pv 1, .pv 7] := rfl
theorem L185 : env.lib 185 = none := by show lookL 185 libs = _; simp [libs, lookL]
@[simp] theorem R185 : env.R 185 = [] := rfl
@[simp] theorem F186 : env.fns 186 = true := by kernel_rfl
@[simp] theorem M186_0 : env.M 186 0 = [.pv 4] := rfl
theorem L186 : env.lib 186 = none := by show lookL 186 libs = _; simp [libs, lookL]
@[simp] theorem R186 : env.R 186 = [[.own 4]] := rfl
@[simp] theorem F187 : env.fns 187 = true := by kernel_rfl
@[simp] theorem M187_0 : env.M 187 0 = [.pv 1, .pv 4] := rfl
theorem L187 : env.lib 187 = none := by show lookL 187 libs = _; simp [libs, lookL]
@[simp] theorem R187 : env.R 187 = [] := rfl
@[simp] theorem F188 : env.fns 188 = true := by kernel_rfl
@[simp] theorem M188_0 : env.M 188 0 = [.pv 1] := rfl
@[simp] theorem M188_1 : env.M 188 1 = [] := rfl
theorem L188 : env.lib 188 = none := by show lookL 188 libs = _; simp [libs, lookL]
@[simp] theorem R188 : env.R 188 = [] := rfl
@[simp] theorem F189 : env.fns 189 = true := by kernel_rfl
@[simp] theorem M189_0 : env.M 189 0 = [.auto] := rfl
@[simp] theorem M189_1 : env.M 189 1 = [] := rfl
theorem L189 : env.lib 189 = none := by show lookL 189 libs = _; simp [libs, lookL]
@[simp] theorem R189 : env.R 189 = [] := rfl
@[simp] theorem F190 : env.fns 190 = true := by kernel_rfl
@[simp] theorem M190_0 : env.M 190 0 = [.pv 1] := rfl
@[simp] theorem M190_1 : env.M 190 1 = [.auto, .auto, .pv 1, .pv 7] := rfl
theorem L190 : env.lib 190 = none := by show lookL 190 libs = _; simp [libs, lookL]
@[simp] theorem R190 : env.R 190 = [] := rfl
@[simp] theorem F191 : env.fns 191 = true := by kernel_rfl
@[simp] theorem M191_0 : env.M 191 0 = [.pv 4] := rfl
@[simp] theorem M191_1 : env.M 191 1 = [] := rfl
theorem L191 : env.lib 191 = none := by show lookL 191 libs = _; simp [libs, lookL]
@[simp] theorem R191 : env.R 191 = [] := rfl
@[simp] theorem F192 : env.fns 192 = true := by kernel_rfl
@[simp] theorem M192_0 : env.M 192 0 = [.pv 1] := rfl
@[simp] theorem M192_1 : env.M 192 1 = [] := rfl
@[simp] theorem M192_2 : env.M 192 2 = [] := rfl
theorem L192 : env.lib 192 = none := by show lookL 192 libs = _; simp [libs, lookL]
@[simp] theorem R192 : env.R 192 = [] := rfl
@[simp] theorem F193 : env.fns 193 = true := by kernel_rfl
@[simp] theorem M193_0 : env.M 193 0 = [.auto, .auto, .pv 1, .pv 7] := rfl
theorem L193 : env.lib 193 = none := by show lookL 193 libs = _; simp [libs, lookL]
@[simp] theorem R193 : env.R 193 = [] := rfl
@[simp] theorem F194 : env.fns 194 = true := by kernel_rfl
@[simp] theorem M194_0 : env.M 194 0 = [.pv 7] := rfl
@[simp] theorem M194_1 : env.M 194 1 = [.pv 1] := rfl
theorem L194 : env.lib 194 = none := by show lookL 194 libs = _; simp [libs, lookL]
@[simp] theorem R194 : env.R 194 = [] := rfl
@[simp] theorem F195 : env.fns 195 = true := by kernel_rfl
@[simp] theorem M195_0 : env.M 195 0 = [.pv 8] := rfl
@[simp] theorem M195_1 : env.M 195 1 = [.pv 1] := rfl
theorem L195 : env.lib 195 = none := by show lookL 195 libs = _; simp [libs, lookL]
@[simp] theorem R195 : env.R 195 = [[.own 8]] := rfl
@[simp] theorem F196 : env.fns 196 = true := by kernel_rfl
@[simp] theorem M196_0 : env.M 196 0 = [.pv 1] := rfl
@[simp] theorem M196_1 : env.M 196 1 = [.pv 1] := rfl
theorem L196 : env.lib 196 = none := by show lookL 196 libs = _; simp [libs, lookL]
@[simp] theorem R196 : env.R 196 = [] := rfl
@[simp] theorem F197 : env.fns 197 = true := by kernel_rfl
@[simp] theorem M197_0 : env.M 197 0 = [.pv 1] := rfl
@[simp] theorem M197_1 : env.M 197 1 = [.auto, .auto, .pv 1, .pv 7] := rfl
theorem L197 : env.lib 197 = none := by show lookL 197 libs = _; simp [libs, lookL]
@[simp] theorem R197 : env.R 197 = [] := rfl
@[simp] theorem F198 : env.fns 198 = true := by kernel_rfl
@[simp] theorem M198_0 : env.M 198 0 = [.pv 1] := rfl
theorem L198 : env.lib 198 = none := by show lookL 198 libs = _; simp [libs, lookL]
@[simp] theorem R198 : env.R 198 = [] := rfl
@[simp] theorem F199 : env.fns 199 = true := by kernel_rfl
@[simp] theorem M199_0 : env.M 199 0 = [] := rfl
theorem L199 : env.lib 199 = none := by show lookL 199 libs = _; simp [libs, lookL]
@[simp] theorem R199 : env.R 199 = [] := rfl
@[simp] theorem F202 : env.fns 202 = true := by kernel_rfl
@[simp] theorem M202_0 : env.M 202 0 = [.pv 1] := rfl
theorem L202 : env.lib 202 = none := by show lookL 202 libs = _; simp [libs, lookL]
@[simp] theorem R202 : env.R 202 = [] := rfl
@[simp] theorem F203 : env.fns 203 = true := by kernel_rfl
@[simp] theorem M203_0 : env.M 203 0 = [] := rfl
@[simp] theorem M203_1 : env.M 203 1 = [] := rfl
theorem L203 : env.lib 203 = none := by show lookL 203 libs = _; simp [libs, lookL]
@[simp] theorem R203 : env.R 203 = [] := rfl
@[simp] theorem F204 : env.fns 204 = true := by kernel_rfl
@[simp] theorem M204_0 : env.M 204 0 = [] := rfl
@[simp] theorem M204_1 : env.M 204 1 = [] := rfl
theorem L204 : env.lib 204 = none := by show lookL 204 libs = _; simp [libs, lookL]
@[simp] theorem R204 : env.R 204 = [] := rfl
@[simp] theorem F205 : env.fns 205 = true := by kernel_rfl
@[simp] theorem M205_0 : env.M 205 0 = [] := rfl
@[simp] theorem M205_1 : env.M 205 1 = [] := rfl
theorem L205 : env.lib 205 = none := by show lookL 205 libs = _; simp [libs, lookL]
@[simp] theorem R205 : env.R 205 = [] := rfl
@[simp] theorem F206 : env.fns 206 = true := by kernel_rfl
@[simp] theorem M206_0 : env.M 206 0 = [] := rfl
@[simp] theorem M206_1 : env.M 206 1 = [] := rfl
@[simp] theorem M206_2 : env.M 206 2 = [.auto, .auto, .auto, .auto, .auto, .auto, .pv 3] := rfl
theorem L206 : env.lib 206 = none := by show lookL 206 libs = _; simp [libs, lookL]
@[simp] theorem R206 : env.R 206 = [] := rfl
@[simp] theorem F207 : env.fns 207 = true := by kernel_rfl
@[simp] theorem M207_0 : env.M 207 0 = [.pv 3] := rfl
@[simp] theorem M207_1 : env.M 207 1 = [] := rfl
theorem L207 : env.lib 207 = none := by show lookL 207 libs = _; simp [libs, lookL]
@[simp] theorem R207 : env.R 207 = [] := rfl
@[simp] theorem F208 : env.fns 208 = true := by kernel_rfl
@[simp] theorem M208_0 : env.M 208 0 = [] := rfl
theorem L208 : env.lib 208 = none := by show lookL 208 libs = _; simp [libs, lookL]
@[simp] theorem R208 : env.R 208 = [] := rfl
@[simp] theorem F209 : env.fns 209 = true := by kernel_rfl
@[simp] theorem M209_0 : env.M 209 0 = [.pv 1] := rfl
theorem L209 : env.lib 209 = none := by show lookL 209 libs = _; simp [libs, lookL]
@[simp] theorem R209 : env.R 209 = [] := rfl
@[simp] theorem F210 : env.fns 210 = true := by kernel_rfl
@[simp] theorem M210_0 : env.M 210 0 = [] := rfl
@[simp] theorem M210_1 : env.M 210 1 = [] := rfl
@[simp] theorem M210_2 : env.M 210 2 = [.auto, .auto, .auto, .auto, .auto, .auto, .pv 3] := rfl
theorem L210 : env.lib 210 = none := by show lookL 210 libs = _; simp [libs, lookL]
@[simp] theorem R210 : env.R 210 = [] := rfl
@[simp] theorem F211 : env.fns 211 = true := by kernel_rfl
@[simp] theorem M211_0 : env.M 211 0 = [.pv 3] := rfl
@[simp] theorem M211_1 : env.M 211 1 = [.pv 3] := rfl
theorem L211 : env.lib 211 = none := by show lookL 211 libs = _; simp [libs, lookL]
@[simp] theorem R211 : env.R 211 = [] := rfl
@[simp] theorem F212 : env.fns 212 = true := by kernel_rfl
@[simp] theorem M212_0 : env.M 212 0 = [.pv 1] := rfl
theorem L212 : env.lib 212 = none := by show lookL 212 libs = _; simp [libs, lookL]
@[simp] theorem R212 : env.R 212 = [] := rfl
@[simp] theorem F213 : env.fns 213 = true := by kernel_rfl
@[simp] theorem M213_0 : env.M 213 0 = [] := rfl
theorem L213 : env.lib 213 = none := by show lookL 213 libs = _; simp [libs, lookL]
@[simp] theorem R213 : env.R 213 = [] := rfl
@[simp] theorem F214 : env.fns 214 = true := by kernel_rfl
@[simp] theorem M214_0 : env.M 214 0 = [] := rfl
theorem L214 : env.lib 214 = none := by show lookL 214 libs = _; simp [libs, lookL]
@[simp] theorem R214 : env.R 214 = [] := rfl
@[simp] theorem F215 : env.fns 215 = true := by kernel_rfl
@[simp] theorem M215_0 : env.M 215 0 = [.pv 8] := rfl
@[simp] theorem M215_1 : env.M 215 1 = [] := rfl
@[simp] theorem M215_2 : env.M 215 2 = [] := rfl
@[simp] theorem M215_3 : env.M 215 3 = [.pv 7] := rfl
theorem L215 : env.lib 215 = none := by show lookL 215 libs = _; simp [libs, lookL]
@[simp] theorem R215 : env.R 215 = [[.own 8]] := rfl
@[simp] theorem F216 : env.fns 216 = true := by kernel_rfl
@[simp] theorem M216_0 : env.M 216 0 = [.auto, .auto, .pv 1, .pv 7] := rfl
theorem L216 : env.lib 216 = none := by show lookL 216 libs = _; simp [libs, lookL]
@[simp] theorem R216 : env.R 216 = [] := rfl
@[simp] theorem F217 : env.fns 217 = true := by kernel_rfl
@[simp] theorem M217_0 : env.M 217 0 = [] := rfl
@[simp] theorem M217_1 : env.M 217 1 = [] := rfl
theorem L217 : env.lib 217 = none := by show lookL 217 libs = _; simp [libs, lookL]
@[simp] theorem R217 : env.R 217 = [] := rfl
@[simp] theorem F218 : env.fns 218 = true := by kernel_rfl
@[simp] theorem M218_0 : env.M 218 0 = [.pv 8] := rfl
@[simp] theorem M218_1 : env.M 218 1 = [] := rfl
@[simp] theorem M218_2 : env.M 218 2 = [] := rfl
@[simp] theorem M218_3 : env.M 218 3 = [.pv 7] := rfl
theorem L218 : env.lib 218 = none := by show lookL 218 libs = _; simp [libs, lookL]
@[simp] theorem R218 : env.R 218 = [] := rfl
@[simp] theorem F219 : env.fns 219 = true := by kernel_rfl
@[simp] theorem M219_0 : env.M 219 0 = [.pv 1] := rfl
theorem L219 : env.lib 219 = none := by show lookL 219 libs = _; simp [libs, lookL]
@[simp] theorem R219 : env.R 219 = [] := rfl
@[simp] theorem F220 : env.fns 220 = true := by kernel_rfl
@[simp] theorem M220_0 : env.M 220 0 = [.pv 7] := rfl
theorem L220 : env.lib 220 = none := by show lookL 220 libs = _; simp [libs, lookL]
@[simp] theorem R220 : env.R 220 = [] := rfl
@[simp] theorem F221 : env.fns 221 = true := by kernel_rfl
@[simp] theorem M221_0 : env.M 221 0 = [.pv 3] := rfl
theorem L221 : env.lib 221 = some (libClone 3 24) := by show lookL 221 libs = _; simp [libs, lookL]
@[simp] theorem F222 : env.fns 222 = true := by kernel_rfl
@[simp] theorem M222_0 : env.M 222 0 = [] := rfl
theorem L222 : env.lib 222 = none := by show lookL 222 libs = _; simp [libs, lookL]
@[simp] theorem R222 : env.R 222 = [] := rfl
@[simp] theorem F223 : env.fns 223 = true := by kernel_rfl
@[simp] theorem M223_0 : env.M 223 0 = [.pv 1] := rfl
theorem L223 : env.lib 223 = some (libClone 1 16) := by show lookL 223 libs = _; simp [libs, lookL]
@[simp] theorem F224 : env.fns 224 = true := by kernel_rfl
@[simp] theorem M224_0 : env.M 224 0 = [.own 1] := rfl
theorem L224 : env.lib 224 = some (Lib.libSort) := by show lookL 224 libs = _; simp [libs, lookL]
@[simp] theorem F225 : env.fns 225 = true := by kernel_rfl
@[simp] theorem M225_0 : env.M 225 0 = [.own 1] := rfl
theorem L225 : env.lib 225 = some (Lib.libCompact) := by show lookL 225 libs = _; simp [libs, lookL]
@[simp] theorem F236 : env.fns 236 = true := by kernel_rfl
@[simp] theorem M236_0 : env.M 236 0 = [] := rfl
theorem L236 : env.lib 236 = none := by show lookL 236 libs = _; simp [libs, lookL]
@[simp] theorem R236 : env.R 236 = [] := rfl
@[simp] theorem F237 : env.fns 237 = true := by kernel_rfl
@[simp] theorem M237_0 : env.M 237 0 = [] := rfl
theorem L237 : env.lib 237 = none := by show lookL 237 libs = _; simp [libs, lookL]
@[simp] theorem R237 : env.R 237 = [] := rfl
@[simp] theorem F238 : env.fns 238 = true := by kernel_rfl
@[simp] theorem M238_0 : env.M 238 0 = [] := rfl
theorem L238 : env.lib 238 = none := by show lookL 238 libs = _; simp [libs, lookL]
@[simp] theorem R238 : env.R 238 = [] := rfl
@[simp] theorem F239 : env.fns 239 = true := by kernel_rfl
@[simp] theorem M239_0 : env.M 239 0 = [] := rfl
theorem L239 : env.lib 239 = none := by show lookL 239 libs = _; simp [libs, lookL]
@[simp] theorem R239 : env.R 239 = [] := rfl
@[simp] theorem F240 : env.fns 240 = true := by kernel_rfl
@[simp] theorem M240_0 : env.M 240 0 = [] := rfl
@[simp] theorem M240_1 : env.M 240 1 = [] := rfl
theorem L240 : env.lib 240 = none := by show lookL 240 libs = _; simp [libs, lookL]
@[simp] theorem R240 : env.R 240 = [] := rfl
@[simp] theorem F241 : env.fns 241 = true := by kernel_rfl
@[simp] theorem M241_0 : env.M 241 0 = [] := rfl
@[simp] theorem M241_1 : env.M 241 1 = [] := rfl
@[simp] theorem M241_2 : env.M 241 2 = [.auto, .auto, .auto, .auto, .auto, .auto, .pv 3] := rfl
theorem L241 : env.lib 241 = none := by show lookL 241 libs = _; simp [libs, lookL]
@[simp] theorem R241 : env.R 241 = [] := rfl
@[simp] theorem F242 : env.fns 242 = true := by kernel_rfl
@[simp] theorem M242_0 : env.M 242 0 = [.auto] := rfl
@[simp] theorem M242_1 : env.M 242 1 = [] := rfl
theorem L242 : env.lib 242 = none := by show lookL 242 libs = _; simp [libs, lookL]
@[simp] theorem R242 : env.R 242 = [] := rfl
@[simp] theorem F243 : env.fns 243 = true := by kernel_rfl
@[simp] theorem M243_0 : env.M 243 0 = [] := rfl
theorem L243 : env.lib 243 = none := by show lookL 243 libs = _; simp [libs, lookL]
@[simp] theorem R243 : env.R 243 = [] := rfl
@[simp] theorem F244 : env.fns 244 = true := by kernel_rfl
@[simp] theorem M244_0 : env.M 244 0 = [] := rfl
@[simp] theorem M244_1 : env.M 244 1 = [] := rfl
theorem L244 : env.lib 244 = none := by show lookL 244 libs = _; simp [libs, lookL]
@[simp] theorem R244 : env.R 244 = [] := rfl
@[simp] theorem F245 : env.fns 245 = true := by kernel_rfl
@[simp] theorem M245_0 : env.M 245 0 = [] := rfl
@[simp] theorem M245_1 : env.M 245 1 = [] := rfl
@[simp] theorem M245_2 : env.M 245 2 = [.auto, .auto, .auto, .auto, .auto, .auto, .pv 3] := rfl
theorem L245 : env.lib 245 = none := by show lookL 245 libs = _; simp [libs, lookL]
@[simp] theorem R245 : env.R 245 = [] := rfl
@[simp] theorem F246 : env.fns 246 = true := by kernel_rfl
@[simp] theorem M246_0 : env.M 246 0 = [.pv 8] := rfl
@[simp] theorem M246_1 : env.M 246 1 = [.pv 3] := rfl
theorem L246 : env.lib 246 = none := by show lookL 246 libs = _; simp [libs, lookL]
@[simp] theorem R246 : env.R 246 = [[.own 8]] := rfl
@[simp] theorem F247 : env.fns 247 = true := by kernel_rfl
@[simp] theorem M247_0 : env.M 247 0 = [.pv 8] := rfl
theorem L247 : env.lib 247 = none := by show lookL 247 libs = _; simp [libs, lookL]
@[simp] theorem R247 : env.R 247 = [[.own 8]] := rfl
@[simp] theorem F248 : env.fns 248 = true := by kernel_rfl
@[simp] theorem M248_0 : env.M 248 0 = [.pv 8] := rfl
@[simp] theorem M248_1 : env.M 248 1 = [.pv 3] := rfl
theorem L248 : env.lib 248 = none := by show lookL 248 libs = _; simp [libs, lookL]
@[simp] theorem R248 : env.R 248 = [[.own 8]] := rfl
@[simp] theorem F255 : env.fns 255 = true := by kernel_rfl
@[simp] theorem M255_0 : env.M 255 0 = [] := rfl
theorem L255 : env.lib 255 = none := by show lookL 255 libs = _; simp [libs, lookL]
@[simp] theorem R255 : env.R 255 = [] := rfl
@[simp] theorem F256 : env.fns 256 = true := by kernel_rfl
@[simp] theorem M256_0 : env.M 256 0 = [.auto] := rfl
@[simp] theorem M256_1 : env.M 256 1 = [] := rfl
theorem L256 : env.lib 256 = none := by show lookL 256 libs = _; simp [libs, lookL]
@[simp] theorem R256 : env.R 256 = [] := rfl
@[simp] theorem F257 : env.fns 257 = true := by kernel_rfl
@[simp] theorem M257_0 : env.M 257 0 = [.pv 3] := rfl
@[simp] theorem M257_1 : env.M 257 1 = [] := rfl
theorem L257 : env.lib 257 = none := by show lookL 257 libs = _; simp [libs, lookL]
@[simp] theorem R257 : env.R 257 = [] := rfl
@[simp] theorem F268 : env.fns 268 = true := by kernel_rfl
@[simp] theorem M268_0 : env.M 268 0 = [.auto] := rfl
@[simp] theorem M268_1 : env.M 268 1 = [] := rfl
theorem L268 : env.lib 268 = none := by show lookL 268 libs = _; simp [libs, lookL]
@[simp] theorem R268 : env.R 268 = [] := rfl
@[simp] theorem P3_6 : env.plain 3 6 = false := by kernel_rfl
@[simp] theorem P6_7 : env.plain 6 7 = false := by kernel_rfl
@[simp] theorem P7_8 : env.plain 7 8 = false := by kernel_rfl
@[simp] theorem P7_13 : env.plain 7 13 = false := by kernel_rfl
@[simp] theorem P7_18 : env.plain 7 18 = false := by kernel_rfl
@[simp] theorem P8_14 : env.plain 8 14 = false := by kernel_rfl
@[simp] theorem P8_15 : env.plain 8 15 = false := by kernel_rfl
@[simp] theorem P8_19 : env.plain 8 19 = false := by kernel_rfl
@[simp] theorem P9_6 : env.plain 9 6 = false := by kernel_rfl
@[simp] theorem P9_9 : env.plain 9 9 = false := by kernel_rfl
@[simp] theorem P10_6 : env.plain 10 6 = false := by kernel_rfl
@[simp] theorem P11_18 : env.plain 11 18 = false := by kernel_rfl
@[simp] theorem P11_26 : env.plain 11 26 = false := by kernel_rfl
@[simp] theorem P13_15 : env.plain 13 15 = false := by kernel_rfl
@[simp] theorem P16_20 : env.plain 16 20 = false := by kernel_rfl
@[simp] theorem P16_27 : env.plain 16 27 = false := by kernel_rfl
@[simp] theorem P17_3 : env.plain 17 3 = false := by kernel_rfl
@[simp] theorem P18_27 : env.plain 18 27 = false := by kernel_rfl
@[simp] theorem P18_29 : env.plain 18 29 = false := by kernel_rfl
@[simp] theorem P18_39 : env.plain 18 39 = false := by kernel_rfl
@[simp] theorem P19_6 : env.plain 19 6 = true := by kernel_rfl
@[simp] theorem P20_4 : env.plain 20 4 = false := by kernel_rfl
@[simp] theorem P20_10 : env.plain 20 10 = false := by kernel_rfl
@[simp] theorem P20_11 : env.plain 20 11 = false := by kernel_rfl
@[simp] theorem P21_8 : env.plain 21 8 = false := by kernel_rfl
@[simp] theorem P26_1 : env.plain 26 1 = false := by kernel_rfl
@[simp] theorem P29_6 : env.plain 29 6 = false := by kernel_rfl
@[simp] theorem P32_12 : env.plain 32 12 = false := by kernel_rfl
@[simp] theorem P32_14 : env.plain 32 14 = false := by kernel_rfl
@[simp] theorem P34_16 : env.plain 34 16 = false := by kernel_rfl
@[simp] theorem P35_7 : env.plain 35 7 = false := by kernel_rfl
@[simp] theorem P36_1 : env.plain 36 1 = false := by kernel_rfl
@[simp] theorem P36_3 : env.plain 36 3 = false := by kernel_rfl
@[simp] theorem P37_1 : env.plain 37 1 = false := by kernel_rfl
@[simp] theorem P38_6 : env.plain 38 6 = true := by kernel_rfl
@[simp] theorem P40_14 : env.plain 40 14 = false := by kernel_rfl
@[simp] theorem P40_18 : env.plain 40 18 = false := by kernel_rfl
@[simp] theorem P41_6 : env.plain 41 6 = true := by kernel_rfl
@[simp] theorem P43_7 : env.plain 43 7 = false := by kernel_rfl
@[simp] theorem P44_1 : env.plain 44 1 = false := by kernel_rfl
@[simp] theorem P45_6 : env.plain 45 6 = true := by kernel_rfl
@[simp] theorem P46_11 : env.plain 46 11 = false := by kernel_rfl
@[simp] theorem P47_6 : env.plain 47 6 = false := by kernel_rfl
@[simp] theorem P48_13 : env.plain 48 13 = false := by kernel_rfl
@[simp] theorem P48_16 : env.plain 48 16 = false := by kernel_rfl
@[simp] theorem P64_6 : env.plain 64 6 = true := by kernel_rfl
@[simp] theorem P67_3 : env.plain 67 3 = false := by kernel_rfl
@[simp] theorem P75_6 : env.plain 75 6 = true := by kernel_rfl
@[simp] theorem P76_9 : env.plain 76 9 = false := by kernel_rfl
@[simp] theorem P77_1 : env.plain 77 1 = false := by kernel_rfl
@[simp] theorem P77_8 : env.plain 77 8 = false := by kernel_rfl
@[simp] theorem P78_1 : env.plain 78 1 = false := by kernel_rfl
@[simp] theorem P87_1 : env.plain 87 1 = false := by kernel_rfl
@[simp] theorem P87_11 : env.plain 87 11 = false := by kernel_rfl
@[simp] theorem P87_12 : env.plain 87 12 = false := by kernel_rfl
@[simp] theorem P87_16 : env.plain 87 16 = false := by kernel_rfl
@[simp] theorem P93_5 : env.plain 93 5 = false := by kernel_rfl
@[simp] theorem P93_9 : env.plain 93 9 = false := by kernel_rfl
@[simp] theorem P93_14 : env.plain 93 14 = false := by kernel_rfl
@[simp] theorem P93_15 : env.plain 93 15 = false := by kernel_rfl
@[simp] theorem P95_6 : env.plain 95 6 = false := by kernel_rfl
@[simp] theorem P103_13 : env.plain 103 13 = false := by kernel_rfl
@[simp] theorem P104_5 : env.plain 104 5 = false := by kernel_rfl
@[simp] theorem P104_6 : env.plain 104 6 = false := by kernel_rfl
@[simp] theorem P104_9 : env.plain 104 9 = false := by kernel_rfl
@[simp] theorem P105_1 : env.plain 105 1 = false := by kernel_rfl
@[simp] theorem P105_2 : env.plain 105 2 = false := by kernel_rfl
@[simp] theorem P109_10 : env.plain 109 10 = false := by kernel_rfl
@[simp] theorem P109_11 : env.plain 109 11 = false := by kernel_rfl
@[simp] theorem P109_13 : env.plain 109 13 = false := by kernel_rfl
@[simp] theorem P111_1 : env.plain 111 1 = false := by kernel_rfl
@[simp] theorem P112_6 : env.plain 112 6 = true := by kernel_rfl
@[simp] theorem P125_6 : env.plain 125 6 = true := by kernel_rfl
@[simp] theorem P127_1 : env.plain 127 1 = false := by kernel_rfl
@[simp] theorem P128_6 : env.plain 128 6 = true := by kernel_rfl
@[simp] theorem P143_1 : env.plain 143 1 = false := by kernel_rfl
@[simp] theorem P148_4 : env.plain 148 4 = false := by kernel_rfl
@[simp] theorem P152_11 : env.plain 152 11 = false := by kernel_rfl
@[simp] theorem P156_2 : env.plain 156 2 = false := by kernel_rfl
@[simp] theorem P156_5 : env.plain 156 5 = false := by kernel_rfl
@[simp] theorem P157_6 : env.plain 157 6 = true := by kernel_rfl
@[simp] theorem P157_12 : env.plain 157 12 = true := by kernel_rfl
@[simp] theorem P158_9 : env.plain 158 9 = false := by kernel_rfl
@[simp] theorem P159_6 : env.plain 159 6 = false := by kernel_rfl
@[simp] theorem P169_4 : env.plain 169 4 = false := by kernel_rfl
@[simp] theorem P175_3 : env.plain 175 3 = false := by kernel_rfl
@[simp] theorem P175_7 : env.plain 175 7 = false := by kernel_rfl
@[simp] theorem P176_10 : env.plain 176 10 = false := by kernel_rfl
@[simp] theorem P177_5 : env.plain 177 5 = false := by kernel_rfl
@[simp] theorem P180_1 : env.plain 180 1 = false := by kernel_rfl
@[simp] theorem P184_3 : env.plain 184 3 = false := by kernel_rfl
@[simp] theorem P184_7 : env.plain 184 7 = false := by kernel_rfl
@[simp] theorem P190_1 : env.plain 190 1 = false := by kernel_rfl
@[simp] theorem P193_1 : env.plain 193 1 = false := by kernel_rfl
@[simp] theorem P197_1 : env.plain 197 1 = false := by kernel_rfl
@[simp] theorem P206_6 : env.plain 206 6 = false := by kernel_rfl
@[simp] theorem P209_6 : env.plain 209 6 = true := by kernel_rfl
@[simp] theorem P210_6 : env.plain 210 6 = false := by kernel_rfl
@[simp] theorem P211_6 : env.plain 211 6 = true := by kernel_rfl
@[simp] theorem P212_8 : env.plain 212 8 = true := by kernel_rfl
@[simp] theorem P240_1 : env.plain 240 1 = false := by kernel_rfl
@[simp] theorem P257_4 : env.plain 257 4 = true := by kernel_rfl
@[simp] theorem P268_4 : env.plain 268 4 = true := by kernel_rfl
@[simp] theorem H7_4 : env.hint 7 4 = some ⟨[(1, []), (4, []), (5, [])], [(1, []), (2, []), (4, [])]⟩ := rfl
@[simp] abbrev hd7_4 (ys : List V1) (os : List Upd) : St := ⟨mkS 122 [(1, []), (4, []), (5, [])] ys, os⟩
@[simp] abbrev ex7_4 (ys : List V1) (os : List Upd) : St := ⟨mkS 122 [(1, []), (2, []), (4, [])] ys, os⟩
@[simp] theorem H7_2 : env.hint 7 2 = some ⟨[(1, []), (4, [])], [(2, [])]⟩ := rfl
@[simp] abbrev hd7_2 (ys : List V1) (os : List Upd) : St := ⟨mkS 122 [(1, []), (4, [])] ys, os⟩
@[simp] abbrev ex7_2 (ys : List V1) (os : List Upd) : St := ⟨mkS 122 [(2, [])] ys, os⟩
@[simp] theorem H7_0 : env.hint 7 0 = some ⟨[(1, []), (3, [])], [(1, []), (2, [])]⟩ := rfl
@[simp] abbrev hd7_0 (ys : List V1) (os : List Upd) : St := ⟨mkS 122 [(1, []), (3, [])] ys, os⟩
@[simp] abbrev ex7_0 (ys : List V1) (os : List Upd) : St := ⟨mkS 122 [(1, []), (2, [])] ys, os⟩
@[simp] theorem H8_0 : env.hint 8 0 = some ⟨[(2, []), (7, []), (9, []), (10, [])], [(6, [])]⟩ := rfl
@[simp] abbrev hd8_0 (ys : List V1) (os : List Upd) : St := ⟨mkS 103 [(2, []), (7, []), (9, []), (10, [])] ys, os⟩
@[simp] abbrev ex8_0 (ys : List V1) (os : List Upd) : St := ⟨mkS 103 [(6, [])] ys, os⟩
@[simp] theorem H11_4 : env.hint 11 4 = some ⟨[(9, []), (16, []), (19, []), (20, [])], [(9, []), (10, []), (16, []), (19, [])]⟩ := rfl
@[simp] abbrev hd11_4 (ys : List V1) (os : List Upd) : St := ⟨mkS 161 [(9, []), (16, []), (19, []), (20, [])] ys, os⟩
@[simp] abbrev ex11_4 (ys : List V1) (os : List Upd) : St := ⟨mkS 161 [(9, []), (10, []), (16, []), (19, [])] ys, os⟩
@[simp] theorem H11_2 : env.hint 11 2 = some ⟨[(9, []), (16, []), (19, [])], [(9, []), (10, []), (16, [])]⟩ := rfl
@[simp] abbrev hd11_2 (ys : List V1) (os : List Upd) : St := ⟨mkS 161 [(9, []), (16, []), (19, [])] ys, os⟩
@[simp] abbrev ex11_2 (ys : List V1) (os : List Upd) : St := ⟨mkS 161 [(9, []), (10, []), (16, [])] ys, os⟩
@[simp] theorem H11_0 : env.hint 11 0 = some ⟨[(9, []), (16, []), (18, [])], [(9, []), (10, []), (16, [])]⟩ := rfl
@[simp] abbrev hd11_0 (ys : List V1) (os : List Upd) : St := ⟨mkS 161 [(9, []), (16, []), (18, [])] ys, os⟩
@[simp] abbrev ex11_0 (ys : List V1) (os : List Upd) : St := ⟨mkS 161 [(9, []), (10, []), (16, [])] ys, os⟩
@[simp] theorem H16_2 : env.hint 16 2 = some ⟨[(4, [.ptr [.pv 1]]), (101, []), (102, []), (103, [])], [(4, [.ptr [.pv 1]])]⟩ := rfl
@[simp] abbrev hd16_2 (ys : List V1) (os : List Upd) : St := ⟨mkS 124 [(4, [.ptr [.pv 1]]), (101, []), (102, []), (103, [])] ys, os⟩
@[simp] abbrev ex16_2 (ys : List V1) (os : List Upd) : St := ⟨mkS 124 [(4, [.ptr [.pv 1]])] ys, os⟩
@[simp] theorem H16_0 : env.hint 16 0 = some ⟨[(1, []), (4, [.ptr [.pv 1]]), (48, []), (49, []), (50, [])], [(1, []), (4, [.ptr [.pv 1]])]⟩ := rfl
@[simp] abbrev hd16_0 (ys : List V1) (os : List Upd) : St := ⟨mkS 124 [(1, []), (4, [.ptr [.pv 1]]), (48, []), (49, []), (50, [])] ys, os⟩
@[simp] abbrev ex16_0 (ys : List V1) (os : List Upd) : St := ⟨mkS 124 [(1, []), (4, [.ptr [.pv 1]])] ys, os⟩
@[simp] theorem H17_2 : env.hint 17 2 = some ⟨[(1, []), (91, []), (92, []), (93, [])], [(1, []), (2, [])]⟩ := rfl
@[simp] abbrev hd17_2 (ys : List V1) (os : List Upd) : St := ⟨mkS 124 [(1, []), (91, []), (92, []), (93, [])] ys, os⟩
@[simp] abbrev ex17_2 (ys : List V1) (os : List Upd) : St := ⟨mkS 124 [(1, []), (2, [])] ys, os⟩
@[simp] theorem H17_0 : env.hint 17 0 = some ⟨[(1, []), (64, []), (65, []), (66, [])], [(1, []), (2, [])]⟩ := rfl
@[simp] abbrev hd17_0 (ys : List V1) (os : List Upd) : St := ⟨mkS 124 [(1, []), (64, []), (65, []), (66, [])] ys, os⟩
@[simp] abbrev ex17_0 (ys : List V1) (os : List Upd) : St := ⟨mkS 124 [(1, []), (2, [])] ys, os⟩
@[simp] theorem H18_5 : env.hint 18 5 = some ⟨[(1, []), (8, []), (9, [])], [(1, []), (2, []), (8, [])]⟩ := rfl
@[simp] abbrev hd18_5 (ys : List V1) (os : List Upd) : St := ⟨mkS 201 [(1, []), (8, []), (9, [])] ys, os⟩
@[simp] abbrev ex18_5 (ys : List V1) (os : List Upd) : St := ⟨mkS 201 [(1, []), (2, []), (8, [])] ys, os⟩
@[simp] theorem H18_3 : env.hint 18 3 = some ⟨[(1, []), (6, [])], [(1, []), (2, [])]⟩ := rfl
@[simp] abbrev hd18_3 (ys : List V1) (os : List Upd) : St := ⟨mkS 201 [(1, []), (6, [])] ys, os⟩
@[simp] abbrev ex18_3 (ys : List V1) (os : List Upd) : St := ⟨mkS 201 [(1, []), (2, [])] ys, os⟩
@[simp] theorem H18_1 : env.hint 18 1 = some ⟨[(1, []), (3, []), (4, []), (5, [])], [(1, []), (2, [])]⟩ := rfl
@[simp] abbrev hd18_1 (ys : List V1) (os : List Upd) : St := ⟨mkS 201 [(1, []), (3, []), (4, []), (5, [])] ys, os⟩
@[simp] abbrev ex18_1 (ys : List V1) (os : List Upd) : St := ⟨mkS 201 [(1, []), (2, [])] ys, os⟩
@[simp] theorem H19_0 : env.hint 19 0 = some ⟨[(0, []), (1, []), (5, [])], [(4, [])]⟩ := rfl
@[simp] abbrev hd19_0 (ys : List V1) (os : List Upd) : St := ⟨mkS 26 [(0, []), (1, []), (5, [])] ys, os⟩
@[simp] abbrev ex19_0 (ys : List V1) (os : List Upd) : St := ⟨mkS 26 [(4, [])] ys, os⟩
@[simp] theorem H20_2 : env.hint 20 2 = some ⟨[(1, []), (4, [.own 1]), (7, [])], [(4, [.own 1])]⟩ := rfl
@[simp] abbrev hd20_2 (ys : List V1) (os : List Upd) : St := ⟨mkS 98 [(1, []), (4, [.own 1]), (7, [])] ys, os⟩
@[simp] abbrev ex20_2 (ys : List V1) (os : List Upd) : St := ⟨mkS 98 [(4, [.own 1])] ys, os⟩
@[simp] theorem H20_0 : env.hint 20 0 = some ⟨[(1, []), (4, []), (5, [])], [(1, []), (4, [])]⟩ := rfl
@[simp] abbrev hd20_0 (ys : List V1) (os : List Upd) : St := ⟨mkS 98 [(1, []), (4, []), (5, [])] ys, os⟩
@[simp] abbrev ex20_0 (ys : List V1) (os : List Upd) : St := ⟨mkS 98 [(1, []), (4, [])] ys, os⟩
@[simp] theorem H21_2 : env.hint 21 2 = some ⟨[(2, []), (4, []), (5, [.ptr [.auto, .auto, .auto, .auto, .auto, .auto, .auto, .auto, .own 4]]), (6, []), (48, []), (49, [])], [(2, []), (4, []), (5, [.ptr [.auto, .auto, .auto, .auto, .auto, .auto, .auto, .auto, .own 4]]), (6, [])]⟩ := rfl
@[simp] abbrev hd21_2 (ys : List V1) (os : List Upd) : St := ⟨mkS 94 [(2, []), (4, []), (5, [.ptr [.auto, .auto, .auto, .auto, .auto, .auto, .auto, .auto, .own 4]]), (6, []), (48, []), (49, [])] ys, os⟩
@[simp] abbrev ex21_2 (ys : List V1) (os : List Upd) : St := ⟨mkS 94 [(2, []), (4, []), (5, [.ptr [.auto, .auto, .auto, .auto, .auto, .auto, .auto, .auto, .own 4]]), (6, [])] ys, os⟩
@[simp] theorem H21_0 : env.hint 21 0 = some ⟨[(2, []), (4, []), (5, [.ptr [.auto, .auto, .auto, .auto, .auto, .auto, .auto, .own 8, .auto]]), (6, []), (36, []), (37, [])], [(2, []), (4, []), (5, [.ptr [.auto, .auto, .auto, .auto, .auto, .auto, .auto, .own 8, .auto]]), (6, [])]⟩ := rfl
@[simp] abbrev hd21_0 (ys : List V1) (os : List Upd) : St := ⟨mkS 94 [(2, []), (4, []), (5, [.ptr [.auto, .auto, .auto, .auto, .auto, .auto, .auto, .own 8, .auto]]), (6, []), (36, []), (37, [])] ys, os⟩
@[simp] abbrev ex21_0 (ys : List V1) (os : List Upd) : St := ⟨mkS 94 [(2, []), (4, []), (5, [.ptr [.auto, .auto, .auto, .auto, .auto, .auto, .auto, .own 8, .auto]]), (6, [])] ys, os⟩
@[simp] theorem H29_0 : env.hint 29 0 = some ⟨[(2, []), (3, []), (5, [])], [(4, [])]⟩ := rfl
@[simp] abbrev hd29_0 (ys : List V1) (os : List Upd) : St := ⟨mkS 62 [(2, []), (3, []), (5, [])] ys, os⟩
@[simp] abbrev ex29_0 (ys : List V1) (os : List Upd) : St := ⟨mkS 62 [(4, [])] ys, os⟩
@[simp] theorem H31_0 : env.hint 31 0 = some ⟨[(0, []), (3, [])], [(2, [])]⟩ := rfl
@[simp] abbrev hd31_0 (ys : List V1) (os : List Upd) : St := ⟨mkS 20 [(0, []), (3, [])] ys, os⟩
@[simp] abbrev ex31_0 (ys : List V1) (os : List Upd) : St := ⟨mkS 20 [(2, [])] ys, os⟩
@[simp] theorem H34_1 : env.hint 34 1 = some ⟨[(2, []), (4, []), (6, []), (7, []), (8, [])], [(2, []), (4, []), (6, []), (7, [])]⟩ := rfl
@[simp] abbrev hd34_1 (ys : List V1) (os : List Upd) : St := ⟨mkS 115 [(2, []), (4, []), (6, []), (7, []), (8, [])] ys, os⟩
@[simp] abbrev ex34_1 (ys : List V1) (os : List Upd) : St := ⟨mkS 115 [(2, []), (4, []), (6, []), (7, [])] ys, os⟩
@[simp] theorem H35_0 : env.hint 35 0 = some ⟨[(2, []), (6, []), (8, []), (10, [])], [(6, []), (8, [])]⟩ := rfl
@[simp] abbrev hd35_0 (ys : List V1) (os : List Upd) : St := ⟨mkS 47 [(2, []), (6, []), (8, []), (10, [])] ys, os⟩
@[simp] abbrev ex35_0 (ys : List V1) (os : List Upd) : St := ⟨mkS 47 [(6, []), (8, [])] ys, os⟩
@[simp] theorem H38_0 : env.hint 38 0 = some ⟨[(0, []), (1, []), (5, [])], [(4, [])]⟩ := rfl
@[simp] abbrev hd38_0 (ys : List V1) (os : List Upd) : St := ⟨mkS 26 [(0, []), (1, []), (5, [])] ys, os⟩
@[simp] abbrev ex38_0 (ys : List V1) (os : List Upd) : St := ⟨mkS 26 [(4, [])] ys, os⟩
@[simp] theorem H39_0 : env.hint 39 0 = some ⟨[(3, []), (10, []), (11, []), (12, [])], [(3, [])]⟩ := rfl
@[simp] abbrev hd39_0 (ys : List V1) (os : List Upd) : St := ⟨mkS 21 [(3, []), (10, []), (11, []), (12, [])] ys, os⟩
@[simp] abbrev ex39_0 (ys : List V1) (os : List Upd) : St := ⟨mkS 21 [(3, [])] ys, os⟩
@[simp] theorem H40_1 : env.hint 40 1 = some ⟨[(3, []), (8, []), (12, [.ptr [.auto, .auto, .auto, .auto, .auto, .auto, .auto, .auto, .own 4]]), (109, []), (110, []), (111, [])], [(3, []), (8, []), (12, [.ptr [.auto, .auto, .auto, .auto, .auto, .auto, .auto, .auto, .own 4]])]⟩ := rfl
@[simp] abbrev hd40_1 (ys : List V1) (os : List Upd) : St := ⟨mkS 148 [(3, []), (8, []), (12, [.ptr [.auto, .auto, .auto, .auto, .auto, .auto, .auto, .auto, .own 4]]), (109, []), (110, []), (111, [])] ys, os⟩
@[simp] abbrev ex40_1 (ys : List V1) (os : List Upd) : St := ⟨mkS 148 [(3, []), (8, []), (12, [.ptr [.auto, .auto, .auto, .auto, .auto, .auto, .auto, .auto, .own 4]])] ys, os⟩
@[simp] theorem H41_0 : env.hint 41 0 = some ⟨[(0, []), (1, []), (5, [])], [(4, [])]⟩ := rfl
@[simp] abbrev hd41_0 (ys : List V1) (os : List Upd) : St := ⟨mkS 26 [(0, []), (1, []), (5, [])] ys, os⟩
@[simp] abbrev ex41_0 (ys : List V1) (os : List Upd) : St := ⟨mkS 26 [(4, [])] ys, os⟩
@[simp] theorem H42_0 : env.hint 42 0 = some ⟨[(0, []), (1, []), (5, [])], [(4, [])]⟩ := rfl
@[simp] abbrev hd42_0 (ys : List V1) (os : List Upd) : St := ⟨mkS 18 [(0, []), (1, []), (5, [])] ys, os⟩
@[simp] abbrev ex42_0 (ys : List V1) (os : List Upd) : St := ⟨mkS 18 [(4, [])] ys, os⟩
@[simp] theorem H43_2 : env.hint 43 2 = some ⟨[(2, []), (3, []), (5, []), (6, [])], [(2, []), (3, []), (4, []), (5, [])]⟩ := rfl
@[simp] abbrev hd43_2 (ys : List V1) (os : List Upd) : St := ⟨mkS 71 [(2, []), (3, []), (5, []), (6, [])] ys, os⟩
@[simp] abbrev ex43_2 (ys : List V1) (os : List Upd) : St := ⟨mkS 71 [(2, []), (3, []), (4, []), (5, [])] ys, os⟩
@[simp] theorem H43_0 : env.hint 43 0 = some ⟨[(2, []), (3, []), (5, [])], [(4, [])]⟩ := rfl
@[simp] abbrev hd43_0 (ys : List V1) (os : List Upd) : St := ⟨mkS 71 [(2, []), (3, []), (5, [])] ys, os⟩
@[simp] abbrev ex43_0 (ys : List V1) (os : List Upd) : St := ⟨mkS 71 [(4, [])] ys, os⟩
@[simp] theorem H45_0 : env.hint 45 0 = some ⟨[(0, []), (1, []), (5, [])], [(4, [])]⟩ := rfl
@[simp] abbrev hd45_0 (ys : List V1) (os : List Upd) : St := ⟨mkS 26 [(0, []), (1, []), (5, [])] ys, os⟩
@[simp] abbrev ex45_0 (ys : List V1) (os : List Upd) : St := ⟨mkS 26 [(4, [])] ys, os⟩
@[simp] theorem H48_0 : env.hint 48 0 = some ⟨[(3, []), (5, []), (6, []), (8, []), (9, []), (10, [.ptr [.auto, .auto, .auto, .auto, .auto, .auto, .auto, .auto, .own 4]]), (11, [])], [(3, []), (5, []), (6, []), (8, []), (10, [.ptr [.auto, .auto, .auto, .auto, .auto, .auto, .auto, .auto, .own 4]])]⟩ := rfl
@[simp] abbrev hd48_0 (ys : List V1) (os : List Upd) : St := ⟨mkS 141 [(3, []), (5, []), (6, []), (8, []), (9, []), (10, [.ptr [.auto, .auto, .auto, .auto, .auto, .auto, .auto, .auto, .own 4]]), (11, [])] ys, os⟩
@[simp] abbrev ex48_0 (ys : List V1) (os : List Upd) : St := ⟨mkS 141 [(3, []), (5, []), (6, []), (8, []), (10, [.ptr [.auto, .auto, .auto, .auto, .auto, .auto, .auto, .auto, .own 4]])] ys, os⟩
@[simp] theorem H52_0 : env.hint 52 0 = some ⟨[(0, []), (3, [])], [(2, [])]⟩ := rfl
@[simp] abbrev hd52_0 (ys : List V1) (os : List Upd) : St := ⟨mkS 19 [(0, []), (3, [])] ys, os⟩
@[simp] abbrev ex52_0 (ys : List V1) (os : List Upd) : St := ⟨mkS 19 [(2, [])] ys, os⟩
@[simp] theorem H53_0 : env.hint 53 0 = some ⟨[(0, []), (3, [])], [(2, [])]⟩ := rfl
@[simp] abbrev hd53_0 (ys : List V1) (os : List Upd) : St := ⟨mkS 38 [(0, []), (3, [])] ys, os⟩
@[simp] abbrev ex53_0 (ys : List V1) (os : List Upd) : St := ⟨mkS 38 [(2, [])] ys, os⟩
@[simp] theorem H54_0 : env.hint 54 0 = some ⟨[(0, []), (3, [])], [(2, [])]⟩ := rfl
@[simp] abbrev hd54_0 (ys : List V1) (os : List Upd) : St := ⟨mkS 29 [(0, []), (3, [])] ys, os⟩
@[simp] abbrev ex54_0 (ys : List V1) (os : List Upd) : St := ⟨mkS 29 [(2, [])] ys, os⟩
@[simp] theorem H55_0 : env.hint 55 0 = some ⟨[(0, [.ptr [.pv 1]]), (6, []), (7, []), (8, [])], [(0, [.ptr [.pv 1]])]⟩ := rfl
@[simp] abbrev hd55_0 (ys : List V1) (os : List Upd) : St := ⟨mkS 25 [(0, [.ptr [.pv 1]]), (6, []), (7, []), (8, [])] ys, os⟩
@[simp] abbrev ex55_0 (ys : List V1) (os : List Upd) : St := ⟨mkS 25 [(0, [.ptr [.pv 1]])] ys, os⟩
@[simp] theorem H57_0 : env.hint 57 0 = some ⟨[(0, [.ptr [.pv 1]]), (11, []), (12, []), (13, [])], [(0, [.ptr [.pv 1]])]⟩ := rfl
@[simp] abbrev hd57_0 (ys : List V1) (os : List Upd) : St := ⟨mkS 21 [(0, [.ptr [.pv 1]]), (11, []), (12, []), (13, [])] ys, os⟩
@[simp] abbrev ex57_0 (ys : List V1) (os : List Upd) : St := ⟨mkS 21 [(0, [.ptr [.pv 1]])] ys, os⟩
@[simp] theorem H59_0 : env.hint 59 0 = some ⟨[(1, []), (5, [.own 1]), (9, [])], [(5, [.own 1])]⟩ := rfl
@[simp] abbrev hd59_0 (ys : List V1) (os : List Upd) : St := ⟨mkS 24 [(1, []), (5, [.own 1]), (9, [])] ys, os⟩
@[simp] abbrev ex59_0 (ys : List V1) (os : List Upd) : St := ⟨mkS 24 [(5, [.own 1])] ys, os⟩
@[simp] theorem H60_2 : env.hint 60 2 = some ⟨[(6, [.ptr [.pv 1]]), (7, []), (8, []), (41, []), (42, []), (43, []), (80, []), (81, []), (82, [])], [(6, [.ptr [.pv 1]]), (7, []), (8, []), (41, []), (42, []), (43, [])]⟩ := rfl
@[simp] abbrev hd60_2 (ys : List V1) (os : List Upd) : St := ⟨mkS 98 [(6, [.ptr [.pv 1]]), (7, []), (8, []), (41, []), (42, []), (43, []), (80, []), (81, []), (82, [])] ys, os⟩
@[simp] abbrev ex60_2 (ys : List V1) (os : List Upd) : St := ⟨mkS 98 [(6, [.ptr [.pv 1]]), (7, []), (8, []), (41, []), (42, []), (43, [])] ys, os⟩
@[simp] theorem H60_0 : env.hint 60 0 = some ⟨[(6, [.ptr [.pv 1]]), (7, []), (8, []), (41, []), (42, []), (43, [])], [(6, [.ptr [.pv 1]])]⟩ := rfl
@[simp] abbrev hd60_0 (ys : List V1) (os : List Upd) : St := ⟨mkS 98 [(6, [.ptr [.pv 1]]), (7, []), (8, []), (41, []), (42, []), (43, [])] ys, os⟩
@[simp] abbrev ex60_0 (ys : List V1) (os : List Upd) : St := ⟨mkS 98 [(6, [.ptr [.pv 1]])] ys, os⟩
@[simp] theorem H64_0 : env.hint 64 0 = some ⟨[(0, []), (1, []), (12, []), (13, [])], [(4, [])]⟩ := rfl
@[simp] abbrev hd64_0 (ys : List V1) (os : List Upd) : St := ⟨mkS 26 [(0, []), (1, []), (12, []), (13, [])] ys, os⟩
@[simp] abbrev ex64_0 (ys : List V1) (os : List Upd) : St := ⟨mkS 26 [(4, [])] ys, os⟩
@[simp] theorem H70_0 : env.hint 70 0 = some ⟨[(0, []), (1, []), (13, []), (14, []), (15, [])], [(0, []), (1, [])]⟩ := rfl
@[simp] abbrev hd70_0 (ys : List V1) (os : List Upd) : St := ⟨mkS 26 [(0, []), (1, []), (13, []), (14, []), (15, [])] ys, os⟩
@[simp] abbrev ex70_0 (ys : List V1) (os : List Upd) : St := ⟨mkS 26 [(0, []), (1, [])] ys, os⟩
@[simp] theorem H71_0 : env.hint 71 0 = some ⟨[(0, []), (3, [])], [(0, []), (2, [])]⟩ := rfl
@[simp] abbrev hd71_0 (ys : List V1) (os : List Upd) : St := ⟨mkS 24 [(0, []), (3, [])] ys, os⟩
@[simp] abbrev ex71_0 (ys : List V1) (os : List Upd) : St := ⟨mkS 24 [(0, []), (2, [])] ys, os⟩
@[simp] theorem H74_0 : env.hint 74 0 = some ⟨[(0, []), (1, []), (5, [])], [(4, [])]⟩ := rfl
@[simp] abbrev hd74_0 (ys : List V1) (os : List Upd) : St := ⟨mkS 26 [(0, []), (1, []), (5, [])] ys, os⟩
@[simp] abbrev ex74_0 (ys : List V1) (os : List Upd) : St := ⟨mkS 26 [(4, [])] ys, os⟩
@[simp] theorem H75_0 : env.hint 75 0 = some ⟨[(0, []), (1, []), (5, [])], [(4, [])]⟩ := rfl
@[simp] abbrev hd75_0 (ys : List V1) (os : List Upd) : St := ⟨mkS 26 [(0, []), (1, []), (5, [])] ys, os⟩
@[simp] abbrev ex75_0 (ys : List V1) (os : List Upd) : St := ⟨mkS 26 [(4, [])] ys, os⟩
@[simp] theorem H76_2 : env.hint 76 2 = some ⟨[(0, []), (3, []), (4, []), (5, []), (6, [])], [(0, []), (3, []), (4, []), (5, [])]⟩ := rfl
@[simp] abbrev hd76_2 (ys : List V1) (os : List Upd) : St := ⟨mkS 65 [(0, []), (3, []), (4, []), (5, []), (6, [])] ys, os⟩
@[simp] abbrev ex76_2 (ys : List V1) (os : List Upd) : St := ⟨mkS 65 [(0, []), (3, []), (4, []), (5, [])] ys, os⟩
@[simp] theorem H76_0 : env.hint 76 0 = some ⟨[(0, []), (3, []), (4, [])], [(3, [])]⟩ := rfl
@[simp] abbrev hd76_0 (ys : List V1) (os : List Upd) : St := ⟨mkS 65 [(0, []), (3, []), (4, [])] ys, os⟩
@[simp] abbrev ex76_0 (ys : List V1) (os : List Upd) : St := ⟨mkS 65 [(3, [])] ys, os⟩
@[simp] theorem H77_0 : env.hint 77 0 = some ⟨[(1, []), (3, [])], [(1, []), (2, [])]⟩ := rfl
@[simp] abbrev hd77_0 (ys : List V1) (os : List Upd) : St := ⟨mkS 85 [(1, []), (3, [])] ys, os⟩
@[simp] abbrev ex77_0 (ys : List V1) (os : List Upd) : St := ⟨mkS 85 [(1, []), (2, [])] ys, os⟩
@[simp] theorem H82_0 : env.hint 82 0 = some ⟨[(0, []), (1, []), (5, [])], [(0, [])]⟩ := rfl
@[simp] abbrev hd82_0 (ys : List V1) (os : List Upd) : St := ⟨mkS 23 [(0, []), (1, []), (5, [])] ys, os⟩
@[simp] abbrev ex82_0 (ys : List V1) (os : List Upd) : St := ⟨mkS 23 [(0, [])] ys, os⟩
@[simp] theorem H83_0 : env.hint 83 0 = some ⟨[(0, []), (1, []), (5, [])], [(0, [])]⟩ := rfl
@[simp] abbrev hd83_0 (ys : List V1) (os : List Upd) : St := ⟨mkS 23 [(0, []), (1, []), (5, [])] ys, os⟩
@[simp] abbrev ex83_0 (ys : List V1) (os : List Upd) : St := ⟨mkS 23 [(0, [])] ys, os⟩
@[simp] theorem H86_0 : env.hint 86 0 = some ⟨[(0, []), (3, [.own 1]), (4, [])], [(3, [.own 1])]⟩ := rfl
@[simp] abbrev hd86_0 (ys : List V1) (os : List Upd) : St := ⟨mkS 21 [(0, []), (3, [.own 1]), (4, [])] ys, os⟩
@[simp] abbrev ex86_0 (ys : List V1) (os : List Upd) : St := ⟨mkS 21 [(3, [.own 1])] ys, os⟩
@[simp] theorem H87_4 : env.hint 87 4 = some ⟨[(1, []), (3, []), (5, []), (6, []), (7, [])], [(1, []), (3, []), (5, [])]⟩ := rfl
@[simp] abbrev hd87_4 (ys : List V1) (os : List Upd) : St := ⟨mkS 104 [(1, []), (3, []), (5, []), (6, []), (7, [])] ys, os⟩
@[simp] abbrev ex87_4 (ys : List V1) (os : List Upd) : St := ⟨mkS 104 [(1, []), (3, []), (5, [])] ys, os⟩
@[simp] theorem H87_2 : env.hint 87 2 = some ⟨[(1, []), (3, []), (5, [])], [(3, [])]⟩ := rfl
@[simp] abbrev hd87_2 (ys : List V1) (os : List Upd) : St := ⟨mkS 104 [(1, []), (3, []), (5, [])] ys, os⟩
@[simp] abbrev ex87_2 (ys : List V1) (os : List Upd) : St := ⟨mkS 104 [(3, [])] ys, os⟩
@[simp] theorem H87_0 : env.hint 87 0 = some ⟨[(1, []), (3, []), (4, [])], [(1, []), (3, [])]⟩ := rfl
@[simp] abbrev hd87_0 (ys : List V1) (os : List Upd) : St := ⟨mkS 104 [(1, []), (3, []), (4, [])] ys, os⟩
@[simp] abbrev ex87_0 (ys : List V1) (os : List Upd) : St := ⟨mkS 104 [(1, []), (3, [])] ys, os⟩
@[simp] theorem H89_0 : env.hint 89 0 = some ⟨[(0, []), (3, [.own 1]), (5, []), (6, [])], [(3, [.own 1])]⟩ := rfl
@[simp] abbrev hd89_0 (ys : List V1) (os : List Upd) : St := ⟨mkS 15 [(0, []), (3, [.own 1]), (5, []), (6, [])] ys, os⟩
@[simp] abbrev ex89_0 (ys : List V1) (os : List Upd) : St := ⟨mkS 15 [(3, [.own 1])] ys, os⟩
@[simp] theorem H90_0 : env.hint 90 0 = some ⟨[(0, []), (3, [.own 1]), (5, []), (6, [])], [(3, [.own 1])]⟩ := rfl
@[simp] abbrev hd90_0 (ys : List V1) (os : List Upd) : St := ⟨mkS 15 [(0, []), (3, [.own 1]), (5, []), (6, [])] ys, os⟩
@[simp] abbrev ex90_0 (ys : List V1) (os : List Upd) : St := ⟨mkS 15 [(3, [.own 1])] ys, os⟩
@[simp] theorem H93_2 : env.hint 93 2 = some ⟨[(2, []), (5, []), (6, [.ptr [.auto, .auto, .auto, .own 7]]), (28, []), (29, [])], [(2, []), (5, []), (6, [.ptr [.auto, .auto, .auto, .own 7]])]⟩ := rfl
@[simp] abbrev hd93_2 (ys : List V1) (os : List Upd) : St := ⟨mkS 68 [(2, []), (5, []), (6, [.ptr [.auto, .auto, .auto, .own 7]]), (28, []), (29, [])] ys, os⟩
@[simp] abbrev ex93_2 (ys : List V1) (os : List Upd) : St := ⟨mkS 68 [(2, []), (5, []), (6, [.ptr [.auto, .auto, .auto, .own 7]])] ys, os⟩
@[simp] theorem H93_0 : env.hint 93 0 = some ⟨[(2, []), (5, []), (6, [.ptr [.auto, .auto, .own 1, .auto]]), (16, []), (17, [])], [(2, []), (5, []), (6, [.ptr [.auto, .auto, .own 1, .auto]])]⟩ := rfl
@[simp] abbrev hd93_0 (ys : List V1) (os : List Upd) : St := ⟨mkS 68 [(2, []), (5, []), (6, [.ptr [.auto, .auto, .own 1, .auto]]), (16, []), (17, [])] ys, os⟩
@[simp] abbrev ex93_0 (ys : List V1) (os : List Upd) : St := ⟨mkS 68 [(2, []), (5, []), (6, [.ptr [.auto, .auto, .own 1, .auto]])] ys, os⟩
@[simp] theorem H95_0 : env.hint 95 0 = some ⟨[(0, []), (1, []), (5, [])], [(4, [])]⟩ := rfl
@[simp] abbrev hd95_0 (ys : List V1) (os : List Upd) : St := ⟨mkS 27 [(0, []), (1, []), (5, [])] ys, os⟩
@[simp] abbrev ex95_0 (ys : List V1) (os : List Upd) : St := ⟨mkS 27 [(4, [])] ys, os⟩
@[simp] theorem H102_0 : env.hint 102 0 = some ⟨[(0, []), (5, []), (8, []), (9, []), (10, [])], [(2, []), (3, []), (4, [])]⟩ := rfl
@[simp] abbrev hd102_0 (ys : List V1) (os : List Upd) : St := ⟨mkS 47 [(0, []), (5, []), (8, []), (9, []), (10, [])] ys, os⟩
@[simp] abbrev ex102_0 (ys : List V1) (os : List Upd) : St := ⟨mkS 47 [(2, []), (3, []), (4, [])] ys, os⟩
@[simp] theorem H103_2 : env.hint 103 2 = some ⟨[(1, []), (2, []), (40, []), (41, [])], [(1, []), (2, [])]⟩ := rfl
@[simp] abbrev hd103_2 (ys : List V1) (os : List Upd) : St := ⟨mkS 56 [(1, []), (2, []), (40, []), (41, [])] ys, os⟩
@[simp] abbrev ex103_2 (ys : List V1) (os : List Upd) : St := ⟨mkS 56 [(1, []), (2, [])] ys, os⟩
@[simp] theorem H103_0 : env.hint 103 0 = some ⟨[(1, []), (2, []), (3, [.own 4]), (14, []), (15, []), (16, [])], [(1, []), (2, []), (3, [.own 4])]⟩ := rfl
@[simp] abbrev hd103_0 (ys : List V1) (os : List Upd) : St := ⟨mkS 56 [(1, []), (2, []), (3, [.own 4]), (14, []), (15, []), (16, [])] ys, os⟩
@[simp] abbrev ex103_0 (ys : List V1) (os : List Upd) : St := ⟨mkS 56 [(1, []), (2, []), (3, [.own 4])] ys, os⟩
@[simp] theorem H104_0 : env.hint 104 0 = some ⟨[(2, []), (4, []), (6, []), (7, [.own 4]), (8, [])], [(2, []), (4, []), (7, [.own 4])]⟩ := rfl
@[simp] abbrev hd104_0 (ys : List V1) (os : List Upd) : St := ⟨mkS 65 [(2, []), (4, []), (6, []), (7, [.own 4]), (8, [])] ys, os⟩
@[simp] abbrev ex104_0 (ys : List V1) (os : List Upd) : St := ⟨mkS 65 [(2, []), (4, []), (7, [.own 4])] ys, os⟩
@[simp] theorem H106_0 : env.hint 106 0 = some ⟨[(1, []), (3, []), (10, []), (11, []), (12, [])], [(3, [])]⟩ := rfl
@[simp] abbrev hd106_0 (ys : List V1) (os : List Upd) : St := ⟨mkS 26 [(1, []), (3, []), (10, []), (11, []), (12, [])] ys, os⟩
@[simp] abbrev ex106_0 (ys : List V1) (os : List Upd) : St := ⟨mkS 26 [(3, [])] ys, os⟩
@[simp] theorem H108_0 : env.hint 108 0 = some ⟨[(1, []), (6, [.own 1])], [(1, []), (6, [.own 1])]⟩ := rfl
@[simp] abbrev hd108_0 (ys : List V1) (os : List Upd) : St := ⟨mkS 30 [(1, []), (6, [.own 1])] ys, os⟩
@[simp] abbrev ex108_0 (ys : List V1) (os : List Upd) : St := ⟨mkS 30 [(1, []), (6, [.own 1])] ys, os⟩
@[simp] theorem H109_2 : env.hint 109 2 = some ⟨[(1, []), (2, []), (4, []), (6, []), (7, [.own 4]), (8, []), (9, [])], [(1, []), (2, []), (4, []), (6, []), (7, [.own 4]), (8, [])]⟩ := rfl
@[simp] abbrev hd109_2 (ys : List V1) (os : List Upd) : St := ⟨mkS 81 [(1, []), (2, []), (4, []), (6, []), (7, [.own 4]), (8, []), (9, [])] ys, os⟩
@[simp] abbrev ex109_2 (ys : List V1) (os : List Upd) : St := ⟨mkS 81 [(1, []), (2, []), (4, []), (6, []), (7, [.own 4]), (8, [])] ys, os⟩
@[simp] theorem H109_0 : env.hint 109 0 = some ⟨[(1, []), (2, []), (4, []), (6, []), (7, [.own 4]), (8, [])], [(2, []), (4, []), (7, [.own 4])]⟩ := rfl
@[simp] abbrev hd109_0 (ys : List V1) (os : List Upd) : St := ⟨mkS 81 [(1, []), (2, []), (4, []), (6, []), (7, [.own 4]), (8, [])] ys, os⟩
@[simp] abbrev ex109_0 (ys : List V1) (os : List Upd) : St := ⟨mkS 81 [(2, []), (4, []), (7, [.own 4])] ys, os⟩
@[simp] theorem H110_0 : env.hint 110 0 = some ⟨[(0, []), (1, []), (2, []), (7, [.own 1]), (8, [])], [(7, [.own 1])]⟩ := rfl
@[simp] abbrev hd110_0 (ys : List V1) (os : List Upd) : St := ⟨mkS 41 [(0, []), (1, []), (2, []), (7, [.own 1]), (8, [])] ys, os⟩
@[simp] abbrev ex110_0 (ys : List V1) (os : List Upd) : St := ⟨mkS 41 [(7, [.own 1])] ys, os⟩
@[simp] theorem H112_0 : env.hint 112 0 = some ⟨[(0, []), (1, []), (12, []), (13, [])], [(4, [])]⟩ := rfl
@[simp] abbrev hd112_0 (ys : List V1) (os : List Upd) : St := ⟨mkS 26 [(0, []), (1, []), (12, []), (13, [])] ys, os⟩
@[simp] abbrev ex112_0 (ys : List V1) (os : List Upd) : St := ⟨mkS 26 [(4, [])] ys, os⟩
@[simp] theorem H113_2 : env.hint 113 2 = some ⟨[(4, []), (25, []), (26, [])], [(4, [])]⟩ := rfl
@[simp] abbrev hd113_2 (ys : List V1) (os : List Upd) : St := ⟨mkS 39 [(4, []), (25, []), (26, [])] ys, os⟩
@[simp] abbrev ex113_2 (ys : List V1) (os : List Upd) : St := ⟨mkS 39 [(4, [])] ys, os⟩
@[simp] theorem H113_0 : env.hint 113 0 = some ⟨[(0, []), (3, [])], [(0, []), (3, [])]⟩ := rfl
@[simp] abbrev hd113_0 (ys : List V1) (os : List Upd) : St := ⟨mkS 39 [(0, []), (3, [])] ys, os⟩
@[simp] abbrev ex113_0 (ys : List V1) (os : List Upd) : St := ⟨mkS 39 [(0, []), (3, [])] ys, os⟩
@[simp] theorem H118_0 : env.hint 118 0 = some ⟨[(0, []), (7, []), (8, []), (9, [])], [(4, [])]⟩ := rfl
@[simp] abbrev hd118_0 (ys : List V1) (os : List Upd) : St := ⟨mkS 21 [(0, []), (7, []), (8, []), (9, [])] ys, os⟩
@[simp] abbrev ex118_0 (ys : List V1) (os : List Upd) : St := ⟨mkS 21 [(4, [])] ys, os⟩
@[simp] theorem H124_0 : env.hint 124 0 = some ⟨[(0, []), (1, []), (7, []), (8, [])], [(4, [])]⟩ := rfl
@[simp] abbrev hd124_0 (ys : List V1) (os : List Upd) : St := ⟨mkS 19 [(0, []), (1, []), (7, []), (8, [])] ys, os⟩
@[simp] abbrev ex124_0 (ys : List V1) (os : List Upd) : St := ⟨mkS 19 [(4, [])] ys, os⟩
@[simp] theorem H125_0 : env.hint 125 0 = some ⟨[(0, []), (1, []), (12, []), (13, [])], [(4, [])]⟩ := rfl
@[simp] abbrev hd125_0 (ys : List V1) (os : List Upd) : St := ⟨mkS 26 [(0, []), (1, []), (12, []), (13, [])] ys, os⟩
@[simp] abbrev ex125_0 (ys : List V1) (os : List Upd) : St := ⟨mkS 26 [(4, [])] ys, os⟩
@[simp] theorem H128_0 : env.hint 128 0 = some ⟨[(0, []), (1, []), (5, [])], [(4, [])]⟩ := rfl
@[simp] abbrev hd128_0 (ys : List V1) (os : List Upd) : St := ⟨mkS 24 [(0, []), (1, []), (5, [])] ys, os⟩
@[simp] abbrev ex128_0 (ys : List V1) (os : List Upd) : St := ⟨mkS 24 [(4, [])] ys, os⟩
@[simp] theorem H131_0 : env.hint 131 0 = some ⟨[(0, []), (1, []), (5, [.own 4]), (6, [])], [(5, [.own 4])]⟩ := rfl
@[simp] abbrev hd131_0 (ys : List V1) (os : List Upd) : St := ⟨mkS 28 [(0, []), (1, []), (5, [.own 4]), (6, [])] ys, os⟩
@[simp] abbrev ex131_0 (ys : List V1) (os : List Upd) : St := ⟨mkS 28 [(5, [.own 4])] ys, os⟩
@[simp] theorem H132_0 : env.hint 132 0 = some ⟨[(0, []), (1, []), (5, [.own 8]), (6, [])], [(5, [.own 8])]⟩ := rfl
@[simp] abbrev hd132_0 (ys : List V1) (os : List Upd) : St := ⟨mkS 28 [(0, []), (1, []), (5, [.own 8]), (6, [])] ys, os⟩
@[simp] abbrev ex132_0 (ys : List V1) (os : List Upd) : St := ⟨mkS 28 [(5, [.own 8])] ys, os⟩
@[simp] theorem H133_0 : env.hint 133 0 = some ⟨[(0, []), (4, [.own 1])], [(2, [.own 1]), (3, [])]⟩ := rfl
@[simp] abbrev hd133_0 (ys : List V1) (os : List Upd) : St := ⟨mkS 29 [(0, []), (4, [.own 1])] ys, os⟩
@[simp] abbrev ex133_0 (ys : List V1) (os : List Upd) : St := ⟨mkS 29 [(2, [.own 1]), (3, [])] ys, os⟩
@[simp] theorem H134_0 : env.hint 134 0 = some ⟨[(0, []), (3, [])], [(2, [])]⟩ := rfl
@[simp] abbrev hd134_0 (ys : List V1) (os : List Upd) : St := ⟨mkS 47 [(0, []), (3, [])] ys, os⟩
@[simp] abbrev ex134_0 (ys : List V1) (os : List Upd) : St := ⟨mkS 47 [(2, [])] ys, os⟩
@[simp] theorem H137_0 : env.hint 137 0 = some ⟨[(1, [.ptr [.pv 1]]), (5, []), (6, []), (7, [])], [(1, [.ptr [.pv 1]])]⟩ := rfl
@[simp] abbrev hd137_0 (ys : List V1) (os : List Upd) : St := ⟨mkS 18 [(1, [.ptr [.pv 1]]), (5, []), (6, []), (7, [])] ys, os⟩
@[simp] abbrev ex137_0 (ys : List V1) (os : List Upd) : St := ⟨mkS 18 [(1, [.ptr [.pv 1]])] ys, os⟩
@[simp] theorem H140_0 : env.hint 140 0 = some ⟨[(4, [.own 1]), (8, []), (9, []), (10, [])], [(2, []), (3, []), (4, [.own 1])]⟩ := rfl
@[simp] abbrev hd140_0 (ys : List V1) (os : List Upd) : St := ⟨mkS 40 [(4, [.own 1]), (8, []), (9, []), (10, [])] ys, os⟩
@[simp] abbrev ex140_0 (ys : List V1) (os : List Upd) : St := ⟨mkS 40 [(2, []), (3, []), (4, [.own 1])] ys, os⟩
@[simp] theorem H144_0 : env.hint 144 0 = some ⟨[(0, []), (1, []), (5, []), (6, [])], [(0, []), (5, [])]⟩ := rfl
@[simp] abbrev hd144_0 (ys : List V1) (os : List Upd) : St := ⟨mkS 42 [(0, []), (1, []), (5, []), (6, [])] ys, os⟩
@[simp] abbrev ex144_0 (ys : List V1) (os : List Upd) : St := ⟨mkS 42 [(0, []), (5, [])] ys, os⟩
@[simp] theorem H148_0 : env.hint 148 0 = some ⟨[(2, []), (3, []), (4, []), (9, []), (10, []), (11, [])], [(6, [])]⟩ := rfl
@[simp] abbrev hd148_0 (ys : List V1) (os : List Upd) : St := ⟨mkS 41 [(2, []), (3, []), (4, []), (9, []), (10, []), (11, [])] ys, os⟩
@[simp] abbrev ex148_0 (ys : List V1) (os : List Upd) : St := ⟨mkS 41 [(6, [])] ys, os⟩
@[simp] theorem H149_2 : env.hint 149 2 = some ⟨[(1, []), (2, []), (3, []), (13, []), (14, []), (15, []), (20, []), (21, []), (22, [])], [(1, []), (2, []), (3, []), (8, []), (13, []), (14, []), (15, [])]⟩ := rfl
@[simp] abbrev hd149_2 (ys : List V1) (os : List Upd) : St := ⟨mkS 44 [(1, []), (2, []), (3, []), (13, []), (14, []), (15, []), (20, []), (21, []), (22, [])] ys, os⟩
@[simp] abbrev ex149_2 (ys : List V1) (os : List Upd) : St := ⟨mkS 44 [(1, []), (2, []), (3, []), (8, []), (13, []), (14, []), (15, [])] ys, os⟩
@[simp] theorem H149_0 : env.hint 149 0 = some ⟨[(1, []), (2, []), (3, []), (13, []), (14, []), (15, [])], [(8, [])]⟩ := rfl
@[simp] abbrev hd149_0 (ys : List V1) (os : List Upd) : St := ⟨mkS 44 [(1, []), (2, []), (3, []), (13, []), (14, []), (15, [])] ys, os⟩
@[simp] abbrev ex149_0 (ys : List V1) (os : List Upd) : St := ⟨mkS 44 [(8, [])] ys, os⟩
@[simp] theorem H150_0 : env.hint 150 0 = some ⟨[(0, []), (1, []), (7, []), (8, [])], [(4, [])]⟩ := rfl
@[simp] abbrev hd150_0 (ys : List V1) (os : List Upd) : St := ⟨mkS 19 [(0, []), (1, []), (7, []), (8, [])] ys, os⟩
@[simp] abbrev ex150_0 (ys : List V1) (os : List Upd) : St := ⟨mkS 19 [(4, [])] ys, os⟩
@[simp] theorem H151_2 : env.hint 151 2 = some ⟨[(0, []), (3, []), (5, [.own 1]), (6, [])], [(5, [.own 1])]⟩ := rfl
@[simp] abbrev hd151_2 (ys : List V1) (os : List Upd) : St := ⟨mkS 31 [(0, []), (3, []), (5, [.own 1]), (6, [])] ys, os⟩
@[simp] abbrev ex151_2 (ys : List V1) (os : List Upd) : St := ⟨mkS 31 [(5, [.own 1])] ys, os⟩
@[simp] theorem H151_0 : env.hint 151 0 = some ⟨[(0, []), (3, []), (4, [])], [(0, []), (3, [])]⟩ := rfl
@[simp] abbrev hd151_0 (ys : List V1) (os : List Upd) : St := ⟨mkS 31 [(0, []), (3, []), (4, [])] ys, os⟩
@[simp] abbrev ex151_0 (ys : List V1) (os : List Upd) : St := ⟨mkS 31 [(0, []), (3, [])] ys, os⟩
@[simp] theorem H152_2 : env.hint 152 2 = some ⟨[(0, []), (4, []), (5, []), (6, []), (7, [])], [(0, []), (4, []), (5, []), (6, [])]⟩ := rfl
@[simp] abbrev hd152_2 (ys : List V1) (os : List Upd) : St := ⟨mkS 60 [(0, []), (4, []), (5, []), (6, []), (7, [])] ys, os⟩
@[simp] abbrev ex152_2 (ys : List V1) (os : List Upd) : St := ⟨mkS 60 [(0, []), (4, []), (5, []), (6, [])] ys, os⟩
@[simp] theorem H152_0 : env.hint 152 0 = some ⟨[(0, []), (4, [.own 1]), (5, [])], [(2, []), (3, []), (4, [.own 1])]⟩ := rfl
@[simp] abbrev hd152_0 (ys : List V1) (os : List Upd) : St := ⟨mkS 60 [(0, []), (4, [.own 1]), (5, [])] ys, os⟩
@[simp] abbrev ex152_0 (ys : List V1) (os : List Upd) : St := ⟨mkS 60 [(2, []), (3, []), (4, [.own 1])] ys, os⟩
@[simp] theorem H154_0 : env.hint 154 0 = some ⟨[(0, []), (3, [])], [(0, []), (2, [])]⟩ := rfl
@[simp] abbrev hd154_0 (ys : List V1) (os : List Upd) : St := ⟨mkS 36 [(0, []), (3, [])] ys, os⟩
@[simp] abbrev ex154_0 (ys : List V1) (os : List Upd) : St := ⟨mkS 36 [(0, []), (2, [])] ys, os⟩
@[simp] theorem H155_0 : env.hint 155 0 = some ⟨[(2, []), (3, []), (53, []), (54, []), (55, [])], [(2, []), (3, []), (4, [])]⟩ := rfl
@[simp] abbrev hd155_0 (ys : List V1) (os : List Upd) : St := ⟨mkS 85 [(2, []), (3, []), (53, []), (54, []), (55, [])] ys, os⟩
@[simp] abbrev ex155_0 (ys : List V1) (os : List Upd) : St := ⟨mkS 85 [(2, []), (3, []), (4, [])] ys, os⟩
@[simp] theorem H156_0 : env.hint 156 0 = some ⟨[(0, []), (3, []), (5, [])], [(0, []), (3, []), (5, [])]⟩ := rfl
@[simp] abbrev hd156_0 (ys : List V1) (os : List Upd) : St := ⟨mkS 34 [(0, []), (3, []), (5, [])] ys, os⟩
@[simp] abbrev ex156_0 (ys : List V1) (os : List Upd) : St := ⟨mkS 34 [(0, []), (3, []), (5, [])] ys, os⟩
@[simp] theorem H157_2 : env.hint 157 2 = some ⟨[(0, []), (1, []), (2, []), (7, []), (8, [])], [(0, []), (1, []), (2, []), (6, []), (7, [])]⟩ := rfl
@[simp] abbrev hd157_2 (ys : List V1) (os : List Upd) : St := ⟨mkS 78 [(0, []), (1, []), (2, []), (7, []), (8, [])] ys, os⟩
@[simp] abbrev ex157_2 (ys : List V1) (os : List Upd) : St := ⟨mkS 78 [(0, []), (1, []), (2, []), (6, []), (7, [])] ys, os⟩
@[simp] theorem H157_0 : env.hint 157 0 = some ⟨[(0, []), (1, []), (2, []), (7, [])], [(6, [])]⟩ := rfl
@[simp] abbrev hd157_0 (ys : List V1) (os : List Upd) : St := ⟨mkS 78 [(0, []), (1, []), (2, []), (7, [])] ys, os⟩
@[simp] abbrev ex157_0 (ys : List V1) (os : List Upd) : St := ⟨mkS 78 [(6, [])] ys, os⟩
@[simp] theorem H158_2 : env.hint 158 2 = some ⟨[(0, []), (1, []), (2, []), (3, []), (9, []), (10, [])], [(0, []), (1, []), (2, []), (3, []), (8, []), (9, [])]⟩ := rfl
@[simp] abbrev hd158_2 (ys : List V1) (os : List Upd) : St := ⟨mkS 63 [(0, []), (1, []), (2, []), (3, []), (9, []), (10, [])] ys, os⟩
@[simp] abbrev ex158_2 (ys : List V1) (os : List Upd) : St := ⟨mkS 63 [(0, []), (1, []), (2, []), (3, []), (8, []), (9, [])] ys, os⟩
@[simp] theorem H158_0 : env.hint 158 0 = some ⟨[(0, []), (1, []), (2, []), (3, []), (9, [])], [(8, [])]⟩ := rfl
@[simp] abbrev hd158_0 (ys : List V1) (os : List Upd) : St := ⟨mkS 63 [(0, []), (1, []), (2, []), (3, []), (9, [])] ys, os⟩
@[simp] abbrev ex158_0 (ys : List V1) (os : List Upd) : St := ⟨mkS 63 [(8, [])] ys, os⟩
@[simp] theorem H159_0 : env.hint 159 0 = some ⟨[(0, []), (1, []), (5, [])], [(4, [])]⟩ := rfl
@[simp] abbrev hd159_0 (ys : List V1) (os : List Upd) : St := ⟨mkS 75 [(0, []), (1, []), (5, [])] ys, os⟩
@[simp] abbrev ex159_0 (ys : List V1) (os : List Upd) : St := ⟨mkS 75 [(4, [])] ys, os⟩
@[simp] theorem H160_0 : env.hint 160 0 = some ⟨[(0, []), (1, []), (5, [.own 7]), (6, [])], [(5, [.own 7])]⟩ := rfl
@[simp] abbrev hd160_0 (ys : List V1) (os : List Upd) : St := ⟨mkS 28 [(0, []), (1, []), (5, [.own 7]), (6, [])] ys, os⟩
@[simp] abbrev ex160_0 (ys : List V1) (os : List Upd) : St := ⟨mkS 28 [(5, [.own 7])] ys, os⟩
@[simp] theorem H161_0 : env.hint 161 0 = some ⟨[(0, []), (1, []), (2, []), (8, [.own 1]), (9, [])], [(8, [.own 1])]⟩ := rfl
@[simp] abbrev hd161_0 (ys : List V1) (os : List Upd) : St := ⟨mkS 50 [(0, []), (1, []), (2, []), (8, [.own 1]), (9, [])] ys, os⟩
@[simp] abbrev ex161_0 (ys : List V1) (os : List Upd) : St := ⟨mkS 50 [(8, [.own 1])] ys, os⟩
@[simp] theorem H166_0 : env.hint 166 0 = some ⟨[(0, []), (5, []), (10, [])], [(0, []), (5, [])]⟩ := rfl
@[simp] abbrev hd166_0 (ys : List V1) (os : List Upd) : St := ⟨mkS 30 [(0, []), (5, []), (10, [])] ys, os⟩
@[simp] abbrev ex166_0 (ys : List V1) (os : List Upd) : St := ⟨mkS 30 [(0, []), (5, [])] ys, os⟩
@[simp] theorem H169_0 : env.hint 169 0 = some ⟨[(0, []), (2, []), (3, [.ptr [.auto, .auto, .auto, .auto, .auto, .auto, .own 3]]), (18, []), (19, [])], [(2, []), (3, [.ptr [.auto, .auto, .auto, .auto, .auto, .auto, .own 3]])]⟩ := rfl
@[simp] abbrev hd169_0 (ys : List V1) (os : List Upd) : St := ⟨mkS 35 [(0, []), (2, []), (3, [.ptr [.auto, .auto, .auto, .auto, .auto, .auto, .own 3]]), (18, []), (19, [])] ys, os⟩
@[simp] abbrev ex169_0 (ys : List V1) (os : List Upd) : St := ⟨mkS 35 [(2, []), (3, [.ptr [.auto, .auto, .auto, .auto, .auto, .auto, .own 3]])] ys, os⟩
@[simp] theorem H170_0 : env.hint 170 0 = some ⟨[(0, []), (1, []), (7, []), (8, [])], [(4, [])]⟩ := rfl
@[simp] abbrev hd170_0 (ys : List V1) (os : List Upd) : St := ⟨mkS 19 [(0, []), (1, []), (7, []), (8, [])] ys, os⟩
@[simp] abbrev ex170_0 (ys : List V1) (os : List Upd) : St := ⟨mkS 19 [(4, [])] ys, os⟩
@[simp] theorem H179_0 : env.hint 179 0 = some ⟨[(1, []), (5, [.own 4]), (8, []), (9, []), (10, [])], [(5, [.own 4])]⟩ := rfl
@[simp] abbrev hd179_0 (ys : List V1) (os : List Upd) : St := ⟨mkS 25 [(1, []), (5, [.own 4]), (8, []), (9, []), (10, [])] ys, os⟩
@[simp] abbrev ex179_0 (ys : List V1) (os : List Upd) : St := ⟨mkS 25 [(5, [.own 4])] ys, os⟩
@[simp] theorem H182_0 : env.hint 182 0 = some ⟨[(0, []), (1, []), (2, []), (7, []), (16, []), (17, [])], [(7, [])]⟩ := rfl
@[simp] abbrev hd182_0 (ys : List V1) (os : List Upd) : St := ⟨mkS 34 [(0, []), (1, []), (2, []), (7, []), (16, []), (17, [])] ys, os⟩
@[simp] abbrev ex182_0 (ys : List V1) (os : List Upd) : St := ⟨mkS 34 [(7, [])] ys, os⟩
@[simp] theorem H186_0 : env.hint 186 0 = some ⟨[(0, []), (3, [.own 4]), (4, [])], [(3, [.own 4])]⟩ := rfl
@[simp] abbrev hd186_0 (ys : List V1) (os : List Upd) : St := ⟨mkS 29 [(0, []), (3, [.own 4]), (4, [])] ys, os⟩
@[simp] abbrev ex186_0 (ys : List V1) (os : List Upd) : St := ⟨mkS 29 [(3, [.own 4])] ys, os⟩
@[simp] theorem H187_0 : env.hint 187 0 = some ⟨[(1, []), (3, []), (4, [])], [(3, [])]⟩ := rfl
@[simp] abbrev hd187_0 (ys : List V1) (os : List Upd) : St := ⟨mkS 23 [(1, []), (3, []), (4, [])] ys, os⟩
@[simp] abbrev ex187_0 (ys : List V1) (os : List Upd) : St := ⟨mkS 23 [(3, [])] ys, os⟩
@[simp] theorem H188_0 : env.hint 188 0 = some ⟨[(0, []), (1, []), (7, []), (8, [])], [(4, [])]⟩ := rfl
@[simp] abbrev hd188_0 (ys : List V1) (os : List Upd) : St := ⟨mkS 19 [(0, []), (1, []), (7, []), (8, [])] ys, os⟩
@[simp] abbrev ex188_0 (ys : List V1) (os : List Upd) : St := ⟨mkS 19 [(4, [])] ys, os⟩
@[simp] theorem H189_0 : env.hint 189 0 = some ⟨[(0, []), (1, []), (7, []), (8, [])], [(4, [])]⟩ := rfl
@[simp] abbrev hd189_0 (ys : List V1) (os : List Upd) : St := ⟨mkS 19 [(0, []), (1, []), (7, []), (8, [])] ys, os⟩
@[simp] abbrev ex189_0 (ys : List V1) (os : List Upd) : St := ⟨mkS 19 [(4, [])] ys, os⟩
@[simp] theorem H191_0 : env.hint 191 0 = some ⟨[(0, []), (1, []), (7, []), (8, [])], [(4, [])]⟩ := rfl
@[simp] abbrev hd191_0 (ys : List V1) (os : List Upd) : St := ⟨mkS 19 [(0, []), (1, []), (7, []), (8, [])] ys, os⟩
@[simp] abbrev ex191_0 (ys : List V1) (os : List Upd) : St := ⟨mkS 19 [(4, [])] ys, os⟩
@[simp] theorem H192_0 : env.hint 192 0 = some ⟨[(1, []), (2, []), (8, [.own 1])], [(1, []), (2, []), (8, [.own 1])]⟩ := rfl
@[simp] abbrev hd192_0 (ys : List V1) (os : List Upd) : St := ⟨mkS 38 [(1, []), (2, []), (8, [.own 1])] ys, os⟩
@[simp] abbrev ex192_0 (ys : List V1) (os : List Upd) : St := ⟨mkS 38 [(1, []), (2, []), (8, [.own 1])] ys, os⟩
@[simp] theorem H194_0 : env.hint 194 0 = some ⟨[(1, []), (5, [.own 7]), (8, []), (9, []), (10, [])], [(5, [.own 7])]⟩ := rfl
@[simp] abbrev hd194_0 (ys : List V1) (os : List Upd) : St := ⟨mkS 28 [(1, []), (5, [.own 7]), (8, []), (9, []), (10, [])] ys, os⟩
@[simp] abbrev ex194_0 (ys : List V1) (os : List Upd) : St := ⟨mkS 28 [(5, [.own 7])] ys, os⟩
@[simp] theorem H196_0 : env.hint 196 0 = some ⟨[(0, []), (1, []), (5, [])], [(4, [])]⟩ := rfl
@[simp] abbrev hd196_0 (ys : List V1) (os : List Upd) : St := ⟨mkS 25 [(0, []), (1, []), (5, [])] ys, os⟩
@[simp] abbrev ex196_0 (ys : List V1) (os : List Upd) : St := ⟨mkS 25 [(4, [])] ys, os⟩
@[simp] theorem H199_0 : env.hint 199 0 = some ⟨[(0, []), (9, []), (10, [])], [(2, [])]⟩ := rfl
@[simp] abbrev hd199_0 (ys : List V1) (os : List Upd) : St := ⟨mkS 35 [(0, []), (9, []), (10, [])] ys, os⟩
@[simp] abbrev ex199_0 (ys : List V1) (os : List Upd) : St := ⟨mkS 35 [(2, [])] ys, os⟩
@[simp] theorem H202_0 : env.hint 202 0 = some ⟨[(3, []), (6, []), (7, []), (8, [])], [(2, []), (3, [])]⟩ := rfl
@[simp] abbrev hd202_0 (ys : List V1) (os : List Upd) : St := ⟨mkS 18 [(3, []), (6, []), (7, []), (8, [])] ys, os⟩
@[simp] abbrev ex202_0 (ys : List V1) (os : List Upd) : St := ⟨mkS 18 [(2, []), (3, [])] ys, os⟩
@[simp] theorem H206_0 : env.hint 206 0 = some ⟨[(0, []), (1, []), (5, []), (15, []), (16, []), (17, [])], [(0, []), (1, []), (5, []), (6, [])]⟩ := rfl
@[simp] abbrev hd206_0 (ys : List V1) (os : List Upd) : St := ⟨mkS 67 [(0, []), (1, []), (5, []), (15, []), (16, []), (17, [])] ys, os⟩
@[simp] abbrev ex206_0 (ys : List V1) (os : List Upd) : St := ⟨mkS 67 [(0, []), (1, []), (5, []), (6, [])] ys, os⟩
@[simp] theorem H209_2 : env.hint 209 2 = some ⟨[(0, []), (3, []), (4, []), (5, []), (6, [])], [(0, []), (3, []), (4, []), (5, [])]⟩ := rfl
@[simp] abbrev hd209_2 (ys : List V1) (os : List Upd) : St := ⟨mkS 52 [(0, []), (3, []), (4, []), (5, []), (6, [])] ys, os⟩
@[simp] abbrev ex209_2 (ys : List V1) (os : List Upd) : St := ⟨mkS 52 [(0, []), (3, []), (4, []), (5, [])] ys, os⟩
@[simp] theorem H209_0 : env.hint 209 0 = some ⟨[(0, []), (3, [.own 1])], [(2, [])]⟩ := rfl
@[simp] abbrev hd209_0 (ys : List V1) (os : List Upd) : St := ⟨mkS 52 [(0, []), (3, [.own 1])] ys, os⟩
@[simp] abbrev ex209_0 (ys : List V1) (os : List Upd) : St := ⟨mkS 52 [(2, [])] ys, os⟩
@[simp] theorem H210_0 : env.hint 210 0 = some ⟨[(0, []), (1, []), (5, []), (7, [])], [(0, []), (1, []), (5, []), (6, [])]⟩ := rfl
@[simp] abbrev hd210_0 (ys : List V1) (os : List Upd) : St := ⟨mkS 85 [(0, []), (1, []), (5, []), (7, [])] ys, os⟩
@[simp] abbrev ex210_0 (ys : List V1) (os : List Upd) : St := ⟨mkS 85 [(0, []), (1, []), (5, []), (6, [])] ys, os⟩
@[simp] theorem H211_0 : env.hint 211 0 = some ⟨[(0, []), (1, []), (5, [])], [(4, [])]⟩ := rfl
@[simp] abbrev hd211_0 (ys : List V1) (os : List Upd) : St := ⟨mkS 26 [(0, []), (1, []), (5, [])] ys, os⟩
@[simp] abbrev ex211_0 (ys : List V1) (os : List Upd) : St := ⟨mkS 26 [(4, [])] ys, os⟩
@[simp] theorem H215_0 : env.hint 215 0 = some ⟨[(1, []), (2, []), (9, [.own 8]), (14, []), (15, []), (16, [])], [(9, [.own 8])]⟩ := rfl
@[simp] abbrev hd215_0 (ys : List V1) (os : List Upd) : St := ⟨mkS 38 [(1, []), (2, []), (9, [.own 8]), (14, []), (15, []), (16, [])] ys, os⟩
@[simp] abbrev ex215_0 (ys : List V1) (os : List Upd) : St := ⟨mkS 38 [(9, [.own 8])] ys, os⟩
@[simp] theorem H218_0 : env.hint 218 0 = some ⟨[(1, []), (2, []), (3, []), (9, []), (10, [])], [(9, [])]⟩ := rfl
@[simp] abbrev hd218_0 (ys : List V1) (os : List Upd) : St := ⟨mkS 45 [(1, []), (2, []), (3, []), (9, []), (10, [])] ys, os⟩
@[simp] abbrev ex218_0 (ys : List V1) (os : List Upd) : St := ⟨mkS 45 [(9, [])] ys, os⟩
@[simp] theorem H220_0 : env.hint 220 0 = some ⟨[(0, []), (3, [.own 7]), (4, [])], [(3, [.own 7])]⟩ := rfl
@[simp] abbrev hd220_0 (ys : List V1) (os : List Upd) : St := ⟨mkS 26 [(0, []), (3, [.own 7]), (4, [])] ys, os⟩
@[simp] abbrev ex220_0 (ys : List V1) (os : List Upd) : St := ⟨mkS 26 [(3, [.own 7])] ys, os⟩
@[simp] theorem H242_0 : env.hint 242 0 = some ⟨[(0, []), (1, []), (7, []), (8, [])], [(4, [])]⟩ := rfl
@[simp] abbrev hd242_0 (ys : List V1) (os : List Upd) : St := ⟨mkS 19 [(0, []), (1, []), (7, []), (8, [])] ys, os⟩
@[simp] abbrev ex242_0 (ys : List V1) (os : List Upd) : St := ⟨mkS 19 [(4, [])] ys, os⟩
@[simp] theorem H248_0 : env.hint 248 0 = some ⟨[(0, []), (1, []), (5, [.own 8]), (6, [])], [(5, [.own 8])]⟩ := rfl
@[simp] abbrev hd248_0 (ys : List V1) (os : List Upd) : St := ⟨mkS 29 [(0, []), (1, []), (5, [.own 8]), (6, [])] ys, os⟩
@[simp] abbrev ex248_0 (ys : List V1) (os : List Upd) : St := ⟨mkS 29 [(5, [.own 8])] ys, os⟩
@[simp] theorem H257_0 : env.hint 257 0 = some ⟨[(0, []), (3, []), (5, [])], [(4, [])]⟩ := rfl
@[simp] abbrev hd257_0 (ys : List V1) (os : List Upd) : St := ⟨mkS 18 [(0, []), (3, []), (5, [])] ys, os⟩
@[simp] abbrev ex257_0 (ys : List V1) (os : List Upd) : St := ⟨mkS 18 [(4, [])] ys, os⟩
@[simp] theorem H268_0 : env.hint 268 0 = some ⟨[(0, []), (3, []), (7, []), (8, [])], [(4, [])]⟩ := rfl
@[simp] abbrev hd268_0 (ys : List V1) (os : List Upd) : St := ⟨mkS 19 [(0, []), (3, []), (7, []), (8, [])] ys, os⟩
@[simp] abbrev ex268_0 (ys : List V1) (os : List Upd) : St := ⟨mkS 19 [(4, [])] ys, os⟩
end Go.E2.S
