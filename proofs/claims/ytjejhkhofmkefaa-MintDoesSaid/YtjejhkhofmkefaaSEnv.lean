/- What the engine knows of this seat's program: types, functions, what loops keep, the library (printed by env.py). -/
import Derived.Test.YtjejhkhofmkefaaProg
import Derived.Test.YtjejhkhofmkefaaE11
import Derived.Test.YtjejhkhofmkefaaVLibs
import Derived.Test.YtjejhkhofmkefaaVSortS
import Derived.KernelRfl
namespace Go.E2.S
open Go Go.E2 Go.RowKit Go.Proofs
set_option linter.unusedVariables false
set_option linter.unusedSimpArgs false
def modes : Modes := fun f j => 
  if f = 3 then if j = 0 then [.pv 8] else if j = 3 then [.pv 1, .pv 1, .auto, .auto] else if j = 4 then [.pv 1, .pv 1, .auto, .auto] else [] else
  if f = 4 then if j = 0 then [.pv 8] else if j = 2 then [.pv 3] else if j = 3 then [.pv 1] else [] else
  if f = 5 then if j = 0 then [.pv 8] else [] else
  if f = 6 then if j = 0 then [.pv 8] else [] else
  if f = 7 then if j = 0 then [.pv 8] else if j = 3 then [.pv 5] else [] else
  if f = 8 then if j = 0 then [.pv 8] else if j = 3 then [.pv 5] else [] else
  if f = 10 then if j = 1 then [.pv 5] else [] else
  if f = 11 then if j = 1 then [.pv 5] else [] else
  if f = 12 then if j = 1 then [.pv 5] else [] else
  if f = 14 then if j = 0 then [.pv 8] else [] else
  if f = 15 then if j = 0 then [.pv 1] else [] else
  if f = 16 then if j = 0 then [.pv 8] else [] else
  if f = 17 then if j = 0 then [.pv 8] else [] else
  if f = 18 then if j = 0 then [.pv 1, .pv 1, .auto, .auto] else if j = 1 then [.pv 1, .pv 1, .auto, .auto] else [] else
  if f = 19 then if j = 0 then [.pv 8] else [] else
  if f = 20 then if j = 0 then [.pv 1] else if j = 1 then [.pv 1] else [] else
  if f = 21 then if j = 0 then [.pv 8] else [] else
  if f = 22 then if j = 0 then [.pv 8] else [] else
  if f = 23 then if j = 0 then [.pv 1, .pv 1, .auto, .auto] else if j = 1 then [.pv 1, .pv 1, .auto, .auto] else [] else
  if f = 24 then if j = 0 then [.pv 1, .pv 1, .auto, .auto] else [] else
  if f = 25 then if j = 0 then [.pv 8] else if j = 1 then [.pv 8] else [] else
  if f = 29 then if j = 0 then [.pv 8] else [] else
  if f = 30 then if j = 0 then [.pv 8] else [] else
  if f = 31 then if j = 0 then [.pv 8] else if j = 1 then [.pv 3] else [] else
  if f = 32 then if j = 0 then [.pv 8] else if j = 1 then [.pv 3] else [] else
  if f = 33 then if j = 0 then [.pv 8] else if j = 1 then [.pv 1] else [] else
  if f = 34 then if j = 0 then [.pv 8] else if j = 1 then [.pv 1] else [] else
  if f = 35 then if j = 0 then [.pv 8] else [] else
  if f = 36 then if j = 0 then [.pv 8] else [] else
  if f = 37 then if j = 0 then [.auto] else [] else
  if f = 38 then if j = 0 then [.pv 8] else [] else
  if f = 39 then if j = 0 then [.auto] else [] else
  if f = 40 then if j = 0 then [.pv 8] else [] else
  if f = 45 then if j = 0 then [.pv 8] else if j = 3 then [.pv 5] else [] else
  if f = 46 then if j = 0 then [.pv 8] else [] else
  if f = 47 then if j = 0 then [.pv 8] else if j = 3 then [.pv 7] else [] else
  if f = 48 then if j = 0 then [.pv 5] else [] else
  if f = 49 then if j = 2 then [.pv 7] else [] else
  if f = 52 then if j = 0 then [.pv 8, .pv 1, .pv 1, .auto] else if j = 1 then [.pv 8] else if j = 2 then [.pv 1] else [] else
  if f = 53 then if j = 0 then [.pv 8, .pv 1, .pv 1, .auto] else [] else
  if f = 54 then if j = 0 then [.pv 8, .pv 1, .pv 1, .auto] else if j = 1 then [.pv 8] else if j = 2 then [.pv 1] else [] else
  if f = 55 then if j = 0 then [.auto, .pv 8, .pv 1, .auto, .pv 1] else [] else
  if f = 56 then if j = 0 then [.pv 8, .pv 1, .pv 1, .auto] else if j = 1 then [.auto, .pv 8, .pv 1, .auto, .pv 1] else [] else
  if f = 57 then if j = 0 then [.pv 1] else [] else
  if f = 58 then if j = 0 then [.pv 1] else [] else
  if f = 59 then if j = 0 then [.pv 8, .pv 1, .pv 1, .auto] else [] else
  if f = 60 then if j = 0 then [.pv 8, .pv 1, .pv 1, .auto] else if j = 1 then [.pv 8, .pv 1, .pv 1, .auto] else [] else
  if f = 61 then if j = 0 then [.own 1] else [] else
  if f = 62 then if j = 0 then [.pv 1] else [] else
  if f = 63 then if j = 0 then [.pv 1] else [] else
  if f = 64 then if j = 0 then [.pv 8] else [] else
  if f = 65 then if j = 0 then [.pv 1] else if j = 1 then [.pv 1] else [] else
  if f = 69 then if j = 0 then [.pv 8] else [] else
  if f = 70 then if j = 0 then [.own 8] else [] else
  if f = 72 then if j = 0 then [.own 8] else [] else
  if f = 74 then if j = 0 then [.pv 8] else [] else
  if f = 76 then if j = 0 then [.auto] else [] else
  if f = 77 then if j = 0 then [.pv 3] else [] else
  if f = 79 then if j = 0 then [.pv 1] else [] else
  if f = 80 then if j = 0 then [.pv 1] else [] else
  if f = 82 then if j = 0 then [.own 1] else [] else
  if f = 83 then if j = 0 then [.own 1] else [] else
  if f = 84 then if j = 0 then [.pv 3] else if j = 1 then [.pv 3] else [] else
  if f = 85 then if j = 0 then [.pv 5] else [] else
  if f = 87 then if j = 0 then [.pv 8] else [] else
  if f = 88 then if j = 2 then [.auto, .auto, .auto, .auto, .auto, .auto, .pv 3] else [] else
  if f = 89 then if j = 2 then [.auto, .auto, .auto, .auto, .auto, .auto, .pv 3] else [] else
  if f = 90 then if j = 0 then [.pv 3] else [] else
  if f = 92 then if j = 0 then [.pv 8, .pv 1, .pv 1, .auto] else [] else
  if f = 93 then if j = 0 then [.pv 1] else if j = 1 then [.auto] else [] else
  if f = 94 then if j = 0 then [.own 8, .own 1, .own 1, .auto] else if j = 1 then [.pv 1] else [] else
  if f = 95 then if j = 0 then [.auto] else [] else
  if f = 96 then if j = 0 then [.own 1] else [] else
  if f = 98 then if j = 0 then [.auto] else [] else
  if f = 99 then if j = 0 then [.pv 8, .pv 1, .pv 1, .auto] else if j = 1 then [.pv 1] else [] else
  if f = 104 then if j = 0 then [.pv 1] else [] else
  if f = 108 then if j = 0 then [.auto] else [] else
  if f = 109 then if j = 0 then [.auto] else [] else
  if f = 110 then if j = 0 then [.pv 1] else [] else
  if f = 115 then if j = 0 then [.auto] else [] else
  if f = 117 then if j = 0 then [.own 3] else [] else
  if f = 119 then if j = 0 then [.own 3] else [] else
  if f = 122 then if j = 0 then [.auto] else [] else
  if f = 123 then if j = 0 then [.pv 1] else [] else
  if f = 124 then if j = 0 then [.auto] else [] else
  if f = 126 then if j = 0 then [.own 8, .own 1, .own 1, .auto] else [] else
  if f = 128 then if j = 0 then [.own 1] else [] else
  if f = 155 then if j = 0 then [.auto] else [] else
  if f = 156 then if j = 0 then [.own 1] else if j = 2 then [.pv 1] else [] else
  []
def rmod : FuncId → List (List CM) := fun f => if f = 29 then [[.own 8]] else if f = 31 then [[.own 8]] else if f = 33 then [[.own 8]] else if f = 35 then [[.own 8]] else if f = 47 then [[.own 8]] else if f = 61 then [[.own 1]] else if f = 72 then [[.own 8]] else if f = 83 then [[.own 1]] else if f = 92 then [[.own 8, .own 1, .own 1, .auto]] else if f = 93 then [[.own 1]] else if f = 94 then [[.own 8, .own 1, .own 1, .auto]] else if f = 119 then [[.own 3]] else if f = 126 then [[.own 8, .own 1, .own 1, .auto]] else if f = 128 then [[.own 1]] else []
def hints : FuncId → Nat → Option Hint := fun f id => 
  if f = 4 then if id = 0 then some ⟨[(0, []), (6, []), (11, []), (12, [])], [(0, []), (10, []), (11, [])]⟩ else none else
  if f = 5 then if id = 0 then some ⟨[(0, []), (1, []), (2, []), (3, []), (4, []), (13, []), (14, [])], [(0, []), (1, []), (2, []), (12, []), (13, [])]⟩ else none else
  if f = 7 then if id = 2 then some ⟨[(0, []), (3, []), (4, []), (5, []), (15, []), (16, []), (17, []), (18, []), (19, []), (20, []), (21, [])], [(0, []), (3, []), (4, []), (5, []), (15, []), (16, []), (17, []), (18, []), (19, []), (20, [])]⟩ else if id = 0 then some ⟨[(0, []), (3, []), (4, []), (5, []), (15, []), (16, []), (17, [])], [(0, []), (4, []), (5, []), (12, []), (15, []), (16, [])]⟩ else none else
  if f = 8 then if id = 0 then some ⟨[(11, []), (12, [])], [(8, [])]⟩ else none else
  if f = 10 then if id = 2 then some ⟨[(1, []), (5, []), (7, []), (8, []), (9, [])], [(1, []), (4, []), (5, []), (7, [])]⟩ else if id = 0 then some ⟨[(1, []), (5, []), (7, [])], [(4, [])]⟩ else none else
  if f = 11 then if id = 4 then some ⟨[(0, []), (1, []), (5, []), (7, []), (8, []), (9, []), (11, [])], [(0, []), (1, []), (4, []), (5, []), (7, [])]⟩ else if id = 2 then some ⟨[(0, []), (1, []), (5, []), (7, []), (8, []), (9, []), (10, [])], [(0, []), (1, []), (4, []), (5, []), (7, []), (8, []), (9, [])]⟩ else if id = 0 then some ⟨[(0, []), (1, []), (5, []), (7, [])], [(4, [])]⟩ else none else
  if f = 12 then if id = 0 then some ⟨[(1, []), (2, []), (3, []), (9, []), (11, [])], [(2, []), (3, []), (8, []), (9, [])]⟩ else none else
  if f = 14 then if id = 0 then some ⟨[(0, []), (3, [])], [(2, [])]⟩ else none else
  if f = 15 then if id = 0 then some ⟨[(0, []), (3, [])], [(2, [])]⟩ else none else
  if f = 17 then if id = 0 then some ⟨[(1, []), (2, []), (6, []), (7, [.ptr [.own 1, .own 1, .auto, .auto]]), (8, [.own 1]), (13, []), (14, []), (15, [])], [(6, []), (7, [.ptr [.own 1, .own 1, .auto, .auto]]), (8, [.own 1])]⟩ else none else
  if f = 19 then if id = 0 then some ⟨[(0, []), (1, []), (2, []), (6, []), (7, [.own 1]), (8, [])], [(0, []), (1, []), (2, []), (6, []), (7, [.own 1])]⟩ else none else
  if f = 20 then if id = 0 then some ⟨[(0, []), (1, []), (5, [])], [(4, [])]⟩ else none else
  if f = 21 then if id = 0 then some ⟨[(1, []), (5, [.own 1]), (8, []), (9, []), (10, [])], [(5, [.own 1])]⟩ else none else
  if f = 22 then if id = 0 then some ⟨[(0, []), (1, []), (5, [.own 1]), (6, [])], [(5, [.own 1])]⟩ else none else
  if f = 25 then if id = 0 then some ⟨[(0, []), (1, []), (5, [])], [(4, [])]⟩ else none else
  if f = 30 then if id = 2 then some ⟨[(0, []), (3, []), (4, []), (5, []), (6, [])], [(0, []), (3, []), (4, []), (5, [])]⟩ else if id = 0 then some ⟨[(0, []), (3, []), (4, [])], [(3, [])]⟩ else none else
  if f = 32 then if id = 0 then some ⟨[(0, []), (1, []), (5, [.own 8]), (6, [])], [(5, [.own 8])]⟩ else none else
  if f = 34 then if id = 0 then some ⟨[(0, []), (1, []), (5, [.own 8]), (6, [])], [(5, [.own 8])]⟩ else none else
  if f = 36 then if id = 0 then some ⟨[(0, []), (1, []), (5, [.own 8]), (6, [])], [(5, [.own 8])]⟩ else none else
  if f = 37 then if id = 0 then some ⟨[(3, [.own 1]), (6, []), (7, []), (8, [])], [(3, [.own 1])]⟩ else none else
  if f = 38 then if id = 0 then some ⟨[(0, []), (3, [.own 1]), (4, [])], [(3, [.own 1])]⟩ else none else
  if f = 39 then if id = 0 then some ⟨[(3, []), (6, []), (7, []), (8, [])], [(3, [])]⟩ else none else
  if f = 40 then if id = 0 then some ⟨[(0, []), (3, []), (4, [])], [(3, [])]⟩ else none else
  if f = 42 then if id = 0 then some ⟨[(2, []), (3, []), (53, []), (54, []), (55, [])], [(2, []), (3, []), (4, [])]⟩ else none else
  if f = 45 then if id = 0 then some ⟨[(0, [.pv 8]), (1, []), (2, []), (10, [.own 7]), (35, []), (36, []), (37, [])], [(8, []), (9, []), (10, [.own 7])]⟩ else none else
  if f = 46 then if id = 0 then some ⟨[(0, []), (1, []), (2, []), (7, [])], [(6, [])]⟩ else none else
  if f = 47 then if id = 0 then some ⟨[(1, []), (2, []), (9, [.own 8]), (14, []), (15, []), (16, [])], [(9, [.own 8])]⟩ else none else
  if f = 48 then if id = 0 then some ⟨[(0, []), (1, []), (5, [])], [(4, [])]⟩ else none else
  if f = 49 then if id = 0 then some ⟨[(2, []), (3, []), (4, []), (9, []), (10, []), (11, [])], [(6, [])]⟩ else none else
  if f = 57 then if id = 2 then some ⟨[(0, []), (3, []), (4, []), (5, []), (6, [])], [(0, []), (3, []), (4, []), (5, [])]⟩ else if id = 0 then some ⟨[(0, []), (3, [.own 1])], [(2, [])]⟩ else none else
  if f = 58 then if id = 0 then some ⟨[(0, []), (1, []), (5, [])], [(4, [])]⟩ else none else
  if f = 62 then if id = 0 then some ⟨[(4, []), (5, []), (11, []), (12, []), (13, [])], [(4, []), (5, [])]⟩ else none else
  if f = 63 then if id = 2 then some ⟨[(4, [.pv 1]), (5, [.pv 1]), (7, [])], [(2, []), (3, []), (7, [])]⟩ else if id = 0 then some ⟨[(0, []), (4, [.own 1]), (5, [.own 1]), (6, [])], [(4, [.own 1]), (5, [.own 1])]⟩ else none else
  if f = 64 then if id = 0 then some ⟨[(0, []), (1, []), (2, []), (3, []), (9, [.own 1]), (10, [])], [(9, [.own 1])]⟩ else none else
  if f = 65 then if id = 0 then some ⟨[(0, []), (1, []), (12, []), (13, [])], [(4, [])]⟩ else none else
  if f = 68 then if id = 0 then some ⟨[(0, []), (3, [])], [(0, []), (2, [])]⟩ else none else
  if f = 72 then if id = 0 then some ⟨[(0, []), (1, []), (5, []), (6, [])], [(0, []), (5, [])]⟩ else none else
  if f = 74 then if id = 0 then some ⟨[(0, []), (3, []), (5, [])], [(0, []), (3, []), (5, [])]⟩ else none else
  if f = 77 then if id = 0 then some ⟨[(0, []), (3, []), (5, [])], [(4, [])]⟩ else none else
  if f = 80 then if id = 0 then some ⟨[(0, []), (1, []), (5, [])], [(4, [])]⟩ else none else
  if f = 84 then if id = 0 then some ⟨[(0, []), (1, []), (5, [])], [(4, [])]⟩ else none else
  if f = 87 then if id = 0 then some ⟨[(0, []), (1, []), (2, []), (9, []), (10, []), (13, [.ptr [.auto, .auto, .auto, .auto, .auto, .auto, .own 3]]), (14, [.own 1]), (30, []), (31, []), (32, [])], [(0, []), (1, []), (2, []), (9, []), (10, []), (13, [.ptr [.auto, .auto, .auto, .auto, .auto, .auto, .own 3]]), (14, [.own 1])]⟩ else none else
  if f = 89 then if id = 0 then some ⟨[(0, []), (1, []), (5, []), (15, []), (16, []), (17, [])], [(0, []), (1, []), (5, []), (6, [])]⟩ else none else
  if f = 93 then if id = 2 then some ⟨[(6, [.own 1]), (27, []), (28, []), (29, [])], [(6, [.own 1])]⟩ else if id = 0 then some ⟨[(5, []), (6, [.own 1]), (13, []), (14, []), (15, [])], [(5, []), (6, [.own 1])]⟩ else none else
  if f = 94 then if id = 0 then some ⟨[(2, []), (3, []), (4, []), (5, [])], [(2, []), (4, [])]⟩ else none else
  if f = 95 then if id = 0 then some ⟨[(0, []), (1, []), (7, []), (8, [])], [(4, [])]⟩ else none else
  if f = 101 then if id = 0 then some ⟨[(0, []), (9, []), (10, [])], [(2, [])]⟩ else none else
  if f = 104 then if id = 0 then some ⟨[(3, []), (6, []), (7, []), (8, [])], [(2, []), (3, [])]⟩ else none else
  if f = 108 then if id = 0 then some ⟨[(0, []), (1, []), (7, []), (8, [])], [(4, [])]⟩ else none else
  if f = 109 then if id = 0 then some ⟨[(0, []), (3, []), (7, []), (8, [])], [(4, [])]⟩ else none else
  if f = 113 then if id = 0 then some ⟨[(0, []), (1, []), (5, [])], [(4, [])]⟩ else none else
  if f = 115 then if id = 0 then some ⟨[(0, []), (1, []), (7, []), (8, [])], [(4, [])]⟩ else none else
  if f = 119 then if id = 2 then some ⟨[(0, []), (3, []), (4, []), (5, [])], [(0, []), (3, [])]⟩ else if id = 0 then some ⟨[(0, []), (3, [])], [(0, []), (2, [])]⟩ else none else
  if f = 122 then if id = 0 then some ⟨[(0, []), (1, []), (7, []), (8, [])], [(4, [])]⟩ else none else
  if f = 124 then if id = 0 then some ⟨[(0, []), (1, []), (7, []), (8, [])], [(4, [])]⟩ else none else
  if f = 128 then if id = 0 then some ⟨[(0, []), (1, []), (5, []), (6, [])], [(0, []), (5, [])]⟩ else none else
  if f = 155 then if id = 0 then some ⟨[(0, []), (1, []), (6, []), (7, []), (8, [])], [(0, []), (1, []), (6, []), (7, [])]⟩ else none else
  none
noncomputable def libs : List (FuncId × LibFn) := [(69, libClone 8 88), (70, libSortF Try.prog 8), (82, Lib.libSort), (83, Lib.libCompact), (117, libSortF Try.prog 3), (123, libClone 1 16)]
def mvs : Nat → Nat → Bool := fun t d => if t = 22 ∧ d = 38 then true else if t = 22 ∧ d = 41 then true else if t = 23 ∧ d = 38 then true else if t = 23 ∧ d = 41 then true else if t = 41 ∧ d = 28 then true else if t = 41 ∧ d = 56 then true else if t = 41 ∧ d = 59 then true else false
def cls : FuncId → Option ClM := fun f => if f = 73 then some (.own) else if f = 75 then some (.frz [[3]]) else if f = 78 then some (.frz [[1]]) else if f = 81 then some (.frz [[0]]) else if f = 91 then some (.frz [[0], [0], [0, 0, 0, 0, 0, 0, 3]]) else if f = 97 then some (.own) else if f = 111 then some (.frz [[0]]) else if f = 125 then some (.frz [[1]]) else if f = 127 then some (.frz [[1]]) else if f = 153 then some (.frz [[0]]) else if f = 154 then some (.frz [[0]]) else none
def mps : Nat → Bool := fun t => if t = 95 then true else false
theorem map95 : MapOk Try.prog 95 := ⟨38, 4, Try.underlying95, ⟨_, Try.underlying38⟩, fun em d w => by kernel_rfl, run_eq_key (tagsOf_ok _ _ (by kernel_rfl)), Try.zeroValue4⟩
theorem mpsOk : ∀ t, mps t = true → MapOk Try.prog t := fun t h => by
  unfold mps at h
  split at h
  · rename_i e; subst e; exact map95
  cases h
noncomputable def env : Env := ⟨tyOf Try.prog, fnOf Try.prog, tagsOf Try.prog, modes, rmod, hints, plainOf Try.prog, fun f => lookL f libs, mvs, cls, mps⟩
theorem hE : EnvOk Try.prog env := envOk modes rmod hints _ mvs cls mps (by kernel_rfl) mpsOk
@[simp] theorem mv9_14 : env.mv 9 14 = false := rfl
@[simp] theorem mv22_24 : env.mv 22 24 = false := rfl
@[simp] theorem mv22_32 : env.mv 22 32 = false := rfl
@[simp] theorem mv22_38 : env.mv 22 38 = true := rfl
@[simp] theorem mv22_41 : env.mv 22 41 = true := rfl
@[simp] theorem mv23_12 : env.mv 23 12 = false := rfl
@[simp] theorem mv23_13 : env.mv 23 13 = false := rfl
@[simp] theorem mv23_22 : env.mv 23 22 = false := rfl
@[simp] theorem mv23_25 : env.mv 23 25 = false := rfl
@[simp] theorem mv23_31 : env.mv 23 31 = false := rfl
@[simp] theorem mv23_34 : env.mv 23 34 = false := rfl
@[simp] theorem mv23_38 : env.mv 23 38 = true := rfl
@[simp] theorem mv23_41 : env.mv 23 41 = true := rfl
@[simp] theorem mv23_43 : env.mv 23 43 = false := rfl
@[simp] theorem mv23_50 : env.mv 23 50 = false := rfl
@[simp] theorem mv23_53 : env.mv 23 53 = false := rfl
@[simp] theorem mv23_60 : env.mv 23 60 = false := rfl
@[simp] theorem mv23_66 : env.mv 23 66 = false := rfl
@[simp] theorem mv23_73 : env.mv 23 73 = false := rfl
@[simp] theorem mv23_76 : env.mv 23 76 = false := rfl
@[simp] theorem mv23_80 : env.mv 23 80 = false := rfl
@[simp] theorem mv23_86 : env.mv 23 86 = false := rfl
@[simp] theorem mv23_91 : env.mv 23 91 = false := rfl
@[simp] theorem mv41_28 : env.mv 41 28 = true := rfl
@[simp] theorem mv41_56 : env.mv 41 56 = true := rfl
@[simp] theorem mv41_59 : env.mv 41 59 = true := rfl
@[simp] theorem mv86_60 : env.mv 86 60 = false := rfl
@[simp] theorem mv86_74 : env.mv 86 74 = false := rfl
@[simp] theorem mv86_82 : env.mv 86 82 = false := rfl
@[simp] theorem mv86_87 : env.mv 86 87 = false := rfl
@[simp] theorem cl73 : env.cl 73 = some (.own) := rfl
@[simp] theorem cl75 : env.cl 75 = some (.frz [[3]]) := rfl
@[simp] theorem cl78 : env.cl 78 = some (.frz [[1]]) := rfl
@[simp] theorem cl81 : env.cl 81 = some (.frz [[0]]) := rfl
@[simp] theorem cl91 : env.cl 91 = some (.frz [[0], [0], [0, 0, 0, 0, 0, 0, 3]]) := rfl
@[simp] theorem cl97 : env.cl 97 = some (.own) := rfl
@[simp] theorem cl111 : env.cl 111 = some (.frz [[0]]) := rfl
@[simp] theorem cl125 : env.cl 125 = some (.frz [[1]]) := rfl
@[simp] theorem cl127 : env.cl 127 = some (.frz [[1]]) := rfl
@[simp] theorem cl153 : env.cl 153 = some (.frz [[0]]) := rfl
@[simp] theorem cl154 : env.cl 154 = some (.frz [[0]]) := rfl
@[simp] theorem mp95 : env.mps 95 = true := rfl
theorem hL : LibOk Try.prog env := libOk_of (by
  intro e he
  simp only [libs, List.mem_cons, List.not_mem_nil, or_false] at he
  rcases he with rfl | rfl | rfl | rfl | rfl | rfl
  · exact Lib.good_cloneItem
  · exact Lib.good_sortItem
  · exact Lib.good_sort
  · exact Lib.good_compact
  · exact Lib.good_sortDot
  · exact Lib.good_cloneStr)
noncomputable abbrev A : Ora := ans Try.prog env
@[simp] theorem t1 : env.tab 1 = some { agg := false, size := 1, bytes := 8, elem := 0, fields := [], zero := [.any], es := [0], str := false, bool := false, int := none, apl := [] } := by kernel_rfl
@[simp] theorem t2 : env.tab 2 = some { agg := false, size := 1, bytes := 8, elem := 0, fields := [], zero := [.pv (.int .i64 0)], es := [0], str := false, bool := false, int := some .i64, apl := [] } := by kernel_rfl
@[simp] theorem t3 : env.tab 3 = some { agg := false, size := 1, bytes := 8, elem := 0, fields := [], zero := [.pv (.int .i64 0)], es := [0], str := false, bool := false, int := some .i64, apl := [] } := by kernel_rfl
@[simp] theorem t4 : env.tab 4 = some { agg := false, size := 1, bytes := 1, elem := 0, fields := [], zero := [.pv (.bool false)], es := [0], str := false, bool := true, int := none, apl := [] } := by kernel_rfl
@[simp] theorem t5 : env.tab 5 = some { agg := false, size := 1, bytes := 1, elem := 0, fields := [], zero := [.pv (.int .u8 0)], es := [0], str := false, bool := false, int := some .u8, apl := [] } := by kernel_rfl
@[simp] theorem t6 : env.tab 6 = some { agg := false, size := 1, bytes := 1, elem := 0, fields := [], zero := [.pv (.int .u8 0)], es := [0], str := false, bool := false, int := some .u8, apl := [] } := by kernel_rfl
@[simp] theorem t7 : env.tab 7 = some { agg := true, size := 4, bytes := 24, elem := 0, fields := [(0, 2), (1, 3), (2, 4), (3, 6)], zero := [.pv (.int .i64 0), .pv (.int .i64 0), .pv (.bool false), .pv (.int .u8 0)], es := [0, 0, 0, 0], str := false, bool := false, int := none, apl := [] } := by kernel_rfl
@[simp] theorem t8 : env.tab 8 = some { agg := true, size := 4, bytes := 24, elem := 0, fields := [(0, 2), (1, 3), (2, 4), (3, 6)], zero := [.pv (.int .i64 0), .pv (.int .i64 0), .pv (.bool false), .pv (.int .u8 0)], es := [0, 0, 0, 0], str := false, bool := false, int := none, apl := [] } := by kernel_rfl
@[simp] theorem t9 : env.tab 9 = some { agg := false, size := 1, bytes := 16, elem := 0, fields := [], zero := [.pv (.str ⟨#[]⟩)], es := [0], str := true, bool := false, int := none, apl := [] } := by kernel_rfl
@[simp] theorem t12 : env.tab 12 = some { agg := false, size := 1, bytes := 8, elem := 0, fields := [], zero := [.pv (.int .u64 0)], es := [0], str := false, bool := false, int := some .u64, apl := [] } := by kernel_rfl
@[simp] theorem t13 : env.tab 13 = some { agg := true, size := 2, bytes := 24, elem := 0, fields := [(0, 9), (1, 12)], zero := [.pv (.str ⟨#[]⟩), .pv (.int .u64 0)], es := [0, 0], str := false, bool := false, int := none, apl := [] } := by kernel_rfl
@[simp] theorem t14 : env.tab 14 = some { agg := true, size := 2, bytes := 24, elem := 0, fields := [(0, 9), (1, 12)], zero := [.pv (.str ⟨#[]⟩), .pv (.int .u64 0)], es := [0, 0], str := false, bool := false, int := none, apl := [] } := by kernel_rfl
@[simp] theorem t15 : env.tab 15 = some { agg := false, size := 1, bytes := 8, elem := 0, fields := [], zero := [.any], es := [0], str := false, bool := false, int := none, apl := [] } := by kernel_rfl
@[simp] theorem t16 : env.tab 16 = some { agg := false, size := 1, bytes := 8, elem := 0, fields := [], zero := [.any], es := [0], str := false, bool := false, int := none, apl := [] } := by kernel_rfl
@[simp] theorem t17 : env.tab 17 = some { agg := false, size := 1, bytes := 8, elem := 0, fields := [], zero := [.any], es := [0], str := false, bool := false, int := none, apl := [] } := by kernel_rfl
@[simp] theorem t18 : env.tab 18 = some { agg := true, size := 1, bytes := 8, elem := 0, fields := [(0, 17)], zero := [.any], es := [0], str := false, bool := false, int := none, apl := [] } := by kernel_rfl
@[simp] theorem t19 : env.tab 19 = some { agg := true, size := 1, bytes := 8, elem := 0, fields := [(0, 17)], zero := [.any], es := [0], str := false, bool := false, int := none, apl := [] } := by kernel_rfl
@[simp] theorem t21 : env.tab 21 = some { agg := false, size := 1, bytes := 4, elem := 0, fields := [], zero := [.pv (.int .i32 0)], es := [0], str := false, bool := false, int := some .i32, apl := [] } := by kernel_rfl
@[simp] theorem t22 : env.tab 22 = some { agg := false, size := 1, bytes := 24, elem := 40, fields := [], zero := [.nil], es := [8], str := false, bool := false, int := none, apl := [] } := by kernel_rfl
@[simp] theorem t23 : env.tab 23 = some { agg := false, size := 1, bytes := 24, elem := 9, fields := [], zero := [.nil], es := [1], str := false, bool := false, int := none, apl := [] } := by kernel_rfl
@[simp] theorem t24 : env.tab 24 = some { agg := true, size := 4, bytes := 64, elem := 0, fields := [(0, 23), (1, 23), (2, 2), (3, 4)], zero := [.nil, .nil, .pv (.int .i64 0), .pv (.bool false)], es := [1, 1, 0, 0], str := false, bool := false, int := none, apl := [] } := by kernel_rfl
@[simp] theorem t25 : env.tab 25 = some { agg := true, size := 4, bytes := 64, elem := 0, fields := [(0, 23), (1, 23), (2, 2), (3, 4)], zero := [.nil, .nil, .pv (.int .i64 0), .pv (.bool false)], es := [1, 1, 0, 0], str := false, bool := false, int := none, apl := [] } := by kernel_rfl
@[simp] theorem t26 : env.tab 26 = some { agg := false, size := 1, bytes := 8, elem := 0, fields := [], zero := [.any], es := [0], str := false, bool := false, int := none, apl := [] } := by kernel_rfl
@[simp] theorem t27 : env.tab 27 = some { agg := false, size := 1, bytes := 8, elem := 0, fields := [], zero := [.any], es := [0], str := false, bool := false, int := none, apl := [] } := by kernel_rfl
@[simp] theorem t28 : env.tab 28 = some { agg := false, size := 1, bytes := 8, elem := 0, fields := [], zero := [.any], es := [0], str := false, bool := false, int := none, apl := [] } := by kernel_rfl
@[simp] theorem t29 : env.tab 29 = some { agg := false, size := 1, bytes := 8, elem := 0, fields := [], zero := [.any], es := [0], str := false, bool := false, int := none, apl := [] } := by kernel_rfl
@[simp] theorem t30 : env.tab 30 = some { agg := false, size := 1, bytes := 8, elem := 0, fields := [], zero := [.any], es := [0], str := false, bool := false, int := none, apl := [] } := by kernel_rfl
@[simp] theorem t31 : env.tab 31 = some { agg := false, size := 1, bytes := 8, elem := 0, fields := [], zero := [.any], es := [0], str := false, bool := false, int := none, apl := [] } := by kernel_rfl
@[simp] theorem t32 : env.tab 32 = some { agg := false, size := 1, bytes := 8, elem := 0, fields := [], zero := [.any], es := [0], str := false, bool := false, int := none, apl := [] } := by kernel_rfl
@[simp] theorem t33 : env.tab 33 = some { agg := false, size := 1, bytes := 8, elem := 0, fields := [], zero := [.any], es := [0], str := false, bool := false, int := none, apl := [] } := by kernel_rfl
@[simp] theorem t34 : env.tab 34 = some { agg := false, size := 1, bytes := 8, elem := 0, fields := [], zero := [.any], es := [0], str := false, bool := false, int := none, apl := [] } := by kernel_rfl
@[simp] theorem t35 : env.tab 35 = some { agg := false, size := 1, bytes := 8, elem := 0, fields := [], zero := [.any], es := [0], str := false, bool := false, int := none, apl := [] } := by kernel_rfl
@[simp] theorem t36 : env.tab 36 = some { agg := false, size := 1, bytes := 8, elem := 0, fields := [], zero := [.any], es := [0], str := false, bool := false, int := none, apl := [] } := by kernel_rfl
@[simp] theorem t37 : env.tab 37 = some { agg := true, size := 3, bytes := 24, elem := 0, fields := [(0, 3), (1, 3), (2, 3)], zero := [.pv (.int .i64 0), .pv (.int .i64 0), .pv (.int .i64 0)], es := [0, 0, 0], str := false, bool := false, int := none, apl := [] } := by kernel_rfl
@[simp] theorem t38 : env.tab 38 = some { agg := true, size := 3, bytes := 24, elem := 0, fields := [(0, 3), (1, 3), (2, 3)], zero := [.pv (.int .i64 0), .pv (.int .i64 0), .pv (.int .i64 0)], es := [0, 0, 0], str := false, bool := false, int := none, apl := [] } := by kernel_rfl
@[simp] theorem t39 : env.tab 39 = some { agg := true, size := 8, bytes := 88, elem := 0, fields := [(0, 9), (1, 9), (2, 3), (3, 9), (4, 2), (5, 38)], zero := [.pv (.str ⟨#[]⟩), .pv (.str ⟨#[]⟩), .pv (.int .i64 0), .pv (.str ⟨#[]⟩), .pv (.int .i64 0), .pv (.int .i64 0), .pv (.int .i64 0), .pv (.int .i64 0)], es := [0, 0, 0, 0, 0, 0, 0, 0], str := false, bool := false, int := none, apl := [] } := by kernel_rfl
@[simp] theorem t40 : env.tab 40 = some { agg := true, size := 8, bytes := 88, elem := 0, fields := [(0, 9), (1, 9), (2, 3), (3, 9), (4, 2), (5, 38)], zero := [.pv (.str ⟨#[]⟩), .pv (.str ⟨#[]⟩), .pv (.int .i64 0), .pv (.str ⟨#[]⟩), .pv (.int .i64 0), .pv (.int .i64 0), .pv (.int .i64 0), .pv (.int .i64 0)], es := [0, 0, 0, 0, 0, 0, 0, 0], str := false, bool := false, int := none, apl := [] } := by kernel_rfl
@[simp] theorem t41 : env.tab 41 = some { agg := false, size := 1, bytes := 24, elem := 38, fields := [], zero := [.nil], es := [3], str := false, bool := false, int := none, apl := [] } := by kernel_rfl
@[simp] theorem t42 : env.tab 42 = some { agg := false, size := 1, bytes := 8, elem := 0, fields := [], zero := [.any], es := [0], str := false, bool := false, int := none, apl := [] } := by kernel_rfl
@[simp] theorem t43 : env.tab 43 = some { agg := false, size := 1, bytes := 8, elem := 0, fields := [], zero := [.any], es := [0], str := false, bool := false, int := none, apl := [] } := by kernel_rfl
@[simp] theorem t44 : env.tab 44 = some { agg := false, size := 1, bytes := 8, elem := 0, fields := [], zero := [.any], es := [0], str := false, bool := false, int := none, apl := [] } := by kernel_rfl
@[simp] theorem t45 : env.tab 45 = some { agg := false, size := 1, bytes := 8, elem := 0, fields := [], zero := [.any], es := [0], str := false, bool := false, int := none, apl := [] } := by kernel_rfl
@[simp] theorem t46 : env.tab 46 = some { agg := false, size := 1, bytes := 8, elem := 0, fields := [], zero := [.any], es := [0], str := false, bool := false, int := none, apl := [] } := by kernel_rfl
@[simp] theorem t47 : env.tab 47 = some { agg := false, size := 1, bytes := 8, elem := 0, fields := [], zero := [.any], es := [0], str := false, bool := false, int := none, apl := [] } := by kernel_rfl
@[simp] theorem t48 : env.tab 48 = some { agg := false, size := 1, bytes := 8, elem := 0, fields := [], zero := [.any], es := [0], str := false, bool := false, int := none, apl := [] } := by kernel_rfl
@[simp] theorem t49 : env.tab 49 = some { agg := false, size := 1, bytes := 8, elem := 0, fields := [], zero := [.any], es := [0], str := false, bool := false, int := none, apl := [] } := by kernel_rfl
@[simp] theorem t50 : env.tab 50 = some { agg := true, size := 5, bytes := 64, elem := 0, fields := [(0, 3), (1, 9), (2, 9), (3, 9), (4, 2)], zero := [.pv (.int .i64 0), .pv (.str ⟨#[]⟩), .pv (.str ⟨#[]⟩), .pv (.str ⟨#[]⟩), .pv (.int .i64 0)], es := [0, 0, 0, 0, 0], str := false, bool := false, int := none, apl := [] } := by kernel_rfl
@[simp] theorem t51 : env.tab 51 = some { agg := true, size := 5, bytes := 64, elem := 0, fields := [(0, 3), (1, 9), (2, 9), (3, 9), (4, 2)], zero := [.pv (.int .i64 0), .pv (.str ⟨#[]⟩), .pv (.str ⟨#[]⟩), .pv (.str ⟨#[]⟩), .pv (.int .i64 0)], es := [0, 0, 0, 0, 0], str := false, bool := false, int := none, apl := [] } := by kernel_rfl
@[simp] theorem t52 : env.tab 52 = some { agg := false, size := 1, bytes := 24, elem := 51, fields := [], zero := [.nil], es := [5], str := false, bool := false, int := none, apl := [] } := by kernel_rfl
@[simp] theorem t53 : env.tab 53 = some { agg := false, size := 1, bytes := 8, elem := 0, fields := [], zero := [.any], es := [0], str := false, bool := false, int := none, apl := [] } := by kernel_rfl
@[simp] theorem t54 : env.tab 54 = some { agg := false, size := 1, bytes := 24, elem := 104, fields := [], zero := [.nil], es := [7], str := false, bool := false, int := none, apl := [] } := by kernel_rfl
@[simp] theorem t55 : env.tab 55 = some { agg := false, size := 1, bytes := 8, elem := 0, fields := [], zero := [.pv (.int .i64 0)], es := [0], str := false, bool := false, int := some .i64, apl := [] } := by kernel_rfl
@[simp] theorem t57 : env.tab 57 = some { agg := false, size := 1, bytes := 8, elem := 0, fields := [], zero := [.any], es := [0], str := false, bool := false, int := none, apl := [] } := by kernel_rfl
@[simp] theorem t58 : env.tab 58 = some { agg := false, size := 1, bytes := 8, elem := 0, fields := [], zero := [.any], es := [0], str := false, bool := false, int := none, apl := [] } := by kernel_rfl
@[simp] theorem t59 : env.tab 59 = some { agg := false, size := 1, bytes := 8, elem := 0, fields := [], zero := [.any], es := [0], str := false, bool := false, int := none, apl := [] } := by kernel_rfl
@[simp] theorem t60 : env.tab 60 = some { agg := false, size := 1, bytes := 8, elem := 0, fields := [], zero := [.any], es := [0], str := false, bool := false, int := none, apl := [] } := by kernel_rfl
@[simp] theorem t61 : env.tab 61 = some { agg := false, size := 1, bytes := 8, elem := 0, fields := [], zero := [.any], es := [0], str := false, bool := false, int := none, apl := [] } := by kernel_rfl
@[simp] theorem t62 : env.tab 62 = some { agg := false, size := 1, bytes := 8, elem := 0, fields := [], zero := [.any], es := [0], str := false, bool := false, int := none, apl := [] } := by kernel_rfl
@[simp] theorem t63 : env.tab 63 = some { agg := false, size := 1, bytes := 8, elem := 0, fields := [], zero := [.any], es := [0], str := false, bool := false, int := none, apl := [] } := by kernel_rfl
@[simp] theorem t64 : env.tab 64 = some { agg := false, size := 1, bytes := 8, elem := 0, fields := [], zero := [.any], es := [0], str := false, bool := false, int := none, apl := [] } := by kernel_rfl
@[simp] theorem t65 : env.tab 65 = some { agg := false, size := 1, bytes := 8, elem := 0, fields := [], zero := [.any], es := [0], str := false, bool := false, int := none, apl := [] } := by kernel_rfl
@[simp] theorem t66 : env.tab 66 = some { agg := true, size := 4, bytes := 80, elem := 0, fields := [(0, 22), (1, 23), (2, 23), (3, 3)], zero := [.nil, .nil, .nil, .pv (.int .i64 0)], es := [8, 1, 1, 0], str := false, bool := false, int := none, apl := [] } := by kernel_rfl
@[simp] theorem t67 : env.tab 67 = some { agg := true, size := 4, bytes := 80, elem := 0, fields := [(0, 22), (1, 23), (2, 23), (3, 3)], zero := [.nil, .nil, .nil, .pv (.int .i64 0)], es := [8, 1, 1, 0], str := false, bool := false, int := none, apl := [] } := by kernel_rfl
@[simp] theorem t69 : env.tab 69 = some { agg := false, size := 1, bytes := 8, elem := 0, fields := [], zero := [.any], es := [0], str := false, bool := false, int := none, apl := [] } := by kernel_rfl
@[simp] theorem t70 : env.tab 70 = some { agg := false, size := 1, bytes := 8, elem := 0, fields := [], zero := [.any], es := [0], str := false, bool := false, int := none, apl := [] } := by kernel_rfl
@[simp] theorem t71 : env.tab 71 = some { agg := false, size := 1, bytes := 8, elem := 0, fields := [], zero := [.any], es := [0], str := false, bool := false, int := none, apl := [] } := by kernel_rfl
@[simp] theorem t72 : env.tab 72 = some { agg := false, size := 1, bytes := 8, elem := 0, fields := [], zero := [.any], es := [0], str := false, bool := false, int := none, apl := [] } := by kernel_rfl
@[simp] theorem t73 : env.tab 73 = some { agg := false, size := 1, bytes := 24, elem := 76, fields := [], zero := [.nil], es := [5], str := false, bool := false, int := none, apl := [] } := by kernel_rfl
@[simp] theorem t74 : env.tab 74 = some { agg := false, size := 1, bytes := 8, elem := 0, fields := [], zero := [.any], es := [0], str := false, bool := false, int := none, apl := [] } := by kernel_rfl
@[simp] theorem t75 : env.tab 75 = some { agg := true, size := 5, bytes := 96, elem := 0, fields := [(0, 3), (1, 22), (2, 23), (3, 9), (4, 23)], zero := [.pv (.int .i64 0), .nil, .nil, .pv (.str ⟨#[]⟩), .nil], es := [0, 8, 1, 0, 1], str := false, bool := false, int := none, apl := [] } := by kernel_rfl
@[simp] theorem t76 : env.tab 76 = some { agg := true, size := 5, bytes := 96, elem := 0, fields := [(0, 3), (1, 22), (2, 23), (3, 9), (4, 23)], zero := [.pv (.int .i64 0), .nil, .nil, .pv (.str ⟨#[]⟩), .nil], es := [0, 8, 1, 0, 1], str := false, bool := false, int := none, apl := [] } := by kernel_rfl
@[simp] theorem t77 : env.tab 77 = some { agg := false, size := 1, bytes := 8, elem := 0, fields := [], zero := [.any], es := [0], str := false, bool := false, int := none, apl := [] } := by kernel_rfl
@[simp] theorem t78 : env.tab 78 = some { agg := false, size := 1, bytes := 8, elem := 0, fields := [], zero := [.any], es := [0], str := false, bool := false, int := none, apl := [] } := by kernel_rfl
@[simp] theorem t79 : env.tab 79 = some { agg := false, size := 1, bytes := 8, elem := 0, fields := [], zero := [.any], es := [0], str := false, bool := false, int := none, apl := [] } := by kernel_rfl
@[simp] theorem t80 : env.tab 80 = some { agg := false, size := 1, bytes := 8, elem := 0, fields := [], zero := [.any], es := [0], str := false, bool := false, int := none, apl := [] } := by kernel_rfl
@[simp] theorem t81 : env.tab 81 = some { agg := false, size := 1, bytes := 8, elem := 0, fields := [], zero := [.pv (.int .u64 0)], es := [0], str := false, bool := false, int := some .u64, apl := [] } := by kernel_rfl
@[simp] theorem t83 : env.tab 83 = some { agg := false, size := 1, bytes := 8, elem := 0, fields := [], zero := [.any], es := [0], str := false, bool := false, int := none, apl := [] } := by kernel_rfl
@[simp] theorem t84 : env.tab 84 = some { agg := false, size := 1, bytes := 8, elem := 0, fields := [], zero := [.any], es := [0], str := false, bool := false, int := none, apl := [] } := by kernel_rfl
@[simp] theorem t85 : env.tab 85 = some { agg := false, size := 1, bytes := 8, elem := 0, fields := [], zero := [.any], es := [0], str := false, bool := false, int := none, apl := [] } := by kernel_rfl
@[simp] theorem t86 : env.tab 86 = some { agg := false, size := 1, bytes := 24, elem := 2, fields := [], zero := [.nil], es := [1], str := false, bool := false, int := none, apl := [] } := by kernel_rfl
@[simp] theorem t88 : env.tab 88 = some { agg := false, size := 1, bytes := 8, elem := 0, fields := [], zero := [.any], es := [0], str := false, bool := false, int := none, apl := [] } := by kernel_rfl
@[simp] theorem t90 : env.tab 90 = some { agg := false, size := 1, bytes := 8, elem := 0, fields := [], zero := [.any], es := [0], str := false, bool := false, int := none, apl := [] } := by kernel_rfl
@[simp] theorem t91 : env.tab 91 = some { agg := false, size := 1, bytes := 8, elem := 0, fields := [], zero := [.any], es := [0], str := false, bool := false, int := none, apl := [] } := by kernel_rfl
@[simp] theorem t92 : env.tab 92 = some { agg := false, size := 1, bytes := 8, elem := 0, fields := [], zero := [.any], es := [0], str := false, bool := false, int := none, apl := [] } := by kernel_rfl
@[simp] theorem t93 : env.tab 93 = some { agg := false, size := 1, bytes := 8, elem := 0, fields := [], zero := [.any], es := [0], str := false, bool := false, int := none, apl := [] } := by kernel_rfl
@[simp] theorem t94 : env.tab 94 = some { agg := false, size := 1, bytes := 8, elem := 0, fields := [], zero := [.any], es := [0], str := false, bool := false, int := none, apl := [] } := by kernel_rfl
@[simp] theorem t95 : env.tab 95 = some { agg := false, size := 1, bytes := 8, elem := 0, fields := [], zero := [.any], es := [0], str := false, bool := false, int := none, apl := [] } := by kernel_rfl
@[simp] theorem t96 : env.tab 96 = some { agg := false, size := 1, bytes := 8, elem := 0, fields := [], zero := [.any], es := [0], str := false, bool := false, int := none, apl := [] } := by kernel_rfl
@[simp] theorem t97 : env.tab 97 = some { agg := false, size := 1, bytes := 8, elem := 0, fields := [], zero := [.any], es := [0], str := false, bool := false, int := none, apl := [] } := by kernel_rfl
@[simp] theorem t98 : env.tab 98 = some { agg := false, size := 1, bytes := 8, elem := 0, fields := [], zero := [.any], es := [0], str := false, bool := false, int := none, apl := [] } := by kernel_rfl
@[simp] theorem t99 : env.tab 99 = some { agg := false, size := 1, bytes := 8, elem := 0, fields := [], zero := [.any], es := [0], str := false, bool := false, int := none, apl := [] } := by kernel_rfl
@[simp] theorem t100 : env.tab 100 = some { agg := true, size := 2, bytes := 16, elem := 0, fields := [], zero := [.pv (.int .i64 0), .pv (.int .i64 0)], es := [0, 0], str := false, bool := false, int := none, apl := [(0, 3), (1, 3)] } := by kernel_rfl
@[simp] theorem t101 : env.tab 101 = some { agg := false, size := 1, bytes := 24, elem := 100, fields := [], zero := [.nil], es := [2], str := false, bool := false, int := none, apl := [] } := by kernel_rfl
@[simp] theorem t104 : env.tab 104 = some { agg := true, size := 7, bytes := 96, elem := 0, fields := [(0, 3), (1, 9), (2, 9), (3, 3), (4, 9), (5, 2), (6, 41)], zero := [.pv (.int .i64 0), .pv (.str ⟨#[]⟩), .pv (.str ⟨#[]⟩), .pv (.int .i64 0), .pv (.str ⟨#[]⟩), .pv (.int .i64 0), .nil], es := [0, 0, 0, 0, 0, 0, 3], str := false, bool := false, int := none, apl := [] } := by kernel_rfl
@[simp] theorem t105 : env.tab 105 = some { agg := false, size := 1, bytes := 8, elem := 0, fields := [], zero := [.any], es := [0], str := false, bool := false, int := none, apl := [] } := by kernel_rfl
@[simp] theorem t107 : env.tab 107 = some { agg := false, size := 1, bytes := 8, elem := 0, fields := [], zero := [.any], es := [0], str := false, bool := false, int := none, apl := [] } := by kernel_rfl
@[simp] theorem t108 : env.tab 108 = some { agg := false, size := 1, bytes := 8, elem := 0, fields := [], zero := [.any], es := [0], str := false, bool := false, int := none, apl := [] } := by kernel_rfl
@[simp] theorem t109 : env.tab 109 = some { agg := false, size := 1, bytes := 8, elem := 0, fields := [], zero := [.any], es := [0], str := false, bool := false, int := none, apl := [] } := by kernel_rfl
@[simp] theorem t110 : env.tab 110 = some { agg := false, size := 1, bytes := 8, elem := 0, fields := [], zero := [.any], es := [0], str := false, bool := false, int := none, apl := [] } := by kernel_rfl
@[simp] theorem t111 : env.tab 111 = some { agg := false, size := 1, bytes := 8, elem := 0, fields := [], zero := [.any], es := [0], str := false, bool := false, int := none, apl := [] } := by kernel_rfl
@[simp] theorem t112 : env.tab 112 = some { agg := false, size := 1, bytes := 8, elem := 0, fields := [], zero := [.any], es := [0], str := false, bool := false, int := none, apl := [] } := by kernel_rfl
@[simp] theorem t113 : env.tab 113 = some { agg := false, size := 1, bytes := 8, elem := 0, fields := [], zero := [.any], es := [0], str := false, bool := false, int := none, apl := [] } := by kernel_rfl
@[simp] theorem t115 : env.tab 115 = some { agg := false, size := 1, bytes := 8, elem := 0, fields := [], zero := [.any], es := [0], str := false, bool := false, int := none, apl := [] } := by kernel_rfl
@[simp] theorem t116 : env.tab 116 = some { agg := false, size := 1, bytes := 8, elem := 0, fields := [], zero := [.any], es := [0], str := false, bool := false, int := none, apl := [] } := by kernel_rfl
@[simp] theorem t117 : env.tab 117 = some { agg := false, size := 1, bytes := 8, elem := 0, fields := [], zero := [.any], es := [0], str := false, bool := false, int := none, apl := [] } := by kernel_rfl
@[simp] theorem t118 : env.tab 118 = some { agg := false, size := 1, bytes := 8, elem := 0, fields := [], zero := [.any], es := [0], str := false, bool := false, int := none, apl := [] } := by kernel_rfl
@[simp] theorem t119 : env.tab 119 = some { agg := false, size := 1, bytes := 8, elem := 0, fields := [], zero := [.any], es := [0], str := false, bool := false, int := none, apl := [] } := by kernel_rfl
@[simp] theorem t120 : env.tab 120 = some { agg := false, size := 1, bytes := 8, elem := 0, fields := [], zero := [.any], es := [0], str := false, bool := false, int := none, apl := [] } := by kernel_rfl
@[simp] theorem t121 : env.tab 121 = some { agg := false, size := 1, bytes := 8, elem := 0, fields := [], zero := [.any], es := [0], str := false, bool := false, int := none, apl := [] } := by kernel_rfl
@[simp] theorem t122 : env.tab 122 = some { agg := false, size := 1, bytes := 8, elem := 0, fields := [], zero := [.any], es := [0], str := false, bool := false, int := none, apl := [] } := by kernel_rfl
@[simp] theorem t123 : env.tab 123 = some { agg := false, size := 1, bytes := 8, elem := 0, fields := [], zero := [.any], es := [0], str := false, bool := false, int := none, apl := [] } := by kernel_rfl
@[simp] theorem t124 : env.tab 124 = some { agg := false, size := 1, bytes := 8, elem := 0, fields := [], zero := [.any], es := [0], str := false, bool := false, int := none, apl := [] } := by kernel_rfl
@[simp] theorem t125 : env.tab 125 = some { agg := false, size := 1, bytes := 8, elem := 0, fields := [], zero := [.any], es := [0], str := false, bool := false, int := none, apl := [] } := by kernel_rfl
@[simp] theorem t126 : env.tab 126 = some { agg := false, size := 1, bytes := 8, elem := 0, fields := [], zero := [.any], es := [0], str := false, bool := false, int := none, apl := [] } := by kernel_rfl
@[simp] theorem t127 : env.tab 127 = some { agg := false, size := 1, bytes := 8, elem := 0, fields := [], zero := [.any], es := [0], str := false, bool := false, int := none, apl := [] } := by kernel_rfl
@[simp] theorem t128 : env.tab 128 = some { agg := false, size := 1, bytes := 8, elem := 0, fields := [], zero := [.any], es := [0], str := false, bool := false, int := none, apl := [] } := by kernel_rfl
@[simp] theorem t132 : env.tab 132 = some { agg := false, size := 1, bytes := 8, elem := 0, fields := [], zero := [.any], es := [0], str := false, bool := false, int := none, apl := [] } := by kernel_rfl
@[simp] theorem t140 : env.tab 140 = some { agg := false, size := 1, bytes := 8, elem := 0, fields := [], zero := [.any], es := [0], str := false, bool := false, int := none, apl := [] } := by kernel_rfl
@[simp] theorem t141 : env.tab 141 = some { agg := false, size := 1, bytes := 8, elem := 0, fields := [], zero := [.any], es := [0], str := false, bool := false, int := none, apl := [] } := by kernel_rfl
@[simp] theorem t142 : env.tab 142 = some { agg := false, size := 1, bytes := 8, elem := 0, fields := [], zero := [.any], es := [0], str := false, bool := false, int := none, apl := [] } := by kernel_rfl
@[simp] theorem t149 : env.tab 149 = some { agg := false, size := 1, bytes := 24, elem := 3, fields := [], zero := [.nil], es := [1], str := false, bool := false, int := none, apl := [] } := by kernel_rfl
@[simp] theorem t153 : env.tab 153 = some { agg := false, size := 1, bytes := 8, elem := 0, fields := [], zero := [.any], es := [0], str := false, bool := false, int := none, apl := [] } := by kernel_rfl
@[simp] theorem t154 : env.tab 154 = some { agg := false, size := 1, bytes := 8, elem := 0, fields := [], zero := [.any], es := [0], str := false, bool := false, int := none, apl := [] } := by kernel_rfl
@[simp] theorem t155 : env.tab 155 = some { agg := false, size := 1, bytes := 8, elem := 0, fields := [], zero := [.any], es := [0], str := false, bool := false, int := none, apl := [] } := by kernel_rfl
@[simp] theorem t156 : env.tab 156 = some { agg := false, size := 1, bytes := 8, elem := 0, fields := [], zero := [.any], es := [0], str := false, bool := false, int := none, apl := [] } := by kernel_rfl
@[simp] theorem t173 : env.tab 173 = some { agg := false, size := 1, bytes := 8, elem := 0, fields := [], zero := [.any], es := [0], str := false, bool := false, int := none, apl := [] } := by kernel_rfl
@[simp] theorem t174 : env.tab 174 = some { agg := false, size := 1, bytes := 8, elem := 0, fields := [], zero := [.any], es := [0], str := false, bool := false, int := none, apl := [] } := by kernel_rfl
@[simp] theorem tg38 : env.tags 38 = some [.i, .i, .i] := by kernel_rfl
@[simp] theorem tg40 : env.tags 40 = some [.s, .s, .i, .s, .i, .i, .i, .i] := by kernel_rfl
@[simp] theorem F3 : env.fns 3 = true := by kernel_rfl
@[simp] theorem M3_0 : env.M 3 0 = [.pv 8] := rfl
@[simp] theorem M3_1 : env.M 3 1 = [] := rfl
@[simp] theorem M3_2 : env.M 3 2 = [] := rfl
@[simp] theorem M3_3 : env.M 3 3 = [.pv 1, .pv 1, .auto, .auto] := rfl
@[simp] theorem M3_4 : env.M 3 4 = [.pv 1, .pv 1, .auto, .auto] := rfl
theorem L3 : env.lib 3 = none := by show lookL 3 libs = _; simp [libs, lookL]
@[simp] theorem R3 : env.R 3 = [] := rfl
@[simp] theorem F4 : env.fns 4 = true := by kernel_rfl
@[simp] theorem M4_0 : env.M 4 0 = [.pv 8] := rfl
@[simp] theorem M4_1 : env.M 4 1 = [] := rfl
@[simp] theorem M4_2 : env.M 4 2 = [.pv 3] := rfl
@[simp] theorem M4_3 : env.M 4 3 = [.pv 1] := rfl
@[simp] theorem M4_4 : env.M 4 4 = [] := rfl
theorem L4 : env.lib 4 = none := by show lookL 4 libs = _; simp [libs, lookL]
@[simp] theorem R4 : env.R 4 = [] := rfl
@[simp] theorem F5 : env.fns 5 = true := by kernel_rfl
@[simp] theorem M5_0 : env.M 5 0 = [.pv 8] := rfl
@[simp] theorem M5_1 : env.M 5 1 = [] := rfl
@[simp] theorem M5_2 : env.M 5 2 = [] := rfl
@[simp] theorem M5_3 : env.M 5 3 = [] := rfl
@[simp] theorem M5_4 : env.M 5 4 = [] := rfl
@[simp] theorem M5_5 : env.M 5 5 = [] := rfl
theorem L5 : env.lib 5 = none := by show lookL 5 libs = _; simp [libs, lookL]
@[simp] theorem R5 : env.R 5 = [] := rfl
@[simp] theorem F6 : env.fns 6 = true := by kernel_rfl
@[simp] theorem M6_0 : env.M 6 0 = [.pv 8] := rfl
@[simp] theorem M6_1 : env.M 6 1 = [] := rfl
@[simp] theorem M6_2 : env.M 6 2 = [] := rfl
@[simp] theorem M6_3 : env.M 6 3 = [] := rfl
@[simp] theorem M6_4 : env.M 6 4 = [] := rfl
@[simp] theorem M6_5 : env.M 6 5 = [] := rfl
theorem L6 : env.lib 6 = none := by show lookL 6 libs = _; simp [libs, lookL]
@[simp] theorem R6 : env.R 6 = [] := rfl
@[simp] theorem F7 : env.fns 7 = true := by kernel_rfl
@[simp] theorem M7_0 : env.M 7 0 = [.pv 8] := rfl
@[simp] theorem M7_1 : env.M 7 1 = [] := rfl
@[simp] theorem M7_2 : env.M 7 2 = [] := rfl
@[simp] theorem M7_3 : env.M 7 3 = [.pv 5] := rfl
@[simp] theorem M7_4 : env.M 7 4 = [] := rfl
@[simp] theorem M7_5 : env.M 7 5 = [] := rfl
theorem L7 : env.lib 7 = none := by show lookL 7 libs = _; simp [libs, lookL]
@[simp] theorem R7 : env.R 7 = [] := rfl
@[simp] theorem F8 : env.fns 8 = true := by kernel_rfl
@[simp] theorem M8_0 : env.M 8 0 = [.pv 8] := rfl
@[simp] theorem M8_1 : env.M 8 1 = [] := rfl
@[simp] theorem M8_2 : env.M 8 2 = [] := rfl
@[simp] theorem M8_3 : env.M 8 3 = [.pv 5] := rfl
theorem L8 : env.lib 8 = none := by show lookL 8 libs = _; simp [libs, lookL]
@[simp] theorem R8 : env.R 8 = [] := rfl
@[simp] theorem F9 : env.fns 9 = true := by kernel_rfl
@[simp] theorem M9_0 : env.M 9 0 = [] := rfl
theorem L9 : env.lib 9 = none := by show lookL 9 libs = _; simp [libs, lookL]
@[simp] theorem R9 : env.R 9 = [] := rfl
@[simp] theorem F10 : env.fns 10 = true := by kernel_rfl
@[simp] theorem M10_0 : env.M 10 0 = [] := rfl
@[simp] theorem M10_1 : env.M 10 1 = [.pv 5] := rfl
theorem L10 : env.lib 10 = none := by show lookL 10 libs = _; simp [libs, lookL]
@[simp] theorem R10 : env.R 10 = [] := rfl
@[simp] theorem F11 : env.fns 11 = true := by kernel_rfl
@[simp] theorem M11_0 : env.M 11 0 = [] := rfl
@[simp] theorem M11_1 : env.M 11 1 = [.pv 5] := rfl
theorem L11 : env.lib 11 = none := by show lookL 11 libs = _; simp [libs, lookL]
@[simp] theorem R11 : env.R 11 = [] := rfl
@[simp] theorem F12 : env.fns 12 = true := by kernel_rfl
@[simp] theorem M12_0 : env.M 12 0 = [] := rfl
@[simp] theorem M12_1 : env.M 12 1 = [.pv 5] := rfl
@[simp] theorem M12_2 : env.M 12 2 = [] := rfl
@[simp] theorem M12_3 : env.M 12 3 = [] := rfl
theorem L12 : env.lib 12 = none := by show lookL 12 libs = _; simp [libs, lookL]
@[simp] theorem R12 : env.R 12 = [] := rfl
@[simp] theorem F13 : env.fns 13 = true := by kernel_rfl
theorem L13 : env.lib 13 = none := by show lookL 13 libs = _; simp [libs, lookL]
@[simp] theorem R13 : env.R 13 = [] := rfl
@[simp] theorem F14 : env.fns 14 = true := by kernel_rfl
@[simp] theorem M14_0 : env.M 14 0 = [.pv 8] := rfl
theorem L14 : env.lib 14 = none := by show lookL 14 libs = _; simp [libs, lookL]
@[simp] theorem R14 : env.R 14 = [] := rfl
@[simp] theorem F15 : env.fns 15 = true := by kernel_rfl
@[simp] theorem M15_0 : env.M 15 0 = [.pv 1] := rfl
theorem L15 : env.lib 15 = none := by show lookL 15 libs = _; simp [libs, lookL]
@[simp] theorem R15 : env.R 15 = [] := rfl
@[simp] theorem F16 : env.fns 16 = true := by kernel_rfl
@[simp] theorem M16_0 : env.M 16 0 = [.pv 8] := rfl
theorem L16 : env.lib 16 = none := by show lookL 16 libs = _; simp [libs, lookL]
@[simp] theorem R16 : env.R 16 = [] := rfl
@[simp] theorem F17 : env.fns 17 = true := by kernel_rfl
@[simp] theorem M17_0 : env.M 17 0 = [.pv 8] := rfl
@[simp] theorem M17_1 : env.M 17 1 = [] := rfl
@[simp] theorem M17_2 : env.M 17 2 = [] := rfl
theorem L17 : env.lib 17 = none := by show lookL 17 libs = _; simp [libs, lookL]
@[simp] theorem R17 : env.R 17 = [] := rfl
@[simp] theorem F18 : env.fns 18 = true := by kernel_rfl
@[simp] theorem M18_0 : env.M 18 0 = [.pv 1, .pv 1, .auto, .auto] := rfl
@[simp] theorem M18_1 : env.M 18 1 = [.pv 1, .pv 1, .auto, .auto] := rfl
theorem L18 : env.lib 18 = none := by show lookL 18 libs = _; simp [libs, lookL]
@[simp] theorem R18 : env.R 18 = [] := rfl
@[simp] theorem F19 : env.fns 19 = true := by kernel_rfl
@[simp] theorem M19_0 : env.M 19 0 = [.pv 8] := rfl
@[simp] theorem M19_1 : env.M 19 1 = [] := rfl
@[simp] theorem M19_2 : env.M 19 2 = [] := rfl
theorem L19 : env.lib 19 = none := by show lookL 19 libs = _; simp [libs, lookL]
@[simp] theorem R19 : env.R 19 = [] := rfl
@[simp] theorem F20 : env.fns 20 = true := by kernel_rfl
@[simp] theorem M20_0 : env.M 20 0 = [.pv 1] := rfl
@[simp] theorem M20_1 : env.M 20 1 = [.pv 1] := rfl
theorem L20 : env.lib 20 = none := by show lookL 20 libs = _; simp [libs, lookL]
@[simp] theorem R20 : env.R 20 = [] := rfl
@[simp] theorem F21 : env.fns 21 = true := by kernel_rfl
@[simp] theorem M21_0 : env.M 21 0 = [.pv 8] := rfl
@[simp] theorem M21_1 : env.M 21 1 = [] := rfl
theorem L21 : env.lib 21 = none := by show lookL 21 libs = _; simp [libs, lookL]
@[simp] theorem R21 : env.R 21 = [] := rfl
@[simp] theorem F22 : env.fns 22 = true := by kernel_rfl
@[simp] theorem M22_0 : env.M 22 0 = [.pv 8] := rfl
@[simp] theorem M22_1 : env.M 22 1 = [] := rfl
theorem L22 : env.lib 22 = none := by show lookL 22 libs = _; simp [libs, lookL]
@[simp] theorem R22 : env.R 22 = [] := rfl
@[simp] theorem F23 : env.fns 23 = true := by kernel_rfl
@[simp] theorem M23_0 : env.M 23 0 = [.pv 1, .pv 1, .auto, .auto] := rfl
@[simp] theorem M23_1 : env.M 23 1 = [.pv 1, .pv 1, .auto, .auto] := rfl
theorem L23 : env.lib 23 = none := by show lookL 23 libs = _; simp [libs, lookL]
@[simp] theorem R23 : env.R 23 = [] := rfl
@[simp] theorem F24 : env.fns 24 = true := by kernel_rfl
@[simp] theorem M24_0 : env.M 24 0 = [.pv 1, .pv 1, .auto, .auto] := rfl
theorem L24 : env.lib 24 = none := by show lookL 24 libs = _; simp [libs, lookL]
@[simp] theorem R24 : env.R 24 = [] := rfl
@[simp] theorem F25 : env.fns 25 = true := by kernel_rfl
@[simp] theorem M25_0 : env.M 25 0 = [.pv 8] := rfl
@[simp] theorem M25_1 : env.M 25 1 = [.pv 8] := rfl
theorem L25 : env.lib 25 = none := by show lookL 25 libs = _; simp [libs, lookL]
@[simp] theorem R25 : env.R 25 = [] := rfl
@[simp] theorem F26 : env.fns 26 = true := by kernel_rfl
theorem L26 : env.lib 26 = none := by show lookL 26 libs = _; simp [libs, lookL]
@[simp] theorem R26 : env.R 26 = [] := rfl
@[simp] theorem F27 : env.fns 27 = true := by kernel_rfl
@[simp] theorem M27_0 : env.M 27 0 = [] := rfl
theorem L27 : env.lib 27 = none := by show lookL 27 libs = _; simp [libs, lookL]
@[simp] theorem R27 : env.R 27 = [] := rfl
@[simp] theorem F28 : env.fns 28 = true := by kernel_rfl
@[simp] theorem M28_0 : env.M 28 0 = [] := rfl
theorem L28 : env.lib 28 = none := by show lookL 28 libs = _; simp [libs, lookL]
@[simp] theorem R28 : env.R 28 = [] := rfl
@[simp] theorem F29 : env.fns 29 = true := by kernel_rfl
@[simp] theorem M29_0 : env.M 29 0 = [.pv 8] := rfl
theorem L29 : env.lib 29 = none := by show lookL 29 libs = _; simp [libs, lookL]
@[simp] theorem R29 : env.R 29 = [[.own 8]] := rfl
@[simp] theorem F30 : env.fns 30 = true := by kernel_rfl
@[simp] theorem M30_0 : env.M 30 0 = [.pv 8] := rfl
theorem L30 : env.lib 30 = none := by show lookL 30 libs = _; simp [libs, lookL]
@[simp] theorem R30 : env.R 30 = [] := rfl
@[simp] theorem F31 : env.fns 31 = true := by kernel_rfl
@[simp] theorem M31_0 : env.M 31 0 = [.pv 8] := rfl
@[simp] theorem M31_1 : env.M 31 1 = [.pv 3] := rfl
theorem L31 : env.lib 31 = none := by show lookL 31 libs = _; simp [libs, lookL]
@[simp] theorem R31 : env.R 31 = [[.own 8]] := rfl
@[simp] theorem F32 : env.fns 32 = true := by kernel_rfl
@[simp] theorem M32_0 : env.M 32 0 = [.pv 8] := rfl
@[simp] theorem M32_1 : env.M 32 1 = [.pv 3] := rfl
theorem L32 : env.lib 32 = none := by show lookL 32 libs = _; simp [libs, lookL]
@[simp] theorem R32 : env.R 32 = [] := rfl
@[simp] theorem F33 : env.fns 33 = true := by kernel_rfl
@[simp] theorem M33_0 : env.M 33 0 = [.pv 8] := rfl
@[simp] theorem M33_1 : env.M 33 1 = [.pv 1] := rfl
theorem L33 : env.lib 33 = none := by show lookL 33 libs = _; simp [libs, lookL]
@[simp] theorem R33 : env.R 33 = [[.own 8]] := rfl
@[simp] theorem F34 : env.fns 34 = true := by kernel_rfl
@[simp] theorem M34_0 : env.M 34 0 = [.pv 8] := rfl
@[simp] theorem M34_1 : env.M 34 1 = [.pv 1] := rfl
theorem L34 : env.lib 34 = none := by show lookL 34 libs = _; simp [libs, lookL]
@[simp] theorem R34 : env.R 34 = [] := rfl
@[simp] theorem F35 : env.fns 35 = true := by kernel_rfl
@[simp] theorem M35_0 : env.M 35 0 = [.pv 8] := rfl
@[simp] theorem M35_1 : env.M 35 1 = [] := rfl
theorem L35 : env.lib 35 = none := by show lookL 35 libs = _; simp [libs, lookL]
@[simp] theorem R35 : env.R 35 = [[.own 8]] := rfl
@[simp] theorem F36 : env.fns 36 = true := by kernel_rfl
@[simp] theorem M36_0 : env.M 36 0 = [.pv 8] := rfl
@[simp] theorem M36_1 : env.M 36 1 = [] := rfl
theorem L36 : env.lib 36 = none := by show lookL 36 libs = _; simp [libs, lookL]
@[simp] theorem R36 : env.R 36 = [] := rfl
@[simp] theorem F37 : env.fns 37 = true := by kernel_rfl
@[simp] theorem M37_0 : env.M 37 0 = [.auto] := rfl
theorem L37 : env.lib 37 = none := by show lookL 37 libs = _; simp [libs, lookL]
@[simp] theorem R37 : env.R 37 = [] := rfl
@[simp] theorem F38 : env.fns 38 = true := by kernel_rfl
@[simp] theorem M38_0 : env.M 38 0 = [.pv 8] := rfl
theorem L38 : env.lib 38 = none := by show lookL 38 libs = _; simp [libs, lookL]
@[simp] theorem R38 : env.R 38 = [] := rfl
@[simp] theorem F39 : env.fns 39 = true := by kernel_rfl
@[simp] theorem M39_0 : env.M 39 0 = [.auto] := rfl
theorem L39 : env.lib 39 = none := by show lookL 39 libs = _; simp [libs, lookL]
@[simp] theorem R39 : env.R 39 = [] := rfl
@[simp] theorem F40 : env.fns 40 = true := by kernel_rfl
@[simp] theorem M40_0 : env.M 40 0 = [.pv 8] := rfl
theorem L40 : env.lib 40 = none := by show lookL 40 libs = _; simp [libs, lookL]
@[simp] theorem R40 : env.R 40 = [] := rfl
@[simp] theorem F41 : env.fns 41 = true := by kernel_rfl
@[simp] theorem M41_0 : env.M 41 0 = [] := rfl
@[simp] theorem M41_1 : env.M 41 1 = [] := rfl
theorem L41 : env.lib 41 = none := by show lookL 41 libs = _; simp [libs, lookL]
@[simp] theorem R41 : env.R 41 = [] := rfl
@[simp] theorem F42 : env.fns 42 = true := by kernel_rfl
@[simp] theorem M42_0 : env.M 42 0 = [] := rfl
@[simp] theorem M42_1 : env.M 42 1 = [] := rfl
theorem L42 : env.lib 42 = none := by show lookL 42 libs = _; simp [libs, lookL]
@[simp] theorem R42 : env.R 42 = [] := rfl
@[simp] theorem F43 : env.fns 43 = true := by kernel_rfl
theorem L43 : env.lib 43 = none := by show lookL 43 libs = _; simp [libs, lookL]
@[simp] theorem R43 : env.R 43 = [] := rfl
@[simp] theorem F44 : env.fns 44 = true := by kernel_rfl
@[simp] theorem M44_0 : env.M 44 0 = [] := rfl
theorem L44 : env.lib 44 = none := by show lookL 44 libs = _; simp [libs, lookL]
@[simp] theorem R44 : env.R 44 = [] := rfl
@[simp] theorem F45 : env.fns 45 = true := by kernel_rfl
@[simp] theorem M45_0 : env.M 45 0 = [.pv 8] := rfl
@[simp] theorem M45_1 : env.M 45 1 = [] := rfl
@[simp] theorem M45_2 : env.M 45 2 = [] := rfl
@[simp] theorem M45_3 : env.M 45 3 = [.pv 5] := rfl
theorem L45 : env.lib 45 = none := by show lookL 45 libs = _; simp [libs, lookL]
@[simp] theorem R45 : env.R 45 = [] := rfl
@[simp] theorem F46 : env.fns 46 = true := by kernel_rfl
@[simp] theorem M46_0 : env.M 46 0 = [.pv 8] := rfl
@[simp] theorem M46_1 : env.M 46 1 = [] := rfl
@[simp] theorem M46_2 : env.M 46 2 = [] := rfl
theorem L46 : env.lib 46 = none := by show lookL 46 libs = _; simp [libs, lookL]
@[simp] theorem R46 : env.R 46 = [] := rfl
@[simp] theorem F47 : env.fns 47 = true := by kernel_rfl
@[simp] theorem M47_0 : env.M 47 0 = [.pv 8] := rfl
@[simp] theorem M47_1 : env.M 47 1 = [] := rfl
@[simp] theorem M47_2 : env.M 47 2 = [] := rfl
@[simp] theorem M47_3 : env.M 47 3 = [.pv 7] := rfl
theorem L47 : env.lib 47 = none := by show lookL 47 libs = _; simp [libs, lookL]
@[simp] theorem R47 : env.R 47 = [[.own 8]] := rfl
@[simp] theorem F48 : env.fns 48 = true := by kernel_rfl
@[simp] theorem M48_0 : env.M 48 0 = [.pv 5] := rfl
@[simp] theorem M48_1 : env.M 48 1 = [] := rfl
theorem L48 : env.lib 48 = none := by show lookL 48 libs = _; simp [libs, lookL]
@[simp] theorem R48 : env.R 48 = [] := rfl
@[simp] theorem F49 : env.fns 49 = true := by kernel_rfl
@[simp] theorem M49_0 : env.M 49 0 = [] := rfl
@[simp] theorem M49_1 : env.M 49 1 = [] := rfl
@[simp] theorem M49_2 : env.M 49 2 = [.pv 7] := rfl
theorem L49 : env.lib 49 = none := by show lookL 49 libs = _; simp [libs, lookL]
@[simp] theorem R49 : env.R 49 = [] := rfl
@[simp] theorem F50 : env.fns 50 = true := by kernel_rfl
theorem L50 : env.lib 50 = none := by show lookL 50 libs = _; simp [libs, lookL]
@[simp] theorem R50 : env.R 50 = [] := rfl
@[simp] theorem F51 : env.fns 51 = true := by kernel_rfl
@[simp] theorem M51_0 : env.M 51 0 = [] := rfl
theorem L51 : env.lib 51 = none := by show lookL 51 libs = _; simp [libs, lookL]
@[simp] theorem R51 : env.R 51 = [] := rfl
@[simp] theorem F52 : env.fns 52 = true := by kernel_rfl
@[simp] theorem M52_0 : env.M 52 0 = [.pv 8, .pv 1, .pv 1, .auto] := rfl
@[simp] theorem M52_1 : env.M 52 1 = [.pv 8] := rfl
@[simp] theorem M52_2 : env.M 52 2 = [.pv 1] := rfl
theorem L52 : env.lib 52 = none := by show lookL 52 libs = _; simp [libs, lookL]
@[simp] theorem R52 : env.R 52 = [] := rfl
@[simp] theorem F53 : env.fns 53 = true := by kernel_rfl
@[simp] theorem M53_0 : env.M 53 0 = [.pv 8, .pv 1, .pv 1, .auto] := rfl
@[simp] theorem M53_1 : env.M 53 1 = [] := rfl
theorem L53 : env.lib 53 = none := by show lookL 53 libs = _; simp [libs, lookL]
@[simp] theorem R53 : env.R 53 = [] := rfl
@[simp] theorem F54 : env.fns 54 = true := by kernel_rfl
@[simp] theorem M54_0 : env.M 54 0 = [.pv 8, .pv 1, .pv 1, .auto] := rfl
@[simp] theorem M54_1 : env.M 54 1 = [.pv 8] := rfl
@[simp] theorem M54_2 : env.M 54 2 = [.pv 1] := rfl
theorem L54 : env.lib 54 = none := by show lookL 54 libs = _; simp [libs, lookL]
@[simp] theorem R54 : env.R 54 = [] := rfl
@[simp] theorem F55 : env.fns 55 = true := by kernel_rfl
@[simp] theorem M55_0 : env.M 55 0 = [.auto, .pv 8, .pv 1, .auto, .pv 1] := rfl
theorem L55 : env.lib 55 = none := by show lookL 55 libs = _; simp [libs, lookL]
@[simp] theorem R55 : env.R 55 = [] := rfl
@[simp] theorem F56 : env.fns 56 = true := by kernel_rfl
@[simp] theorem M56_0 : env.M 56 0 = [.pv 8, .pv 1, .pv 1, .auto] := rfl
@[simp] theorem M56_1 : env.M 56 1 = [.auto, .pv 8, .pv 1, .auto, .pv 1] := rfl
theorem L56 : env.lib 56 = none := by show lookL 56 libs = _; simp [libs, lookL]
@[simp] theorem R56 : env.R 56 = [] := rfl
@[simp] theorem F57 : env.fns 57 = true := by kernel_rfl
@[simp] theorem M57_0 : env.M 57 0 = [.pv 1] := rfl
theorem L57 : env.lib 57 = none := by show lookL 57 libs = _; simp [libs, lookL]
@[simp] theorem R57 : env.R 57 = [] := rfl
@[simp] theorem F58 : env.fns 58 = true := by kernel_rfl
@[simp] theorem M58_0 : env.M 58 0 = [.pv 1] := rfl
@[simp] theorem M58_1 : env.M 58 1 = [] := rfl
theorem L58 : env.lib 58 = none := by show lookL 58 libs = _; simp [libs, lookL]
@[simp] theorem R58 : env.R 58 = [] := rfl
@[simp] theorem F59 : env.fns 59 = true := by kernel_rfl
@[simp] theorem M59_0 : env.M 59 0 = [.pv 8, .pv 1, .pv 1, .auto] := rfl
@[simp] theorem M59_1 : env.M 59 1 = [] := rfl
theorem L59 : env.lib 59 = none := by show lookL 59 libs = _; simp [libs, lookL]
@[simp] theorem R59 : env.R 59 = [] := rfl
@[simp] theorem F60 : env.fns 60 = true := by kernel_rfl
@[simp] theorem M60_0 : env.M 60 0 = [.pv 8, .pv 1, .pv 1, .auto] := rfl
@[simp] theorem M60_1 : env.M 60 1 = [.pv 8, .pv 1, .pv 1, .auto] := rfl
theorem L60 : env.lib 60 = none := by show lookL 60 libs = _; simp [libs, lookL]
@[simp] theorem R60 : env.R 60 = [] := rfl
@[simp] theorem F61 : env.fns 61 = true := by kernel_rfl
@[simp] theorem M61_0 : env.M 61 0 = [.own 1] := rfl
theorem L61 : env.lib 61 = none := by show lookL 61 libs = _; simp [libs, lookL]
@[simp] theorem R61 : env.R 61 = [[.own 1]] := rfl
@[simp] theorem F62 : env.fns 62 = true := by kernel_rfl
@[simp] theorem M62_0 : env.M 62 0 = [.pv 1] := rfl
theorem L62 : env.lib 62 = none := by show lookL 62 libs = _; simp [libs, lookL]
@[simp] theorem R62 : env.R 62 = [] := rfl
@[simp] theorem F63 : env.fns 63 = true := by kernel_rfl
@[simp] theorem M63_0 : env.M 63 0 = [.pv 1] := rfl
theorem L63 : env.lib 63 = none := by show lookL 63 libs = _; simp [libs, lookL]
@[simp] theorem R63 : env.R 63 = [] := rfl
@[simp] theorem F64 : env.fns 64 = true := by kernel_rfl
@[simp] theorem M64_0 : env.M 64 0 = [.pv 8] := rfl
@[simp] theorem M64_1 : env.M 64 1 = [] := rfl
@[simp] theorem M64_2 : env.M 64 2 = [] := rfl
@[simp] theorem M64_3 : env.M 64 3 = [] := rfl
theorem L64 : env.lib 64 = none := by show lookL 64 libs = _; simp [libs, lookL]
@[simp] theorem R64 : env.R 64 = [] := rfl
@[simp] theorem F65 : env.fns 65 = true := by kernel_rfl
@[simp] theorem M65_0 : env.M 65 0 = [.pv 1] := rfl
@[simp] theorem M65_1 : env.M 65 1 = [.pv 1] := rfl
theorem L65 : env.lib 65 = none := by show lookL 65 libs = _; simp [libs, lookL]
@[simp] theorem R65 : env.R 65 = [] := rfl
@[simp] theorem F66 : env.fns 66 = true := by kernel_rfl
@[simp] theorem M66_0 : env.M 66 0 = [] := rfl
theorem L66 : env.lib 66 = none := by show lookL 66 libs = _; simp [libs, lookL]
@[simp] theorem R66 : env.R 66 = [] := rfl
@[simp] theorem F67 : env.fns 67 = true := by kernel_rfl
@[simp] theorem M67_0 : env.M 67 0 = [] := rfl
theorem L67 : env.lib 67 = none := by show lookL 67 libs = _; simp [libs, lookL]
@[simp] theorem R67 : env.R 67 = [] := rfl
@[simp] theorem F68 : env.fns 68 = true := by kernel_rfl
@[simp] theorem M68_0 : env.M 68 0 = [] := rfl
theorem L68 : env.lib 68 = none := by show lookL 68 libs = _; simp [libs, lookL]
@[simp] theorem R68 : env.R 68 = [] := rfl
@[simp] theorem F69 : env.fns 69 = true := by kernel_rfl
@[simp] theorem M69_0 : env.M 69 0 = [.pv 8] := rfl
theorem L69 : env.lib 69 = some (libClone 8 88) := by show lookL 69 libs = _; simp [libs, lookL]
@[simp] theorem F70 : env.fns 70 = true := by kernel_rfl
@[simp] theorem M70_0 : env.M 70 0 = [.own 8] := rfl
@[simp] theorem M70_1 : env.M 70 1 = [] := rfl
theorem L70 : env.lib 70 = some (libSortF Try.prog 8) := by show lookL 70 libs = _; simp [libs, lookL]
@[simp] theorem F71 : env.fns 71 = true := by kernel_rfl
@[simp] theorem M71_0 : env.M 71 0 = [] := rfl
@[simp] theorem M71_1 : env.M 71 1 = [] := rfl
theorem L71 : env.lib 71 = none := by show lookL 71 libs = _; simp [libs, lookL]
@[simp] theorem R71 : env.R 71 = [] := rfl
@[simp] theorem F72 : env.fns 72 = true := by kernel_rfl
@[simp] theorem M72_0 : env.M 72 0 = [.own 8] := rfl
@[simp] theorem M72_1 : env.M 72 1 = [] := rfl
theorem L72 : env.lib 72 = none := by show lookL 72 libs = _; simp [libs, lookL]
@[simp] theorem R72 : env.R 72 = [[.own 8]] := rfl
@[simp] theorem F73 : env.fns 73 = true := by kernel_rfl
@[simp] theorem M73_0 : env.M 73 0 = [] := rfl
theorem L73 : env.lib 73 = none := by show lookL 73 libs = _; simp [libs, lookL]
@[simp] theorem R73 : env.R 73 = [] := rfl
@[simp] theorem F74 : env.fns 74 = true := by kernel_rfl
@[simp] theorem M74_0 : env.M 74 0 = [.pv 8] := rfl
@[simp] theorem M74_1 : env.M 74 1 = [] := rfl
theorem L74 : env.lib 74 = none := by show lookL 74 libs = _; simp [libs, lookL]
@[simp] theorem R74 : env.R 74 = [] := rfl
@[simp] theorem F75 : env.fns 75 = true := by kernel_rfl
@[simp] theorem M75_0 : env.M 75 0 = [] := rfl
theorem L75 : env.lib 75 = none := by show lookL 75 libs = _; simp [libs, lookL]
@[simp] theorem R75 : env.R 75 = [] := rfl
@[simp] theorem F76 : env.fns 76 = true := by kernel_rfl
@[simp] theorem M76_0 : env.M 76 0 = [.auto] := rfl
@[simp] theorem M76_1 : env.M 76 1 = [] := rfl
theorem L76 : env.lib 76 = none := by show lookL 76 libs = _; simp [libs, lookL]
@[simp] theorem R76 : env.R 76 = [] := rfl
@[simp] theorem F77 : env.fns 77 = true := by kernel_rfl
@[simp] theorem M77_0 : env.M 77 0 = [.pv 3] := rfl
@[simp] theorem M77_1 : env.M 77 1 = [] := rfl
theorem L77 : env.lib 77 = none := by show lookL 77 libs = _; simp [libs, lookL]
@[simp] theorem R77 : env.R 77 = [] := rfl
@[simp] theorem F78 : env.fns 78 = true := by kernel_rfl
@[simp] theorem M78_0 : env.M 78 0 = [] := rfl
theorem L78 : env.lib 78 = none := by show lookL 78 libs = _; simp [libs, lookL]
@[simp] theorem R78 : env.R 78 = [] := rfl
@[simp] theorem F79 : env.fns 79 = true := by kernel_rfl
@[simp] theorem M79_0 : env.M 79 0 = [.pv 1] := rfl
@[simp] theorem M79_1 : env.M 79 1 = [] := rfl
theorem L79 : env.lib 79 = none := by show lookL 79 libs = _; simp [libs, lookL]
@[simp] theorem R79 : env.R 79 = [] := rfl
@[simp] theorem F80 : env.fns 80 = true := by kernel_rfl
@[simp] theorem M80_0 : env.M 80 0 = [.pv 1] := rfl
@[simp] theorem M80_1 : env.M 80 1 = [] := rfl
theorem L80 : env.lib 80 = none := by show lookL 80 libs = _; simp [libs, lookL]
@[simp] theorem R80 : env.R 80 = [] := rfl
@[simp] theorem F81 : env.fns 81 = true := by kernel_rfl
@[simp] theorem M81_0 : env.M 81 0 = [] := rfl
theorem L81 : env.lib 81 = none := by show lookL 81 libs = _; simp [libs, lookL]
@[simp] theorem R81 : env.R 81 = [] := rfl
@[simp] theorem F82 : env.fns 82 = true := by kernel_rfl
@[simp] theorem M82_0 : env.M 82 0 = [.own 1] := rfl
theorem L82 : env.lib 82 = some (Lib.libSort) := by show lookL 82 libs = _; simp [libs, lookL]
@[simp] theorem F83 : env.fns 83 = true := by kernel_rfl
@[simp] theorem M83_0 : env.M 83 0 = [.own 1] := rfl
theorem L83 : env.lib 83 = some (Lib.libCompact) := by show lookL 83 libs = _; simp [libs, lookL]
@[simp] theorem F84 : env.fns 84 = true := by kernel_rfl
@[simp] theorem M84_0 : env.M 84 0 = [.pv 3] := rfl
@[simp] theorem M84_1 : env.M 84 1 = [.pv 3] := rfl
theorem L84 : env.lib 84 = none := by show lookL 84 libs = _; simp [libs, lookL]
@[simp] theorem R84 : env.R 84 = [] := rfl
@[simp] theorem F85 : env.fns 85 = true := by kernel_rfl
@[simp] theorem M85_0 : env.M 85 0 = [.pv 5] := rfl
@[simp] theorem M85_1 : env.M 85 1 = [] := rfl
theorem L85 : env.lib 85 = none := by show lookL 85 libs = _; simp [libs, lookL]
@[simp] theorem R85 : env.R 85 = [] := rfl
@[simp] theorem F86 : env.fns 86 = true := by kernel_rfl
@[simp] theorem M86_0 : env.M 86 0 = [] := rfl
theorem L86 : env.lib 86 = none := by show lookL 86 libs = _; simp [libs, lookL]
@[simp] theorem R86 : env.R 86 = [] := rfl
@[simp] theorem F87 : env.fns 87 = true := by kernel_rfl
@[simp] theorem M87_0 : env.M 87 0 = [.pv 8] := rfl
@[simp] theorem M87_1 : env.M 87 1 = [] := rfl
@[simp] theorem M87_2 : env.M 87 2 = [] := rfl
@[simp] theorem M87_3 : env.M 87 3 = [] := rfl
@[simp] theorem M87_4 : env.M 87 4 = [] := rfl
theorem L87 : env.lib 87 = none := by show lookL 87 libs = _; simp [libs, lookL]
@[simp] theorem R87 : env.R 87 = [] := rfl
@[simp] theorem F88 : env.fns 88 = true := by kernel_rfl
@[simp] theorem M88_0 : env.M 88 0 = [] := rfl
@[simp] theorem M88_1 : env.M 88 1 = [] := rfl
@[simp] theorem M88_2 : env.M 88 2 = [.auto, .auto, .auto, .auto, .auto, .auto, .pv 3] := rfl
theorem L88 : env.lib 88 = none := by show lookL 88 libs = _; simp [libs, lookL]
@[simp] theorem R88 : env.R 88 = [] := rfl
@[simp] theorem F89 : env.fns 89 = true := by kernel_rfl
@[simp] theorem M89_0 : env.M 89 0 = [] := rfl
@[simp] theorem M89_1 : env.M 89 1 = [] := rfl
@[simp] theorem M89_2 : env.M 89 2 = [.auto, .auto, .auto, .auto, .auto, .auto, .pv 3] := rfl
theorem L89 : env.lib 89 = none := by show lookL 89 libs = _; simp [libs, lookL]
@[simp] theorem R89 : env.R 89 = [] := rfl
@[simp] theorem F90 : env.fns 90 = true := by kernel_rfl
@[simp] theorem M90_0 : env.M 90 0 = [.pv 3] := rfl
@[simp] theorem M90_1 : env.M 90 1 = [] := rfl
theorem L90 : env.lib 90 = none := by show lookL 90 libs = _; simp [libs, lookL]
@[simp] theorem R90 : env.R 90 = [] := rfl
@[simp] theorem F91 : env.fns 91 = true := by kernel_rfl
@[simp] theorem M91_0 : env.M 91 0 = [] := rfl
theorem L91 : env.lib 91 = none := by show lookL 91 libs = _; simp [libs, lookL]
@[simp] theorem R91 : env.R 91 = [] := rfl
@[simp] theorem F92 : env.fns 92 = true := by kernel_rfl
@[simp] theorem M92_0 : env.M 92 0 = [.pv 8, .pv 1, .pv 1, .auto] := rfl
theorem L92 : env.lib 92 = none := by show lookL 92 libs = _; simp [libs, lookL]
@[simp] theorem R92 : env.R 92 = [[.own 8, .own 1, .own 1, .auto]] := rfl
@[simp] theorem F93 : env.fns 93 = true := by kernel_rfl
@[simp] theorem M93_0 : env.M 93 0 = [.pv 1] := rfl
@[simp] theorem M93_1 : env.M 93 1 = [.auto] := rfl
theorem L93 : env.lib 93 = none := by show lookL 93 libs = _; simp [libs, lookL]
@[simp] theorem R93 : env.R 93 = [[.own 1]] := rfl
@[simp] theorem F94 : env.fns 94 = true := by kernel_rfl
@[simp] theorem M94_0 : env.M 94 0 = [.own 8, .own 1, .own 1, .auto] := rfl
@[simp] theorem M94_1 : env.M 94 1 = [.pv 1] := rfl
theorem L94 : env.lib 94 = none := by show lookL 94 libs = _; simp [libs, lookL]
@[simp] theorem R94 : env.R 94 = [[.own 8, .own 1, .own 1, .auto]] := rfl
@[simp] theorem F95 : env.fns 95 = true := by kernel_rfl
@[simp] theorem M95_0 : env.M 95 0 = [.auto] := rfl
@[simp] theorem M95_1 : env.M 95 1 = [] := rfl
theorem L95 : env.lib 95 = none := by show lookL 95 libs = _; simp [libs, lookL]
@[simp] theorem R95 : env.R 95 = [] := rfl
@[simp] theorem F96 : env.fns 96 = true := by kernel_rfl
@[simp] theorem M96_0 : env.M 96 0 = [.own 1] := rfl
@[simp] theorem M96_1 : env.M 96 1 = [] := rfl
@[simp] theorem M96_2 : env.M 96 2 = [] := rfl
theorem L96 : env.lib 96 = none := by show lookL 96 libs = _; simp [libs, lookL]
@[simp] theorem R96 : env.R 96 = [] := rfl
@[simp] theorem F97 : env.fns 97 = true := by kernel_rfl
@[simp] theorem M97_0 : env.M 97 0 = [] := rfl
theorem L97 : env.lib 97 = none := by show lookL 97 libs = _; simp [libs, lookL]
@[simp] theorem R97 : env.R 97 = [] := rfl
@[simp] theorem F98 : env.fns 98 = true := by kernel_rfl
@[simp] theorem M98_0 : env.M 98 0 = [.auto] := rfl
@[simp] theorem M98_1 : env.M 98 1 = [] := rfl
theorem L98 : env.lib 98 = none := by show lookL 98 libs = _; simp [libs, lookL]
@[simp] theorem R98 : env.R 98 = [] := rfl
@[simp] theorem F99 : env.fns 99 = true := by kernel_rfl
@[simp] theorem M99_0 : env.M 99 0 = [.pv 8, .pv 1, .pv 1, .auto] := rfl
@[simp] theorem M99_1 : env.M 99 1 = [.pv 1] := rfl
theorem L99 : env.lib 99 = none := by show lookL 99 libs = _; simp [libs, lookL]
@[simp] theorem R99 : env.R 99 = [] := rfl
@[simp] theorem F100 : env.fns 100 = true := by kernel_rfl
@[simp] theorem M100_0 : env.M 100 0 = [] := rfl
@[simp] theorem M100_1 : env.M 100 1 = [] := rfl
theorem L100 : env.lib 100 = none := by show lookL 100 libs = _; simp [libs, lookL]
@[simp] theorem R100 : env.R 100 = [] := rfl
@[simp] theorem F101 : env.fns 101 = true := by kernel_rfl
@[simp] theorem M101_0 : env.M 101 0 = [] := rfl
theorem L101 : env.lib 101 = none := by show lookL 101 libs = _; simp [libs, lookL]
@[simp] theorem R101 : env.R 101 = [] := rfl
@[simp] theorem F104 : env.fns 104 = true := by kernel_rfl
@[simp] theorem M104_0 : env.M 104 0 = [.pv 1] := rfl
theorem L104 : env.lib 104 = none := by show lookL 104 libs = _; simp [libs, lookL]
@[simp] theorem R104 : env.R 104 = [] := rfl
@[simp] theorem F105 : env.fns 105 = true := by kernel_rfl
@[simp] theorem M105_0 : env.M 105 0 = [] := rfl
@[simp] theorem M105_1 : env.M 105 1 = [] := rfl
theorem L105 : env.lib 105 = none := by show lookL 105 libs = _; simp [libs, lookL]
@[simp] theorem R105 : env.R 105 = [] := rfl
@[simp] theorem F106 : env.fns 106 = true := by kernel_rfl
@[simp] theorem M106_0 : env.M 106 0 = [] := rfl
@[simp] theorem M106_1 : env.M 106 1 = [] := rfl
theorem L106 : env.lib 106 = none := by show lookL 106 libs = _; simp [libs, lookL]
@[simp] theorem R106 : env.R 106 = [] := rfl
@[simp] theorem F107 : env.fns 107 = true := by kernel_rfl
@[simp] theorem M107_0 : env.M 107 0 = [] := rfl
@[simp] theorem M107_1 : env.M 107 1 = [] := rfl
theorem L107 : env.lib 107 = none := by show lookL 107 libs = _; simp [libs, lookL]
@[simp] theorem R107 : env.R 107 = [] := rfl
@[simp] theorem F108 : env.fns 108 = true := by kernel_rfl
@[simp] theorem M108_0 : env.M 108 0 = [.auto] := rfl
@[simp] theorem M108_1 : env.M 108 1 = [] := rfl
theorem L108 : env.lib 108 = none := by show lookL 108 libs = _; simp [libs, lookL]
@[simp] theorem R108 : env.R 108 = [] := rfl
@[simp] theorem F109 : env.fns 109 = true := by kernel_rfl
@[simp] theorem M109_0 : env.M 109 0 = [.auto] := rfl
@[simp] theorem M109_1 : env.M 109 1 = [] := rfl
theorem L109 : env.lib 109 = none := by show lookL 109 libs = _; simp [libs, lookL]
@[simp] theorem R109 : env.R 109 = [] := rfl
@[simp] theorem F110 : env.fns 110 = true := by kernel_rfl
@[simp] theorem M110_0 : env.M 110 0 = [.pv 1] := rfl
@[simp] theorem M110_1 : env.M 110 1 = [] := rfl
theorem L110 : env.lib 110 = none := by show lookL 110 libs = _; simp [libs, lookL]
@[simp] theorem R110 : env.R 110 = [] := rfl
@[simp] theorem F111 : env.fns 111 = true := by kernel_rfl
@[simp] theorem M111_0 : env.M 111 0 = [] := rfl
theorem L111 : env.lib 111 = none := by show lookL 111 libs = _; simp [libs, lookL]
@[simp] theorem R111 : env.R 111 = [] := rfl
@[simp] theorem F112 : env.fns 112 = true := by kernel_rfl
@[simp] theorem M112_0 : env.M 112 0 = [] := rfl
@[simp] theorem M112_1 : env.M 112 1 = [] := rfl
theorem L112 : env.lib 112 = none := by show lookL 112 libs = _; simp [libs, lookL]
@[simp] theorem R112 : env.R 112 = [] := rfl
@[simp] theorem F113 : env.fns 113 = true := by kernel_rfl
@[simp] theorem M113_0 : env.M 113 0 = [] := rfl
@[simp] theorem M113_1 : env.M 113 1 = [] := rfl
theorem L113 : env.lib 113 = none := by show lookL 113 libs = _; simp [libs, lookL]
@[simp] theorem R113 : env.R 113 = [] := rfl
@[simp] theorem F115 : env.fns 115 = true := by kernel_rfl
@[simp] theorem M115_0 : env.M 115 0 = [.auto] := rfl
@[simp] theorem M115_1 : env.M 115 1 = [] := rfl
theorem L115 : env.lib 115 = none := by show lookL 115 libs = _; simp [libs, lookL]
@[simp] theorem R115 : env.R 115 = [] := rfl
@[simp] theorem F116 : env.fns 116 = true := by kernel_rfl
@[simp] theorem M116_0 : env.M 116 0 = [] := rfl
@[simp] theorem M116_1 : env.M 116 1 = [] := rfl
@[simp] theorem M116_2 : env.M 116 2 = [] := rfl
theorem L116 : env.lib 116 = none := by show lookL 116 libs = _; simp [libs, lookL]
@[simp] theorem R116 : env.R 116 = [] := rfl
@[simp] theorem F117 : env.fns 117 = true := by kernel_rfl
@[simp] theorem M117_0 : env.M 117 0 = [.own 3] := rfl
@[simp] theorem M117_1 : env.M 117 1 = [] := rfl
theorem L117 : env.lib 117 = some (libSortF Try.prog 3) := by show lookL 117 libs = _; simp [libs, lookL]
@[simp] theorem F118 : env.fns 118 = true := by kernel_rfl
@[simp] theorem M118_0 : env.M 118 0 = [] := rfl
@[simp] theorem M118_1 : env.M 118 1 = [] := rfl
theorem L118 : env.lib 118 = none := by show lookL 118 libs = _; simp [libs, lookL]
@[simp] theorem R118 : env.R 118 = [] := rfl
@[simp] theorem F119 : env.fns 119 = true := by kernel_rfl
@[simp] theorem M119_0 : env.M 119 0 = [.own 3] := rfl
theorem L119 : env.lib 119 = none := by show lookL 119 libs = _; simp [libs, lookL]
@[simp] theorem R119 : env.R 119 = [[.own 3]] := rfl
@[simp] theorem F120 : env.fns 120 = true := by kernel_rfl
@[simp] theorem M120_0 : env.M 120 0 = [] := rfl
theorem L120 : env.lib 120 = none := by show lookL 120 libs = _; simp [libs, lookL]
@[simp] theorem R120 : env.R 120 = [] := rfl
@[simp] theorem F121 : env.fns 121 = true := by kernel_rfl
@[simp] theorem M121_0 : env.M 121 0 = [] := rfl
@[simp] theorem M121_1 : env.M 121 1 = [] := rfl
theorem L121 : env.lib 121 = none := by show lookL 121 libs = _; simp [libs, lookL]
@[simp] theorem R121 : env.R 121 = [] := rfl
@[simp] theorem F122 : env.fns 122 = true := by kernel_rfl
@[simp] theorem M122_0 : env.M 122 0 = [.auto] := rfl
@[simp] theorem M122_1 : env.M 122 1 = [] := rfl
theorem L122 : env.lib 122 = none := by show lookL 122 libs = _; simp [libs, lookL]
@[simp] theorem R122 : env.R 122 = [] := rfl
@[simp] theorem F123 : env.fns 123 = true := by kernel_rfl
@[simp] theorem M123_0 : env.M 123 0 = [.pv 1] := rfl
theorem L123 : env.lib 123 = some (libClone 1 16) := by show lookL 123 libs = _; simp [libs, lookL]
@[simp] theorem F124 : env.fns 124 = true := by kernel_rfl
@[simp] theorem M124_0 : env.M 124 0 = [.auto] := rfl
@[simp] theorem M124_1 : env.M 124 1 = [] := rfl
theorem L124 : env.lib 124 = none := by show lookL 124 libs = _; simp [libs, lookL]
@[simp] theorem R124 : env.R 124 = [] := rfl
@[simp] theorem F125 : env.fns 125 = true := by kernel_rfl
@[simp] theorem M125_0 : env.M 125 0 = [] := rfl
theorem L125 : env.lib 125 = none := by show lookL 125 libs = _; simp [libs, lookL]
@[simp] theorem R125 : env.R 125 = [] := rfl
@[simp] theorem F126 : env.fns 126 = true := by kernel_rfl
@[simp] theorem M126_0 : env.M 126 0 = [.own 8, .own 1, .own 1, .auto] := rfl
@[simp] theorem M126_1 : env.M 126 1 = [] := rfl
theorem L126 : env.lib 126 = none := by show lookL 126 libs = _; simp [libs, lookL]
@[simp] theorem R126 : env.R 126 = [[.own 8, .own 1, .own 1, .auto]] := rfl
@[simp] theorem F127 : env.fns 127 = true := by kernel_rfl
@[simp] theorem M127_0 : env.M 127 0 = [] := rfl
theorem L127 : env.lib 127 = none := by show lookL 127 libs = _; simp [libs, lookL]
@[simp] theorem R127 : env.R 127 = [] := rfl
@[simp] theorem F128 : env.fns 128 = true := by kernel_rfl
@[simp] theorem M128_0 : env.M 128 0 = [.own 1] := rfl
@[simp] theorem M128_1 : env.M 128 1 = [] := rfl
theorem L128 : env.lib 128 = none := by show lookL 128 libs = _; simp [libs, lookL]
@[simp] theorem R128 : env.R 128 = [[.own 1]] := rfl
@[simp] theorem F139 : env.fns 139 = true := by kernel_rfl
@[simp] theorem M139_0 : env.M 139 0 = [] := rfl
theorem L139 : env.lib 139 = none := by show lookL 139 libs = _; simp [libs, lookL]
@[simp] theorem R139 : env.R 139 = [] := rfl
@[simp] theorem F140 : env.fns 140 = true := by kernel_rfl
@[simp] theorem M140_0 : env.M 140 0 = [] := rfl
theorem L140 : env.lib 140 = none := by show lookL 140 libs = _; simp [libs, lookL]
@[simp] theorem R140 : env.R 140 = [] := rfl
@[simp] theorem F141 : env.fns 141 = true := by kernel_rfl
@[simp] theorem M141_0 : env.M 141 0 = [] := rfl
theorem L141 : env.lib 141 = none := by show lookL 141 libs = _; simp [libs, lookL]
@[simp] theorem R141 : env.R 141 = [] := rfl
@[simp] theorem F142 : env.fns 142 = true := by kernel_rfl
@[simp] theorem M142_0 : env.M 142 0 = [] := rfl
@[simp] theorem M142_1 : env.M 142 1 = [] := rfl
theorem L142 : env.lib 142 = none := by show lookL 142 libs = _; simp [libs, lookL]
@[simp] theorem R142 : env.R 142 = [] := rfl
@[simp] theorem F149 : env.fns 149 = true := by kernel_rfl
@[simp] theorem M149_0 : env.M 149 0 = [] := rfl
@[simp] theorem M149_1 : env.M 149 1 = [] := rfl
theorem L149 : env.lib 149 = none := by show lookL 149 libs = _; simp [libs, lookL]
@[simp] theorem R149 : env.R 149 = [] := rfl
@[simp] theorem F153 : env.fns 153 = true := by kernel_rfl
@[simp] theorem M153_0 : env.M 153 0 = [] := rfl
theorem L153 : env.lib 153 = none := by show lookL 153 libs = _; simp [libs, lookL]
@[simp] theorem R153 : env.R 153 = [] := rfl
@[simp] theorem F154 : env.fns 154 = true := by kernel_rfl
@[simp] theorem M154_0 : env.M 154 0 = [] := rfl
theorem L154 : env.lib 154 = none := by show lookL 154 libs = _; simp [libs, lookL]
@[simp] theorem R154 : env.R 154 = [] := rfl
@[simp] theorem F155 : env.fns 155 = true := by kernel_rfl
@[simp] theorem M155_0 : env.M 155 0 = [.auto] := rfl
@[simp] theorem M155_1 : env.M 155 1 = [] := rfl
theorem L155 : env.lib 155 = none := by show lookL 155 libs = _; simp [libs, lookL]
@[simp] theorem R155 : env.R 155 = [] := rfl
@[simp] theorem F156 : env.fns 156 = true := by kernel_rfl
@[simp] theorem M156_0 : env.M 156 0 = [.own 1] := rfl
@[simp] theorem M156_1 : env.M 156 1 = [] := rfl
@[simp] theorem M156_2 : env.M 156 2 = [.pv 1] := rfl
theorem L156 : env.lib 156 = none := by show lookL 156 libs = _; simp [libs, lookL]
@[simp] theorem R156 : env.R 156 = [] := rfl
@[simp] theorem F173 : env.fns 173 = true := by kernel_rfl
@[simp] theorem M173_0 : env.M 173 0 = [] := rfl
theorem L173 : env.lib 173 = none := by show lookL 173 libs = _; simp [libs, lookL]
@[simp] theorem R173 : env.R 173 = [] := rfl
@[simp] theorem P3_7 : env.plain 3 7 = false := by kernel_rfl
@[simp] theorem P4_6 : env.plain 4 6 = false := by kernel_rfl
@[simp] theorem P4_13 : env.plain 4 13 = false := by kernel_rfl
@[simp] theorem P7_21 : env.plain 7 21 = true := by kernel_rfl
@[simp] theorem P7_30 : env.plain 7 30 = true := by kernel_rfl
@[simp] theorem P9_10 : env.plain 9 10 = false := by kernel_rfl
@[simp] theorem P10_11 : env.plain 10 11 = false := by kernel_rfl
@[simp] theorem P10_13 : env.plain 10 13 = false := by kernel_rfl
@[simp] theorem P10_18 : env.plain 10 18 = false := by kernel_rfl
@[simp] theorem P11_19 : env.plain 11 19 = false := by kernel_rfl
@[simp] theorem P11_24 : env.plain 11 24 = false := by kernel_rfl
@[simp] theorem P12_11 : env.plain 12 11 = false := by kernel_rfl
@[simp] theorem P12_15 : env.plain 12 15 = false := by kernel_rfl
@[simp] theorem P17_15 : env.plain 17 15 = false := by kernel_rfl
@[simp] theorem P20_6 : env.plain 20 6 = true := by kernel_rfl
@[simp] theorem P25_6 : env.plain 25 6 = true := by kernel_rfl
@[simp] theorem P30_9 : env.plain 30 9 = false := by kernel_rfl
@[simp] theorem P40_5 : env.plain 40 5 = true := by kernel_rfl
@[simp] theorem P48_4 : env.plain 48 4 = true := by kernel_rfl
@[simp] theorem P49_4 : env.plain 49 4 = false := by kernel_rfl
@[simp] theorem P56_5 : env.plain 56 5 = false := by kernel_rfl
@[simp] theorem P57_6 : env.plain 57 6 = true := by kernel_rfl
@[simp] theorem P63_19 : env.plain 63 19 = true := by kernel_rfl
@[simp] theorem P63_20 : env.plain 63 20 = true := by kernel_rfl
@[simp] theorem P65_6 : env.plain 65 6 = true := by kernel_rfl
@[simp] theorem P71_1 : env.plain 71 1 = false := by kernel_rfl
@[simp] theorem P74_2 : env.plain 74 2 = false := by kernel_rfl
@[simp] theorem P74_5 : env.plain 74 5 = false := by kernel_rfl
@[simp] theorem P77_4 : env.plain 77 4 = true := by kernel_rfl
@[simp] theorem P84_6 : env.plain 84 6 = true := by kernel_rfl
@[simp] theorem P87_24 : env.plain 87 24 = false := by kernel_rfl
@[simp] theorem P87_16 : env.plain 87 16 = false := by kernel_rfl
@[simp] theorem P89_6 : env.plain 89 6 = false := by kernel_rfl
@[simp] theorem P92_1 : env.plain 92 1 = false := by kernel_rfl
@[simp] theorem P94_6 : env.plain 94 6 = false := by kernel_rfl
@[simp] theorem P96_5 : env.plain 96 5 = false := by kernel_rfl
@[simp] theorem P99_4 : env.plain 99 4 = false := by kernel_rfl
@[simp] theorem P109_4 : env.plain 109 4 = true := by kernel_rfl
@[simp] theorem P113_6 : env.plain 113 6 = true := by kernel_rfl
@[simp] theorem P118_1 : env.plain 118 1 = false := by kernel_rfl
@[simp] theorem P119_6 : env.plain 119 6 = true := by kernel_rfl
@[simp] theorem P119_11 : env.plain 119 11 = true := by kernel_rfl
@[simp] theorem P121_1 : env.plain 121 1 = false := by kernel_rfl
@[simp] theorem P156_11 : env.plain 156 11 = false := by kernel_rfl
@[simp] theorem P156_15 : env.plain 156 15 = false := by kernel_rfl
@[simp] theorem H4_0 : env.hint 4 0 = some ⟨[(0, []), (6, []), (11, []), (12, [])], [(0, []), (10, []), (11, [])]⟩ := rfl
@[simp] abbrev hd4_0 (ys : List V1) (os : List Upd) : St := ⟨mkS 123 [(0, []), (6, []), (11, []), (12, [])] ys, os⟩
@[simp] abbrev ex4_0 (ys : List V1) (os : List Upd) : St := ⟨mkS 123 [(0, []), (10, []), (11, [])] ys, os⟩
@[simp] theorem H5_0 : env.hint 5 0 = some ⟨[(0, []), (1, []), (2, []), (3, []), (4, []), (13, []), (14, [])], [(0, []), (1, []), (2, []), (12, []), (13, [])]⟩ := rfl
@[simp] abbrev hd5_0 (ys : List V1) (os : List Upd) : St := ⟨mkS 90 [(0, []), (1, []), (2, []), (3, []), (4, []), (13, []), (14, [])] ys, os⟩
@[simp] abbrev ex5_0 (ys : List V1) (os : List Upd) : St := ⟨mkS 90 [(0, []), (1, []), (2, []), (12, []), (13, [])] ys, os⟩
@[simp] theorem H7_2 : env.hint 7 2 = some ⟨[(0, []), (3, []), (4, []), (5, []), (15, []), (16, []), (17, []), (18, []), (19, []), (20, []), (21, [])], [(0, []), (3, []), (4, []), (5, []), (15, []), (16, []), (17, []), (18, []), (19, []), (20, [])]⟩ := rfl
@[simp] abbrev hd7_2 (ys : List V1) (os : List Upd) : St := ⟨mkS 135 [(0, []), (3, []), (4, []), (5, []), (15, []), (16, []), (17, []), (18, []), (19, []), (20, []), (21, [])] ys, os⟩
@[simp] abbrev ex7_2 (ys : List V1) (os : List Upd) : St := ⟨mkS 135 [(0, []), (3, []), (4, []), (5, []), (15, []), (16, []), (17, []), (18, []), (19, []), (20, [])] ys, os⟩
@[simp] theorem H7_0 : env.hint 7 0 = some ⟨[(0, []), (3, []), (4, []), (5, []), (15, []), (16, []), (17, [])], [(0, []), (4, []), (5, []), (12, []), (15, []), (16, [])]⟩ := rfl
@[simp] abbrev hd7_0 (ys : List V1) (os : List Upd) : St := ⟨mkS 135 [(0, []), (3, []), (4, []), (5, []), (15, []), (16, []), (17, [])] ys, os⟩
@[simp] abbrev ex7_0 (ys : List V1) (os : List Upd) : St := ⟨mkS 135 [(0, []), (4, []), (5, []), (12, []), (15, []), (16, [])] ys, os⟩
@[simp] theorem H8_0 : env.hint 8 0 = some ⟨[(11, []), (12, [])], [(8, [])]⟩ := rfl
@[simp] abbrev hd8_0 (ys : List V1) (os : List Upd) : St := ⟨mkS 69 [(11, []), (12, [])] ys, os⟩
@[simp] abbrev ex8_0 (ys : List V1) (os : List Upd) : St := ⟨mkS 69 [(8, [])] ys, os⟩
@[simp] theorem H10_2 : env.hint 10 2 = some ⟨[(1, []), (5, []), (7, []), (8, []), (9, [])], [(1, []), (4, []), (5, []), (7, [])]⟩ := rfl
@[simp] abbrev hd10_2 (ys : List V1) (os : List Upd) : St := ⟨mkS 88 [(1, []), (5, []), (7, []), (8, []), (9, [])] ys, os⟩
@[simp] abbrev ex10_2 (ys : List V1) (os : List Upd) : St := ⟨mkS 88 [(1, []), (4, []), (5, []), (7, [])] ys, os⟩
@[simp] theorem H10_0 : env.hint 10 0 = some ⟨[(1, []), (5, []), (7, [])], [(4, [])]⟩ := rfl
@[simp] abbrev hd10_0 (ys : List V1) (os : List Upd) : St := ⟨mkS 88 [(1, []), (5, []), (7, [])] ys, os⟩
@[simp] abbrev ex10_0 (ys : List V1) (os : List Upd) : St := ⟨mkS 88 [(4, [])] ys, os⟩
@[simp] theorem H11_4 : env.hint 11 4 = some ⟨[(0, []), (1, []), (5, []), (7, []), (8, []), (9, []), (11, [])], [(0, []), (1, []), (4, []), (5, []), (7, [])]⟩ := rfl
@[simp] abbrev hd11_4 (ys : List V1) (os : List Upd) : St := ⟨mkS 100 [(0, []), (1, []), (5, []), (7, []), (8, []), (9, []), (11, [])] ys, os⟩
@[simp] abbrev ex11_4 (ys : List V1) (os : List Upd) : St := ⟨mkS 100 [(0, []), (1, []), (4, []), (5, []), (7, [])] ys, os⟩
@[simp] theorem H11_2 : env.hint 11 2 = some ⟨[(0, []), (1, []), (5, []), (7, []), (8, []), (9, []), (10, [])], [(0, []), (1, []), (4, []), (5, []), (7, []), (8, []), (9, [])]⟩ := rfl
@[simp] abbrev hd11_2 (ys : List V1) (os : List Upd) : St := ⟨mkS 100 [(0, []), (1, []), (5, []), (7, []), (8, []), (9, []), (10, [])] ys, os⟩
@[simp] abbrev ex11_2 (ys : List V1) (os : List Upd) : St := ⟨mkS 100 [(0, []), (1, []), (4, []), (5, []), (7, []), (8, []), (9, [])] ys, os⟩
@[simp] theorem H11_0 : env.hint 11 0 = some ⟨[(0, []), (1, []), (5, []), (7, [])], [(4, [])]⟩ := rfl
@[simp] abbrev hd11_0 (ys : List V1) (os : List Upd) : St := ⟨mkS 100 [(0, []), (1, []), (5, []), (7, [])] ys, os⟩
@[simp] abbrev ex11_0 (ys : List V1) (os : List Upd) : St := ⟨mkS 100 [(4, [])] ys, os⟩
@[simp] theorem H12_0 : env.hint 12 0 = some ⟨[(1, []), (2, []), (3, []), (9, []), (11, [])], [(2, []), (3, []), (8, []), (9, [])]⟩ := rfl
@[simp] abbrev hd12_0 (ys : List V1) (os : List Upd) : St := ⟨mkS 111 [(1, []), (2, []), (3, []), (9, []), (11, [])] ys, os⟩
@[simp] abbrev ex12_0 (ys : List V1) (os : List Upd) : St := ⟨mkS 111 [(2, []), (3, []), (8, []), (9, [])] ys, os⟩
@[simp] theorem H14_0 : env.hint 14 0 = some ⟨[(0, []), (3, [])], [(2, [])]⟩ := rfl
@[simp] abbrev hd14_0 (ys : List V1) (os : List Upd) : St := ⟨mkS 38 [(0, []), (3, [])] ys, os⟩
@[simp] abbrev ex14_0 (ys : List V1) (os : List Upd) : St := ⟨mkS 38 [(2, [])] ys, os⟩
@[simp] theorem H15_0 : env.hint 15 0 = some ⟨[(0, []), (3, [])], [(2, [])]⟩ := rfl
@[simp] abbrev hd15_0 (ys : List V1) (os : List Upd) : St := ⟨mkS 19 [(0, []), (3, [])] ys, os⟩
@[simp] abbrev ex15_0 (ys : List V1) (os : List Upd) : St := ⟨mkS 19 [(2, [])] ys, os⟩
@[simp] theorem H17_0 : env.hint 17 0 = some ⟨[(1, []), (2, []), (6, []), (7, [.ptr [.own 1, .own 1, .auto, .auto]]), (8, [.own 1]), (13, []), (14, []), (15, [])], [(6, []), (7, [.ptr [.own 1, .own 1, .auto, .auto]]), (8, [.own 1])]⟩ := rfl
@[simp] abbrev hd17_0 (ys : List V1) (os : List Upd) : St := ⟨mkS 76 [(1, []), (2, []), (6, []), (7, [.ptr [.own 1, .own 1, .auto, .auto]]), (8, [.own 1]), (13, []), (14, []), (15, [])] ys, os⟩
@[simp] abbrev ex17_0 (ys : List V1) (os : List Upd) : St := ⟨mkS 76 [(6, []), (7, [.ptr [.own 1, .own 1, .auto, .auto]]), (8, [.own 1])] ys, os⟩
@[simp] theorem H19_0 : env.hint 19 0 = some ⟨[(0, []), (1, []), (2, []), (6, []), (7, [.own 1]), (8, [])], [(0, []), (1, []), (2, []), (6, []), (7, [.own 1])]⟩ := rfl
@[simp] abbrev hd19_0 (ys : List V1) (os : List Upd) : St := ⟨mkS 66 [(0, []), (1, []), (2, []), (6, []), (7, [.own 1]), (8, [])] ys, os⟩
@[simp] abbrev ex19_0 (ys : List V1) (os : List Upd) : St := ⟨mkS 66 [(0, []), (1, []), (2, []), (6, []), (7, [.own 1])] ys, os⟩
@[simp] theorem H20_0 : env.hint 20 0 = some ⟨[(0, []), (1, []), (5, [])], [(4, [])]⟩ := rfl
@[simp] abbrev hd20_0 (ys : List V1) (os : List Upd) : St := ⟨mkS 26 [(0, []), (1, []), (5, [])] ys, os⟩
@[simp] abbrev ex20_0 (ys : List V1) (os : List Upd) : St := ⟨mkS 26 [(4, [])] ys, os⟩
@[simp] theorem H21_0 : env.hint 21 0 = some ⟨[(1, []), (5, [.own 1]), (8, []), (9, []), (10, [])], [(5, [.own 1])]⟩ := rfl
@[simp] abbrev hd21_0 (ys : List V1) (os : List Upd) : St := ⟨mkS 26 [(1, []), (5, [.own 1]), (8, []), (9, []), (10, [])] ys, os⟩
@[simp] abbrev ex21_0 (ys : List V1) (os : List Upd) : St := ⟨mkS 26 [(5, [.own 1])] ys, os⟩
@[simp] theorem H22_0 : env.hint 22 0 = some ⟨[(0, []), (1, []), (5, [.own 1]), (6, [])], [(5, [.own 1])]⟩ := rfl
@[simp] abbrev hd22_0 (ys : List V1) (os : List Upd) : St := ⟨mkS 30 [(0, []), (1, []), (5, [.own 1]), (6, [])] ys, os⟩
@[simp] abbrev ex22_0 (ys : List V1) (os : List Upd) : St := ⟨mkS 30 [(5, [.own 1])] ys, os⟩
@[simp] theorem H25_0 : env.hint 25 0 = some ⟨[(0, []), (1, []), (5, [])], [(4, [])]⟩ := rfl
@[simp] abbrev hd25_0 (ys : List V1) (os : List Upd) : St := ⟨mkS 26 [(0, []), (1, []), (5, [])] ys, os⟩
@[simp] abbrev ex25_0 (ys : List V1) (os : List Upd) : St := ⟨mkS 26 [(4, [])] ys, os⟩
@[simp] theorem H30_2 : env.hint 30 2 = some ⟨[(0, []), (3, []), (4, []), (5, []), (6, [])], [(0, []), (3, []), (4, []), (5, [])]⟩ := rfl
@[simp] abbrev hd30_2 (ys : List V1) (os : List Upd) : St := ⟨mkS 65 [(0, []), (3, []), (4, []), (5, []), (6, [])] ys, os⟩
@[simp] abbrev ex30_2 (ys : List V1) (os : List Upd) : St := ⟨mkS 65 [(0, []), (3, []), (4, []), (5, [])] ys, os⟩
@[simp] theorem H30_0 : env.hint 30 0 = some ⟨[(0, []), (3, []), (4, [])], [(3, [])]⟩ := rfl
@[simp] abbrev hd30_0 (ys : List V1) (os : List Upd) : St := ⟨mkS 65 [(0, []), (3, []), (4, [])] ys, os⟩
@[simp] abbrev ex30_0 (ys : List V1) (os : List Upd) : St := ⟨mkS 65 [(3, [])] ys, os⟩
@[simp] theorem H32_0 : env.hint 32 0 = some ⟨[(0, []), (1, []), (5, [.own 8]), (6, [])], [(5, [.own 8])]⟩ := rfl
@[simp] abbrev hd32_0 (ys : List V1) (os : List Upd) : St := ⟨mkS 29 [(0, []), (1, []), (5, [.own 8]), (6, [])] ys, os⟩
@[simp] abbrev ex32_0 (ys : List V1) (os : List Upd) : St := ⟨mkS 29 [(5, [.own 8])] ys, os⟩
@[simp] theorem H34_0 : env.hint 34 0 = some ⟨[(0, []), (1, []), (5, [.own 8]), (6, [])], [(5, [.own 8])]⟩ := rfl
@[simp] abbrev hd34_0 (ys : List V1) (os : List Upd) : St := ⟨mkS 28 [(0, []), (1, []), (5, [.own 8]), (6, [])] ys, os⟩
@[simp] abbrev ex34_0 (ys : List V1) (os : List Upd) : St := ⟨mkS 28 [(5, [.own 8])] ys, os⟩
@[simp] theorem H36_0 : env.hint 36 0 = some ⟨[(0, []), (1, []), (5, [.own 8]), (6, [])], [(5, [.own 8])]⟩ := rfl
@[simp] abbrev hd36_0 (ys : List V1) (os : List Upd) : St := ⟨mkS 28 [(0, []), (1, []), (5, [.own 8]), (6, [])] ys, os⟩
@[simp] abbrev ex36_0 (ys : List V1) (os : List Upd) : St := ⟨mkS 28 [(5, [.own 8])] ys, os⟩
@[simp] theorem H37_0 : env.hint 37 0 = some ⟨[(3, [.own 1]), (6, []), (7, []), (8, [])], [(3, [.own 1])]⟩ := rfl
@[simp] abbrev hd37_0 (ys : List V1) (os : List Upd) : St := ⟨mkS 22 [(3, [.own 1]), (6, []), (7, []), (8, [])] ys, os⟩
@[simp] abbrev ex37_0 (ys : List V1) (os : List Upd) : St := ⟨mkS 22 [(3, [.own 1])] ys, os⟩
@[simp] theorem H38_0 : env.hint 38 0 = some ⟨[(0, []), (3, [.own 1]), (4, [])], [(3, [.own 1])]⟩ := rfl
@[simp] abbrev hd38_0 (ys : List V1) (os : List Upd) : St := ⟨mkS 21 [(0, []), (3, [.own 1]), (4, [])] ys, os⟩
@[simp] abbrev ex38_0 (ys : List V1) (os : List Upd) : St := ⟨mkS 21 [(3, [.own 1])] ys, os⟩
@[simp] theorem H39_0 : env.hint 39 0 = some ⟨[(3, []), (6, []), (7, []), (8, [])], [(3, [])]⟩ := rfl
@[simp] abbrev hd39_0 (ys : List V1) (os : List Upd) : St := ⟨mkS 28 [(3, []), (6, []), (7, []), (8, [])] ys, os⟩
@[simp] abbrev ex39_0 (ys : List V1) (os : List Upd) : St := ⟨mkS 28 [(3, [])] ys, os⟩
@[simp] theorem H40_0 : env.hint 40 0 = some ⟨[(0, []), (3, []), (4, [])], [(3, [])]⟩ := rfl
@[simp] abbrev hd40_0 (ys : List V1) (os : List Upd) : St := ⟨mkS 37 [(0, []), (3, []), (4, [])] ys, os⟩
@[simp] abbrev ex40_0 (ys : List V1) (os : List Upd) : St := ⟨mkS 37 [(3, [])] ys, os⟩
@[simp] theorem H42_0 : env.hint 42 0 = some ⟨[(2, []), (3, []), (53, []), (54, []), (55, [])], [(2, []), (3, []), (4, [])]⟩ := rfl
@[simp] abbrev hd42_0 (ys : List V1) (os : List Upd) : St := ⟨mkS 85 [(2, []), (3, []), (53, []), (54, []), (55, [])] ys, os⟩
@[simp] abbrev ex42_0 (ys : List V1) (os : List Upd) : St := ⟨mkS 85 [(2, []), (3, []), (4, [])] ys, os⟩
@[simp] theorem H45_0 : env.hint 45 0 = some ⟨[(0, [.pv 8]), (1, []), (2, []), (10, [.own 7]), (35, []), (36, []), (37, [])], [(8, []), (9, []), (10, [.own 7])]⟩ := rfl
@[simp] abbrev hd45_0 (ys : List V1) (os : List Upd) : St := ⟨mkS 68 [(0, [.pv 8]), (1, []), (2, []), (10, [.own 7]), (35, []), (36, []), (37, [])] ys, os⟩
@[simp] abbrev ex45_0 (ys : List V1) (os : List Upd) : St := ⟨mkS 68 [(8, []), (9, []), (10, [.own 7])] ys, os⟩
@[simp] theorem H46_0 : env.hint 46 0 = some ⟨[(0, []), (1, []), (2, []), (7, [])], [(6, [])]⟩ := rfl
@[simp] abbrev hd46_0 (ys : List V1) (os : List Upd) : St := ⟨mkS 50 [(0, []), (1, []), (2, []), (7, [])] ys, os⟩
@[simp] abbrev ex46_0 (ys : List V1) (os : List Upd) : St := ⟨mkS 50 [(6, [])] ys, os⟩
@[simp] theorem H47_0 : env.hint 47 0 = some ⟨[(1, []), (2, []), (9, [.own 8]), (14, []), (15, []), (16, [])], [(9, [.own 8])]⟩ := rfl
@[simp] abbrev hd47_0 (ys : List V1) (os : List Upd) : St := ⟨mkS 38 [(1, []), (2, []), (9, [.own 8]), (14, []), (15, []), (16, [])] ys, os⟩
@[simp] abbrev ex47_0 (ys : List V1) (os : List Upd) : St := ⟨mkS 38 [(9, [.own 8])] ys, os⟩
@[simp] theorem H48_0 : env.hint 48 0 = some ⟨[(0, []), (1, []), (5, [])], [(4, [])]⟩ := rfl
@[simp] abbrev hd48_0 (ys : List V1) (os : List Upd) : St := ⟨mkS 38 [(0, []), (1, []), (5, [])] ys, os⟩
@[simp] abbrev ex48_0 (ys : List V1) (os : List Upd) : St := ⟨mkS 38 [(4, [])] ys, os⟩
@[simp] theorem H49_0 : env.hint 49 0 = some ⟨[(2, []), (3, []), (4, []), (9, []), (10, []), (11, [])], [(6, [])]⟩ := rfl
@[simp] abbrev hd49_0 (ys : List V1) (os : List Upd) : St := ⟨mkS 41 [(2, []), (3, []), (4, []), (9, []), (10, []), (11, [])] ys, os⟩
@[simp] abbrev ex49_0 (ys : List V1) (os : List Upd) : St := ⟨mkS 41 [(6, [])] ys, os⟩
@[simp] theorem H57_2 : env.hint 57 2 = some ⟨[(0, []), (3, []), (4, []), (5, []), (6, [])], [(0, []), (3, []), (4, []), (5, [])]⟩ := rfl
@[simp] abbrev hd57_2 (ys : List V1) (os : List Upd) : St := ⟨mkS 52 [(0, []), (3, []), (4, []), (5, []), (6, [])] ys, os⟩
@[simp] abbrev ex57_2 (ys : List V1) (os : List Upd) : St := ⟨mkS 52 [(0, []), (3, []), (4, []), (5, [])] ys, os⟩
@[simp] theorem H57_0 : env.hint 57 0 = some ⟨[(0, []), (3, [.own 1])], [(2, [])]⟩ := rfl
@[simp] abbrev hd57_0 (ys : List V1) (os : List Upd) : St := ⟨mkS 52 [(0, []), (3, [.own 1])] ys, os⟩
@[simp] abbrev ex57_0 (ys : List V1) (os : List Upd) : St := ⟨mkS 52 [(2, [])] ys, os⟩
@[simp] theorem H58_0 : env.hint 58 0 = some ⟨[(0, []), (1, []), (5, [])], [(4, [])]⟩ := rfl
@[simp] abbrev hd58_0 (ys : List V1) (os : List Upd) : St := ⟨mkS 18 [(0, []), (1, []), (5, [])] ys, os⟩
@[simp] abbrev ex58_0 (ys : List V1) (os : List Upd) : St := ⟨mkS 18 [(4, [])] ys, os⟩
@[simp] theorem H62_0 : env.hint 62 0 = some ⟨[(4, []), (5, []), (11, []), (12, []), (13, [])], [(4, []), (5, [])]⟩ := rfl
@[simp] abbrev hd62_0 (ys : List V1) (os : List Upd) : St := ⟨mkS 42 [(4, []), (5, []), (11, []), (12, []), (13, [])] ys, os⟩
@[simp] abbrev ex62_0 (ys : List V1) (os : List Upd) : St := ⟨mkS 42 [(4, []), (5, [])] ys, os⟩
@[simp] theorem H63_2 : env.hint 63 2 = some ⟨[(4, [.pv 1]), (5, [.pv 1]), (7, [])], [(2, []), (3, []), (7, [])]⟩ := rfl
@[simp] abbrev hd63_2 (ys : List V1) (os : List Upd) : St := ⟨mkS 98 [(4, [.pv 1]), (5, [.pv 1]), (7, [])] ys, os⟩
@[simp] abbrev ex63_2 (ys : List V1) (os : List Upd) : St := ⟨mkS 98 [(2, []), (3, []), (7, [])] ys, os⟩
@[simp] theorem H63_0 : env.hint 63 0 = some ⟨[(0, []), (4, [.own 1]), (5, [.own 1]), (6, [])], [(4, [.own 1]), (5, [.own 1])]⟩ := rfl
@[simp] abbrev hd63_0 (ys : List V1) (os : List Upd) : St := ⟨mkS 98 [(0, []), (4, [.own 1]), (5, [.own 1]), (6, [])] ys, os⟩
@[simp] abbrev ex63_0 (ys : List V1) (os : List Upd) : St := ⟨mkS 98 [(4, [.own 1]), (5, [.own 1])] ys, os⟩
@[simp] theorem H64_0 : env.hint 64 0 = some ⟨[(0, []), (1, []), (2, []), (3, []), (9, [.own 1]), (10, [])], [(9, [.own 1])]⟩ := rfl
@[simp] abbrev hd64_0 (ys : List V1) (os : List Upd) : St := ⟨mkS 52 [(0, []), (1, []), (2, []), (3, []), (9, [.own 1]), (10, [])] ys, os⟩
@[simp] abbrev ex64_0 (ys : List V1) (os : List Upd) : St := ⟨mkS 52 [(9, [.own 1])] ys, os⟩
@[simp] theorem H65_0 : env.hint 65 0 = some ⟨[(0, []), (1, []), (12, []), (13, [])], [(4, [])]⟩ := rfl
@[simp] abbrev hd65_0 (ys : List V1) (os : List Upd) : St := ⟨mkS 26 [(0, []), (1, []), (12, []), (13, [])] ys, os⟩
@[simp] abbrev ex65_0 (ys : List V1) (os : List Upd) : St := ⟨mkS 26 [(4, [])] ys, os⟩
@[simp] theorem H68_0 : env.hint 68 0 = some ⟨[(0, []), (3, [])], [(0, []), (2, [])]⟩ := rfl
@[simp] abbrev hd68_0 (ys : List V1) (os : List Upd) : St := ⟨mkS 36 [(0, []), (3, [])] ys, os⟩
@[simp] abbrev ex68_0 (ys : List V1) (os : List Upd) : St := ⟨mkS 36 [(0, []), (2, [])] ys, os⟩
@[simp] theorem H72_0 : env.hint 72 0 = some ⟨[(0, []), (1, []), (5, []), (6, [])], [(0, []), (5, [])]⟩ := rfl
@[simp] abbrev hd72_0 (ys : List V1) (os : List Upd) : St := ⟨mkS 42 [(0, []), (1, []), (5, []), (6, [])] ys, os⟩
@[simp] abbrev ex72_0 (ys : List V1) (os : List Upd) : St := ⟨mkS 42 [(0, []), (5, [])] ys, os⟩
@[simp] theorem H74_0 : env.hint 74 0 = some ⟨[(0, []), (3, []), (5, [])], [(0, []), (3, []), (5, [])]⟩ := rfl
@[simp] abbrev hd74_0 (ys : List V1) (os : List Upd) : St := ⟨mkS 34 [(0, []), (3, []), (5, [])] ys, os⟩
@[simp] abbrev ex74_0 (ys : List V1) (os : List Upd) : St := ⟨mkS 34 [(0, []), (3, []), (5, [])] ys, os⟩
@[simp] theorem H77_0 : env.hint 77 0 = some ⟨[(0, []), (3, []), (5, [])], [(4, [])]⟩ := rfl
@[simp] abbrev hd77_0 (ys : List V1) (os : List Upd) : St := ⟨mkS 18 [(0, []), (3, []), (5, [])] ys, os⟩
@[simp] abbrev ex77_0 (ys : List V1) (os : List Upd) : St := ⟨mkS 18 [(4, [])] ys, os⟩
@[simp] theorem H80_0 : env.hint 80 0 = some ⟨[(0, []), (1, []), (5, [])], [(4, [])]⟩ := rfl
@[simp] abbrev hd80_0 (ys : List V1) (os : List Upd) : St := ⟨mkS 18 [(0, []), (1, []), (5, [])] ys, os⟩
@[simp] abbrev ex80_0 (ys : List V1) (os : List Upd) : St := ⟨mkS 18 [(4, [])] ys, os⟩
@[simp] theorem H84_0 : env.hint 84 0 = some ⟨[(0, []), (1, []), (5, [])], [(4, [])]⟩ := rfl
@[simp] abbrev hd84_0 (ys : List V1) (os : List Upd) : St := ⟨mkS 26 [(0, []), (1, []), (5, [])] ys, os⟩
@[simp] abbrev ex84_0 (ys : List V1) (os : List Upd) : St := ⟨mkS 26 [(4, [])] ys, os⟩
@[simp] theorem H87_0 : env.hint 87 0 = some ⟨[(0, []), (1, []), (2, []), (9, []), (10, []), (13, [.ptr [.auto, .auto, .auto, .auto, .auto, .auto, .own 3]]), (14, [.own 1]), (30, []), (31, []), (32, [])], [(0, []), (1, []), (2, []), (9, []), (10, []), (13, [.ptr [.auto, .auto, .auto, .auto, .auto, .auto, .own 3]]), (14, [.own 1])]⟩ := rfl
@[simp] abbrev hd87_0 (ys : List V1) (os : List Upd) : St := ⟨mkS 121 [(0, []), (1, []), (2, []), (9, []), (10, []), (13, [.ptr [.auto, .auto, .auto, .auto, .auto, .auto, .own 3]]), (14, [.own 1]), (30, []), (31, []), (32, [])] ys, os⟩
@[simp] abbrev ex87_0 (ys : List V1) (os : List Upd) : St := ⟨mkS 121 [(0, []), (1, []), (2, []), (9, []), (10, []), (13, [.ptr [.auto, .auto, .auto, .auto, .auto, .auto, .own 3]]), (14, [.own 1])] ys, os⟩
@[simp] theorem H89_0 : env.hint 89 0 = some ⟨[(0, []), (1, []), (5, []), (15, []), (16, []), (17, [])], [(0, []), (1, []), (5, []), (6, [])]⟩ := rfl
@[simp] abbrev hd89_0 (ys : List V1) (os : List Upd) : St := ⟨mkS 67 [(0, []), (1, []), (5, []), (15, []), (16, []), (17, [])] ys, os⟩
@[simp] abbrev ex89_0 (ys : List V1) (os : List Upd) : St := ⟨mkS 67 [(0, []), (1, []), (5, []), (6, [])] ys, os⟩
@[simp] theorem H93_2 : env.hint 93 2 = some ⟨[(6, [.own 1]), (27, []), (28, []), (29, [])], [(6, [.own 1])]⟩ := rfl
@[simp] abbrev hd93_2 (ys : List V1) (os : List Upd) : St := ⟨mkS 43 [(6, [.own 1]), (27, []), (28, []), (29, [])] ys, os⟩
@[simp] abbrev ex93_2 (ys : List V1) (os : List Upd) : St := ⟨mkS 43 [(6, [.own 1])] ys, os⟩
@[simp] theorem H93_0 : env.hint 93 0 = some ⟨[(5, []), (6, [.own 1]), (13, []), (14, []), (15, [])], [(5, []), (6, [.own 1])]⟩ := rfl
@[simp] abbrev hd93_0 (ys : List V1) (os : List Upd) : St := ⟨mkS 43 [(5, []), (6, [.own 1]), (13, []), (14, []), (15, [])] ys, os⟩
@[simp] abbrev ex93_0 (ys : List V1) (os : List Upd) : St := ⟨mkS 43 [(5, []), (6, [.own 1])] ys, os⟩
@[simp] theorem H94_0 : env.hint 94 0 = some ⟨[(2, []), (3, []), (4, []), (5, [])], [(2, []), (4, [])]⟩ := rfl
@[simp] abbrev hd94_0 (ys : List V1) (os : List Upd) : St := ⟨mkS 32 [(2, []), (3, []), (4, []), (5, [])] ys, os⟩
@[simp] abbrev ex94_0 (ys : List V1) (os : List Upd) : St := ⟨mkS 32 [(2, []), (4, [])] ys, os⟩
@[simp] theorem H95_0 : env.hint 95 0 = some ⟨[(0, []), (1, []), (7, []), (8, [])], [(4, [])]⟩ := rfl
@[simp] abbrev hd95_0 (ys : List V1) (os : List Upd) : St := ⟨mkS 19 [(0, []), (1, []), (7, []), (8, [])] ys, os⟩
@[simp] abbrev ex95_0 (ys : List V1) (os : List Upd) : St := ⟨mkS 19 [(4, [])] ys, os⟩
@[simp] theorem H101_0 : env.hint 101 0 = some ⟨[(0, []), (9, []), (10, [])], [(2, [])]⟩ := rfl
@[simp] abbrev hd101_0 (ys : List V1) (os : List Upd) : St := ⟨mkS 35 [(0, []), (9, []), (10, [])] ys, os⟩
@[simp] abbrev ex101_0 (ys : List V1) (os : List Upd) : St := ⟨mkS 35 [(2, [])] ys, os⟩
@[simp] theorem H104_0 : env.hint 104 0 = some ⟨[(3, []), (6, []), (7, []), (8, [])], [(2, []), (3, [])]⟩ := rfl
@[simp] abbrev hd104_0 (ys : List V1) (os : List Upd) : St := ⟨mkS 18 [(3, []), (6, []), (7, []), (8, [])] ys, os⟩
@[simp] abbrev ex104_0 (ys : List V1) (os : List Upd) : St := ⟨mkS 18 [(2, []), (3, [])] ys, os⟩
@[simp] theorem H108_0 : env.hint 108 0 = some ⟨[(0, []), (1, []), (7, []), (8, [])], [(4, [])]⟩ := rfl
@[simp] abbrev hd108_0 (ys : List V1) (os : List Upd) : St := ⟨mkS 19 [(0, []), (1, []), (7, []), (8, [])] ys, os⟩
@[simp] abbrev ex108_0 (ys : List V1) (os : List Upd) : St := ⟨mkS 19 [(4, [])] ys, os⟩
@[simp] theorem H109_0 : env.hint 109 0 = some ⟨[(0, []), (3, []), (7, []), (8, [])], [(4, [])]⟩ := rfl
@[simp] abbrev hd109_0 (ys : List V1) (os : List Upd) : St := ⟨mkS 19 [(0, []), (3, []), (7, []), (8, [])] ys, os⟩
@[simp] abbrev ex109_0 (ys : List V1) (os : List Upd) : St := ⟨mkS 19 [(4, [])] ys, os⟩
@[simp] theorem H113_0 : env.hint 113 0 = some ⟨[(0, []), (1, []), (5, [])], [(4, [])]⟩ := rfl
@[simp] abbrev hd113_0 (ys : List V1) (os : List Upd) : St := ⟨mkS 24 [(0, []), (1, []), (5, [])] ys, os⟩
@[simp] abbrev ex113_0 (ys : List V1) (os : List Upd) : St := ⟨mkS 24 [(4, [])] ys, os⟩
@[simp] theorem H115_0 : env.hint 115 0 = some ⟨[(0, []), (1, []), (7, []), (8, [])], [(4, [])]⟩ := rfl
@[simp] abbrev hd115_0 (ys : List V1) (os : List Upd) : St := ⟨mkS 19 [(0, []), (1, []), (7, []), (8, [])] ys, os⟩
@[simp] abbrev ex115_0 (ys : List V1) (os : List Upd) : St := ⟨mkS 19 [(4, [])] ys, os⟩
@[simp] theorem H119_2 : env.hint 119 2 = some ⟨[(0, []), (3, []), (4, []), (5, [])], [(0, []), (3, [])]⟩ := rfl
@[simp] abbrev hd119_2 (ys : List V1) (os : List Upd) : St := ⟨mkS 61 [(0, []), (3, []), (4, []), (5, [])] ys, os⟩
@[simp] abbrev ex119_2 (ys : List V1) (os : List Upd) : St := ⟨mkS 61 [(0, []), (3, [])] ys, os⟩
@[simp] theorem H119_0 : env.hint 119 0 = some ⟨[(0, []), (3, [])], [(0, []), (2, [])]⟩ := rfl
@[simp] abbrev hd119_0 (ys : List V1) (os : List Upd) : St := ⟨mkS 61 [(0, []), (3, [])] ys, os⟩
@[simp] abbrev ex119_0 (ys : List V1) (os : List Upd) : St := ⟨mkS 61 [(0, []), (2, [])] ys, os⟩
@[simp] theorem H122_0 : env.hint 122 0 = some ⟨[(0, []), (1, []), (7, []), (8, [])], [(4, [])]⟩ := rfl
@[simp] abbrev hd122_0 (ys : List V1) (os : List Upd) : St := ⟨mkS 19 [(0, []), (1, []), (7, []), (8, [])] ys, os⟩
@[simp] abbrev ex122_0 (ys : List V1) (os : List Upd) : St := ⟨mkS 19 [(4, [])] ys, os⟩
@[simp] theorem H124_0 : env.hint 124 0 = some ⟨[(0, []), (1, []), (7, []), (8, [])], [(4, [])]⟩ := rfl
@[simp] abbrev hd124_0 (ys : List V1) (os : List Upd) : St := ⟨mkS 19 [(0, []), (1, []), (7, []), (8, [])] ys, os⟩
@[simp] abbrev ex124_0 (ys : List V1) (os : List Upd) : St := ⟨mkS 19 [(4, [])] ys, os⟩
@[simp] theorem H128_0 : env.hint 128 0 = some ⟨[(0, []), (1, []), (5, []), (6, [])], [(0, []), (5, [])]⟩ := rfl
@[simp] abbrev hd128_0 (ys : List V1) (os : List Upd) : St := ⟨mkS 42 [(0, []), (1, []), (5, []), (6, [])] ys, os⟩
@[simp] abbrev ex128_0 (ys : List V1) (os : List Upd) : St := ⟨mkS 42 [(0, []), (5, [])] ys, os⟩
@[simp] theorem H155_0 : env.hint 155 0 = some ⟨[(0, []), (1, []), (6, []), (7, []), (8, [])], [(0, []), (1, []), (6, []), (7, [])]⟩ := rfl
@[simp] abbrev hd155_0 (ys : List V1) (os : List Upd) : St := ⟨mkS 54 [(0, []), (1, []), (6, []), (7, []), (8, [])] ys, os⟩
@[simp] abbrev ex155_0 (ys : List V1) (os : List Upd) : St := ⟨mkS 54 [(0, []), (1, []), (6, []), (7, [])] ys, os⟩
end Go.E2.S
