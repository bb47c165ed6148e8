/- Messages: msg.heard, bare, reaches, Formed. -/
import Derived.Test.YtiliffhopdiepaaGreatVTa
import Derived.Test.YtiliffhopdiepaaGreatVI10
namespace Go.E2.S
open Go Go.E2 Go.RowKit Go.Proofs
set_option linter.unusedVariables false
set_option linter.unusedSimpArgs false
set_option maxHeartbeats 4000000
set_option maxRecDepth 10000
structure Msg where
  f0 : Int
  f1 : Int
  f2 : Bool
  f3 : List Int
  f4 : List Int
  f5 : List ByteArray
  f6 : List ByteArray
  f7 : List Item
  f8 : List Txn
  deriving DecidableEq
abbrev encM (m : Msg) : List PV := [.int .i64 m.f0, .int .i64 m.f1, .bool m.f2, lZ m.f3, lZ m.f4, lS m.f5, lS m.f6, lI m.f7, lT m.f8]
def heardV (v : List Int) : Bool := decide (v.length ≤ 8) && (decide (trimV v = v) && !v.any big)
theorem heard1V (x : Int) : A.fn 139 [iv x] [] = some (.one (bv (big x)), []) := by
  rw [fn_run hL Tryz.func139 rfl L139 (by rfl) rfl rfl rfl (by decide)]
  simp [Tryz.f139, big]
theorem msgHeard (v : List Int) (hv : v.length < 1000000000) : A.fn 62 [pv (lZ v)] [] = some (.one (bv (heardV v)), []) := by
  have q1 := vecTrim v hv
  have ht := trimV_len v
  have q2 := equalZ (trimV v) v (by omega)
  have q4 := hasZ v 139 [] big (by simp) (by omega) fun x _ => heard1V x
  unfold heardV
  generalize trimV v = tv at *
  generalize v.any big = b4 at *
  generalize hd : decide (tv = v) = b2 at *
  rw [fn_run hL Tryz.func62 rfl L62 (by rfl) rfl rfl rfl (by decide)]
  by_cases c : v.length ≤ 8
  · have c' : (v.length : Int) ≤ 8 := by omega
    cases b2 <;> cases b4 <;> simp [Tryz.f62, c, c', q1, q2, q4]
  · have c' : ¬ (v.length : Int) ≤ 8 := by omega
    simp [Tryz.f62, c, c', q1, q2, q4, -Int.not_le, -Nat.not_le]
def bareM (m : Msg) : Bool :=
  let k := m.f0
  (decide (k = 1) || decide (k = 6) || decide (k = 5) || decide (k = 2) || decide (k = 3) || decide (k = 4)) &&
  ((decide (k = 2) || decide (k = 3) || decide (k = 4) || decide (m.f1 = 0)) &&
  ((decide (k = 2) || !m.f2) &&
  ((decide (k = 5) || decide (k = 2) || decide (k = 3) || decide (k = 4) || decide (m.f3.length = 0)) &&
  ((decide (k = 4) || decide (m.f4.length = 0)) &&
  ((decide (k = 2) || decide (m.f5.length = 0)) &&
  ((decide (k = 2) || decide (k = 3) || decide (k = 4) || decide (m.f6.length = 0)) &&
  ((decide (k = 3) || decide (m.f7.length = 0)) &&
  (decide (k = 1) || decide (k = 6) || decide (k = 4) || decide (m.f8.length = 0)))))))))
theorem msgBare (m : Msg) : A.fn 61 [ag (encM m)] [] = some (.one (bv (bareM m)), []) := by
  obtain ⟨f0, f1, f2, f3, f4, f5, f6, f7, f8⟩ := m
  unfold bareM
  simp only
  rw [fn_run hL Tryz.func61 rfl L61 (by rfl) rfl rfl rfl (by decide)]
  by_cases c1 : f0 = 1
  · subst c1
    by_cases d1 : f1 = 0
    · by_cases d2 : f2 = false
      · by_cases d3 : f3 = []
        · by_cases d4 : f4 = []
          · by_cases d5 : f5 = []
            · by_cases d6 : f6 = []
              · by_cases d7 : f7 = []
                · simp [Tryz.f61, d1, d2, d3, d4, d5, d6, d7]
                · simp [Tryz.f61, d1, d2, d3, d4, d5, d6, d7]
              · simp [Tryz.f61, d1, d2, d3, d4, d5, d6]
            · simp [Tryz.f61, d1, d2, d3, d4, d5]
          · simp [Tryz.f61, d1, d2, d3, d4]
        · simp [Tryz.f61, d1, d2, d3]
      · simp [Tryz.f61, d1, d2]
    · simp [Tryz.f61, d1]
  by_cases c6 : f0 = 6
  · subst c6
    by_cases d1 : f1 = 0
    · by_cases d2 : f2 = false
      · by_cases d3 : f3 = []
        · by_cases d4 : f4 = []
          · by_cases d5 : f5 = []
            · by_cases d6 : f6 = []
              · by_cases d7 : f7 = []
                · simp [Tryz.f61, d1, d2, d3, d4, d5, d6, d7]
                · simp [Tryz.f61, d1, d2, d3, d4, d5, d6, d7]
              · simp [Tryz.f61, d1, d2, d3, d4, d5, d6]
            · simp [Tryz.f61, d1, d2, d3, d4, d5]
          · simp [Tryz.f61, d1, d2, d3, d4]
        · simp [Tryz.f61, d1, d2, d3]
      · simp [Tryz.f61, d1, d2]
    · simp [Tryz.f61, d1]
  by_cases c5 : f0 = 5
  · subst c5
    by_cases d1 : f1 = 0
    · by_cases d2 : f2 = false
      · by_cases d4 : f4 = []
        · by_cases d5 : f5 = []
          · by_cases d6 : f6 = []
            · by_cases d7 : f7 = []
              · by_cases d8 : f8 = []
                · simp [Tryz.f61, d1, d2, d4, d5, d6, d7, d8]
                · simp [Tryz.f61, d1, d2, d4, d5, d6, d7, d8]
              · simp [Tryz.f61, d1, d2, d4, d5, d6, d7]
            · simp [Tryz.f61, d1, d2, d4, d5, d6]
          · simp [Tryz.f61, d1, d2, d4, d5]
        · simp [Tryz.f61, d1, d2, d4]
      · simp [Tryz.f61, d1, d2]
    · simp [Tryz.f61, d1]
  by_cases c2 : f0 = 2
  · subst c2
    by_cases d4 : f4 = []
    · by_cases d7 : f7 = []
      · by_cases d8 : f8 = []
        · simp [Tryz.f61, d4, d7, d8]
        · simp [Tryz.f61, d4, d7, d8]
      · simp [Tryz.f61, d4, d7]
    · simp [Tryz.f61, d4]
  by_cases c3 : f0 = 3
  · subst c3
    by_cases d2 : f2 = false
    · by_cases d4 : f4 = []
      · by_cases d5 : f5 = []
        · by_cases d8 : f8 = []
          · simp [Tryz.f61, d2, d4, d5, d8]
          · simp [Tryz.f61, d2, d4, d5, d8]
        · simp [Tryz.f61, d2, d4, d5]
      · simp [Tryz.f61, d2, d4]
    · simp [Tryz.f61, d2]
  by_cases c4 : f0 = 4
  · subst c4
    by_cases d2 : f2 = false
    · by_cases d5 : f5 = []
      · by_cases d7 : f7 = []
        · by_cases d8 : f8 = []
          · simp [Tryz.f61, d2, d5, d7, d8]
          · simp [Tryz.f61, d2, d5, d7, d8]
        · simp [Tryz.f61, d2, d5, d7]
      · simp [Tryz.f61, d2, d5]
    · simp [Tryz.f61, d2]
  simp [Tryz.f61, c1, c6, c5, c2, c3, c4]
end Go.E2.S
