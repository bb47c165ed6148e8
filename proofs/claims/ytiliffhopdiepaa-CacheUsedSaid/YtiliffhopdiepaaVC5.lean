/- A cache: new, load, change, use, under, get. -/
import Derived.Test.YtiliffhopdiepaaVC4
namespace Go.E2.S
open Go Go.E2 Go.RowKit Go.Proofs
set_option linter.unusedVariables false
set_option linter.unusedSimpArgs false
set_option maxHeartbeats 4000000
set_option maxRecDepth 10000
def badC (b : Int) : Bool := decide (b < 0) || decide (1048576 < b)
def newL (b : Int) : Cac := if badC b = true then ⟨[], [], [], 0⟩ else ⟨[], [], [], b⟩
theorem newC (b : Int) : A.fn 8 [iv b] [] = some (.tup [ag (encC (newL b)), iv (if badC b = true then 1 else 0)], []) := by
  rw [fn_run hL Try.func8 rfl L8 (by rfl) rfl rfl rfl (by decide)]
  unfold newL badC
  by_cases h : b < 0
  · simp [Try.f8, h]
  · by_cases h2 : 1048576 < b
    · simp [Try.f8, h, h2, -Int.not_lt]
    · simp [Try.f8, h, h2, -Int.not_lt]
theorem loadC (c : Cac) (l : List Item) (spare : List ByteArray) (hi : InvC c) (hl : ∀ x ∈ l, shortI x = true) (hsp : spare.length < 1000000000) (h0 : c.f0.length < 100000) (h1 : c.f1.length < 100000) (h2 : c.f2.length < 100000) (h3 : l.length < 100000) :
    A.fn 9 [ag (encC c), pv (lI l), pv (lS spare)] [] = some (.one (ag (encC (loadL c l spare))), []) := by
  have hn := normL_len l
  have hu := usesK_len (normL l) hi.nd
  have q1 := copiedC c (by omega) (by omega) (by omega)
  have q2 := itemNorm l (by omega)
  have q3 := usesC c.f1 (normL l) h1 (by omega)
  obtain ⟨b, q4⟩ := trimC ⟨normL l, usesL c.f1 (keysL (normL l)), [], c.f3⟩ spare hsp (hi.load0 hl) (by show (normL l).length < _; omega) (by show (usesL c.f1 (keysL (normL l))).length < _; omega) (by simp)
  unfold loadL
  simp only at q4
  generalize usesL c.f1 (keysL (normL l)) = us at *
  generalize normL l = nl at *
  generalize trimL spare us.length ⟨nl, us, [], c.f3⟩ = r at *
  obtain ⟨c0, c1, c2, c3⟩ := c
  obtain ⟨r0, r1, r2, r3⟩ := r
  simp [ag, encC, rI, rS] at q1 q2 q3
  rw [fn_run hL Try.func9 rfl L9 (by rfl) rfl rfl rfl (by decide)]
  cases b with
  | false =>
    simp [rI, rS, trimR] at q4
    simp [Try.f9, q1, q2, q3, q4]
  | true =>
    simp [rI, rS, trimR] at q4
    simp [Try.f9, q1, q2, q3, q4]
theorem useC (c : Cac) (k : ByteArray) (h0 : c.f0.length < 100000) (h1 : c.f1.length < 100000) (h2 : c.f2.length < 100000) : A.fn 10 [ag (encC c), sv k] [] = some (.one (ag (encC (useL c k))), []) := by
  have q1 := copiedC c (by omega) (by omega) (by omega)
  have q2 := indexSR c.f1 k (by omega)
  unfold idxL at q2
  unfold useL inS
  cases d : c.f1.any (fun x => decide (x = k)) with
  | false =>
    rw [d] at q2
    simp [ag, encC, rI, rS] at q1 q2
    rw [fn_run hL Try.func10 rfl L10 (by rfl) rfl rfl rfl (by decide)]
    simp [Try.f10, q1, q2]
  | true =>
    obtain ⟨f1, _⟩ := find_idx _ _ d
    rw [d] at q2
    unfold useS
    generalize c.f1.findIdx (fun x => decide (x = k)) = p at *
    have q3 := (lib_run hL L28 _ _).trans (Lib.delete_at A.fn c.f1 p f1)
    have hlim : (p + (c.f1.length - (p + 1)) + 1) * 17 ≤ 70368744177664 := by omega
    have hlim' : ((c.f1.take p ++ c.f1.drop (p + 1)).length + 1) * 17 ≤ 70368744177664 := by
      rw [List.length_append, List.length_take, List.length_drop]
      omega
    generalize hr : c.f1.take p ++ c.f1.drop (p + 1) = r at *
    have e0 : (0 : Int) ≤ p := by omega
    simp [ag, encC, rI, rS] at q1 q2 q3
    rw [fn_run hL Try.func10 rfl L10 (by rfl) rfl rfl rfl (by decide)]
    simp [Try.f10, q1, q2, e0]
    simp (disch := omega) only [wr]
    simp [q3, hlim']
def getL (c : Cac) (k : ByteArray) : List Item := if inS c.f2 k = true then [] else c.f0.filter fun x => decide (x.f0 = k)
theorem getC (c : Cac) (k : ByteArray) (h0 : c.f0.length < 100000) (h2 : c.f2.length < 100000) : A.fn 22 [ag (encC c), sv k] [] = some (.tup [pv (lI (getL c k)), bv (!inS c.f2 k)], []) := by
  have q1 := contS c.f2 k (by omega)
  have q2 := itemOf c.f0 k (by omega)
  unfold getL
  generalize c.f0.filter (fun x => decide (x.f0 = k)) = r at *
  rw [fn_run hL Try.func22 rfl L22 (by rfl) rfl rfl rfl (by decide)]
  cases d : inS c.f2 k <;> (rw [d] at q1; simp [rI] at q1 q2; simp [Try.f22, q1, q2])
end Go.E2.S
