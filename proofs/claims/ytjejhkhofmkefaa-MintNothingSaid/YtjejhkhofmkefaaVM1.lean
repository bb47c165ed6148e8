/- Effects: the item that one makes; eff.Do. -/
import Derived.Test.YtjejhkhofmkefaaVI3
import Derived.Test.YtjejhkhofmkefaaVI7
namespace Go.E2.S
open Go Go.E2 Go.RowKit Go.Proofs
set_option linter.unusedVariables false
set_option linter.unusedSimpArgs false
set_option maxHeartbeats 2000000
set_option maxRecDepth 10000
structure Eff where
  f0 : Int
  f1 : ByteArray
  f2 : ByteArray
  f3 : Int
  f4 : ByteArray
  f5 : Int
  f6 : List Dot
  deriving DecidableEq
abbrev encE (e : Eff) : List PV := [.int .i64 e.f0, .str e.f1, .str e.f2, .int .i64 e.f3, .str e.f4, .int .i64 e.f5, lD e.f6]
abbrev lE (l : List Eff) : PV := .list 7 (l.map encE)
def madeE (node seq : Int) (e : Eff) : Item := ⟨e.f1, e.f2, e.f3, e.f4, e.f5, ⟨node, seq, e.f0⟩⟩
def stepE (node seq : Int) (out : List Item) (e : Eff) : List Item := normL (if e.f3 = 0 then out.filter (fun x => !dotIn e.f6 x.f5) else out.filter (fun x => !dotIn e.f6 x.f5) ++ [madeE node seq e])
def doE (node seq : Int) (items : List Item) (l : List Eff) : List Item := l.foldl (stepE node seq) items
theorem keepN_len2 : ∀ (l : List Item) (s : List Dot), (keepN s l).length ≤ l.length
  | [], _ => Nat.le_refl _
  | x :: l, s => by
    rw [keepN]
    split
    · have := keepN_len2 l s; simp; omega
    · have := keepN_len2 l (s ++ [x.f5]); simp; omega
theorem normL_len2 (l : List Item) : (normL l).length ≤ l.length := by
  have := keepN_len2 (sortI l) []
  have e : (sortI l).length = l.length := by unfold sortI; simp
  unfold normL
  omega
theorem stepE_len (node seq : Int) (out : List Item) (e : Eff) : (stepE node seq out e).length ≤ out.length + 1 := by
  unfold stepE
  have h := List.length_filter_le (fun x => !dotIn e.f6 x.f5) out
  split
  · have := normL_len2 (out.filter (fun x => !dotIn e.f6 x.f5)); omega
  · have := normL_len2 (out.filter (fun x => !dotIn e.f6 x.f5) ++ [madeE node seq e]); rw [List.length_append, List.length_singleton] at this; omega
theorem effMade (node seq : Int) (e : Eff) : A.fn 88 [iv node, iv seq, ag (encE e)] [] = some (.one (ag (encI (madeE node seq e))), []) := by
  rw [fn_run hL Try.func88 rfl L88 (by rfl) rfl rfl rfl (by decide)]
  simp [Try.f88, madeE]
theorem do_loop (node seq : Int) (l : List Eff) (hl : l.length < 1000000) (hd : ∀ e ∈ l, e.f6.length < 1000000000) (n : Nat) : ∀ (i : Nat) (out : List Item), l.length = i + n → out.length ≤ 1000000 + i →
    A.lp 47 0 (hd47_0 [iv node, iv seq, .at (.row 2000 0), pv (lE l), iv l.length, iv i] [(2000, 0, some (rI out))]) = some (.exit 0, ex47_0 [.at (.row 2000 0)] [(2000, 0, some (rI (doE node seq out (l.drop i))))]) := by
  induction n with
  | zero =>
    intro i out hi ho
    rw [lp_run hL Try.func47 rfl (by rfl) 0 rfl]
    obtain rfl : i = l.length := by omega
    simp [doE]
  | succ n ih =>
    intro i out hi ho
    have h1 : i < l.length := by omega
    have hstep := stepE_len node seq out l[i]
    have ih := ih (i + 1) (stepE node seq out l[i]) (by omega) (by omega)
    rw [List.drop_eq_getElem_cons h1, doE, List.foldl_cons, ← doE]
    have q1 := itemWithout out l[i].f6 (by omega) (hd _ (List.getElem_mem h1))
    have hf := List.length_filter_le (fun x => !dotIn l[i].f6 x.f5) out
    have q2 := effMade node seq l[i]
    simp only [ag, encE, encI, List.map_cons, List.map_nil, rI, pinN] at q1 q2
    by_cases c : l[i].f3 = 0
    · have q3 := itemNorm (out.filter (fun x => !dotIn l[i].f6 x.f5)) (by omega)
      have e : stepE node seq out l[i] = normL (out.filter (fun x => !dotIn l[i].f6 x.f5)) := by unfold stepE; rw [if_pos c]
      rw [e] at ih ⊢
      simp only [rI, pinN] at q3
      rw [lp_run hL Try.func47 rfl (by rfl) 0 rfl]
      simp [h1, c, q1, q2, q3, rI] at ih ⊢
      simp (disch := omega) only [wr]
      exact ih
    · have q3 := itemNorm (out.filter (fun x => !dotIn l[i].f6 x.f5) ++ [madeE node seq l[i]]) (by rw [List.length_append, List.length_singleton]; omega)
      have e : stepE node seq out l[i] = normL (out.filter (fun x => !dotIn l[i].f6 x.f5) ++ [madeE node seq l[i]]) := by unfold stepE; rw [if_neg c]
      have hlim : ((out.filter (fun x => !dotIn l[i].f6 x.f5)).length + 1) * 89 ≤ 70368744177664 := by omega
      rw [e] at ih ⊢
      simp only [rI, pinN, lI, List.map_append, List.map_cons, List.map_nil] at q3
      rw [lp_run hL Try.func47 rfl (by rfl) 0 rfl]
      simp [h1, c, q1, q2, q3, hlim, rI] at ih ⊢
      simp (disch := omega) only [wr]
      exact ih
theorem effDo (items : List Item) (node seq : Int) (l : List Eff) (hi : items.length ≤ 1000000) (hl : l.length < 1000000) (hd : ∀ e ∈ l, e.f6.length < 1000000000) : A.fn 47 [pv (lI items), iv node, iv seq, pv (lE l)] [] = some (.one (.at (.row pinN 0)), [some (rI (doE node seq items l))]) := by
  have h := do_loop node seq l hl hd l.length 0 items (by omega) (by omega)
  have h1 := cloneI items (by omega)
  rw [fn_run hL Try.func47 rfl L47 (by rfl) rfl rfl rfl (by decide)]
  simp only [rI, pinN] at h1
  simp [rI] at h
  simp [Try.f47, h, h1]
end Go.E2.S
