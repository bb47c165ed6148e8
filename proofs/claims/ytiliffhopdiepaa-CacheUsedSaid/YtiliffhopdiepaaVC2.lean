/- Keys and sizes of items that stand in a row of one's own. -/
import Derived.Test.YtiliffhopdiepaaVC1
import Derived.Test.YtiliffhopdiepaaVI7
namespace Go.E2.S
open Go Go.E2 Go.RowKit Go.Proofs
open Go.E2.Lib (sortB compB)
set_option linter.unusedVariables false
set_option linter.unusedSimpArgs false
set_option maxHeartbeats 1000000
set_option maxRecDepth 10000
theorem keysR_loop (l : List Item) (hl : l.length < 100000) (n : Nat) : ∀ (i : Nat) (out : List ByteArray), l.length = i + n → out.length ≤ i →
    A.lp 16 0 (hd16_0 [.at (.row 2001 0), .at (.row pinN 0), iv l.length, iv i] [(pinN, 0, some (rI l)), (2001, 0, some (.row true 1 (out.map encS)))]) = some (.exit 0, ex16_0 [.at (.row 2001 0)] [(pinN, 0, some (rI l)), (2001, 0, some (.row true 1 ((out ++ (l.drop i).map Item.f0).map encS)))]) := by
  induction n with
  | zero =>
    intro i out hi ho
    rw [lp_run hL Try.func16 rfl (by rfl) 0 rfl]
    obtain rfl : i = l.length := by omega
    simp
  | succ n ih =>
    intro i out hi ho
    have h1 : i < l.length := by omega
    have hlim : (out.length + 1) * 17 ≤ 70368744177664 := by omega
    have ih := ih (i + 1) (out ++ [l[i].f0]) (by omega) (by simp; omega)
    rw [List.drop_eq_getElem_cons h1, List.map_cons, List.append_cons]
    rw [lp_run hL Try.func16 rfl (by rfl) 0 rfl]
    simp [h1, hlim] at ih ⊢
    simp (disch := omega) only [wr]
    exact ih
theorem itemKeysR (l : List Item) (hl : l.length < 100000) : A.fn 16 [.at (.row pinN 0)] [rI l] = some (.one (pv (lS (keysL l))), [some (rI l)]) := by
  have h := keysR_loop l hl l.length 0 [] (by omega) (by simp)
  have h1 := (lib_run hL L35 _ _).trans (Lib.sort_at A.fn (l.map Item.f0) (by simp; omega))
  have h2 := (lib_run hL L36 _ _).trans (Lib.compact_at A.fn (sortB (l.map Item.f0)) (by rw [show (sortB (l.map Item.f0)).length = l.length by simp [sortB]]; omega))
  rw [once_eq] at h2
  rw [fn_run hL Try.func16 rfl L16 (by rfl) rfl rfl rfl (by decide)]
  simp at h h1 h2
  simp [Try.f16, h, h1, h2, keysL]
theorem sizeR_loop (l : List Item) (hl : l.length < 100000) (hs : ∀ x ∈ l, shortI x = true) (n : Nat) : ∀ (i acc : Nat), l.length = i + n → acc ≤ i * 1000 →
    A.lp 21 0 (hd21_0 [iv acc, .at (.row pinN 0), iv l.length, iv i] [(pinN, 0, some (rI l))]) = some (.exit 0, ex21_0 [iv (acc + szI (l.drop i) : Nat)] [(pinN, 0, some (rI l))]) := by
  induction n with
  | zero =>
    intro i acc hi ha
    rw [lp_run hL Try.func21 rfl (by rfl) 0 rfl]
    obtain rfl : i = l.length := by omega
    simp [szI]
  | succ n ih =>
    intro i acc hi ha
    have h1 : i < l.length := by omega
    obtain ⟨s0, s1, s3⟩ := shortI_iff.1 (hs l[i] (List.getElem_mem h1))
    have ih := ih (i + 1) (acc + (l[i].f0.size + l[i].f1.size + l[i].f3.size + 24)) (by omega) (by omega)
    rw [List.drop_eq_getElem_cons h1, szI, ← Nat.add_assoc]
    rw [lp_run hL Try.func21 rfl (by rfl) 0 rfl]
    simp [h1] at ih ⊢
    simp (disch := omega) only [wr]
    exact ih
theorem itemSizeR (l : List Item) (hl : l.length < 100000) (hs : ∀ x ∈ l, shortI x = true) : A.fn 21 [.at (.row pinN 0)] [rI l] = some (.one (iv (szI l : Nat)), [some (rI l)]) := by
  have h := sizeR_loop l hl hs l.length 0 0 (by omega) (by omega)
  rw [fn_run hL Try.func21 rfl L21 (by rfl) rfl rfl rfl (by decide)]
  simp [rI] at h ⊢
  simp [Try.f21, h]
end Go.E2.S
