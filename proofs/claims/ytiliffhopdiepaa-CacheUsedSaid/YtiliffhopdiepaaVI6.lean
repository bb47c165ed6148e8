/- What is left of items: without dots, under a zone, of a key: the document's; keys, sizes. -/
import Derived.Test.YtiliffhopdiepaaVF4
import Derived.Test.YtiliffhopdiepaaVIb
namespace Go.E2.S
open Go Go.E2 Go.RowKit Go.Proofs
open Go.E2.Lib (sortB compB)
set_option linter.unusedVariables false
set_option linter.unusedSimpArgs false
set_option maxHeartbeats 1000000
set_option maxRecDepth 10000
theorem dot_ext (a b : Dot) : (decide (a.f0 = b.f0) && (decide (a.f1 = b.f1) && decide (a.f2 = b.f2))) = decide (a = b) := by
  obtain ⟨a0, a1, a2⟩ := a
  obtain ⟨b0, b1, b2⟩ := b
  simp [Bool.decide_and]
abbrev bD (d : Dot) : AObj := .blk [.pv (.int .i64 d.f0), .pv (.int .i64 d.f1), .pv (.int .i64 d.f2)]
def dotIn (ds : List Dot) (d : Dot) : Bool := ds.any fun x => decide (x = d)
def keysL (l : List Item) : List ByteArray := onceL (l.map Item.f0)
theorem keys_loop (l : List Item) (hl : l.length < 100000) (n : Nat) : ∀ (i : Nat) (out : List ByteArray), l.length = i + n → out.length ≤ i →
    A.lp 16 0 (hd16_0 [.at (.row 2000 0), pv (lI l), iv l.length, iv i] [(2000, 0, some (.row true 1 (out.map encS)))]) = some (.exit 0, ex16_0 [.at (.row 2000 0)] [(2000, 0, some (.row true 1 ((out ++ (l.drop i).map Item.f0).map encS)))]) := by
  induction n with
  | zero =>
    intro i out hi ho
    rw [lp_run hL Try.func16 rfl (by rfl) 0 rfl]
    obtain rfl : i = l.length := by omega
    simp
  | succ n ih =>
    intro i out hi ho
    have h1 : i < l.length := by omega
    have hlim : (out.length + 1) * 17 ≤ 70368744177664 := by omega
    have ih := ih (i + 1) (out ++ [l[i].f0]) (by omega) (by simp; omega)
    rw [List.drop_eq_getElem_cons h1, List.map_cons, List.append_cons]
    rw [lp_run hL Try.func16 rfl (by rfl) 0 rfl]
    simp [h1, hlim] at ih ⊢
    simp (disch := omega) only [wr]
    exact ih
theorem itemKeys (l : List Item) (hl : l.length < 100000) : A.fn 16 [pv (lI l)] [] = some (.one (pv (lS (keysL l))), []) := by
  have h := keys_loop l hl l.length 0 [] (by omega) (by simp)
  have h1 := (lib_run hL L35 _ _).trans (Lib.sort_at A.fn (l.map Item.f0) (by simp; omega))
  have h2 := (lib_run hL L36 _ _).trans (Lib.compact_at A.fn (sortB (l.map Item.f0)) (by rw [show (sortB (l.map Item.f0)).length = l.length by simp [sortB]]; omega))
  rw [once_eq] at h2
  rw [fn_run hL Try.func16 rfl L16 (by rfl) rfl rfl rfl (by decide)]
  simp at h h1 h2
  simp [Try.f16, h, h1, h2, keysL]
/-! ### Sizes -/
def szI : List Item → Nat
  | [] => 0
  | x :: l => (x.f0.size + x.f1.size + x.f3.size + 24) + szI l
def szR : List Item → Nat
  | [] => 0
  | x :: l => (x.f0.size + x.f1.size + x.f3.size) + szR l
theorem szR_eq : ∀ l : List Item, 24 * l.length + szR l = szI l
  | [] => rfl
  | x :: l => by rw [szR, szI, ← szR_eq l, List.length_cons]; omega
theorem shortI_iff {x : Item} : shortI x = true ↔ x.f0.size ≤ 300 ∧ x.f1.size ≤ 300 ∧ x.f3.size ≤ 300 := by simp [shortI, and_assoc]
theorem size_loop (l : List Item) (hl : l.length < 100000) (hs : ∀ x ∈ l, shortI x = true) (n : Nat) : ∀ (i acc : Nat), l.length = i + n → acc ≤ i * 1000 →
    A.lp 21 0 (hd21_0 [iv acc, pv (lI l), iv l.length, iv i] []) = some (.exit 0, ex21_0 [iv (acc + szI (l.drop i) : Nat)] []) := by
  induction n with
  | zero =>
    intro i acc hi ha
    rw [lp_run hL Try.func21 rfl (by rfl) 0 rfl]
    obtain rfl : i = l.length := by omega
    simp [szI]
  | succ n ih =>
    intro i acc hi ha
    have h1 : i < l.length := by omega
    obtain ⟨s0, s1, s3⟩ := shortI_iff.1 (hs l[i] (List.getElem_mem h1))
    have ih := ih (i + 1) (acc + (l[i].f0.size + l[i].f1.size + l[i].f3.size + 24)) (by omega) (by omega)
    rw [List.drop_eq_getElem_cons h1, szI, ← Nat.add_assoc]
    rw [lp_run hL Try.func21 rfl (by rfl) 0 rfl]
    simp [h1] at ih ⊢
    simp (disch := omega) only [wr]
    exact ih
theorem itemSize (l : List Item) (hl : l.length < 100000) (hs : ∀ x ∈ l, shortI x = true) : A.fn 21 [pv (lI l)] [] = some (.one (iv (szI l : Nat)), []) := by
  have h := size_loop l hl hs l.length 0 0 (by omega) (by omega)
  rw [fn_run hL Try.func21 rfl L21 (by rfl) rfl rfl rfl (by decide)]
  simp [rI] at h ⊢
  simp [Try.f21, h]
end Go.E2.S
