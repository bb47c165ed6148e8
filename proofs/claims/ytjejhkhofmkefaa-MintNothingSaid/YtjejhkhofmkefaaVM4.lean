/- One request: what its loop gathers. -/
import Derived.Test.YtjejhkhofmkefaaVM3
namespace Go.E2.S
open Go Go.E2 Go.RowKit Go.Proofs
set_option linter.unusedVariables false
set_option linter.unusedSimpArgs false
set_option maxHeartbeats 4000000
set_option maxRecDepth 10000
/-- Does a request take an item away? -/
def takes (q : Req) (node : Int) (x : Item) : Bool := inField q.f1 q.f2 x && dropsQ q x node
abbrev bQ (q : Req) : AObj := .blk [.pv (.int .i64 q.f0), .pv (.str q.f1), .pv (.str q.f2), .pv (.str q.f3), .pv (.int .i64 q.f4)]
abbrev oneO (q : Req) (at_ : Int) (ds : List Dot) (ns : List Int) : List Upd := [(2000, 0, some (bQ q)), (2001, 0, some (.blk [.pv (.int .i64 0), .pv (.str ⟨#[]⟩), .pv (.str ⟨#[]⟩), .pv (.int .i64 0), .pv (.str ⟨#[]⟩), .pv (.int .i64 0), .nil])), (2002, 0, some (rD ds)),
  (2003, 0, some (.blk [.pv (.int .i64 at_), .pv (.str q.f1), .pv (.str q.f2), .pv (.int .i64 0), .pv (.str q.f3), .pv (.int .i64 0), .row 2002 0])), (2004, 0, some (.row true 1 (ns.map encZ)))]
theorem one_loop (l : List Item) (node seq at_ : Int) (q : Req) (hl : l.length ≤ 1000000) (n : Nat) : ∀ (i : Nat) (ds : List Dot) (ns : List Int), l.length = i + n → ds.length ≤ i → ns.length ≤ i + 1 →
    A.lp 87 0 (hd87_0 [pv (lI l), iv node, iv seq, .at (.ptr 2000 0 0), .at (.ptr 2001 0 0), .at (.ptr 2003 0 0), .at (.row 2004 0), pv (lI l), iv l.length, iv i] (oneO q at_ ds ns)) =
      some (.exit 0, ex87_0 [pv (lI l), iv node, iv seq, .at (.ptr 2000 0 0), .at (.ptr 2001 0 0), .at (.ptr 2003 0 0), .at (.row 2004 0)] (oneO q at_ (ds ++ pick (takes q node) Item.f5 (l.drop i)) (ns ++ pick (takes q node) Item.f4 (l.drop i)))) := by
  induction n with
  | zero =>
    intro i ds ns h h1 h2
    obtain rfl : i = l.length := by omega
    rw [lp_run hL Try.func87 rfl (by rfl) 0 rfl]
    simp [pick]
  | succ n ih =>
    intro i ds ns h h1 h2
    have hi : i < l.length := by omega
    have l1 : (ds.length + 1) * 25 ≤ 70368744177664 := by omega
    have l2 : (ns.length + 1) * 9 ≤ 70368744177664 := by omega
    have hx := mintDrops q l[i] node
    simp only [ag, encQ, encI, List.map_cons, List.map_nil] at hx
    have w1 : IntKind.i64.wrap ((i : Int) + 1) = i + 1 := wr _ (by omega) (by omega)
    rw [List.drop_eq_getElem_cons hi]
    by_cases c1 : l[i].f0 = q.f1
    · have c1' := eq_true c1
      by_cases c2 : l[i].f1 = q.f2
      · have c2' := eq_true c2
        cases d : dropsQ q l[i] node with
        | true =>
          rw [d] at hx
          have ih := ih (i + 1) (ds ++ [l[i].f5]) (ns ++ [l[i].f4]) (by omega) (by simp; omega) (by simp; omega)
          rw [pick_pos (by simp [takes, inField, c1, c2, d]), pick_pos (by simp [takes, inField, c1, c2, d]), List.append_cons ds, List.append_cons ns]
          rw [lp_run hL Try.func87 rfl (by rfl) 0 rfl]
          simp [hi, c1', c2', hx, l1, l2, w1, rD, oneO] at ih ⊢
          exact ih
        | false =>
          rw [d] at hx
          have ih := ih (i + 1) ds ns (by omega) (by omega) (by omega)
          rw [pick_neg (by simp [takes, d]), pick_neg (by simp [takes, d])]
          rw [lp_run hL Try.func87 rfl (by rfl) 0 rfl]
          simp [hi, c1', c2', hx, l1, l2, w1, rD, oneO] at ih ⊢
          exact ih
      · have c2' := eq_false c2
        have ih := ih (i + 1) ds ns (by omega) (by omega) (by omega)
        rw [pick_neg (by simp [takes, inField, c2]), pick_neg (by simp [takes, inField, c2])]
        rw [lp_run hL Try.func87 rfl (by rfl) 0 rfl]
        simp [hi, c1', c2', l1, l2, w1, rD, oneO] at ih ⊢
        exact ih
    · have c1' := eq_false c1
      have ih := ih (i + 1) ds ns (by omega) (by omega) (by omega)
      rw [pick_neg (by simp [takes, inField, c1]), pick_neg (by simp [takes, inField, c1])]
      rw [lp_run hL Try.func87 rfl (by rfl) 0 rfl]
      simp [hi, c1', l1, l2, w1, rD, oneO] at ih ⊢
      exact ih
end Go.E2.S
