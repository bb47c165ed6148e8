/- One request: counting. -/
import Derived.Test.YtjejhkhofmkefaaVM5
import Derived.Test.YtjejhkhofmkefaaVF9
namespace Go.E2.S
open Go Go.E2 Go.RowKit Go.Proofs
set_option linter.unusedVariables false
set_option linter.unusedSimpArgs false
set_option maxHeartbeats 4000000
set_option maxRecDepth 10000
def incE (q : Req) (node : Int) (at_ : Int) (l : List Item) : Eff := ⟨at_, q.f1, q.f2, 3, q.f3, (tot (q.f4 :: pick (takes q node) Item.f4 l).sum).1, dropsL q node l⟩
def incBad (q : Req) (node seq at_ : Int) (l : List Item) : Bool := !decide ((tot (q.f4 :: pick (takes q node) Item.f4 l).sum).2 = 0) || (fieldV (doE node seq l [incE q node at_ l]) q.f1 q.f2).f3
theorem tot_wf (s : Int) : I64 (tot s).1 := by
  unfold tot I64
  split <;> simp <;> omega
theorem madeE_wf {node seq : Int} {e : Eff} (hn : I64 node) (hs : I64 seq) (h0 : I64 e.f0) (h3 : I64 e.f3) (h5 : I64 e.f5) : WfI (madeE node seq e) := ⟨h3, h5, hn, hs, h0⟩
theorem stepE_sub {node seq : Int} {out : List Item} {e : Eff} {x : Item} (h : x ∈ stepE node seq out e) : x ∈ out ∨ x = madeE node seq e := by
  unfold stepE at h
  have h := (normL_mem.1 h).1
  split at h
  · exact .inl (List.mem_filter.1 h).1
  · rcases List.mem_append.1 h with h | h
    · exact .inl (List.mem_filter.1 h).1
    · exact .inr (List.mem_singleton.1 h)
theorem one_inc (l : List Item) (node seq at_ : Int) (q : Req) (hl : l.length ≤ 60000) (hw : ∀ x ∈ l, WfI x) (hn : I64 node) (hsq : I64 seq) (ha : I64 at_) (hq : I64 q.f4) (hs : (dropsL q node l).length ≤ 64) (h4 : q.f0 = 4) :
    A.fn 87 [pv (lI l), iv node, iv seq, iv at_, ag (encQ q)] [] = some (if incBad q node seq at_ l = true then .tup [ag (encE eff0), bv false, iv 5] else .tup [ag (encE (incE q node at_ l)), bv true, iv 0], []) := by
  have h := one_loop l node seq at_ q (by omega) l.length 0 [] [q.f4] (by omega) (by simp) (by simp)
  have hp := pick_len (takes q node) Item.f5 l
  have hp4 := pick_len (takes q node) Item.f4 l
  have q1 := sortDots (pick (takes q node) Item.f5 l) (by omega)
  obtain ⟨b, q2⟩ := compDots (sortD (pick (takes q node) Item.f5 l)) (by unfold sortD; simp; omega)
  have hd : compD (sortD (pick (takes q node) Item.f5 l)) = dropsL q node l := rfl
  rw [hd] at q2
  have s1 : ¬ (64 : Int) < (dropsL q node l).length := by omega
  have e1 : (q.f0 = 1) = False := eq_false (by omega)
  have e3 : (q.f0 = 3) = False := eq_false (by omega)
  have e4 := eq_true h4
  have q3 := total (q.f4 :: pick (takes q node) Item.f4 l) (by rw [List.length_cons]; omega) (fun x hx => by
    rcases List.mem_cons.1 hx with rfl | hx
    · exact hq
    · obtain ⟨y, hy, rfl⟩ := List.mem_map.1 hx
      exact (hw y (List.mem_filter.1 hy).1).2.1)
  have q4 := effDo l node seq [incE q node at_ l] (by omega) (by simp) (fun e he => by
    obtain rfl := List.mem_singleton.1 he
    show (dropsL q node l).length < 1000000000
    omega)
  have hwd : ∀ x ∈ doE node seq l [incE q node at_ l], WfI x := fun x hx => by
    rcases stepE_sub hx with hx | rfl
    · exact hw x hx
    · exact madeE_wf hn hsq ha (by unfold incE I64; simp) (tot_wf _)
  have hld : (doE node seq l [incE q node at_ l]).length < 100000 := by
    have := stepE_len node seq l (incE q node at_ l)
    show (stepE node seq l (incE q node at_ l)).length < 100000
    omega
  have q5 := vfield (doE node seq l [incE q node at_ l]) q.f1 q.f2 hld hwd
  unfold incBad
  rw [fn_run hL Try.func87 rfl L87 (by rfl) rfl rfl rfl (by decide)]
  simp only [rD, pinN] at q1
  simp only [rI, pinN, lE, encE, incE, List.map_cons, List.map_nil] at q4
  simp only [lZ, List.map_cons] at q3
  simp only [ag, encV, incE, List.map_cons, List.map_nil] at q5
  simp [rD, oneO] at h
  cases b
  · simp only [delR, rD, pinN, Nat.reduceAdd] at q2
    by_cases c : (tot (q.f4 :: pick (takes q node) Item.f4 l).sum).2 = 0
    · simp only [List.sum_cons] at c q3 q4 q5
      simp [Try.f87, h, q1, q2, q3, q4, q5, s1, e1, e3, e4, c, eff0, incE]
      rw [if_pos ?q]
      case q => kernel_rfl
      cases v : (fieldV (doE node seq l [⟨at_, q.f1, q.f2, 3, q.f3, (tot (q.f4 + (pick (takes q node) Item.f4 l).sum)).1, dropsL q node l⟩]) q.f1 q.f2).f3
      · simp [v]
      · simp [v]
    · simp only [List.sum_cons] at c q3
      have c' := eq_false c
      simp [Try.f87, h, q1, q2, q3, s1, e1, e3, e4, c', eff0]
      rw [if_pos ?q]
      case q => kernel_rfl
      simp [c']
  · simp only [delR, rD, pinN, Nat.reduceAdd] at q2
    by_cases c : (tot (q.f4 :: pick (takes q node) Item.f4 l).sum).2 = 0
    · simp only [List.sum_cons] at c q3 q4 q5
      simp [Try.f87, h, q1, q2, q3, q4, q5, s1, e1, e3, e4, c, eff0, incE]
      rw [if_pos ?q]
      case q => kernel_rfl
      cases v : (fieldV (doE node seq l [⟨at_, q.f1, q.f2, 3, q.f3, (tot (q.f4 + (pick (takes q node) Item.f4 l).sum)).1, dropsL q node l⟩]) q.f1 q.f2).f3
      · simp [v]
      · simp [v]
    · simp only [List.sum_cons] at c q3
      have c' := eq_false c
      simp [Try.f87, h, q1, q2, q3, s1, e1, e3, e4, c', eff0]
      rw [if_pos ?q]
      case q => kernel_rfl
      simp [c']
end Go.E2.S
