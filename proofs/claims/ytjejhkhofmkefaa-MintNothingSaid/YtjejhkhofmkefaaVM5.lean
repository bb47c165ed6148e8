/- One request. -/
import Derived.Test.YtjejhkhofmkefaaVM4
namespace Go.E2.S
open Go Go.E2 Go.RowKit Go.Proofs
set_option linter.unusedVariables false
set_option linter.unusedSimpArgs false
set_option maxHeartbeats 4000000
set_option maxRecDepth 10000
def eff0 : Eff := ⟨0, ⟨#[]⟩, ⟨#[]⟩, 0, ⟨#[]⟩, 0, []⟩
def dropsL (q : Req) (node : Int) (items : List Item) : List Dot := compD (sortD (pick (takes q node) Item.f5 items))
theorem dropsL_len (q : Req) (node : Int) (items : List Item) : (dropsL q node items).length ≤ items.length := by
  unfold dropsL
  have h1 := pick_len (takes q node) Item.f5 items
  have h2 : (sortD (pick (takes q node) Item.f5 items)).length = (pick (takes q node) Item.f5 items).length := by unfold sortD; simp
  have h3 : ∀ l : List Dot, (compD l).length ≤ l.length := fun l => by
    cases l with
    | nil => exact Nat.le_refl _
    | cons x l => have := ddup_len x l; simp [compD]; omega
  have := h3 (sortD (pick (takes q node) Item.f5 items))
  omega
theorem one_long (l : List Item) (node seq at_ : Int) (q : Req) (hl : l.length ≤ 1000000) (hs : 64 < (dropsL q node l).length) :
    A.fn 87 [pv (lI l), iv node, iv seq, iv at_, ag (encQ q)] [] = some (.tup [ag (encE eff0), bv false, iv 4], []) := by
  have h := one_loop l node seq at_ q hl l.length 0 [] [q.f4] (by omega) (by simp) (by simp)
  have hp := pick_len (takes q node) Item.f5 l
  have q1 := sortDots (pick (takes q node) Item.f5 l) (by omega)
  obtain ⟨b, q2⟩ := compDots (sortD (pick (takes q node) Item.f5 l)) (by unfold sortD; simp; omega)
  have hd : compD (sortD (pick (takes q node) Item.f5 l)) = dropsL q node l := rfl
  rw [hd] at q2
  have s1 : (64 : Int) < (dropsL q node l).length := by omega
  rw [fn_run hL Try.func87 rfl L87 (by rfl) rfl rfl rfl (by decide)]
  simp only [rD, pinN] at q1
  cases b
  · simp only [delR, rD, pinN, Nat.reduceAdd] at q2
    simp [rD, oneO] at h
    simp [Try.f87, h, q1, q2, s1, eff0]
  · simp only [delR, rD, pinN, Nat.reduceAdd] at q2
    simp [rD, oneO] at h
    simp [Try.f87, h, q1, q2, s1, eff0]
theorem one_add (l : List Item) (node seq at_ : Int) (q : Req) (hl : l.length ≤ 1000000) (hs : (dropsL q node l).length ≤ 64) (h1 : q.f0 = 1) :
    A.fn 87 [pv (lI l), iv node, iv seq, iv at_, ag (encQ q)] [] = some (.tup [ag (encE ⟨at_, q.f1, q.f2, 1, q.f3, 0, dropsL q node l⟩), bv true, iv 0], []) := by
  have h := one_loop l node seq at_ q hl l.length 0 [] [q.f4] (by omega) (by simp) (by simp)
  have hp := pick_len (takes q node) Item.f5 l
  have q1 := sortDots (pick (takes q node) Item.f5 l) (by omega)
  obtain ⟨b, q2⟩ := compDots (sortD (pick (takes q node) Item.f5 l)) (by unfold sortD; simp; omega)
  have hd : compD (sortD (pick (takes q node) Item.f5 l)) = dropsL q node l := rfl
  rw [hd] at q2
  have s1 : ¬ (64 : Int) < (dropsL q node l).length := by omega
  have e1 := eq_true h1
  rw [fn_run hL Try.func87 rfl L87 (by rfl) rfl rfl rfl (by decide)]
  simp only [rD, pinN] at q1
  cases b
  · simp only [delR, rD, pinN, Nat.reduceAdd] at q2
    simp [rD, oneO] at h
    simp [Try.f87, h, q1, q2, s1, e1]
  · simp only [delR, rD, pinN, Nat.reduceAdd] at q2
    simp [rD, oneO] at h
    simp [Try.f87, h, q1, q2, s1, e1]
theorem one_put (l : List Item) (node seq at_ : Int) (q : Req) (hl : l.length ≤ 1000000) (hs : (dropsL q node l).length ≤ 64) (h1 : q.f0 = 3) :
    A.fn 87 [pv (lI l), iv node, iv seq, iv at_, ag (encQ q)] [] = some (.tup [ag (encE ⟨at_, q.f1, q.f2, 2, q.f3, 0, dropsL q node l⟩), bv true, iv 0], []) := by
  have h := one_loop l node seq at_ q hl l.length 0 [] [q.f4] (by omega) (by simp) (by simp)
  have hp := pick_len (takes q node) Item.f5 l
  have q1 := sortDots (pick (takes q node) Item.f5 l) (by omega)
  obtain ⟨b, q2⟩ := compDots (sortD (pick (takes q node) Item.f5 l)) (by unfold sortD; simp; omega)
  have hd : compD (sortD (pick (takes q node) Item.f5 l)) = dropsL q node l := rfl
  rw [hd] at q2
  have s1 : ¬ (64 : Int) < (dropsL q node l).length := by omega
  have e1 := eq_true h1
  have e2 : (q.f0 = 1) = False := eq_false (by omega)
  rw [fn_run hL Try.func87 rfl L87 (by rfl) rfl rfl rfl (by decide)]
  simp only [rD, pinN] at q1
  cases b
  · simp only [delR, rD, pinN, Nat.reduceAdd] at q2
    simp [rD, oneO] at h
    simp [Try.f87, h, q1, q2, s1, e1, e2]
  · simp only [delR, rD, pinN, Nat.reduceAdd] at q2
    simp [rD, oneO] at h
    simp [Try.f87, h, q1, q2, s1, e1, e2]
theorem one_drop (l : List Item) (node seq at_ : Int) (q : Req) (hl : l.length ≤ 1000000) (hs : (dropsL q node l).length ≤ 64) (h1 : ¬ q.f0 = 1) (h3 : ¬ q.f0 = 3) (h4 : ¬ q.f0 = 4) :
    A.fn 87 [pv (lI l), iv node, iv seq, iv at_, ag (encQ q)] [] = some (.tup [ag (encE ⟨at_, q.f1, q.f2, 0, ⟨#[]⟩, 0, dropsL q node l⟩), bv (decide (0 < (dropsL q node l).length)), iv 0], []) := by
  have h := one_loop l node seq at_ q hl l.length 0 [] [q.f4] (by omega) (by simp) (by simp)
  have hp := pick_len (takes q node) Item.f5 l
  have q1 := sortDots (pick (takes q node) Item.f5 l) (by omega)
  obtain ⟨b, q2⟩ := compDots (sortD (pick (takes q node) Item.f5 l)) (by unfold sortD; simp; omega)
  have hd : compD (sortD (pick (takes q node) Item.f5 l)) = dropsL q node l := rfl
  rw [hd] at q2
  have s1 : ¬ (64 : Int) < (dropsL q node l).length := by omega
  have e1 := eq_false h1
  have e2 := eq_false h3
  have e3 := eq_false h4
  rw [fn_run hL Try.func87 rfl L87 (by rfl) rfl rfl rfl (by decide)]
  simp only [rD, pinN] at q1
  cases b
  · simp only [delR, rD, pinN, Nat.reduceAdd] at q2
    simp [rD, oneO] at h
    simp [Try.f87, h, q1, q2, s1, e1, e2, e3]
    rw [if_pos ?q]
    case q => kernel_rfl
    simp [s1, e1, e2, e3]
  · simp only [delR, rD, pinN, Nat.reduceAdd] at q2
    simp [rD, oneO] at h
    simp [Try.f87, h, q1, q2, s1, e1, e2, e3]
    rw [if_pos ?q]
    case q => kernel_rfl
    simp [s1, e1, e2, e3]
end Go.E2.S
