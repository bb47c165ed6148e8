/- The reference's Less at any two items, and item.Less: both answer as the order of items says. -/
import Derived.Test.YtciiodbkhilkmaaGOrder
namespace Go.Proofs.Ytciiodbkhilkmaa.F
set_option linter.unusedVariables false
set_option linter.unusedSimpArgs false
open Go.RowKit Go.Sort Go.Proofs.YtciiodbkhilkmaaW.PrintWords Go.Proofs.YtciiodbkhilkmaaW.PrintLast Go.Proofs.YtciiodbkhilkmaaW.PrintMore
/-- Does one item stand ahead of another one? -/
def lessI (x y : S26) : Bool := decide (cmpI x y < 0)
def lessR (x y : S26) : Bool :=
  if (x.f0.toList == y.f0.toList) = false then Op.bytesLess x.f0.toList y.f0.toList else
  if (x.f1.toList == y.f1.toList) = false then Op.bytesLess x.f1.toList y.f1.toList else
  if x.f2 ≠ y.f2 then decide (x.f2 < y.f2) else
  if x.f5.f0 ≠ y.f5.f0 then decide (x.f5.f0 < y.f5.f0) else
  if x.f5.f1 ≠ y.f5.f1 then decide (x.f5.f1 < y.f5.f1) else
  if x.f5.f2 ≠ y.f5.f2 then decide (x.f5.f2 < y.f5.f2) else
  if (x.f3.toList == y.f3.toList) = false then Op.bytesLess x.f3.toList y.f3.toList else decide (x.f4 < y.f4)
theorem cmpZ_self (a : Int) : cmpZ a a = 0 := by unfold cmpZ; simp
theorem cmpB_self {a b : ByteArray} (h : (a.toList == b.toList) = true) : cmpB a b = 0 := by
  have h := eq_of_beq h
  have h1 : ¬ cmpB a b < 0 := fun h2 => by rw [cmpB_neg, h] at h2; exact List.lt_irrefl _ h2
  have h3 : ¬ 0 < cmpB a b := fun h2 => by rw [cmpB_pos, h] at h2; exact List.lt_irrefl _ h2
  omega
theorem cmpB_lt {a b : ByteArray} (h : (a.toList == b.toList) = false) : cmpB a b ≠ 0 ∧ (cmpB a b < 0 ↔ Op.bytesLess a.toList b.toList = true) := by
  refine ⟨fun e => ?_, by rw [cmpB_neg, bytesLess_eq]; simp⟩
  have := cmpB_zero a b e
  subst this
  simp at h
theorem cmpZ_lt {a b : Int} (h : a ≠ b) : cmpZ a b ≠ 0 ∧ (cmpZ a b < 0 ↔ a < b) := by
  unfold cmpZ
  by_cases h1 : a < b
  · simp [h1]
  · by_cases h2 : b < a
    · simp [h1, h2]
    · omega
theorem orZ0 (l : List Int) : orZ (0 :: l) = orZ l := by simp [orZ]
theorem orZn {x : Int} {l : List Int} (h : x ≠ 0) : orZ (x :: l) = x := by simp [orZ, h]
theorem orZ1 (x : Int) : orZ [x] = x := by simp only [orZ]; split <;> simp_all
theorem lessI_of {x y : S26} {i : Int} (h : cmpI x y = i) {b : Bool} (hb : i < 0 ↔ b = true) : b = lessI x y := by
  unfold lessI
  rw [h]
  cases b <;> simp_all
theorem less_eq (x y : S26) : lessR x y = lessI x y := by
  unfold lessR
  split
  · rename_i h; have := cmpB_lt h; exact lessI_of (i := cmpB x.f0 y.f0) (by unfold cmpI; exact orZn this.1) this.2
  rename_i h; rw [Bool.not_eq_false] at h; have e0 := cmpB_self h
  split
  · rename_i h; have := cmpB_lt h; exact lessI_of (i := cmpB x.f1 y.f1) (by unfold cmpI; rw [e0, orZ0]; exact orZn this.1) this.2
  rename_i h; rw [Bool.not_eq_false] at h; have e1 := cmpB_self h
  split
  · rename_i h; have := cmpZ_lt h; exact lessI_of (i := cmpZ x.f2 y.f2) (by unfold cmpI; rw [e0, e1, orZ0, orZ0]; exact orZn this.1) (by rw [this.2]; simp)
  rename_i h; have e2 : cmpZ x.f2 y.f2 = 0 := by rw [Decidable.not_not.1 h]; exact cmpZ_self _
  split
  · rename_i h; have := cmpZ_lt h; exact lessI_of (i := cmpZ x.f5.f0 y.f5.f0) (by unfold cmpI; rw [e0, e1, e2, orZ0, orZ0, orZ0]; exact orZn this.1) (by rw [this.2]; simp)
  rename_i h; have e3 : cmpZ x.f5.f0 y.f5.f0 = 0 := by rw [Decidable.not_not.1 h]; exact cmpZ_self _
  split
  · rename_i h; have := cmpZ_lt h; exact lessI_of (i := cmpZ x.f5.f1 y.f5.f1) (by unfold cmpI; rw [e0, e1, e2, e3, orZ0, orZ0, orZ0, orZ0]; exact orZn this.1) (by rw [this.2]; simp)
  rename_i h; have e4 : cmpZ x.f5.f1 y.f5.f1 = 0 := by rw [Decidable.not_not.1 h]; exact cmpZ_self _
  split
  · rename_i h; have := cmpZ_lt h; exact lessI_of (i := cmpZ x.f5.f2 y.f5.f2) (by unfold cmpI; rw [e0, e1, e2, e3, e4, orZ0, orZ0, orZ0, orZ0, orZ0]; exact orZn this.1) (by rw [this.2]; simp)
  rename_i h; have e5 : cmpZ x.f5.f2 y.f5.f2 = 0 := by rw [Decidable.not_not.1 h]; exact cmpZ_self _
  split
  · rename_i h; have := cmpB_lt h; exact lessI_of (i := cmpB x.f3 y.f3) (by unfold cmpI; rw [e0, e1, e2, e3, e4, e5, orZ0, orZ0, orZ0, orZ0, orZ0, orZ0]; exact orZn this.1) this.2
  rename_i h; rw [Bool.not_eq_false] at h; have e6 := cmpB_self h
  refine lessI_of (i := cmpZ x.f4 y.f4) (by unfold cmpI; rw [e0, e1, e2, e3, e4, e5, e6]; simp only [orZ0]; exact orZ1 _) ?_
  unfold cmpZ
  by_cases h1 : x.f4 < y.f4
  · simp [h1]
  · by_cases h2 : y.f4 < x.f4 <;> simp [h1, h2]

def item_Less.f (a0_0 a0_1 : ByteArray) (a0_2 : Int) (a0_3 : ByteArray) (a0_4 a0_5 a0_6 a0_7 : Int) (a1_0 a1_1 : ByteArray) (a1_2 : Int) (a1_3 : ByteArray) (a1_4 a1_5 a1_6 a1_7 : Int) : Option Bool := some (lessI ⟨a0_0, a0_1, a0_2, a0_3, a0_4, ⟨a0_5, a0_6, a0_7⟩⟩ ⟨a1_0, a1_1, a1_2, a1_3, a1_4, ⟨a1_5, a1_6, a1_7⟩⟩)
theorem item_Less.calls (a0_0 : ByteArray) (a0_1 : ByteArray) (a0_2 : Int) (a0_3 : ByteArray) (a0_4 : Int) (a0_5 : Int) (a0_6 : Int) (a0_7 : Int) (a1_0 : ByteArray) (a1_1 : ByteArray) (a1_2 : Int) (a1_3 : ByteArray) (a1_4 : Int) (a1_5 : Int) (a1_6 : Int) (a1_7 : Int) (r : Bool) (w : World) (h : item_Less.f a0_0 a0_1 a0_2 a0_3 a0_4 a0_5 a0_6 a0_7 a1_0 a1_1 a1_2 a1_3 a1_4 a1_5 a1_6 a1_7 = some r) :
    Calls Try.prog 37 #[.agg #[.string a0_0, .string a0_1, .int .i64 a0_2, .string a0_3, .int .i64 a0_4, .int .i64 a0_5, .int .i64 a0_6, .int .i64 a0_7], .agg #[.string a1_0, .string a1_1, .int .i64 a1_2, .string a1_3, .int .i64 a1_4, .int .i64 a1_5, .int .i64 a1_6, .int .i64 a1_7]] w fun e w' => e = .returned (.bool r) ∧ Below w.heap.size w w' := by
  obtain rfl := Option.some.inj h
  unfold lessI
  have hc := fun W => compare_at ⟨a0_0, a0_1, a0_2, a0_3, a0_4, ⟨a0_5, a0_6, a0_7⟩⟩ ⟨a1_0, a1_1, a1_2, a1_3, a1_4, ⟨a1_5, a1_6, a1_7⟩⟩ W
  unfold encItem at hc
  generalize cmpI _ _ = i at hc ⊢
  have HC := Aside0.mk hc
  clear hc h
  have HB := Aside0.mk (Below.refl w.heap.size w)
  by_cases hi : i < 0
  all_goals
    go_enter Try.func37, Try.ntmps37
    go_wp2_with (go_at_call 75; refine (HC.out _).mono ?_; rintro e w' ⟨rfl, q, os, hw⟩; have HW := Aside0.mk hw; clear hw)
    (try go_quiet (fail))
    (try go_wp2)
    go_ret
    refine ⟨by simp [hi], ?_⟩
    rw [HW.out]
    refine ⟨rfl, rfl, rfl, by simp [grow, World.drewN, World.drew]; omega, fun k hk => ?_⟩
    rw [heap_grow_old _ _ (by simp [World.drewN, World.drew]; omega)]
    have e2 : ∀ (W : World) (n : Nat), (W.drewN n).heap = W.heap := fun _ _ => rfl
    rw [e2]
    have o1 := Go.heap_alloc_old w (.cells #[Value.string a0_0, Value.string a0_1, Value.int IntKind.i64 a0_2, Value.string a0_3, Value.int IntKind.i64 a0_4, Value.int IntKind.i64 a0_5, Value.int IntKind.i64 a0_6, Value.int IntKind.i64 a0_7] 26) hk
    rw [← o1]
    exact Go.heap_alloc_old _ _ (by simp; omega)
end Go.Proofs.Ytciiodbkhilkmaa.F
