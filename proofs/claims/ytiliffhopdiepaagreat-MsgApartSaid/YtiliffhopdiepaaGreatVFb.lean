/- VFb: VF4, VF5, VF6, VF7, VF8, VF9. -/
import Derived.Test.YtiliffhopdiepaaGreatVFa
import Derived.Test.YtiliffhopdiepaaGreatVPlain
/-! Rising, each once. -/
namespace Go.E2.S
open Go Go.E2 Go.RowKit Go.Proofs
open Go.E2.Lib (sortB compB)
set_option linter.unusedVariables false
set_option linter.unusedSimpArgs false
set_option maxHeartbeats 1000000
set_option maxRecDepth 10000
theorem empty_eq : ({ data := #[] } : ByteArray) = ByteArray.empty := rfl
theorem last_get (l : List ByteArray) (h : l ≠ []) (h1 : l.length - 1 < l.length) : l[l.length - 1] = l.getLastD ByteArray.empty := by
  rw [List.getLastD_eq_getLast?, List.getLast?_eq_some_getLast h, List.getLast_eq_getElem]; rfl
theorem once_l1 (l out : List ByteArray) (hl : l.length < 1000000000) (ho : out.length < 1000000000) (n : Nat) : ∀ (i : Nat) (b : ByteArray) (ok : Bool), l.length = i + n → InvO out (l.take i) b ok →
    ∃ b' ok', InvO out l b' ok' ∧ A.lp 209 2 (hd209_2 [pv (lS l), .at (.row 2000 0), sv b, bv ok, iv i] [(2000, 0, some (.row true 1 (out.map encS)))]) = some (.exit 2, ex209_2 [pv (lS l), .at (.row 2000 0), sv b', bv ok'] [(2000, 0, some (.row true 1 (out.map encS)))]) := by
  induction n with
  | zero =>
    intro i b ok hi hI
    rw [List.take_of_length_le (by omega)] at hI
    refine ⟨b, ok, hI, ?_⟩
    rw [lp_run hL Tryz.func209 rfl (by rfl) 2 rfl]
    obtain rfl : i = l.length := by omega
    simp
  | succ n ih =>
    intro i b ok h hI
    have hi : i < l.length := by omega
    have tk : l.take (i + 1) = l.take i ++ [l[i]] := by rw [List.take_succ_eq_append_getElem hi]
    have yes : aft out l[i] → (ok = true → bl l[i] < bl b) → _ := fun h1 h2 => ih (i + 1) l[i] true (by omega) (by rw [tk]; exact hI.take h1 h2)
    have no : (aft out l[i] → ok = true ∧ ¬ bl l[i] < bl b) → _ := fun h1 => ih (i + 1) b ok (by omega) (by rw [tk]; exact hI.pass h1)
    rw [lp_run hL Tryz.func209 rfl (by rfl) 2 rfl]
    by_cases e : out = []
    · subst e
      cases ok with
      | false =>
        obtain ⟨b', ok', h1, h2⟩ := yes (.inl rfl) (by simp)
        refine ⟨b', ok', h1, ?_⟩
        simp [hi] at h2 ⊢
        simp (disch := omega) only [wr]
        exact h2
      | true =>
        by_cases c2 : bl l[i] < bl b
        · obtain ⟨b', ok', h1, h2⟩ := yes (.inl rfl) (fun _ => c2)
          refine ⟨b', ok', h1, ?_⟩
          simp [hi, c2] at h2 ⊢
          simp (disch := omega) only [wr]
          exact h2
        · obtain ⟨b', ok', h1, h2⟩ := no (fun _ => ⟨rfl, c2⟩)
          refine ⟨b', ok', h1, ?_⟩
          simp [hi, c2, -List.not_lt] at h2 ⊢
          simp (disch := omega) only [wr]
          exact h2
    · have hp := List.length_pos_iff.2 e
      have q1 := last_get out e (by omega)
      have hw : IntKind.i64.wrap ((out.length : Int) - 1) = ((out.length - 1 : Nat) : Int) := by rw [wr _ (by omega) (by omega)]; omega
      have hlt : out.length - 1 < out.length := by omega
      obtain ⟨y, hy⟩ : ∃ y, out.getLastD ByteArray.empty = y := ⟨_, rfl⟩
      rw [hy] at q1
      by_cases a : bl y < bl l[i]
      · cases ok with
        | false =>
          obtain ⟨b', ok', h1, h2⟩ := yes (.inr (by rw [hy]; exact a)) (by simp)
          refine ⟨b', ok', h1, ?_⟩
          simp [hi, e, hw, hlt, q1, a] at h2 ⊢
          simp (disch := omega) only [wr]
          exact h2
        | true =>
          by_cases c2 : bl l[i] < bl b
          · obtain ⟨b', ok', h1, h2⟩ := yes (.inr (by rw [hy]; exact a)) (fun _ => c2)
            refine ⟨b', ok', h1, ?_⟩
            simp [hi, e, hw, hlt, q1, a, c2] at h2 ⊢
            simp (disch := omega) only [wr]
            exact h2
          · obtain ⟨b', ok', h1, h2⟩ := no (fun _ => ⟨rfl, c2⟩)
            refine ⟨b', ok', h1, ?_⟩
            simp [hi, e, hw, hlt, q1, a, c2, -List.not_lt] at h2 ⊢
            simp (disch := omega) only [wr]
            exact h2
      · obtain ⟨b', ok', h1, h2⟩ := no (fun h => absurd h (fun h => h.elim e (by rw [hy]; exact a)))
        refine ⟨b', ok', h1, ?_⟩
        simp [hi, e, hw, hlt, q1, a, -List.not_lt] at h2 ⊢
        simp (disch := omega) only [wr]
        exact h2
theorem once_l0 (l : List ByteArray) (hl : l.length < 100000) (n : Nat) : ∀ (m : Nat) (out : List ByteArray), (onceL l).length = m + n → out = (onceL l).take m → A.lp 209 0 (hd209_0 [pv (lS l), .at (.row 2000 0)] [(2000, 0, some (.row true 1 (out.map encS)))]) = some (.ret, ex209_0 [.at (.row 2000 0)] [(2000, 0, some (.row true 1 ((onceL l).map encS)))]) := by
  induction n with
  | zero =>
    intro m out h ho
    have hS := onceL_up l
    have hlen := onceL_len l
    obtain ⟨b, ok, hI, h2⟩ := once_l1 l out (by omega) (by rw [ho, List.length_take]; omega) l.length 0 ByteArray.empty false (by omega) ⟨fun _ x hx => by simp at hx, fun c => by simp at c⟩
    cases ok with
    | true =>
      obtain ⟨h1, h2, h3⟩ := hI.2 rfl
      have hb := (aft_iff hS m ((onceL_mem l b).2 h1)).1 (ho ▸ h2)
      rw [List.drop_of_length_le (by omega)] at hb
      exact absurd hb (by simp)
    | false =>
      rw [List.take_of_length_le (by omega)] at ho
      subst ho
      rw [lp_run hL Tryz.func209 rfl (by rfl) 0 rfl]
      simp at h2 ⊢
      simp [empty_eq, h2]
  | succ n ih =>
    intro m out h ho
    have hS := onceL_up l
    have hlen := onceL_len l
    have hol : out.length = m := by rw [ho, List.length_take]; omega
    obtain ⟨b, ok, hI, h2⟩ := once_l1 l out (by omega) (by omega) l.length 0 ByteArray.empty false (by omega) ⟨fun _ x hx => by simp at hx, fun c => by simp at c⟩
    have hm : m < (onceL l).length := by omega
    have hd := List.drop_eq_getElem_cons hm
    cases ok with
    | false =>
      have hxS := (onceL_mem l _).1 (List.getElem_mem hm)
      exact absurd ((aft_iff hS m (List.getElem_mem hm)).2 (by rw [hd]; exact .head _)) (ho ▸ hI.1 rfl _ hxS)
    | true =>
      obtain ⟨h1, h1', h3⟩ := hI.2 rfl
      have hb := (aft_iff hS m ((onceL_mem l b).2 h1)).1 (ho ▸ h1')
      have e : b = (onceL l)[m] := by
        rw [hd] at hb
        rcases List.mem_cons.1 hb with hb | hb
        · exact hb
        have hup : ((onceL l).drop m).Pairwise fun a b => bl a < bl b := hS.drop
        rw [hd] at hup
        have g1 := (List.pairwise_cons.1 hup).1 b hb
        have g2 := h3 (onceL l)[m] ((onceL_mem l _).1 (List.getElem_mem hm)) (ho ▸ (aft_iff hS m (List.getElem_mem hm)).2 (by rw [hd]; exact .head _))
        exact absurd g2 (List.not_le.2 g1)
      have ih := ih (m + 1) (out ++ [b]) (by omega) (by rw [e, ho, ← List.take_succ_eq_append_getElem hm])
      rw [lp_run hL Tryz.func209 rfl (by rfl) 0 rfl]
      have hlim : (out.length + 1) * 17 ≤ 70368744177664 := by omega
      simp at h2 ih ⊢
      simp [empty_eq, h2, hlim]
      exact ih
theorem ronce (l : List ByteArray) (hl : l.length < 100000) : A.fn 209 [pv (lS l)] [] = some (.one (pv (lS (onceL l))), []) := by
  have h := once_l0 l hl (onceL l).length 0 [] (by omega) rfl
  rw [fn_run hL Tryz.func209 rfl L209 (by rfl) rfl rfl rfl (by decide)]
  simp at h ⊢
  simp [Tryz.f209, h]
end Go.E2.S
/-! Totals. -/
namespace Go.E2.S
open Go Go.E2 Go.RowKit Go.Proofs
open Go.E2.Lib (sortB compB)
set_option linter.unusedVariables false
set_option linter.unusedSimpArgs false
set_option maxHeartbeats 1000000
set_option maxRecDepth 10000
end Go.E2.S
/-! The document's total of numbers. -/
namespace Go.E2.S
open Go Go.E2 Go.RowKit Go.Proofs
open Go.E2.Lib (sortB compB)
set_option linter.unusedVariables false
set_option linter.unusedSimpArgs false
set_option maxHeartbeats 1000000
set_option maxRecDepth 10000
theorem tk (l : List Int) : (l.map encZ).take l.length = l.map encZ := List.take_of_length_le (by simp)
def ups (l : List Int) : List Int := l.filter fun x => decide (0 < x)
def downs (l : List Int) : List Int := l.filter fun x => decide (x < 0)
theorem ups_downs (l : List Int) : (ups l).sum + (downs l).sum = l.sum := by
  induction l with
  | nil => rfl
  | cons x l ih =>
    unfold ups downs at *
    simp only [List.filter_cons]
    by_cases h1 : 0 < x
    · have h2 : ¬ x < 0 := by omega
      simp only [h1, h2, decide_true, decide_false, if_true, List.sum_cons, Bool.false_eq_true, if_false]; omega
    · by_cases h2 : x < 0
      · simp only [h1, h2, decide_true, decide_false, if_true, List.sum_cons, Bool.false_eq_true, if_false]; omega
      · simp only [h1, h2, decide_true, decide_false, if_true, List.sum_cons, Bool.false_eq_true, if_false]; omega
theorem ups_pos {x : Int} {l : List Int} (h : 0 < x) : ups (x :: l) = x :: ups l := List.filter_cons_of_pos (by simpa using h)
theorem ups_neg {x : Int} {l : List Int} (h : ¬ 0 < x) : ups (x :: l) = ups l := List.filter_cons_of_neg (by simpa using h)
theorem downs_pos {x : Int} {l : List Int} (h : x < 0) : downs (x :: l) = x :: downs l := List.filter_cons_of_pos (by simpa using h)
theorem downs_neg {x : Int} {l : List Int} (h : ¬ x < 0) : downs (x :: l) = downs l := List.filter_cons_of_neg (by simpa using h)
end Go.E2.S
/-! Fields of a key; texts of a kind. -/
namespace Go.E2.S
open Go Go.E2 Go.RowKit Go.Proofs
open Go.E2.Lib (sortB compB)
set_option linter.unusedVariables false
set_option linter.unusedSimpArgs false
set_option maxHeartbeats 1000000
set_option maxRecDepth 10000
end Go.E2.S
/-! A field of items: the document's. -/
namespace Go.E2.S
open Go Go.E2 Go.RowKit Go.Proofs
open Go.E2.Lib (sortB compB)
set_option linter.unusedVariables false
set_option linter.unusedSimpArgs false
set_option maxHeartbeats 1000000
set_option maxRecDepth 10000
@[simp] abbrev rfO (xs : List Int) : List Upd := [(2000, 0, some (.blk [.nil, .nil, .pv (.int .i64 0), .pv (.bool false)])), (2001, 0, some (.row true 1 (xs.map encZ)))]
end Go.E2.S
/-! A field of items: view's. -/
namespace Go.E2.S
open Go Go.E2 Go.RowKit Go.Proofs
open Go.E2.Lib (sortB compB)
set_option linter.unusedVariables false
set_option linter.unusedSimpArgs false
set_option maxHeartbeats 1000000
set_option maxRecDepth 10000
@[simp] abbrev vfO (e r : List ByteArray) (c : List Int) : List Upd := [(2000, 0, some (.blk [.nil, .nil, .pv (.int .i64 0), .pv (.bool false)])), (2001, 0, some (.row true 1 (e.map encS))), (2002, 0, some (.row true 1 (r.map encS))),
  (2003, 0, some (.blk [.row 2001 0, .row 2002 0, .pv (.int .i64 0), .pv (.bool false)])), (2004, 0, some (.row true 1 (c.map encZ)))]
end Go.E2.S
