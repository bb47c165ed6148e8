/- A cache: copied, uses, away, trim. -/
import Derived.Test.YtiliffhopdiepaaVC2
import Derived.Test.YtiliffhopdiepaaVI3
namespace Go.E2.S
open Go Go.E2 Go.RowKit Go.Proofs
set_option linter.unusedVariables false
set_option linter.unusedSimpArgs false
set_option maxHeartbeats 4000000
set_option maxRecDepth 10000
structure OpC where
  f0 : Int
  f1 : List Item
  f2 : List ByteArray
  f3 : ByteArray
  f4 : List ByteArray
abbrev encOC (o : OpC) : List PV := [.int .i64 o.f0, lI o.f1, lS o.f2, .str o.f3, lS o.f4]
abbrev lOC (l : List OpC) : PV := .list 5 (l.map encOC)
theorem cloneS (l : List ByteArray) (hl : l.length < 1000000000) : A.fn 42 [pv (lS l)] [] = some (.one (.at (.row pinN 0)), [some (rS l)]) :=
  (lib_run hL L42 [pv (lS l)] []).trans (clone_at A.fn (xs := l.map encS) (by simp [appLim]; omega))
theorem copiedC (c : Cac) (h0 : c.f0.length < 1000000000) (h1 : c.f1.length < 1000000000) (h2 : c.f2.length < 1000000000) :
    A.fn 24 [ag (encC c)] [] = some (.one (.agg [.row pinN 0, .row (pinN + 1) 0, .row (pinN + 2) 0, .pv (.int .i64 c.f3)]), [some (rI c.f0), some (rS c.f1), some (rS c.f2)]) := by
  have q0 := cloneI c.f0 h0
  have q1 := cloneS c.f1 h1
  have q2 := cloneS c.f2 h2
  rw [fn_run hL Try.func24 rfl L24 (by rfl) rfl rfl rfl (by decide)]
  simp only [rI, rS] at q0 q1 q2
  simp [Try.f24, q0, q1, q2]
  rw [if_pos ?q]
  case q => kernel_rfl
  simp [q0, q1, q2]
theorem uses_l0 (old keys : List ByteArray) (l : List Item) (ho : old.length < 100000) (hk : keys.length < 1000000000) (n : Nat) : ∀ (i : Nat) (out : List ByteArray), old.length = i + n → out.length ≤ i →
    A.lp 25 0 (hd25_0 [pv (lS keys), .at (.row 2001 0), pv (lS old), iv old.length, iv i] [(pinN, 0, some (rI l)), (2001, 0, some (rS out))]) =
      some (.exit 0, ex25_0 [pv (lS keys), .at (.row 2001 0)] [(pinN, 0, some (rI l)), (2001, 0, some (rS (out ++ (old.drop i).filter fun k => inS keys k)))]) := by
  induction n with
  | zero =>
    intro i out hi h
    rw [lp_run hL Try.func25 rfl (by rfl) 0 rfl]
    obtain rfl : i = old.length := by omega
    simp
  | succ n ih =>
    intro i out hi h
    have h1 : i < old.length := by omega
    have hlim : (out.length + 1) * 17 ≤ 70368744177664 := by omega
    have q := contS keys old[i] hk
    rw [List.drop_eq_getElem_cons h1]
    rw [lp_run hL Try.func25 rfl (by rfl) 0 rfl]
    cases c : inS keys old[i] with
    | true =>
      rw [c] at q
      have ih := ih (i + 1) (out ++ [old[i]]) (by omega) (by simp; omega)
      rw [List.filter_cons_of_pos (by simpa using c), List.append_cons]
      simp [rI, rS, h1, hlim, q] at ih ⊢
      simp (disch := omega) only [wr]
      exact ih
    | false =>
      rw [c] at q
      have ih := ih (i + 1) out (by omega) (by omega)
      rw [List.filter_cons_of_neg (by simp [c])]
      simp [rI, rS, h1, hlim, q] at ih ⊢
      simp (disch := omega) only [wr]
      exact ih
theorem uses_l2 (keys : List ByteArray) (l : List Item) (hk : keys.length < 100000) (n : Nat) : ∀ (i : Nat) (out : List ByteArray), keys.length = i + n → out.length ≤ i + 100000 →
    A.lp 25 2 (hd25_2 [.at (.row 2001 0), pv (lS keys), iv keys.length, iv i] [(pinN, 0, some (rI l)), (2001, 0, some (rS out))]) =
      some (.exit 2, ex25_2 [.at (.row 2001 0)] [(pinN, 0, some (rI l)), (2001, 0, some (rS ((keys.drop i).foldl addL out)))]) := by
  induction n with
  | zero =>
    intro i out hi h
    rw [lp_run hL Try.func25 rfl (by rfl) 2 rfl]
    obtain rfl : i = keys.length := by omega
    simp
  | succ n ih =>
    intro i out hi h
    have h1 : i < keys.length := by omega
    have hlim : (out.length + 1) * 17 ≤ 70368744177664 := by omega
    have q := contSR out keys[i] (by omega)
    rw [List.drop_eq_getElem_cons h1, List.foldl_cons, addL]
    rw [lp_run hL Try.func25 rfl (by rfl) 2 rfl]
    cases c : inS out keys[i] with
    | true =>
      rw [c] at q
      have ih := ih (i + 1) out (by omega) (by omega)
      simp [rI, rS, h1, hlim, q] at ih ⊢
      simp (disch := omega) only [wr]
      exact ih
    | false =>
      rw [c] at q
      have ih := ih (i + 1) (out ++ [keys[i]]) (by omega) (by simp; omega)
      simp [rI, rS, h1, hlim, q] at ih ⊢
      simp (disch := omega) only [wr]
      exact ih
theorem usesC (old : List ByteArray) (l : List Item) (ho : old.length < 100000) (hl : l.length < 100000) : A.fn 25 [pv (lS old), .at (.row pinN 0)] [rI l] = some (.one (.at (.row (pinN + 1) 0)), [some (rI l), some (rS (usesL old (keysL l)))]) := by
  have hk := keysL_len l
  have q := itemKeysR l hl
  have h0 := uses_l0 old (keysL l) l ho (by omega) old.length 0 [] (by omega) (by simp)
  have hf : (old.filter fun k => inS (keysL l) k).length ≤ old.length := List.length_filter_le _ _
  have h2 := uses_l2 (keysL l) l (by omega) (keysL l).length 0 (old.filter fun k => inS (keysL l) k) (by omega) (by omega)
  rw [List.drop_zero] at h2
  unfold usesL
  generalize keysL l = ks at *
  rw [fn_run hL Try.func25 rfl L25 (by rfl) rfl rfl rfl (by decide)]
  simp [rI, rS] at q h0 h2
  simp [Try.f25, q, h0, h2]
theorem away1C (x : Item) (k : ByteArray) : A.fn 59 [ag (encI x), pv (.ref [.str k])] [] = some (.one (bv (decide (x.f0 = k))), []) := by
  rw [fn_run hL Try.func59 rfl L59 (by rfl) rfl rfl rfl (by decide)]
  simp [Try.f59]
theorem away2C (x k : ByteArray) : A.fn 60 [sv x, pv (.ref [.str k])] [] = some (.one (bv (decide (x = k))), []) := by
  rw [fn_run hL Try.func60 rfl L60 (by rfl) rfl rfl rfl (by decide)]
  simp [Try.f60]
theorem awayC (c : Cac) (k : ByteArray) (hi : InvC c) (hk : k ∈ c.f1) (h0 : c.f0.length < 1000000) (h1 : c.f1.length < 1000000) (h2 : c.f2.length < 1000000) :
    A.fn 45 [.agg [.row pinN 0, .row (pinN + 1) 0, .row (pinN + 2) 0, .pv (.int .i64 c.f3)], sv k] [rI c.f0, rS c.f1, rS c.f2] =
      some (.one (.agg [.row (pinN + 3) 0, .row (pinN + 4) 0, .row (pinN + 5) 0, .pv (.int .i64 c.f3)]), [none, none, none, some (rI (awayL c k).f0), some (rS (awayL c k).f1), some (rS (awayL c k).f2)]) := by
  have q0 := delI c.f0 59 [.ref [.str k]] (fun x => decide (x.f0 = k)) (by simp) (by omega) fun x _ => away1C x k
  have q1 := delS c.f1 60 [.ref [.str k]] (fun x => decide (x = k)) (by simp) (by omega) fun x _ => away2C x k
  obtain ⟨b, q2⟩ := bsearch c.f2 k hi.gn (by omega)
  have q3 := (lib_run hL L62 _ _).trans (Lib.insert_at A.fn c.f2 (posL c.f2 k) k (posL_le _ _) (by omega))
  have a0 : c.f0.any (fun x => decide (x.f0 = k)) = true := by
    obtain ⟨x, hx, e⟩ := (hi.us k).1 hk
    rw [List.any_eq_true]
    exact ⟨x, hx, by simp [e]⟩
  have a1 : c.f1.any (fun x => decide (x = k)) = true := by
    rw [List.any_eq_true]
    exact ⟨k, hk, by simp⟩
  rw [a0] at q0
  rw [a1] at q1
  simp only [delR] at q0 q1
  unfold awayL insL
  obtain ⟨c0, c1, c2, c3⟩ := c
  simp only at *
  generalize posL c2 k = p at *
  rw [fn_run hL Try.func45 rfl L45 (by rfl) rfl rfl rfl (by decide)]
  simp at q0 q1 q2 q3
  simp [Try.f45, q0, q1, q2, q3]
end Go.E2.S
