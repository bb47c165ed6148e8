/- A cache: trim, and what is done to it. -/
import Derived.Test.YtiliffhopdiepaaVC3
namespace Go.E2.S
open Go Go.E2 Go.RowKit Go.Proofs
set_option linter.unusedVariables false
set_option linter.unusedSimpArgs false
set_option maxHeartbeats 4000000
set_option maxRecDepth 10000
theorem trim1C (x : ByteArray) (spare : List ByteArray) (hs : spare.length < 1000000000) : A.fn 44 [sv x, pv (.ref [lS spare])] [] = some (.one (bv (freeS spare x)), []) := by
  have h := contS spare x hs
  rw [fn_run hL Try.func44 rfl L44 (by rfl) rfl rfl rfl (by decide)]
  simp [Try.f44, h, freeS]
theorem find_idx {α : Type} (p : α → Bool) : ∀ (l : List α), l.any p = true → ∃ h : l.findIdx p < l.length, l.find? p = some l[l.findIdx p]
  | [], h => by simp at h
  | x :: l, h => by
    cases c : p x with
    | true =>
      have e : (x :: l).findIdx p = 0 := by rw [findI_cons, if_pos c]
      refine ⟨by rw [e]; simp, ?_⟩
      simp [e, c]
    | false =>
      have e : (x :: l).findIdx p = l.findIdx p + 1 := by rw [findI_cons, if_neg (by simp [c])]
      rw [List.any_cons, c, Bool.false_or] at h
      obtain ⟨h1, h2⟩ := find_idx p l h
      refine ⟨by rw [e, List.length_cons]; omega, ?_⟩
      rw [List.find?_cons_of_neg (by simp [c]), h2]
      simp [e]
theorem find_none {α : Type} (p : α → Bool) (l : List α) (h : l.any p = false) : l.find? p = none := by
  rw [List.any_eq_false] at h
  exact List.find?_eq_none.2 h
def zT : List At := [.nil, .nil, .nil, .pv (.int .i64 0)]
def rT (c : Cac) : List At := [.row 2003 0, .row 2004 0, .row 2005 0, .pv (.int .i64 c.f3)]
def rP (c : Cac) : List At := [.row pinN 0, .row (pinN + 1) 0, .row (pinN + 2) 0, .pv (.int .i64 c.f3)]
def oT (c : Cac) (res : List At) : List Upd := [(pinN, 0, none), (pinN + 1, 0, none), (pinN + 2, 0, none), (2003, 0, some (rI c.f0)), (2004, 0, some (rS c.f1)), (2005, 0, some (rS c.f2)), (2006, 0, some (.blk (rT c))), (2007, 0, some (.blk res))]
def oP (c : Cac) (spare : List ByteArray) : List Upd := [(pinN, 0, some (rI c.f0)), (pinN + 1, 0, some (rS c.f1)), (pinN + 2, 0, some (rS c.f2)), (2003, 0, some (.blk (rP c))), (2004, 0, some (.blk [.pv (lS spare)])), (2005, 0, some (.blk zT))]
def oPx (c : Cac) (res : List At) : List Upd := [(pinN, 0, some (rI c.f0)), (pinN + 1, 0, some (rS c.f1)), (pinN + 2, 0, some (rS c.f2)), (2003, 0, some (.blk (rP c))), (2004, 0, some (.blk res))]
theorem trim_loop (spare : List ByteArray) (hsp : spare.length < 1000000000) (n : Nat) : ∀ c : Cac, InvC c → c.f1.length ≤ n → c.f0.length < 100000 → c.f2.length + n < 1000000 → c.f1.length < 1000000 →
    A.lp 26 0 (hd26_0 [.at (.ptr 2006 0 0), pv (.ref [lS spare]), .at (.ptr 2007 0 0), iv (szI c.f0)] (oT c zT)) = some (.exit 0, ex26_0 [.at (.ptr 2006 0 0), .at (.ptr 2007 0 0)] (oT (trimL spare n c) zT)) ∨
    A.lp 26 0 (hd26_0 [.at (.ptr 2006 0 0), pv (.ref [lS spare]), .at (.ptr 2007 0 0), iv (szI c.f0)] (oT c zT)) = some (.ret, ex26_0 [.at (.ptr 2006 0 0), .at (.ptr 2007 0 0)] (oT (trimL spare n c) (rT (trimL spare n c)))) := by
  induction n with
  | zero =>
    intro c hi h1 h0 h2 h3
    have e1 : c.f1 = [] := List.length_eq_zero_iff.1 (by omega)
    have e0 : trimL spare 0 c = c := rfl
    rw [e0]
    have q1 := idxSR c.f1 44 [.ref [lS spare]] (freeS spare) (by simp) (by omega) fun x _ => trim1C x spare hsp
    rw [e1] at q1
    by_cases hsz : c.f3 < szI c.f0
    · right
      rw [lp_run hL Try.func26 rfl (by rfl) 0 rfl]
      simp [rI, rS, idxL] at q1
      simp [oT, rT, zT, hsz, e1, q1]
    · left
      rw [lp_run hL Try.func26 rfl (by rfl) 0 rfl]
      simp [oT, rT, zT, hsz, e1]
  | succ n ih =>
    intro c hi h1 h0 h2 h3
    have q1 := idxSR c.f1 44 [.ref [lS spare]] (freeS spare) (by simp) (by omega) fun x _ => trim1C x spare hsp
    unfold idxL at q1
    rw [trimL]
    by_cases hsz : c.f3 < szI c.f0
    · rw [if_pos hsz]
      cases ha : c.f1.any (freeS spare) with
      | false =>
        rw [ha] at q1
        rw [find_none _ _ ha]
        right
        rw [lp_run hL Try.func26 rfl (by rfl) 0 rfl]
        simp [rI, rS] at q1
        simp [oT, rT, zT, hsz, q1]
      | true =>
        obtain ⟨f1, f2⟩ := find_idx _ _ ha
        rw [ha] at q1
        rw [f2]
        generalize hat : c.f1.findIdx (freeS spare) = at_ at q1 f1 f2
        have hm : c.f1[at_] ∈ c.f1 := List.getElem_mem f1
        have q2 := awayC c c.f1[at_] hi hm (by omega) (by omega) (by omega)
        have hl : (awayL c c.f1[at_]).f0.length ≤ c.f0.length := List.length_filter_le _ _
        have hg : (awayL c c.f1[at_]).f2.length = c.f2.length + 1 := insL_len _ _
        have hu := away_less hm
        have hi' := hi.away hm
        have q3 := itemSizeR (awayL c c.f1[at_]).f0 (by omega) hi'.sh
        have ih := ih (awayL c c.f1[at_]) hi' (by omega) (by omega) (by omega) (by omega)
        have eb : (awayL c c.f1[at_]).f3 = c.f3 := rfl
        simp only
        generalize awayL c c.f1[at_] = c' at *
        have e : ¬ (at_ : Int) < 0 := by omega
        have step : A.lp 26 0 (hd26_0 [.at (.ptr 2006 0 0), pv (.ref [lS spare]), .at (.ptr 2007 0 0), iv (szI c.f0)] (oT c zT)) = A.lp 26 0 (hd26_0 [.at (.ptr 2006 0 0), pv (.ref [lS spare]), .at (.ptr 2007 0 0), iv (szI c'.f0)] (oT c' zT)) := by
          rw [lp_run hL Try.func26 rfl (by rfl) 0 rfl]
          simp [rI, rS] at q1 q2 q3
          simp [oT, rT, zT, hsz, q1, q2, q3, f1, e, eb]
          rw [if_pos ?q]
          case q => kernel_rfl
          simp [q1, q2, q3, f1, e, eb]
        rw [step]
        exact ih
    · rw [if_neg hsz]
      left
      rw [lp_run hL Try.func26 rfl (by rfl) 0 rfl]
      simp [oT, rT, zT, hsz]
/-- Where a trimmed cache's rows lie: where they lay, or anew. -/
def trimR (b : Bool) (c : Cac) : Res := match b with
  | true => (.one (.agg [.row (pinN + 3) 0, .row (pinN + 4) 0, .row (pinN + 5) 0, .pv (.int .i64 c.f3)]), [none, none, none, some (rI c.f0), some (rS c.f1), some (rS c.f2)])
  | false => (.one (.agg [.row pinN 0, .row (pinN + 1) 0, .row (pinN + 2) 0, .pv (.int .i64 c.f3)]), [some (rI c.f0), some (rS c.f1), some (rS c.f2)])
theorem trimC (c : Cac) (spare : List ByteArray) (hsp : spare.length < 1000000000) (hi : InvC c) (h0 : c.f0.length < 100000) (h1 : c.f1.length < 400000) (h2 : c.f2.length < 400000) :
    ∃ b, A.fn 26 [.agg [.row pinN 0, .row (pinN + 1) 0, .row (pinN + 2) 0, .pv (.int .i64 c.f3)], pv (lS spare)] [rI c.f0, rS c.f1, rS c.f2] = some (trimR b (trimL spare c.f1.length c)) := by
  have q := itemSizeR c.f0 h0 hi.sh
  have q1 := idxSR c.f1 44 [.ref [lS spare]] (freeS spare) (by simp) (by omega) fun x _ => trim1C x spare hsp
  unfold idxL at q1
  by_cases hsz : c.f3 < szI c.f0
  · cases ha : c.f1.any (freeS spare) with
    | false =>
      rw [ha] at q1
      have et : trimL spare c.f1.length c = c := by
        cases c.f1.length with
        | zero => rfl
        | succ n => rw [trimL, if_pos hsz, find_none _ _ ha]
      have h : A.lp 26 0 (hd26_0 [.at (.ptr 2003 0 0), .at (.ptr 2004 0 0), .at (.ptr 2005 0 0), iv (szI c.f0)] (oP c spare)) = some (.ret, ex26_0 [.at (.ptr 2003 0 0), .at (.ptr 2004 0 0)] (oPx c (rP c))) := by
        rw [lp_run hL Try.func26 rfl (by rfl) 0 rfl]
        simp [rI, rS] at q1
        simp [oP, oPx, rP, zT, hsz, q1]
      refine ⟨false, ?_⟩
      rw [et]
      rw [fn_run hL Try.func26 rfl L26 (by rfl) rfl rfl rfl (by decide)]
      simp [oP, oPx, rP, zT, rI, rS] at h q
      simp [Try.f26, h, q, trimR]
    | true =>
      obtain ⟨f1, f2⟩ := find_idx _ _ ha
      rw [ha] at q1
      have hm : c.f1[c.f1.findIdx (freeS spare)] ∈ c.f1 := List.getElem_mem f1
      obtain ⟨n, hn⟩ : ∃ n, c.f1.length = n + 1 := ⟨c.f1.length - 1, by omega⟩
      have et : trimL spare c.f1.length c = trimL spare n (awayL c c.f1[c.f1.findIdx (freeS spare)]) := by rw [hn, trimL, if_pos hsz, f2]
      generalize hat : c.f1.findIdx (freeS spare) = at_ at q1 f1 f2 hm et
      have q2 := awayC c c.f1[at_] hi hm (by omega) (by omega) (by omega)
      have hl : (awayL c c.f1[at_]).f0.length ≤ c.f0.length := List.length_filter_le _ _
      have hg : (awayL c c.f1[at_]).f2.length = c.f2.length + 1 := insL_len _ _
      have hu := away_less hm
      have hi' := hi.away hm
      have q3 := itemSizeR (awayL c c.f1[at_]).f0 (by omega) hi'.sh
      have ih := trim_loop spare hsp n (awayL c c.f1[at_]) hi' (by omega) (by omega) (by omega) (by omega)
      have eb : (awayL c c.f1[at_]).f3 = c.f3 := rfl
      rw [et]
      generalize awayL c c.f1[at_] = c' at *
      have e : ¬ (at_ : Int) < 0 := by omega
      have step : A.lp 26 0 (hd26_0 [.at (.ptr 2003 0 0), .at (.ptr 2004 0 0), .at (.ptr 2005 0 0), iv (szI c.f0)] (oP c spare)) = A.lp 26 0 (hd26_0 [.at (.ptr 2006 0 0), pv (.ref [lS spare]), .at (.ptr 2007 0 0), iv (szI c'.f0)] (oT c' zT)) := by
        rw [lp_run hL Try.func26 rfl (by rfl) 0 rfl]
        simp [rI, rS] at q1 q2 q3
        simp [oT, oP, rT, rP, zT, hsz, q1, q2, q3, f1, e, eb]
        rw [if_pos ?q]
        case q => kernel_rfl
        simp [q1, q2, q3, f1, e, eb]
      refine ⟨true, ?_⟩
      rw [← step] at ih
      clear step
      rcases ih with ih | ih
      · rw [fn_run hL Try.func26 rfl L26 (by rfl) rfl rfl rfl (by decide)]
        simp [oP, oT, rP, rT, zT, rI, rS] at ih q
        simp [Try.f26, ih, q, trimR]
      · rw [fn_run hL Try.func26 rfl L26 (by rfl) rfl rfl rfl (by decide)]
        simp [oP, oT, rP, rT, zT, rI, rS] at ih q
        simp [Try.f26, ih, q, trimR]
  · have et : trimL spare c.f1.length c = c := by
      cases c.f1.length with
      | zero => rfl
      | succ n => rw [trimL, if_neg hsz]
    have h : A.lp 26 0 (hd26_0 [.at (.ptr 2003 0 0), .at (.ptr 2004 0 0), .at (.ptr 2005 0 0), iv (szI c.f0)] (oP c spare)) = some (.exit 0, ex26_0 [.at (.ptr 2003 0 0), .at (.ptr 2004 0 0)] (oPx c zT)) := by
      rw [lp_run hL Try.func26 rfl (by rfl) 0 rfl]
      simp [oP, oPx, rP, zT, hsz]
    refine ⟨false, ?_⟩
    rw [et]
    rw [fn_run hL Try.func26 rfl L26 (by rfl) rfl rfl rfl (by decide)]
    simp [oP, oPx, rP, zT, rI, rS] at h q
    simp [Try.f26, h, q, trimR]
end Go.E2.S
