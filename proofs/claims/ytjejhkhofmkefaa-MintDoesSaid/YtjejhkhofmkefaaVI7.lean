/- What is left of items: without dots, under a zone, of a key: the program's. -/
import Derived.Test.YtjejhkhofmkefaaVI6
namespace Go.E2.S
open Go Go.E2 Go.RowKit Go.Proofs
set_option linter.unusedVariables false
set_option linter.unusedSimpArgs false
set_option maxHeartbeats 1000000
set_option maxRecDepth 10000
theorem cloneI (l : List Item) (hl : l.length < 1000000000) : A.fn 69 [pv (lI l)] [] = some (.one (.at (.row pinN 0)), [some (rI l)]) :=
  (lib_run hL L69 [pv (lI l)] []).trans (clone_at A.fn (xs := l.map encI) (by simp [appLim]; omega))
theorem of1 (x : Item) (key : ByteArray) : A.fn 81 [ag (encI x), pv (.ref [.str key])] [] = some (.one (bv (!decide (x.f0 = key))), []) := by
  rw [fn_run hL Try.func81 rfl L81 (by rfl) rfl rfl rfl (by decide)]
  simp [Try.f81]
theorem itemOf (l : List Item) (key : ByteArray) (hl : l.length < 1000000000) : A.fn 35 [pv (lI l), sv key] [] = some (.one (.at (.row pinN 0)), [some (rI (l.filter fun x => decide (x.f0 = key)))]) := by
  have h1 := cloneI l hl
  have h2 := delI l 81 [.ref [.str key]] (fun x => !decide (x.f0 = key)) (by simp) hl (fun x _ => of1 x key)
  rw [fn_run hL Try.func35 rfl L35 (by rfl) rfl rfl rfl (by decide)]
  simp only [Bool.not_not] at h2
  cases c : l.any fun x => !decide (x.f0 = key) <;> (rw [c] at h2; simp only [delR] at h2; simp [rI] at h1 h2; simp [Try.f35, h1, h2])
theorem under1 (x : Item) (z : List ByteArray) (hz : z.length < 1000000000) : A.fn 78 [ag (encI x), pv (.ref [lS z])] [] = some (.one (bv (!coversL z x.f0)), []) := by
  have h := covers z x.f0 hz
  rw [fn_run hL Try.func78 rfl L78 (by rfl) rfl rfl rfl (by decide)]
  simp [Try.f78, h]
theorem itemUnder (l : List Item) (z : List ByteArray) (hl : l.length < 1000000000) (hz : z.length < 1000000000) : A.fn 33 [pv (lI l), pv (lS z)] [] = some (.one (.at (.row pinN 0)), [some (rI (l.filter fun x => coversL z x.f0))]) := by
  have h1 := cloneI l hl
  have h2 := delI l 78 [.ref [lS z]] (fun x => !coversL z x.f0) (by simp) hl (fun x _ => under1 x z hz)
  rw [fn_run hL Try.func33 rfl L33 (by rfl) rfl rfl rfl (by decide)]
  simp only [Bool.not_not] at h2
  cases c : l.any fun x => !coversL z x.f0 <;> (rw [c] at h2; simp only [delR] at h2; simp [rI] at h1 h2; simp [Try.f33, h1, h2])
theorem idxD_loop (l : List Dot) (d : Dot) (hl : l.length < 1000000000) (n : Nat) : ∀ i : Nat, l.length = i + n →
    A.lp 109 0 (hd109_0 [pv (lD l), .at (.ptr 2000 0 0), iv l.length, iv i] [(2000, 0, some (bD d))]) =
      some (if dotIn (l.drop i) d = true then (.ret, ex109_0 [iv (i + (l.drop i).findIdx fun x => decide (x = d) : Nat)] []) else (.exit 0, ex109_0 [nov] [])) := by
  unfold dotIn
  induction n with
  | zero =>
    intro i hi
    rw [lp_run hL Try.func109 rfl (by rfl) 0 rfl]
    obtain rfl : i = l.length := by omega
    simp
  | succ n ih =>
    intro i hi
    have h1 : i < l.length := by omega
    have ih := ih (i + 1) (by omega)
    rw [lp_run hL Try.func109 rfl (by rfl) 0 rfl]
    rw [List.drop_eq_getElem_cons h1, List.any_cons, findI_cons]
    by_cases c : l[i] = d
    · have c' : d = l[i] := c.symm
      simp [h1, c, dot_ext]
    · have c' : ¬ d = l[i] := fun e => c e.symm
      simp [h1, c, c', dot_ext, -List.any_eq_true]
      simp (disch := omega) only [wr]
      refine ih.trans ?_
      cases (l.drop (i + 1)).any fun x => decide (x = d) <;> simp [Nat.add_assoc, Nat.add_comm 1]
theorem idxD (l : List Dot) (d : Dot) (hl : l.length < 1000000000) : A.fn 109 [pv (lD l), ag (encD d)] [] = some (.one (iv (idxL (fun x => decide (x = d)) l)), []) := by
  have h := idxD_loop l d hl l.length 0 (by omega)
  rw [fn_run hL Try.func109 rfl L109 (by rfl) rfl rfl rfl (by decide)]
  unfold idxL
  unfold dotIn at h
  cases c : l.any fun x => decide (x = d) with
  | true =>
    simp [Try.f109, c, -List.any_eq_true] at h ⊢
    simp [h]
  | false =>
    simp [Try.f109, c, -List.any_eq_false] at h ⊢
    simp [h]
theorem contD (l : List Dot) (d : Dot) (hl : l.length < 1000000000) : A.fn 76 [pv (lD l), ag (encD d)] [] = some (.one (bv (dotIn l d)), []) := by
  have h := idxD l d hl
  rw [fn_run hL Try.func76 rfl L76 (by rfl) rfl rfl rfl (by decide)]
  simp only [ag, encD, List.map_cons, List.map_nil] at h
  unfold dotIn
  unfold idxL at h
  cases c : l.any fun x => decide (x = d) with
  | true =>
    simp only [c, if_true] at h
    simp [Try.f76, h]
  | false =>
    simp only [c, Bool.false_eq_true, if_false] at h
    simp [Try.f76, h]
theorem without1 (x : Item) (ds : List Dot) (hd : ds.length < 1000000000) : A.fn 75 [ag (encI x), pv (.ref [lD ds])] [] = some (.one (bv (dotIn ds x.f5)), []) := by
  have h := contD ds x.f5 hd
  rw [fn_run hL Try.func75 rfl L75 (by rfl) rfl rfl rfl (by decide)]
  simp only [ag, encD, List.map_cons, List.map_nil] at h
  simp [Try.f75, h]
theorem itemWithout (l : List Item) (ds : List Dot) (hl : l.length < 1000000000) (hd : ds.length < 1000000000) : A.fn 31 [pv (lI l), pv (lD ds)] [] = some (.one (.at (.row pinN 0)), [some (rI (l.filter fun x => !dotIn ds x.f5))]) := by
  have h1 := cloneI l hl
  have h2 := delI l 75 [.ref [lD ds]] (fun x => dotIn ds x.f5) (by simp) hl (fun x _ => without1 x ds hd)
  rw [fn_run hL Try.func31 rfl L31 (by rfl) rfl rfl rfl (by decide)]
  cases c : l.any fun x => dotIn ds x.f5 <;> (rw [c] at h2; simp only [delR] at h2; simp [rI] at h1 h2; simp [Try.f31, h1, h2])
end Go.E2.S
