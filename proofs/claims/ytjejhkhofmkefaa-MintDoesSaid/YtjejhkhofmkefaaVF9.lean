/- A field of items: view's. -/
import Derived.Test.YtjejhkhofmkefaaVF7
namespace Go.E2.S
open Go Go.E2 Go.RowKit Go.Proofs
open Go.E2.Lib (sortB compB)
set_option linter.unusedVariables false
set_option linter.unusedSimpArgs false
set_option maxHeartbeats 1000000
set_option maxRecDepth 10000
@[simp] abbrev vfO (e r : List ByteArray) (c : List Int) : List Upd := [(2000, 0, some (.blk [.nil, .nil, .pv (.int .i64 0), .pv (.bool false)])), (2001, 0, some (.row true 1 (e.map encS))), (2002, 0, some (.row true 1 (r.map encS))),
  (2003, 0, some (.blk [.row 2001 0, .row 2002 0, .pv (.int .i64 0), .pv (.bool false)])), (2004, 0, some (.row true 1 (c.map encZ)))]
theorem vf_loop (l : List Item) (key fld : ByteArray) (hl : l.length ≤ 1000000) (n : Nat) : ∀ (i : Nat) (e r : List ByteArray) (c : List Int), l.length = i + n → e.length ≤ i → r.length ≤ i → c.length ≤ i →
    A.lp 17 0 (hd17_0 [sv key, sv fld, .at (.ptr 2000 0 0), .at (.ptr 2003 0 0), .at (.row 2004 0), pv (lI l), iv l.length, iv i] (vfO e r c)) =
      some (.exit 0, ex17_0 [.at (.ptr 2000 0 0), .at (.ptr 2003 0 0), .at (.row 2004 0)] (vfO (e ++ pick (sel key fld 1) Item.f3 (l.drop i)) (r ++ pick (sel key fld 2) Item.f3 (l.drop i)) (c ++ pick (sel key fld 3) Item.f4 (l.drop i)))) := by
  induction n with
  | zero =>
    intro i e r c h h1 h2 h3
    obtain rfl : i = l.length := by omega
    rw [lp_run hL Try.func17 rfl (by rfl) 0 rfl]
    simp [pick]
  | succ n ih =>
    intro i e r c h h1 h2 h3
    have hi : i < l.length := by omega
    have w1 : IntKind.i64.wrap ((i : Int) + 1) = i + 1 := wr _ (by omega) (by omega)
    have l1 : (e.length + 1) * 17 ≤ 70368744177664 := by omega
    have l2 : (r.length + 1) * 17 ≤ 70368744177664 := by omega
    have l3 : (c.length + 1) * 9 ≤ 70368744177664 := by omega
    rw [List.drop_eq_getElem_cons hi]
    by_cases c1 : l[i].f0 = key
    · by_cases c2 : l[i].f1 = fld
      · by_cases k1 : l[i].f2 = 1
        · have ih := ih (i + 1) (e ++ [l[i].f3]) r c (by omega) (by simp; omega) (by omega) (by omega)
          rw [pick_pos (by simp [sel, inField, c1, c2, k1]), pick_neg (by simp [sel, inField, c1, c2, k1]), pick_neg (by simp [sel, inField, c1, c2, k1]), List.append_cons]
          rw [lp_run hL Try.func17 rfl (by rfl) 0 rfl]
          simp [hi, c1, c2, k1, w1, l1, l2, l3] at ih ⊢
          exact ih
        · by_cases k2 : l[i].f2 = 2
          · have ih := ih (i + 1) e (r ++ [l[i].f3]) c (by omega) (by omega) (by simp; omega) (by omega)
            rw [pick_neg (by simp [sel, inField, c1, c2, k2]), pick_pos (by simp [sel, inField, c1, c2, k2]), pick_neg (by simp [sel, inField, c1, c2, k2]), List.append_cons r]
            rw [lp_run hL Try.func17 rfl (by rfl) 0 rfl]
            simp [hi, c1, c2, k2, w1, l1, l2, l3] at ih ⊢
            exact ih
          · by_cases k3 : l[i].f2 = 3
            · have ih := ih (i + 1) e r (c ++ [l[i].f4]) (by omega) (by omega) (by omega) (by simp; omega)
              rw [pick_neg (by simp [sel, inField, c1, c2, k3]), pick_neg (by simp [sel, inField, c1, c2, k3]), pick_pos (by simp [sel, inField, c1, c2, k3]), List.append_cons c]
              rw [lp_run hL Try.func17 rfl (by rfl) 0 rfl]
              simp [hi, c1, c2, k3, w1, l1, l2, l3] at ih ⊢
              exact ih
            · have ih := ih (i + 1) e r c (by omega) (by omega) (by omega) (by omega)
              rw [pick_neg (by simp [sel, inField, k1]), pick_neg (by simp [sel, inField, k2]), pick_neg (by simp [sel, inField, k3])]
              rw [lp_run hL Try.func17 rfl (by rfl) 0 rfl]
              simp [hi, c1, c2, k1, k2, k3, w1, l1, l2, l3] at ih ⊢
              exact ih
      · have ih := ih (i + 1) e r c (by omega) (by omega) (by omega) (by omega)
        rw [pick_neg (by simp [sel, inField, c2]), pick_neg (by simp [sel, inField, c2]), pick_neg (by simp [sel, inField, c2])]
        rw [lp_run hL Try.func17 rfl (by rfl) 0 rfl]
        simp [hi, c1, c2, w1, l1, l2, l3] at ih ⊢
        exact ih
    · have ih := ih (i + 1) e r c (by omega) (by omega) (by omega) (by omega)
      rw [pick_neg (by simp [sel, inField, c1]), pick_neg (by simp [sel, inField, c1]), pick_neg (by simp [sel, inField, c1])]
      rw [lp_run hL Try.func17 rfl (by rfl) 0 rfl]
      simp [hi, c1, w1, l1, l2, l3] at ih ⊢
      exact ih
theorem vfield (l : List Item) (key fld : ByteArray) (hl : l.length < 100000) (hw : ∀ x ∈ l, WfI x) : A.fn 17 [pv (lI l), sv key, sv fld] [] = some (.one (ag (encV (fieldV l key fld))), []) := by
  have h0 := vf_loop l key fld (by omega) l.length 0 [] [] [] (by omega) (by simp) (by simp) (by simp)
  have h1 := vonce (pick (sel key fld 1) Item.f3 l) (by have := pick_len (sel key fld 1) Item.f3 l; omega)
  have h2 := vonce (pick (sel key fld 2) Item.f3 l) (by have := pick_len (sel key fld 2) Item.f3 l; omega)
  have h3 := total (pick (sel key fld 3) Item.f4 l) (by have := pick_len (sel key fld 3) Item.f4 l; omega) (fun x hx => by
    obtain ⟨y, hy, rfl⟩ := List.mem_map.1 hx
    exact (hw y (List.mem_filter.1 hy).1).2.1)
  rw [fn_run hL Try.func17 rfl L17 (by rfl) rfl rfl rfl (by decide)]
  simp at h0 h1 h2 h3 ⊢
  simp [Try.f17, h0, h1, h2, h3, fieldV, finV]
  rw [if_pos (by kernel_rfl)]
  simp [h3]
end Go.E2.S
