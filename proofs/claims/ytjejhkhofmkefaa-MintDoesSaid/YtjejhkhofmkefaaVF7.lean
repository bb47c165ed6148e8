/- Fields of a key; texts of a kind. -/
import Derived.Test.YtjejhkhofmkefaaVF5
import Derived.Test.YtjejhkhofmkefaaVF6
namespace Go.E2.S
open Go Go.E2 Go.RowKit Go.Proofs
open Go.E2.Lib (sortB compB)
set_option linter.unusedVariables false
set_option linter.unusedSimpArgs false
set_option maxHeartbeats 1000000
set_option maxRecDepth 10000
theorem vfields_loop (l : List Item) (key : ByteArray) (hl : l.length ≤ 1000000) (n : Nat) : ∀ (i : Nat) (acc : List ByteArray), l.length = i + n → acc.length ≤ i →
    A.lp 21 0 (hd21_0 [sv key, .at (.row 2000 0), pv (lI l), iv l.length, iv i] [(2000, 0, some (.row true 1 (acc.map encS)))]) =
      some (.exit 0, ex21_0 [.at (.row 2000 0)] [(2000, 0, some (.row true 1 ((acc ++ pick (inKey key) Item.f1 (l.drop i)).map encS)))]) := by
  induction n with
  | zero =>
    intro i acc h h1
    obtain rfl : i = l.length := by omega
    rw [lp_run hL Try.func21 rfl (by rfl) 0 rfl]
    simp [pick]
  | succ n ih =>
    intro i acc h h1
    have hi : i < l.length := by omega
    have w1 : IntKind.i64.wrap ((i : Int) + 1) = i + 1 := wr _ (by omega) (by omega)
    have l1 : (acc.length + 1) * 17 ≤ 70368744177664 := by omega
    rw [List.drop_eq_getElem_cons hi]
    by_cases c1 : l[i].f0 = key
    · have ih := ih (i + 1) (acc ++ [l[i].f1]) (by omega) (by simp; omega)
      rw [pick_pos (by simp [inKey, c1]), List.append_cons]
      rw [lp_run hL Try.func21 rfl (by rfl) 0 rfl]
      simp [hi, c1, w1, l1] at ih ⊢
      exact ih
    · have ih := ih (i + 1) acc (by omega) (by omega)
      rw [pick_neg (by simp [inKey, c1])]
      rw [lp_run hL Try.func21 rfl (by rfl) 0 rfl]
      simp [hi, c1, w1, l1] at ih ⊢
      exact ih
theorem vfields (l : List Item) (key : ByteArray) (hl : l.length < 100000) : A.fn 21 [pv (lI l), sv key] [] = some (.one (pv (lS (fieldsL l key))), []) := by
  have h0 := vfields_loop l key (by omega) l.length 0 [] (by omega) (by simp)
  have h1 := vonce (pick (inKey key) Item.f1 l) (by have := pick_len (inKey key) Item.f1 l; omega)
  rw [fn_run hL Try.func21 rfl L21 (by rfl) rfl rfl rfl (by decide)]
  simp at h0 h1 ⊢
  simp [Try.f21, h0, h1, fieldsL]
theorem rfields_loop (l : List Item) (key : ByteArray) (hl : l.length ≤ 1000000) (n : Nat) : ∀ (i : Nat) (acc : List ByteArray), l.length = i + n → acc.length ≤ i →
    A.lp 22 0 (hd22_0 [pv (lI l), sv key, .at (.row 2000 0), iv i] [(2000, 0, some (.row true 1 (acc.map encS)))]) =
      some (.exit 0, ex22_0 [.at (.row 2000 0)] [(2000, 0, some (.row true 1 ((acc ++ pick (inKey key) Item.f1 (l.drop i)).map encS)))]) := by
  induction n with
  | zero =>
    intro i acc h h1
    obtain rfl : i = l.length := by omega
    rw [lp_run hL Try.func22 rfl (by rfl) 0 rfl]
    simp [pick]
  | succ n ih =>
    intro i acc h h1
    have hi : i < l.length := by omega
    have w1 : IntKind.i64.wrap ((i : Int) + 1) = i + 1 := wr _ (by omega) (by omega)
    have l1 : (acc.length + 1) * 17 ≤ 70368744177664 := by omega
    rw [List.drop_eq_getElem_cons hi]
    by_cases c1 : l[i].f0 = key
    · have ih := ih (i + 1) (acc ++ [l[i].f1]) (by omega) (by simp; omega)
      rw [pick_pos (by simp [inKey, c1]), List.append_cons]
      rw [lp_run hL Try.func22 rfl (by rfl) 0 rfl]
      simp [hi, c1, w1, l1] at ih ⊢
      exact ih
    · have ih := ih (i + 1) acc (by omega) (by omega)
      rw [pick_neg (by simp [inKey, c1])]
      rw [lp_run hL Try.func22 rfl (by rfl) 0 rfl]
      simp [hi, c1, w1, l1] at ih ⊢
      exact ih
theorem rfields (l : List Item) (key : ByteArray) (hl : l.length < 100000) : A.fn 22 [pv (lI l), sv key] [] = some (.one (pv (lS (fieldsL l key))), []) := by
  have h0 := rfields_loop l key (by omega) l.length 0 [] (by omega) (by simp)
  have h1 := ronce (pick (inKey key) Item.f1 l) (by have := pick_len (inKey key) Item.f1 l; omega)
  rw [fn_run hL Try.func22 rfl L22 (by rfl) rfl rfl rfl (by decide)]
  simp at h0 h1 ⊢
  simp [Try.f22, h0, h1, fieldsL]
theorem texts_loop (l : List Item) (key fld : ByteArray) (kd : Int) (hl : l.length ≤ 1000000) (n : Nat) : ∀ (i : Nat) (acc : List ByteArray), l.length = i + n → acc.length ≤ i →
    A.lp 64 0 (hd64_0 [pv (lI l), sv key, sv fld, iv kd, .at (.row 2000 0), iv i] [(2000, 0, some (.row true 1 (acc.map encS)))]) =
      some (.exit 0, ex64_0 [.at (.row 2000 0)] [(2000, 0, some (.row true 1 ((acc ++ pick (sel key fld kd) Item.f3 (l.drop i)).map encS)))]) := by
  induction n with
  | zero =>
    intro i acc h h1
    obtain rfl : i = l.length := by omega
    rw [lp_run hL Try.func64 rfl (by rfl) 0 rfl]
    simp [pick]
  | succ n ih =>
    intro i acc h h1
    have hi : i < l.length := by omega
    have w1 : IntKind.i64.wrap ((i : Int) + 1) = i + 1 := wr _ (by omega) (by omega)
    have l1 : (acc.length + 1) * 17 ≤ 70368744177664 := by omega
    rw [List.drop_eq_getElem_cons hi]
    by_cases c1 : l[i].f0 = key
    · by_cases c2 : l[i].f1 = fld
      · by_cases c3 : l[i].f2 = kd
        · have ih := ih (i + 1) (acc ++ [l[i].f3]) (by omega) (by simp; omega)
          rw [pick_pos (by simp [sel, inField, c1, c2, c3]), List.append_cons]
          rw [lp_run hL Try.func64 rfl (by rfl) 0 rfl]
          simp [hi, c1, c2, c3, w1, l1] at ih ⊢
          exact ih
        · have ih := ih (i + 1) acc (by omega) (by omega)
          rw [pick_neg (by simp [sel, inField, c3])]
          rw [lp_run hL Try.func64 rfl (by rfl) 0 rfl]
          simp [hi, c1, c2, c3, w1, l1] at ih ⊢
          exact ih
      · have ih := ih (i + 1) acc (by omega) (by omega)
        rw [pick_neg (by simp [sel, inField, c2])]
        rw [lp_run hL Try.func64 rfl (by rfl) 0 rfl]
        simp [hi, c1, c2, w1, l1] at ih ⊢
        exact ih
    · have ih := ih (i + 1) acc (by omega) (by omega)
      rw [pick_neg (by simp [sel, inField, c1])]
      rw [lp_run hL Try.func64 rfl (by rfl) 0 rfl]
      simp [hi, c1, w1, l1] at ih ⊢
      exact ih
theorem texts (l : List Item) (key fld : ByteArray) (kd : Int) (hl : l.length < 100000) : A.fn 64 [pv (lI l), sv key, sv fld, iv kd] [] = some (.one (pv (lS (onceL (pick (sel key fld kd) Item.f3 l)))), []) := by
  have h0 := texts_loop l key fld kd (by omega) l.length 0 [] (by omega) (by simp)
  have h1 := ronce (pick (sel key fld kd) Item.f3 l) (by have := pick_len (sel key fld kd) Item.f3 l; omega)
  rw [fn_run hL Try.func64 rfl L64 (by rfl) rfl rfl rfl (by decide)]
  simp at h0 h1 ⊢
  simp [Try.f64, h0, h1]
end Go.E2.S
