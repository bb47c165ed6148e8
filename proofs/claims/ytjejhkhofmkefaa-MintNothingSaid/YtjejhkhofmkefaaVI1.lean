/- Comparing: cmp.Compare, cmp.Or, item.compare, item.Less. -/
import Derived.Test.YtjejhkhofmkefaaSEnv
import Derived.Test.YtjejhkhofmkefaaVPlainI
namespace Go.E2.S
open Go Go.E2 Go.RowKit Go.Proofs
set_option linter.unusedVariables false
set_option linter.unusedSimpArgs false
set_option maxHeartbeats 1000000
set_option maxRecDepth 10000
theorem nanS (a : ByteArray) : A.fn 139 [sv a] [] = some (.one (bv false), []) := by
  rw [fn_run hL Try.func139 rfl L139 (by rfl) rfl rfl rfl (by decide)]
  simp [Try.f139]
theorem nanI (a : Int) : A.fn 140 [iv a] [] = some (.one (bv false), []) := by
  rw [fn_run hL Try.func140 rfl L140 (by rfl) rfl rfl rfl (by decide)]
  simp [Try.f140]
theorem nanL (a : Int) : A.fn 141 [iv a] [] = some (.one (bv false), []) := by
  rw [fn_run hL Try.func141 rfl L141 (by rfl) rfl rfl rfl (by decide)]
  simp [Try.f141]
theorem cmpS (a b : ByteArray) : A.fn 105 [sv a, sv b] [] = some (.one (iv (cmpB a b)), []) := by
  have h1 := nanS a
  have h2 := nanS b
  rw [fn_run hL Try.func105 rfl L105 (by rfl) rfl rfl rfl (by decide)]
  unfold cmpB
  by_cases c : bl a < bl b
  · simp [Try.f105, h1, h2, c]
  · by_cases d : bl b < bl a
    · simp [Try.f105, h1, h2, c, d, -List.not_lt]
    · simp [Try.f105, h1, h2, c, d, -List.not_lt]
theorem cmpZi (a b : Int) : A.fn 106 [iv a, iv b] [] = some (.one (iv (cmpZ a b)), []) := by
  have h1 := nanI a
  have h2 := nanI b
  rw [fn_run hL Try.func106 rfl L106 (by rfl) rfl rfl rfl (by decide)]
  unfold cmpZ
  by_cases c : a < b
  · simp [Try.f106, h1, h2, c]
  · by_cases d : b < a
    · simp [Try.f106, h1, h2, c, d, -Int.not_lt]
    · simp [Try.f106, h1, h2, c, d, -Int.not_lt]
theorem cmpZl (a b : Int) : A.fn 107 [iv a, iv b] [] = some (.one (iv (cmpZ a b)), []) := by
  have h1 := nanL a
  have h2 := nanL b
  rw [fn_run hL Try.func107 rfl L107 (by rfl) rfl rfl rfl (by decide)]
  unfold cmpZ
  by_cases c : a < b
  · simp [Try.f107, h1, h2, c]
  · by_cases d : b < a
    · simp [Try.f107, h1, h2, c, d, -Int.not_lt]
    · simp [Try.f107, h1, h2, c, d, -Int.not_lt]
theorem or_loop (l : List Int) (hl : l.length < 1000000000) (n : Nat) : ∀ i : Nat, l.length = i + n →
    A.lp 104 0 (hd104_0 [iv 0, pv (lZ l), iv l.length, iv i] []) = some (if orZ (l.drop i) = 0 then (.exit 0, ex104_0 [nov, iv 0] []) else (.ret, ex104_0 [iv (orZ (l.drop i)), iv 0] [])) := by
  induction n with
  | zero =>
    intro i hi
    rw [lp_run hL Try.func104 rfl (by rfl) 0 rfl]
    obtain rfl : i = l.length := by omega
    rw [List.drop_length]
    simp [orZ]
  | succ n ih =>
    intro i hi
    have h1 : i < l.length := by omega
    have := ih (i + 1) (by omega)
    rw [lp_run hL Try.func104 rfl (by rfl) 0 rfl]
    rw [List.drop_eq_getElem_cons h1]
    by_cases c : l[i] = 0
    · simp [h1, c, orZ] at this ⊢
      simp (disch := omega) only [wr]
      exact this
    · simp [h1, c, orZ] at this ⊢
theorem cmpOr (l : List Int) (hl : l.length < 1000000000) : A.fn 104 [pv (lZ l)] [] = some (.one (iv (orZ l)), []) := by
  have h := or_loop l hl l.length 0 (by omega)
  rw [fn_run hL Try.func104 rfl L104 (by rfl) rfl rfl rfl (by decide)]
  by_cases c : orZ l = 0
  · simp [Try.f104, c] at h ⊢
    simp [h]
  · simp [Try.f104, c] at h ⊢
    simp [h]
theorem itemCmp (a b : Item) : A.fn 71 [ag (encI a), ag (encI b)] [] = some (.one (iv (cmpI a b)), []) := by
  have h0 := cmpS a.f0 b.f0
  have h1 := cmpS a.f1 b.f1
  have h2 := cmpZi a.f2 b.f2
  have h3 := cmpZi a.f5.f0 b.f5.f0
  have h4 := cmpZi a.f5.f1 b.f5.f1
  have h5 := cmpZi a.f5.f2 b.f5.f2
  have h6 := cmpS a.f3 b.f3
  have h7 := cmpZl a.f4 b.f4
  have h8 := cmpOr [cmpB a.f0 b.f0, cmpB a.f1 b.f1, cmpZ a.f2 b.f2, cmpZ a.f5.f0 b.f5.f0, cmpZ a.f5.f1 b.f5.f1, cmpZ a.f5.f2 b.f5.f2, cmpB a.f3 b.f3, cmpZ a.f4 b.f4] (by simp)
  rw [fn_run hL Try.func71 rfl L71 (by rfl) rfl rfl rfl (by decide)]
  simp only [lZ, List.map_cons, List.map_nil] at h8
  simp [Try.f71, h0, h1, h2, h3, h4, h5, h6, h7, h8]
  rw [if_pos (by kernel_rfl)]
  simp [h0, h1, h2, h3, h4, h5, h6, h7, h8]
  rfl
theorem itemLess (a b : Item) : A.fn 41 [ag (encI a), ag (encI b)] [] = some (.one (bv (decide (cmpI a b < 0))), []) := by
  have h := itemCmp a b
  rw [fn_run hL Try.func41 rfl L41 (by rfl) rfl rfl rfl (by decide)]
  simp only [ag, encI, List.map_cons, List.map_nil] at h
  simp [Try.f41, h]
end Go.E2.S
