/- What is left of items: without dots, under a zone, of a key: the document's; keys, sizes. -/
import Derived.Test.YtjejhkhofmkefaaVF4
import Derived.Test.YtjejhkhofmkefaaVIb
namespace Go.E2.S
open Go Go.E2 Go.RowKit Go.Proofs
open Go.E2.Lib (sortB compB)
set_option linter.unusedVariables false
set_option linter.unusedSimpArgs false
set_option maxHeartbeats 1000000
set_option maxRecDepth 10000
theorem dot_ext (a b : Dot) : (decide (a.f0 = b.f0) && (decide (a.f1 = b.f1) && decide (a.f2 = b.f2))) = decide (a = b) := by
  obtain ⟨a0, a1, a2⟩ := a
  obtain ⟨b0, b1, b2⟩ := b
  simp [Bool.decide_and]
abbrev bD (d : Dot) : AObj := .blk [.pv (.int .i64 d.f0), .pv (.int .i64 d.f1), .pv (.int .i64 d.f2)]
def dotIn (ds : List Dot) (d : Dot) : Bool := ds.any fun x => decide (x = d)
theorem is_loop (l : List Dot) (d : Dot) (hl : l.length < 1000000000) (n : Nat) : ∀ i : Nat, l.length = i + n →
    A.lp 77 0 (hd77_0 [pv (lD l), .at (.ptr 2000 0 0), iv i] [(2000, 0, some (bD d))]) = some (if (l.drop i).any (fun x => decide (x = d)) = true then (.ret, ex77_0 [bv true] []) else (.exit 0, ex77_0 [nov] [])) := by
  induction n with
  | zero =>
    intro i hi
    rw [lp_run hL Try.func77 rfl (by rfl) 0 rfl]
    obtain rfl : i = l.length := by omega
    simp
  | succ n ih =>
    intro i hi
    have h1 : i < l.length := by omega
    have ih := ih (i + 1) (by omega)
    rw [List.drop_eq_getElem_cons h1, List.any_cons]
    rw [lp_run hL Try.func77 rfl (by rfl) 0 rfl]
    by_cases c : l[i] = d
    · simp [h1, c, dot_ext]
    · simp [h1, c, dot_ext, -List.any_eq_true]
      simp (disch := omega) only [wr]
      refine ih.trans ?_
      simp
theorem isDot (l : List Dot) (d : Dot) (hl : l.length < 1000000000) : A.fn 77 [pv (lD l), ag (encD d)] [] = some (.one (bv (dotIn l d)), []) := by
  have h := is_loop l d hl l.length 0 (by omega)
  rw [fn_run hL Try.func77 rfl L77 (by rfl) rfl rfl rfl (by decide)]
  unfold dotIn
  cases c : l.any fun x => decide (x = d) with
  | true =>
    simp [Try.f77, c, -List.any_eq_true] at h ⊢
    simp [h]
  | false =>
    simp [Try.f77, c, -List.any_eq_false] at h ⊢
    simp [h]
theorem rwithout_loop (l : List Item) (ds : List Dot) (hd : ds.length < 1000000000) (hl : l.length < 1000000000) (n : Nat) : ∀ (i : Nat) (out : List Item), l.length = i + n → out.length ≤ i →
    A.lp 32 0 (hd32_0 [pv (lI l), pv (lD ds), .at (.row 2000 0), iv i] [(2000, 0, some (rI out))]) = some (.exit 0, ex32_0 [.at (.row 2000 0)] [(2000, 0, some (rI (out ++ (l.drop i).filter fun x => !dotIn ds x.f5)))]) := by
  induction n with
  | zero =>
    intro i out hi ho
    rw [lp_run hL Try.func32 rfl (by rfl) 0 rfl]
    obtain rfl : i = l.length := by omega
    simp
  | succ n ih =>
    intro i out hi ho
    have h1 : i < l.length := by omega
    have hlim : (out.length + 1) * 89 ≤ 70368744177664 := by omega
    have hx := isDot ds l[i].f5 hd
    simp only [ag, encD, List.map_cons, List.map_nil] at hx
    rw [List.drop_eq_getElem_cons h1]
    rw [lp_run hL Try.func32 rfl (by rfl) 0 rfl]
    cases c : !dotIn ds l[i].f5 with
    | true =>
      have ih := ih (i + 1) (out ++ [l[i]]) (by omega) (by simp; omega)
      rw [List.filter_cons_of_pos (by simpa using c), List.append_cons]
      try simp at c
      simp [rI, h1, c, hlim, hx] at ih ⊢
      simp (disch := omega) only [wr]
      exact ih
    | false =>
      have ih := ih (i + 1) out (by omega) (by omega)
      rw [List.filter_cons_of_neg (by simp [c])]
      try simp at c
      simp [rI, h1, c, hlim, hx] at ih ⊢
      simp (disch := omega) only [wr]
      exact ih
theorem rwithout (l : List Item) (ds : List Dot) (hd : ds.length < 1000000000) (hl : l.length < 1000000000) : A.fn 32 [pv (lI l), pv (lD ds)] [] = some (.one (pv (lI (l.filter fun x => !dotIn ds x.f5))), []) := by
  have h := rwithout_loop l ds hd hl l.length 0 [] (by omega) (by simp)
  rw [fn_run hL Try.func32 rfl L32 (by rfl) rfl rfl rfl (by decide)]
  simp [rI] at h ⊢
  simp [Try.f32, h]
theorem runder_loop (l : List Item) (z : List ByteArray) (hz : z.length < 1000000000) (hs : ∀ x ∈ z, x.size ≤ 9223372036854775807) (hl : l.length < 1000000000) (n : Nat) : ∀ (i : Nat) (out : List Item), l.length = i + n → out.length ≤ i →
    A.lp 34 0 (hd34_0 [pv (lI l), pv (lS z), .at (.row 2000 0), iv i] [(2000, 0, some (rI out))]) = some (.exit 0, ex34_0 [.at (.row 2000 0)] [(2000, 0, some (rI (out ++ (l.drop i).filter fun x => coversL z x.f0)))]) := by
  induction n with
  | zero =>
    intro i out hi ho
    rw [lp_run hL Try.func34 rfl (by rfl) 0 rfl]
    obtain rfl : i = l.length := by omega
    simp
  | succ n ih =>
    intro i out hi ho
    have h1 : i < l.length := by omega
    have hlim : (out.length + 1) * 89 ≤ 70368744177664 := by omega
    have hx := rcovers z l[i].f0 hz hs
    rw [List.drop_eq_getElem_cons h1]
    rw [lp_run hL Try.func34 rfl (by rfl) 0 rfl]
    cases c : coversL z l[i].f0 with
    | true =>
      have ih := ih (i + 1) (out ++ [l[i]]) (by omega) (by simp; omega)
      rw [List.filter_cons_of_pos (by simpa using c), List.append_cons]
      try simp at c
      simp [rI, h1, c, hlim, hx] at ih ⊢
      simp (disch := omega) only [wr]
      exact ih
    | false =>
      have ih := ih (i + 1) out (by omega) (by omega)
      rw [List.filter_cons_of_neg (by simp [c])]
      try simp at c
      simp [rI, h1, c, hlim, hx] at ih ⊢
      simp (disch := omega) only [wr]
      exact ih
theorem runder (l : List Item) (z : List ByteArray) (hz : z.length < 1000000000) (hs : ∀ x ∈ z, x.size ≤ 9223372036854775807) (hl : l.length < 1000000000) : A.fn 34 [pv (lI l), pv (lS z)] [] = some (.one (pv (lI (l.filter fun x => coversL z x.f0))), []) := by
  have h := runder_loop l z hz hs hl l.length 0 [] (by omega) (by simp)
  rw [fn_run hL Try.func34 rfl L34 (by rfl) rfl rfl rfl (by decide)]
  simp [rI] at h ⊢
  simp [Try.f34, h]
theorem rofK_loop (l : List Item) (key : ByteArray) (hl : l.length < 1000000000) (n : Nat) : ∀ (i : Nat) (out : List Item), l.length = i + n → out.length ≤ i →
    A.lp 36 0 (hd36_0 [pv (lI l), sv key, .at (.row 2000 0), iv i] [(2000, 0, some (rI out))]) = some (.exit 0, ex36_0 [.at (.row 2000 0)] [(2000, 0, some (rI (out ++ (l.drop i).filter fun x => decide (x.f0 = key))))]) := by
  induction n with
  | zero =>
    intro i out hi ho
    rw [lp_run hL Try.func36 rfl (by rfl) 0 rfl]
    obtain rfl : i = l.length := by omega
    simp
  | succ n ih =>
    intro i out hi ho
    have h1 : i < l.length := by omega
    have hlim : (out.length + 1) * 89 ≤ 70368744177664 := by omega
    rw [List.drop_eq_getElem_cons h1]
    rw [lp_run hL Try.func36 rfl (by rfl) 0 rfl]
    cases c : decide (l[i].f0 = key) with
    | true =>
      have ih := ih (i + 1) (out ++ [l[i]]) (by omega) (by simp; omega)
      rw [List.filter_cons_of_pos (by simpa using c), List.append_cons]
      try simp at c
      simp [rI, encI, h1, c, hlim] at ih ⊢
      simp (disch := omega) only [wr]
      exact ih
    | false =>
      have ih := ih (i + 1) out (by omega) (by omega)
      rw [List.filter_cons_of_neg (by simp [c])]
      try simp at c
      simp [rI, encI, h1, c, hlim] at ih ⊢
      simp (disch := omega) only [wr]
      exact ih
theorem rofK (l : List Item) (key : ByteArray) (hl : l.length < 1000000000) : A.fn 36 [pv (lI l), sv key] [] = some (.one (pv (lI (l.filter fun x => decide (x.f0 = key)))), []) := by
  have h := rofK_loop l key hl l.length 0 [] (by omega) (by simp)
  rw [fn_run hL Try.func36 rfl L36 (by rfl) rfl rfl rfl (by decide)]
  simp [rI] at h ⊢
  simp [Try.f36, h]
theorem rkeys_loop (l : List Item) (hl : l.length < 100000) (n : Nat) : ∀ (i : Nat) (out : List ByteArray), l.length = i + n → out.length ≤ i →
    A.lp 38 0 (hd38_0 [pv (lI l), .at (.row 2000 0), iv i] [(2000, 0, some (.row true 1 (out.map encS)))]) = some (.exit 0, ex38_0 [.at (.row 2000 0)] [(2000, 0, some (.row true 1 ((out ++ (l.drop i).map Item.f0).map encS)))]) := by
  induction n with
  | zero =>
    intro i out hi ho
    rw [lp_run hL Try.func38 rfl (by rfl) 0 rfl]
    obtain rfl : i = l.length := by omega
    simp
  | succ n ih =>
    intro i out hi ho
    have h1 : i < l.length := by omega
    have hlim : (out.length + 1) * 17 ≤ 70368744177664 := by omega
    have ih := ih (i + 1) (out ++ [l[i].f0]) (by omega) (by simp; omega)
    rw [List.drop_eq_getElem_cons h1, List.map_cons, List.append_cons]
    rw [lp_run hL Try.func38 rfl (by rfl) 0 rfl]
    simp [h1, hlim] at ih ⊢
    simp (disch := omega) only [wr]
    exact ih
def keysL (l : List Item) : List ByteArray := onceL (l.map Item.f0)
theorem rkeysI (l : List Item) (hl : l.length < 100000) : A.fn 38 [pv (lI l)] [] = some (.one (pv (lS (keysL l))), []) := by
  have h := rkeys_loop l hl l.length 0 [] (by omega) (by simp)
  have h2 := ronce (l.map Item.f0) (by simpa using hl)
  rw [fn_run hL Try.func38 rfl L38 (by rfl) rfl rfl rfl (by decide)]
  simp [lS] at h h2 ⊢
  simp [Try.f38, h, h2, keysL]
theorem keys_loop (l : List Item) (hl : l.length < 100000) (n : Nat) : ∀ (i : Nat) (out : List ByteArray), l.length = i + n → out.length ≤ i →
    A.lp 37 0 (hd37_0 [.at (.row 2000 0), pv (lI l), iv l.length, iv i] [(2000, 0, some (.row true 1 (out.map encS)))]) = some (.exit 0, ex37_0 [.at (.row 2000 0)] [(2000, 0, some (.row true 1 ((out ++ (l.drop i).map Item.f0).map encS)))]) := by
  induction n with
  | zero =>
    intro i out hi ho
    rw [lp_run hL Try.func37 rfl (by rfl) 0 rfl]
    obtain rfl : i = l.length := by omega
    simp
  | succ n ih =>
    intro i out hi ho
    have h1 : i < l.length := by omega
    have hlim : (out.length + 1) * 17 ≤ 70368744177664 := by omega
    have ih := ih (i + 1) (out ++ [l[i].f0]) (by omega) (by simp; omega)
    rw [List.drop_eq_getElem_cons h1, List.map_cons, List.append_cons]
    rw [lp_run hL Try.func37 rfl (by rfl) 0 rfl]
    simp [h1, hlim] at ih ⊢
    simp (disch := omega) only [wr]
    exact ih
theorem itemKeys (l : List Item) (hl : l.length < 100000) : A.fn 37 [pv (lI l)] [] = some (.one (pv (lS (keysL l))), []) := by
  have h := keys_loop l hl l.length 0 [] (by omega) (by simp)
  have h1 := (lib_run hL L82 _ _).trans (Lib.sort_at A.fn (l.map Item.f0) (by simp; omega))
  have h2 := (lib_run hL L83 _ _).trans (Lib.compact_at A.fn (sortB (l.map Item.f0)) (by rw [show (sortB (l.map Item.f0)).length = l.length by simp [sortB]]; omega))
  rw [once_eq] at h2
  rw [fn_run hL Try.func37 rfl L37 (by rfl) rfl rfl rfl (by decide)]
  simp at h h1 h2
  simp [Try.f37, h, h1, h2, keysL]
/-! ### Sizes -/
def szI : List Item → Nat
  | [] => 0
  | x :: l => (x.f0.size + x.f1.size + x.f3.size + 24) + szI l
def szR : List Item → Nat
  | [] => 0
  | x :: l => (x.f0.size + x.f1.size + x.f3.size) + szR l
theorem szR_eq : ∀ l : List Item, 24 * l.length + szR l = szI l
  | [] => rfl
  | x :: l => by rw [szR, szI, ← szR_eq l, List.length_cons]; omega
theorem shortI_iff {x : Item} : shortI x = true ↔ x.f0.size ≤ 300 ∧ x.f1.size ≤ 300 ∧ x.f3.size ≤ 300 := by simp [shortI, and_assoc]
theorem size_loop (l : List Item) (hl : l.length < 100000) (hs : ∀ x ∈ l, shortI x = true) (n : Nat) : ∀ (i acc : Nat), l.length = i + n → acc ≤ i * 1000 →
    A.lp 39 0 (hd39_0 [iv acc, pv (lI l), iv l.length, iv i] []) = some (.exit 0, ex39_0 [iv (acc + szI (l.drop i) : Nat)] []) := by
  induction n with
  | zero =>
    intro i acc hi ha
    rw [lp_run hL Try.func39 rfl (by rfl) 0 rfl]
    obtain rfl : i = l.length := by omega
    simp [szI]
  | succ n ih =>
    intro i acc hi ha
    have h1 : i < l.length := by omega
    obtain ⟨s0, s1, s3⟩ := shortI_iff.1 (hs l[i] (List.getElem_mem h1))
    have ih := ih (i + 1) (acc + (l[i].f0.size + l[i].f1.size + l[i].f3.size + 24)) (by omega) (by omega)
    rw [List.drop_eq_getElem_cons h1, szI, ← Nat.add_assoc]
    rw [lp_run hL Try.func39 rfl (by rfl) 0 rfl]
    simp [h1] at ih ⊢
    simp (disch := omega) only [wr]
    exact ih
theorem itemSize (l : List Item) (hl : l.length < 100000) (hs : ∀ x ∈ l, shortI x = true) : A.fn 39 [pv (lI l)] [] = some (.one (iv (szI l : Nat)), []) := by
  have h := size_loop l hl hs l.length 0 0 (by omega) (by omega)
  rw [fn_run hL Try.func39 rfl L39 (by rfl) rfl rfl rfl (by decide)]
  simp [rI] at h ⊢
  simp [Try.f39, h]
theorem rsize_loop (l : List Item) (hl : l.length < 100000) (hs : ∀ x ∈ l, shortI x = true) (n : Nat) : ∀ (i acc : Nat), l.length = i + n → acc ≤ 24 * l.length + i * 1000 →
    A.lp 40 0 (hd40_0 [pv (lI l), iv acc, iv i] []) = some (.exit 0, ex40_0 [iv (acc + szR (l.drop i) : Nat)] []) := by
  induction n with
  | zero =>
    intro i acc hi ha
    rw [lp_run hL Try.func40 rfl (by rfl) 0 rfl]
    obtain rfl : i = l.length := by omega
    simp [szR]
  | succ n ih =>
    intro i acc hi ha
    have h1 : i < l.length := by omega
    obtain ⟨s0, s1, s3⟩ := shortI_iff.1 (hs l[i] (List.getElem_mem h1))
    have ih := ih (i + 1) (acc + (l[i].f0.size + l[i].f1.size + l[i].f3.size)) (by omega) (by omega)
    rw [List.drop_eq_getElem_cons h1, szR, ← Nat.add_assoc]
    rw [lp_run hL Try.func40 rfl (by rfl) 0 rfl]
    simp [h1] at ih ⊢
    simp (disch := omega) only [wr]
    exact ih
theorem rsizeI (l : List Item) (hl : l.length < 100000) (hs : ∀ x ∈ l, shortI x = true) : A.fn 40 [pv (lI l)] [] = some (.one (iv (szI l : Nat)), []) := by
  have h := rsize_loop l hl hs l.length 0 (24 * l.length) (by omega) (by omega)
  rw [List.drop_zero, szR_eq] at h
  rw [fn_run hL Try.func40 rfl L40 (by rfl) rfl rfl rfl (by decide)]
  have e : IntKind.i64.wrap (24 * (l.length : Int)) = ((24 * l.length : Nat) : Int) := by rw [wr _ (by omega) (by omega)]; omega
  simp [rI] at h ⊢
  simp [Try.f40, e, h]
end Go.E2.S
