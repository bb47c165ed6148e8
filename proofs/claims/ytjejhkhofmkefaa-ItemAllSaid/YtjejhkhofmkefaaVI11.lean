/- Chapter 09: the layer is awake; ItemAll. -/
import Derived.Test.YtjejhkhofmkefaaVI3
import Derived.Test.YtjejhkhofmkefaaVI7
import Derived.Test.YtjejhkhofmkefaaVI9
import Derived.Test.YtjejhkhofmkefaaVI10
import Derived.Test.YtjejhkhofmkefaaVOpen2
namespace Go.E2.S
open Go Go.E2 Go.RowKit Go.Proofs
open Go.E2.Lib (sortB compB)
set_option linter.unusedVariables false
set_option linter.unusedSimpArgs false
set_option maxHeartbeats 4000000
set_option maxRecDepth 10000
def aI : Item := ⟨⟨#[97]⟩, ⟨#[]⟩, 1, ⟨#[]⟩, 0, ⟨1, 1, 0⟩⟩
def bI0 : Item := ⟨⟨#[97]⟩, ⟨#[]⟩, 1, ⟨#[]⟩, 0, ⟨0, 2, 0⟩⟩
theorem awake_normI : normL [aI, bI0, aI] = [bI0, aI] := normL_eq (by
  have h : cmpI bI0 aI < 0 := by decide
  have h2 : ¬ bI0.f5 = aI.f5 := by decide
  unfold UpI
  simp [h, h2]) (fun x => by
  have h1 : cmpI aI aI ≤ 0 := le_reflI _
  have h2 : cmpI bI0 bI0 ≤ 0 := le_reflI _
  have h3 : aI.f5 ≠ bI0.f5 := by decide
  simp only [List.mem_cons, List.not_mem_nil, or_false]
  constructor
  · rintro (rfl | rfl)
    · refine ⟨.inr (.inl rfl), ?_⟩
      rintro y (rfl | rfl | rfl) e
      · exact absurd e h3
      · exact h2
      · exact absurd e h3
    · refine ⟨.inl rfl, ?_⟩
      rintro y (rfl | rfl | rfl) e
      · exact h1
      · exact absurd e.symm h3
      · exact h1
  · rintro ⟨h | h | h, _⟩
    · exact .inr h
    · exact .inl h
    · exact .inr h)
theorem awake09 : A.fn 26 [] [] = some (.one (bv true), []) := by
  have h1 := itemNorm [aI, bI0, aI] (by decide)
  rw [awake_normI] at h1
  have h2 := same09 [bI0, aI] [bI0, aI] (by decide)
  have h3 := formed aI
  rw [show formedI aI = true by decide] at h3
  have h4 := itemSize [bI0, aI] (by decide) (by decide)
  rw [show szI [bI0, aI] = 50 by decide] at h4
  rw [fn_run hL Try.func26 rfl L26 (by rfl) rfl rfl rfl (by decide)]
  simp only [ag, lI, encI, aI, bI0, List.map_cons, List.map_nil] at h1 h2 h3 h4
  simp at h2 h4
  simp [Try.f26, h1, h2, h3, h4]
theorem keepN_len : ∀ (l : List Item) (s : List Dot), (keepN s l).length ≤ l.length
  | [], _ => Nat.le_refl _
  | x :: l, s => by
    rw [keepN]
    split
    · have := keepN_len l s; simp; omega
    · have := keepN_len l (s ++ [x.f5]); simp; omega
theorem normL_len (l : List Item) : (normL l).length ≤ l.length := by
  have := keepN_len (sortI l) []
  have e : (sortI l).length = l.length := by unfold sortI; simp
  unfold normL
  omega
theorem all_loop (l : List Item) (x : Item) (hl : l.length < 1000000000) (n : Nat) : ∀ i : Nat, l.length = i + n →
    A.lp 4 0 (hd4_0 [pv (lI l), .at (.ptr 2000 0 0), pv (lI l), iv i] [(2000, 0, some (bI x))]) = some (.exit 0, ex4_0 [pv (lI l), nov, pv (lI l)] []) := by
  induction n with
  | zero =>
    intro i hi
    rw [lp_run hL Try.func4 rfl (by rfl) 0 rfl]
    obtain rfl : i = l.length := by omega
    simp
  | succ n ih =>
    intro i hi
    have h1 : i < l.length := by omega
    have ih := ih (i + 1) (by omega)
    have q1 := itemLess l[i] x
    have q2 := rless l[i] x
    have q3 := itemLess x l[i]
    have q4 := rless x l[i]
    simp only [ag, encI, List.map_cons, List.map_nil] at q1 q2 q3 q4
    rw [lp_run hL Try.func4 rfl (by rfl) 0 rfl]
    simp [h1, q1, q2, q3, q4]
    rw [if_pos ?q]
    case q => kernel_rfl
    simp [h1, q1, q2, q3, q4]
    simp (disch := omega) only [wr]
    exact ih
theorem itemAll (l : List Item) (x : Item) (dots : List Dot) (z : List ByteArray) (key : ByteArray) (b0 : SzS x.f0) (b1 : SzS x.f1) : A.fn 4 [pv (lI l), ag (encI x), pv (lD dots), pv (lS z), sv key] [] = some (.one (bv true), []) := by
  have k0 := awake09
  have k1 := short09 l
  have k2 := short08 z
  rw [fn_run hL Try.func4 rfl L4 (by rfl) rfl rfl rfl (by decide)]
  cases s1 : shortL l with
  | false =>
    rw [s1] at k1
    simp [Try.f4, k0, k1]
  | true =>
    rw [s1] at k1
    cases s2 : shortS z with
    | false =>
      rw [s2] at k2
      simp [Try.f4, k0, k1, k2]
    | true =>
      rw [s2] at k2
      by_cases s3 : dots.length ≤ 60
      · have s4 : ¬ (60 : Int) < dots.length := by omega
        have hs : ∀ y ∈ l, shortI y = true := by
          simp only [shortL, Bool.and_eq_true, List.all_eq_true] at s1
          exact s1.2
        have hz : ∀ y ∈ z, y.size ≤ 9223372036854775807 := by
          simp only [shortS, Bool.and_eq_true, List.all_eq_true, decide_eq_true_eq] at s2
          exact fun y hy => Nat.le_trans (s2.2 y hy) (by decide)
        have n1 : l.length ≤ 60 := by simp [shortL] at s1; omega
        have n2 : z.length ≤ 60 := by simp [shortS] at s2; omega
        have nf : ∀ p : Item → Bool, (l.filter p).length < 1000000000 := fun p => by have := List.length_filter_le p l; omega
        have nn : (normL l).length < 1000000000 := by have := normL_len l; omega
        have q1 := copy09 l (by omega)
        have q2 := formed x
        have q3 := rformed x b0 b1
        have q4 := itemNorm l (by omega)
        have q5 := rnorm l (by omega)
        have q6 := same09 (normL l) (normL l) nn
        have q7 := itemWithout l dots (by omega) (by omega)
        have q8 := rwithout l dots (by omega) (by omega)
        have q9 := same09 (l.filter fun x => !dotIn dots x.f5) (l.filter fun x => !dotIn dots x.f5) (nf _)
        have q10 := itemUnder l z (by omega) (by omega)
        have q11 := runder l z (by omega) hz (by omega)
        have q12 := same09 (l.filter fun x => coversL z x.f0) (l.filter fun x => coversL z x.f0) (nf _)
        have q13 := itemOf l key (by omega)
        have q14 := rofK l key (by omega)
        have q15 := same09 (l.filter fun x => decide (x.f0 = key)) (l.filter fun x => decide (x.f0 = key)) (nf _)
        have q16 := itemKeys l (by omega)
        have q17 := rkeysI l (by omega)
        have q18 := same08 (keysL l) (keysL l) (by have := onceL_len (l.map Item.f0); simp at this; unfold keysL; omega)
        have q19 := itemSize l (by omega) hs
        have q20 := rsizeI l (by omega) hs
        have q21 := all_loop l x (by omega) l.length 0 (by omega)
        have q22 := same09 l l (by omega)
        simp only [ag, encI, List.map_cons, List.map_nil] at q2 q3
        simp at q6 q9 q12 q15 q18 q21 q22
        simp [Try.f4, k0, k1, k2, s4, q1, q2, q3, q4, q5, q6, q7, q8, q9, q10, q11, q12, q13, q14, q15, q16, q17, q18, q19, q20, q21, q22]
        rw [if_pos ?q]
        case q => kernel_rfl
        simp [Try.f4, k0, k1, k2, s4, q1, q2, q3, q4, q5, q6, q7, q8, q9, q10, q11, q12, q13, q14, q15, q16, q17, q18, q19, q20, q21, q22]
      · have s4 : (60 : Int) < dots.length := by omega
        simp [Try.f4, k0, k1, k2, s4]
end Go.E2.S
