/- The engine, part 7b: append. -/
import Derived.Test.YtimmgdpicjmjjaaEOps7
namespace Go.Eng
open Go.RowKit
set_option linter.unusedVariables false
set_option linter.unusedSimpArgs false
variable {ob : Obs} {c c' : Con} {w w' w0 : World} {S0 : Nat → Prop} {G0 G : Gh} {σ σ' σ1 : St} {a a' : Act} {P : Program}
/-- Cells that say a row's elements. -/
def Says (G : Gh) (e : Nat) (ys : List (List PV)) (news : List Value) : Prop :=
  news.length = ys.length * e ∧ Wide e ys ∧ ∀ (j : Nat) (x : List PV) (i : Nat) (y : PV), ys[j]? = some x → x[i]? = some y → Rep G y (news.getD (j * e + i) undef)
theorem Says.mono {G' : Gh} {e : Nat} {ys : List (List PV)} {news : List Value} (hG : Gh.le G G') (h : Says G e ys news) : Says G' e ys news := ⟨h.1, h.2.1, fun j x i y hx hy => (h.2.2 j x i y hx hy).mono hG⟩
theorem rep_one {p : PV} {v : Value} (h : Rep G p v) : v.oneCell' = true := by cases h <;> rfl
theorem Says.one {e : Nat} {ys : List (List PV)} {news : List Value} (h : Says G e ys news) : ∀ u ∈ news, u.oneCell' = true := by
  intro u hu
  obtain ⟨q, hq, rfl⟩ := List.getElem_of_mem hu
  have hl := h.1
  have he : 0 < e := by
    rcases Nat.eq_zero_or_pos e with h0 | h0
    · subst h0; rw [Nat.mul_zero] at hl; omega
    · exact h0
  have hj : q / e < ys.length := (Nat.div_lt_iff_lt_mul he).2 (by omega)
  have hx := h.2.1 (q / e) ys[q / e] (List.getElem?_eq_getElem hj)
  have hi : q % e < ys[q / e].length := by rw [hx]; exact Nat.mod_lt _ he
  have := h.2.2 (q / e) _ (q % e) _ (List.getElem?_eq_getElem hj) (List.getElem?_eq_getElem hi)
  rw [show q / e * e + q % e = q by rw [Nat.mul_comm]; exact Nat.div_add_mod q e] at this
  rw [List.getD_eq_getElem?_getD, List.getElem?_eq_getElem hq] at this
  exact rep_one this
theorem wide_append {e : Nat} {xs ys : List (List PV)} (h1 : Wide e xs) (h2 : Wide e ys) : Wide e (xs ++ ys) := by
  intro j x hx
  by_cases hj : j < xs.length
  · rw [List.getElem?_append_left hj] at hx; exact h1 j x hx
  · rw [List.getElem?_append_right (by omega)] at hx; exact h2 _ x hx
/-- A row led on in its place. -/
theorem Rel.extend (h : Rel w0 S0 G0 σ c a w) {k g e b d : Nat} {own : Bool} {xs ys : List (List PV)} {news : List Value} (hk : σ.ob k = (g, some (.row own e xs))) (hb : c.ρ k = some b) (hs : Says c.G e ys news) (hroom : xs.length + ys.length ≤ c.cp k) (dst : Option Nat) :
    ∃ c', Rel w0 S0 G0 (σ.app dst ⟨.one (.at (.row d ((σ.ob d).1 + 1))), [(k, g, if own = true then none else some (.view e xs)), (d, (σ.ob d).1 + 1, some (.row own e (xs ++ ys)))]⟩) c' (a.put dst (.slice (some ⟨b, 0, none⟩) (xs.length + ys.length) (c.cp k))) (w.setCells b (xs.length * e) news) := by
  rcases h.obs k g _ hk with ⟨q1, _⟩ | ⟨b', cs, ty, hb', hh, hl, hc, hwd, hr, hg⟩
  · rw [hb] at q1; cases q1
  rw [hb] at hb'; cases hb'
  obtain ⟨hs1, hs2, hs3⟩ := hs
  have hfit : xs.length * e + news.length ≤ cs.size := by
    rw [hs1, hc, ← Nat.add_mul]
    exact Nat.mul_le_mul_right e hroom
  let G' : Gh := fun b' o => if own = false ∧ b' = b ∧ xs.length * e ≤ o ∧ o < xs.length * e + news.length then news[o - xs.length * e]? else c.G b' o
  have hGend : ∀ o, xs.length * e ≤ o → c.G b o = none := by
    cases own with
    | true => exact fun o _ => (by simpa using hg : ∀ o, c.G b o = none) o
    | false => exact fun o ho => (by simpa using hg : _ ∧ ∀ o, xs.length * e ≤ o → c.G b o = none).2 o ho
  have hG : Gh.le c.G G' := fun b' o v hv => by
    show (if own = false ∧ b' = b ∧ xs.length * e ≤ o ∧ o < xs.length * e + news.length then news[o - xs.length * e]? else c.G b' o) = some v
    rw [if_neg (fun q => by rw [q.2.1, hGend o q.2.2.1] at hv; cases hv)]
    exact hv
  have hGo : ∀ b' i, b' ≠ b → G' b' i = c.G b' i := fun b' i hne => if_neg (fun q => hne q.2.1)
  let c' : Con := { ρ := fun q => if q = d then some b else c.ρ q, cp := fun q => if q = d then c.cp k else c.cp q, G := G' }
  have hGv : ∀ b' o, c'.G b' o = if own = false ∧ b' = b ∧ xs.length * e ≤ o ∧ o < xs.length * e + news.length then news[o - xs.length * e]? else c.G b' o := fun _ _ => rfl
  let ko : Option AObj := if own = true then none else some (.view e xs)
  let σ' := σ.app dst ⟨.one (.at (.row d ((σ.ob d).1 + 1))), [(k, g, ko), (d, (σ.ob d).1 + 1, some (.row own e (xs ++ ys)))]⟩
  have eob : ∀ q, σ'.ob q = if d = q then ((σ.ob d).1 + 1, some (.row own e (xs ++ ys))) else if k = q then (g, ko) else σ.ob q := fun q => by
    show (St.put _ _ _).ob q = _
    rw [St.ob_put]
    show look (lay (lay σ.obs k (g, ko)) d _) q = _
    rw [look_lay, look_lay]
    rfl
  have hdd : σ'.ob d = ((σ.ob d).1 + 1, some (.row own e (xs ++ ys))) := by rw [eob, if_pos rfl]
  have hkk : k ≠ d → σ'.ob k = (g, ko) := fun hne => by rw [eob, if_neg (fun e => hne e.symm), if_pos rfl]
  have hqq : ∀ q, q ≠ d → q ≠ k → σ'.ob q = σ.ob q := fun q h1 h2 => by rw [eob, if_neg (fun e => h1 e.symm), if_neg (fun e => h2 e.symm)]
  have hρ : ∀ q, q ≠ d → c'.ρ q = c.ρ q := fun q hq => by simp [c', hq]
  have hcp : ∀ q, q ≠ d → c'.cp q = c.cp q := fun q hq => by simp [c', hq]
  have hρd : c'.ρ d = some b := by simp [c']
  have hcpd : c'.cp d = c.cp k := by simp [c']
  have hK : ∀ q, Keeps σ.ob σ'.ob c c' q := fun q => by
    by_cases e1 : q = d
    · subst e1; left; rw [hdd]; exact Nat.lt_succ_self _
    · by_cases e2 : q = k
      · subst e2
        right
        rw [hkk e1, hk]
        refine ⟨rfl, fun n hn => ?_, fun n hn => ?_, fun hv => ?_⟩
        · cases own with
          | true => simp [ko, rowLen] at hn
          | false => exact ⟨by simpa [ko, rowLen] using hn, hρ q e1, hcp q e1⟩
        · cases own with
          | true => simp [ko, rowE] at hn
          | false => exact ⟨by simpa [ko, rowE] using hn, hρ q e1⟩
        · cases own <;> simp [ko, isVar] at hv
      · exact Keeps.same (hqq q e1 e2) (hρ q e1) (hcp q e1)
  obtain ⟨s1, s2, s3, s4⟩ := setCells_os news w b (xs.length * e)
  have hbl := h.blk_lt hk rfl hb
  have hnget : ∀ j, j < news.length → (w.setCells b (xs.length * e) news).cell? ⟨b, xs.length * e + j, none⟩ = news[j]? := fun j hj => by
    rw [World.cell?_setCells_in b news _ w (fun j hj => by rw [cell_of_blk hh, Array.getElem?_eq_getElem (by omega)]; rfl) j hj, List.getElem?_eq_getElem hj]
  have hblk := setCells_self news w b (xs.length * e) cs ty hh
  have notk : ∀ q g' o', q ≠ d → σ'.ob q = (g', some o') → owned o' = true → q ≠ k ∧ σ.ob q = (g', some o') := fun q g' o' hq ho hw => by
    by_cases e2 : q = k
    · subst e2
      rw [hkk hq] at ho
      exfalso
      cases own with
      | true => simp [ko] at ho
      | false =>
        simp only [ko] at ho
        cases ho
        simp [owned] at hw
    · exact ⟨e2, by rw [hqq q hq e2] at ho; exact ho⟩
  refine ⟨c', h.step (σ' := σ') (c' := c') hG hK (fun b' o v hv => ?_) (by rw [St.len_app, Act.size_put]; exact h.sz) ?_ (by rw [Act.defers_put]; exact h.df) (fun q g' o' ho => ?_) ?_ ?_ ?_ ?_⟩
  · rw [hGv] at hv
    split at hv
    · rename_i q
      obtain ⟨_, rfl, q3, q4⟩ := q
      obtain ⟨m, rfl⟩ : ∃ m, o = xs.length * e + m := ⟨o - xs.length * e, by omega⟩
      rw [hnget m (by omega)]
      rw [show xs.length * e + m - xs.length * e = m by omega] at hv
      exact hv
    · rw [World.cell?_setCells_out b news _ w _ (fun e1 _ => ?_)]
      · exact h.imm b' o v hv
      · left
        have e1 : b' = b := e1
        subst e1
        rcases Nat.lt_or_ge o (xs.length * e) with hlt | hge
        · exact hlt
        · rw [hGend o hge] at hv; cases hv
  · refine slot_app (σ := σ) h.sz dst _ _ ⟨by rw [hdd]; exact Nat.le_refl _, fun n hn => ?_⟩
    rw [alive_of hdd] at hn
    simp only [rowLen, Option.some.injEq] at hn
    rw [hρd, hcpd, ← hn, List.length_append]
    rfl
  · by_cases e1 : q = d
    · subst e1
      rw [hdd] at ho
      cases ho
      right
      refine .inr ⟨b, setMany cs (xs.length * e) news, ty, hρd, hblk, by rw [hcpd, List.length_append]; exact hroom, by rw [setMany_size, hcpd, hc], wide_append hwd hs2, fun j x i y hx hy => ?_, ?_⟩
      · have hi := (List.getElem?_eq_some_iff.1 hy).1
        by_cases hj : j < xs.length
        · rw [List.getElem?_append_left hj] at hx
          have hwj := hwd j x hx
          have hlt : j * e + i < xs.length * e := by
            have : (j + 1) * e ≤ xs.length * e := Nat.mul_le_mul_right e (by omega)
            rw [Nat.succ_mul] at this
            omega
          have := hr j x i y hx hy
          rw [Array.getD_eq_getD_getElem?, setMany_get news cs _ _ hfit, if_neg (by omega)]
          rw [Array.getD_eq_getD_getElem?] at this
          exact this.mono hG
        · rw [List.getElem?_append_right (by omega)] at hx
          have hwj := hs2 _ x hx
          have hjl := (List.getElem?_eq_some_iff.1 hx).1
          obtain ⟨m, rfl⟩ : ∃ m, j = xs.length + m := ⟨j - xs.length, by omega⟩
          rw [show xs.length + m - xs.length = m by omega] at hx hjl
          have hlt : m * e + i < news.length := by
            have : (m + 1) * e ≤ ys.length * e := Nat.mul_le_mul_right e (by omega)
            rw [Nat.succ_mul] at this
            omega
          have h3 := hs3 m x i y hx hy
          have e3 : (xs.length + m) * e + i = xs.length * e + (m * e + i) := by rw [Nat.add_mul]; omega
          rw [Array.getD_eq_getD_getElem?, e3, setMany_get news cs _ _ hfit, if_pos (by omega), show xs.length * e + (m * e + i) - xs.length * e = m * e + i by omega]
          rw [List.getD_eq_getElem?_getD] at h3
          exact h3.mono hG
      · cases own with
        | true =>
          rw [if_pos rfl]
          intro o
          rw [hGv, if_neg (by simp)]
          exact (by simpa using hg : ∀ o, c.G b o = none) o
        | false =>
          rw [if_neg (by simp)]
          obtain ⟨g1, g2⟩ := (by simpa using hg : (∀ o, o < xs.length * e → c.G b o = cs[o]?) ∧ ∀ o, xs.length * e ≤ o → c.G b o = none)
          have elen : (xs ++ ys).length * e = xs.length * e + news.length := by rw [List.length_append, Nat.add_mul, hs1]
          rw [elen]
          refine ⟨fun o ho' => ?_, fun o ho' => ?_⟩
          · rw [hGv, setMany_get news cs _ _ hfit]
            by_cases hlt : o < xs.length * e
            · rw [if_neg (by omega), if_neg (by omega), g1 o hlt]
            · rw [if_pos ⟨rfl, rfl, by omega, ho'⟩, if_pos (by omega)]
          · rw [hGv, if_neg (by omega)]
            exact g2 o (by omega)
    · by_cases e2 : q = k
      · subst e2
        rw [hkk e1] at ho
        cases own with
        | true => simp [ko] at ho
        | false =>
          simp only [ko] at ho
          cases ho
          right
          have hv := h.read_view hk
          exact ObOk.keep hG hK (hρ q e1) (hcp q e1) (fun h => by simp [owned] at h) hv
      · rw [hqq q e1 e2] at ho
        refine .inl ⟨ho, hρ q e1, hcp q e1, fun hw b2 hb2 => ?_⟩
        have hne : b2 ≠ b := fun e3 => by
          subst e3
          exact e2 (h.sep q k g' g o' _ b2 ho hk hw rfl hb2 hb)
        exact ⟨setCells_other news w b _ b2 hne, fun i => hGo b2 i hne⟩
  · intro q q' g1 g2 o1 o2 b2 hq hq' ho1 ho2 hb1 hb2
    by_cases e1 : q = d
    · by_cases e2 : q' = d
      · rw [e1, e2]
      · obtain ⟨n1, n2⟩ := notk q' g2 o2 e2 hq' ho2
        rw [hρ q' e2] at hb2
        rw [e1, hρd] at hb1
        cases hb1
        exact absurd (h.sep q' k g2 g o2 _ b n2 hk ho2 rfl hb2 hb) n1
    · obtain ⟨n1, n2⟩ := notk q g1 o1 e1 hq ho1
      rw [hρ q e1] at hb1
      by_cases e2 : q' = d
      · rw [e2, hρd] at hb2
        cases hb2
        exact absurd (h.sep q k g1 g o1 _ b n2 hk ho1 rfl hb1 hb) n1
      · obtain ⟨m1, m2⟩ := notk q' g2 o2 e2 hq' ho2
        rw [hρ q' e2] at hb2
        exact h.sep q q' g1 g2 o1 o2 b2 n2 m2 ho1 ho2 hb1 hb2
  · intro q g1 o1 b2 hq ho1 hb2
    by_cases e1 : q = d
    · rw [e1, hρd] at hb2
      cases hb2
      exact h.new k g _ b hk rfl hb
    · obtain ⟨n1, n2⟩ := notk q g1 o1 e1 hq ho1
      rw [hρ q e1] at hb2
      exact h.new q g1 o1 b2 n2 ho1 hb2
  · refine ⟨s1.trans h.fr.os, s2.trans h.fr.tape, s3.trans h.fr.output, by rw [s4]; exact h.fr.size, fun q hq hs => ?_⟩
    have hne : q ≠ b := fun e => by
      subst e
      rcases h.new k g _ q hk rfl hb with h3 | h3
      · omega
      · exact hs h3
    rw [setCells_other news w b _ q hne]
    exact h.fr.block q hq hs
  · intro b' o hne
    by_cases e1 : b' = b
    · subst e1
      exact h.new k g _ b' hk rfl hb
    · refine h.fresh b' o ?_
      rw [← hGo b' o e1]
      exact hne
end Go.Eng
