/- The engine, part 7d: the operation append. -/
import Derived.Test.YtimmgdpicjmjjaaEOps9
import Derived.Deep.Upon
namespace Go.Eng
open Go.RowKit
set_option linter.unusedVariables false
set_option linter.unusedSimpArgs false
variable {ob : Obs} {c c' : Con} {w w' w0 : World} {S0 : Nat → Prop} {G0 G : Gh} {σ σ' σ1 : St} {a a' : Act} {P : Program}
theorem Says.append {e : Nat} {xs ys : List (List PV)} {olds news : List Value} (h1 : Says G e xs olds) (h2 : Says G e ys news) : Says G e (xs ++ ys) (olds ++ news) := by
  refine ⟨by rw [List.length_append, List.length_append, h1.1, h2.1, Nat.add_mul], wide_append h1.2.1 h2.2.1, fun j x i y hx hy => ?_⟩
  have hi := (List.getElem?_eq_some_iff.1 hy).1
  by_cases hj : j < xs.length
  · rw [List.getElem?_append_left hj] at hx
    have hwj := h1.2.1 j x hx
    have hlt : j * e + i < olds.length := by
      have : (j + 1) * e ≤ xs.length * e := Nat.mul_le_mul_right e (by omega)
      rw [Nat.succ_mul] at this
      rw [h1.1]
      omega
    have := h1.2.2 j x i y hx hy
    rw [List.getD_eq_getElem?_getD, List.getElem?_append_left hlt]
    rw [List.getD_eq_getElem?_getD] at this
    exact this
  · rw [List.getElem?_append_right (by omega)] at hx
    obtain ⟨m, rfl⟩ : ∃ m, j = xs.length + m := ⟨j - xs.length, by omega⟩
    rw [show xs.length + m - xs.length = m by omega] at hx
    have := h2.2.2 m x i y hx hy
    have e3 : (xs.length + m) * e + i = olds.length + (m * e + i) := by rw [Nat.add_mul, h1.1]; omega
    rw [List.getD_eq_getElem?_getD, e3, List.getElem?_append_right (by omega), show olds.length + (m * e + i) - olds.length = m * e + i by omega]
    rw [List.getD_eq_getElem?_getD] at this
    exact this
/-- A block that begins with a row's cells. -/
theorem row_of_says {b e cap k : Nat} {xs : List (List PV)} {news : List Value} {zs : Array Value} {ty : TypeId} (h : Says c.G e xs news) (hb : c.ρ k = some b) (hcp : c.cp k = cap) (hh : w.heap[b]? = some (.cells (news.toArray ++ zs) ty (0, 0))) (hl : xs.length ≤ cap)
    (hz : zs.size = (cap - xs.length) * e) (hg : ∀ o, c.G b o = none) : ObOk ob c w k (.row true e xs) := by
  refine .inr ⟨b, _, ty, hb, hh, by rw [hcp]; exact hl, ?_, h.2.1, fun j x i y hx hy => ?_, by rw [if_pos rfl]; exact hg⟩
  · rw [Array.size_append, List.size_toArray, h.1, hz, hcp, ← Nat.add_mul, Nat.add_sub_cancel' hl]
  · have hj := (List.getElem?_eq_some_iff.1 hx).1
    have hi := (List.getElem?_eq_some_iff.1 hy).1
    rw [h.2.1 j x hx] at hi
    have hlt : j * e + i < news.length := by
      have : (j + 1) * e ≤ xs.length * e := Nat.mul_le_mul_right e (by omega)
      rw [Nat.succ_mul] at this
      rw [h.1]
      omega
    have := h.2.2 j x i y hx hy
    rw [Array.getD_eq_getD_getElem?, Array.getElem?_append_left (by simpa using hlt), List.getElem?_toArray]
    rw [List.getD_eq_getElem?_getD] at this
    exact this
theorem zeroCells_size (z : Array Value) (n : Nat) : (Builtin.zeroCells z n).size = n * z.size := by simp [Builtin.zeroCells]
/-- A row that is nil, or begins anew: nothing in it. -/
theorem Rel.nilrow (h : Rel w0 S0 G0 σ c a w) (d e : Nat) (own : Bool) (dst : Option Nat) :
    ∃ c', Rel w0 S0 G0 (σ.app dst ⟨.one (.at (.row d ((σ.ob d).1 + 1))), [(d, (σ.ob d).1 + 1, some (.row own e []))]⟩) c' (a.put dst (.slice none 0 0)) w := by
  let c' : Con := { ρ := fun q => if q = d then none else c.ρ q, cp := fun q => if q = d then 0 else c.cp q, G := c.G }
  have eob := St.ob_app1 σ dst (.one (.at (.row d ((σ.ob d).1 + 1)))) d ((σ.ob d).1 + 1, some (.row own e []))
  generalize hσ : σ.app dst ⟨.one (.at (.row d ((σ.ob d).1 + 1))), [(d, (σ.ob d).1 + 1, some (.row own e []))]⟩ = σ' at eob ⊢
  have hdd : σ'.ob d = ((σ.ob d).1 + 1, some (.row own e [])) := by rw [eob, if_pos rfl]
  have hqq : ∀ q, q ≠ d → σ'.ob q = σ.ob q := fun q hq => by rw [eob, if_neg (fun e => hq e.symm)]
  have hρ : ∀ q, q ≠ d → c'.ρ q = c.ρ q := fun q hq => by simp [c', hq]
  have hcp : ∀ q, q ≠ d → c'.cp q = c.cp q := fun q hq => by simp [c', hq]
  have hρd : c'.ρ d = none := by simp [c']
  have hcpd : c'.cp d = 0 := by simp [c']
  have hK : ∀ q, Keeps σ.ob σ'.ob c c' q := fun q => by
    by_cases e : q = d
    · subst e; left; rw [hdd]; exact Nat.lt_succ_self _
    · exact Keeps.same (hqq q e) (hρ q e) (hcp q e)
  have ne : ∀ q b, c'.ρ q = some b → q ≠ d := fun q b hb e => by rw [e, hρd] at hb; cases hb
  refine ⟨c', h.step (Gh.le_refl _) hK h.imm (by rw [← hσ, St.len_app, Act.size_put]; exact h.sz) ?_ (by rw [Act.defers_put]; exact h.df) (fun q g o hq => ?_) (fun q q' g1 g2 o1 o2 b h1 h2 h3 h4 h5 h6 => ?_) (fun q g1 o1 b h1 h2 h3 => ?_) h.fr h.fresh⟩
  · rw [← hσ]
    refine slot_app (σ := σ) h.sz dst _ _ ?_
    rw [hσ]
    refine ⟨by rw [hdd]; exact Nat.le_refl _, fun n hn => ?_⟩
    rw [alive_of hdd] at hn
    simp only [rowLen, Option.some.injEq] at hn
    rw [hρd]
    rfl
  · by_cases e1 : q = d
    · subst e1
      rw [hdd] at hq
      cases hq
      exact .inr (.inl ⟨hρd, rfl, hcpd⟩)
    · rw [hqq q e1] at hq
      exact .inl ⟨hq, hρ q e1, hcp q e1, fun _ b _ => ⟨rfl, fun _ => rfl⟩⟩
  · have n1 := ne q b h5
    have n2 := ne q' b h6
    rw [hqq q n1] at h1
    rw [hqq q' n2] at h2
    rw [hρ q n1] at h5
    rw [hρ q' n2] at h6
    exact h.sep q q' g1 g2 o1 o2 b h1 h2 h3 h4 h5 h6
  · have n1 := ne q b h3
    rw [hqq q n1] at h1
    rw [hρ q n1] at h3
    exact h.new q g1 o1 b h1 h2 h3
/-- A new row in a new block. -/
theorem Rel.newrow (h : Rel w0 S0 G0 σ c a w) (d e cap : Nat) (own : Bool) (dst : Option Nat) {xs : List (List PV)} {news : List Value} {zs : Array Value} (ty : TypeId) (n : Nat) (hs : Says c.G e xs news) (hl : xs.length ≤ cap) (hz : zs.size = (cap - xs.length) * e) :
    ∃ c', Rel w0 S0 G0 (σ.app dst ⟨.one (.at (.row d ((σ.ob d).1 + 1))), [(d, (σ.ob d).1 + 1, some (.row own e xs))]⟩) c' (a.put dst (.slice (some ⟨w.heap.size, 0, none⟩) xs.length cap)) { w with heap := w.heap.push (.cells (news.toArray ++ zs) ty (0, 0)), drawn := n } := by
  obtain ⟨c1, h1⟩ := h.fresh_ d (.row true e xs) cap (news.toArray ++ zs) ty n dst (.one (.at (.row d ((σ.ob d).1 + 1)))) (.slice (some ⟨w.heap.size, 0, none⟩) xs.length cap) (fun ob' c' e1 hK hG e2 e3 e4 => ⟨row_of_says (ty := ty) (hs.mono hG) e2 e3 (by simp) hl hz e4, by rw [e1]; exact Nat.le_refl _, fun m hm => by
    rw [alive_of e1] at hm
    simp only [rowLen, Option.some.injEq] at hm
    rw [e2, e3, ← hm]
    rfl⟩)
  cases own with
  | true => exact ⟨c1, h1⟩
  | false =>
    have hd : (σ.app dst ⟨.one (.at (.row d ((σ.ob d).1 + 1))), [(d, (σ.ob d).1 + 1, some (.row true e xs))]⟩).ob d = ((σ.ob d).1 + 1, some (.row true e xs)) := by rw [St.ob_app1, if_pos rfl]
    obtain ⟨c2, h2, _⟩ := h1.freeze hd
    refine ⟨c2, h2.congr ?_ fun q => ?_⟩
    · unfold St.app St.put St.lays
      cases dst <;> rfl
    · rw [ob_lays1, St.ob_app1, St.ob_app1]
      split <;> rfl
def appLim : Nat := 70368744177664
def absAppend (tab : Nat → Option Ty) (t : Nat) (d : Option Nat) (x y : Operand) : RM Eff := opnd x fun u => opnd y fun v => match d, tab t with
  | some d, some ty => if ty.elem = 0 then .fail else match tab ty.elem with
    | none => .fail
    | some ety => srcRM ety.size v fun ys => .obj d fun qd => match u with
      | .one (.at .nil) => if ys.length * (ety.bytes + 1) ≤ appLim then .ret ⟨.one (.at (.row d (qd.1 + 1))), [(d, qd.1 + 1, some (.row true ety.size ys))]⟩ else .fail
      | .one (.at (.row k g)) => .obj k fun qk => match gone g qk with
        | some (.row own e xs) => if e = ety.size ∧ (xs.length + ys.length) * (ety.bytes + 1) ≤ appLim then
            .ret ⟨.one (.at (.row d (qd.1 + 1))), [(k, g, if own = true then none else some (.view e xs)), (d, qd.1 + 1, some (.row own e (xs ++ ys)))]⟩ else .fail
        | _ => .fail
      | _ => .fail
  | _, _ => .fail
theorem done_append {o : Oper} {tab : Nat → Option Ty} {cl : Call} {t tx e' : Nat} {x y : Operand} {e : Eff} (htab : ∀ t ty, tab t = some ty → TyOk P t ty) (hk : P.underlying tx = some (.slice e')) (ho : o.op = .call cl) (hc : cl.callee = .builtin .append) (ha : cl.args = #[x, y]) (ht : cl.argTypes = #[t, tx])
    (h : (absAppend tab t o.dst x y).val σ = some e) : Done P w0 S0 G0 σ o e := by
  replace h := val_opnd h
  replace h := val_opnd h
  have hx := fun c a w (hR : Rel w0 S0 G0 σ c a w) => hR.opnd x
  have hy := fun c a w (hR : Rel w0 S0 G0 σ c a w) => hR.opnd y
  generalize absO σ x = u at h hx
  generalize absO σ y = v at h hy
  split at h
  case h_2 => simp [RM.val] at h
  case h_1 d ty hd hty =>
    have hT := htab t ty hty
    split at h
    case isTrue => simp [RM.val] at h
    case isFalse he =>
      cases hety : tab ty.elem with
      | none => rw [hety] at h; simp [RM.val] at h
      | some ety =>
        rw [hety] at h
        have hE := htab _ ety hety
        obtain ⟨ys, h2, H⟩ := val_srcRM hk h
        replace h := h2
        clear h2
        simp only [RM.val] at h
        obtain ⟨i, z, hi, hsz, hby, hz, _, hzs, _⟩ := hE.info
        have hsl := hT.slice he
        have exec : ∀ (a : Act) (w : World) (r : Value) (w' : World), (Builtin.append_ #[t, tx] o.type #[a.eval x, a.eval y]).run P w = .ok r w' → (execOp a.eval o).run P w = .ok (.value r) w' := fun a w r w' hr => by
          simp [execOp, ho, resolve, hc, ha, ht, invoke, builtin, hr]
        have fits : ∀ need cap : Nat, need * (ety.bytes + 1) ≤ appLim → cap < need → ((need : Nat) : Int) ≤ 9223372036854775807 ∧ Builtin.nextslicecap need cap * i.bytes ≤ 281474976710656 := fun need cap h1 h2 => by
          unfold appLim at h1
          have h3 : need * 1 ≤ need * (ety.bytes + 1) := Nat.mul_le_mul_left need (by omega)
          have h4 : need * ety.bytes ≤ need * (ety.bytes + 1) := Nat.mul_le_mul_left need (by omega)
          have h5 : Builtin.nextslicecap need cap * i.bytes ≤ 2 * need * i.bytes := Nat.mul_le_mul_right _ (nextslicecap_le h2)
          rw [hby] at h5 ⊢
          rw [Nat.mul_assoc] at h5
          omega
        -- a new row behind an empty beginning
        have fromNone : ∀ (own : Bool) (σ1 : St) (c : Con) (a : Act) (w : World), Rel w0 S0 G0 σ c a w → Rel w0 S0 G0 σ1 c a w → (σ1.ob d).1 = (σ.ob d).1 → a.eval x = .slice none 0 0 → ys.length * (ety.bytes + 1) ≤ appLim →
            ∃ v w', ((execOp a.eval o).run P w = .ok (.value v) w' ∨ ((execOp a.eval o).run P w = .ok .skip w' ∧ v = undef)) ∧ ∃ c', Rel w0 S0 G0 (σ1.app o.dst ⟨.one (.at (.row d ((σ.ob d).1 + 1))), [(d, (σ.ob d).1 + 1, some (.row own ety.size ys))]⟩) c' (a.put o.dst v) w' := by
          intro own σ1 c a w hR hR1 hgen hv hlim
          obtain ⟨news, hs1, hs2⟩ := H w0 S0 G0 c a w _ hR (hy c a w hR)
          by_cases hn : ys.length = 0
          · have hnil : ys = [] := List.length_eq_zero_iff.1 hn
            subst hnil
            have hnews : news = [] := List.length_eq_zero_iff.1 (by rw [hs2.1]; simp)
            subst hnews
            rw [← hsz] at hs1
            have hrun := run_append_nothing (P := P) w t tx o.type ty.elem i hsl hi none 0 0 (Nat.le_refl _) (a.eval y) hs1
            obtain ⟨c', hR'⟩ := hR1.nilrow d ety.size own o.dst
            rw [hgen] at hR'
            exact ⟨_, w, .inl (exec a w _ _ (by rw [hv]; exact hrun)), c', hR'⟩
          · rw [← hsz] at hs1
            obtain ⟨f1, f2⟩ := fits (0 + ys.length) 0 (by rw [Nat.zero_add]; exact hlim) (by omega)
            have hrun := run_append_grow_src (P := P) w t tx o.type ty.elem i z hsl hi hz none 0 0 [] (run_firstCells_none w.drew i.size 0 0 0) (a.eval y) ys.length news hs1 (by omega) f1 f2
            have hge := grownCap_ge w (0 + ys.length) 0 ty.elem
            obtain ⟨c', hR'⟩ := hR1.newrow d ety.size (grownCap w (0 + ys.length) 0 ty.elem) own o.dst (zs := Builtin.zeroCells z.cells (grownCap w (0 + ys.length) 0 ty.elem - (0 + ys.length))) ty.elem (w.drawn + 1) hs2 (by omega) (by rw [zeroCells_size, hzs, Nat.zero_add])
            rw [hgen] at hR'
            rw [Nat.zero_add] at hrun hR'
            exact ⟨_, _, .inl (exec a w _ _ (by rw [hv]; exact hrun)), c', hR'⟩
        split at h
        case h_1 =>
          split at h
          case isFalse => simp [RM.val] at h
          case isTrue hlim =>
            simp only [RM.val, Option.some.injEq] at h
            subst h
            intro c a w hR
            exact fromNone true σ c a w hR hR rfl (hx c a w hR) hlim
        case h_2 k g =>
          simp only [RM.val] at h
          split at h
          case h_2 => simp [RM.val] at h
          case h_1 own e1 xs hq =>
            split at h
            case isFalse => simp [RM.val] at h
            case isTrue hcond =>
              obtain ⟨rfl, hlim⟩ := hcond
              simp only [RM.val, Option.some.injEq] at h
              subst h
              have hob := gone_some hq
              intro c a w hR
              have hxv := (hx c a w hR).2 xs.length (by rw [alive_of hob]; rfl)
              have hforget := hR.forget hob (if own = true then none else some (.view ety.size xs)) (by
                cases own with
                | true => exact .inl rfl
                | false => exact .inr ⟨_, _, rfl, rfl⟩)
              have hgen : ((σ.lays [(k, g, if own = true then none else some (.view ety.size xs))]).ob d).1 = (σ.ob d).1 := by
                rw [ob_lays1]
                split
                · rename_i e2; subst e2; rw [hob]
                · rfl
              have appEq : ∀ (s : List (Nat × Nat × Option AObj)) (v : AV), (σ.lays [(k, g, if own = true then none else some (.view ety.size xs))]).app o.dst ⟨v, s⟩ = σ.app o.dst ⟨v, (k, g, if own = true then none else some (.view ety.size xs)) :: s⟩ := fun s v => rfl
              cases hb : c.ρ k with
              | none =>
                have hnil : xs = [] ∧ c.cp k = 0 := by
                  rcases hR.obs k g _ hob with ⟨_, h2, h3⟩ | ⟨b, cs, ty, hb', _⟩
                  · exact ⟨h2, h3⟩
                  · rw [hb] at hb'; cases hb'
                obtain ⟨rfl, _⟩ := hnil
                rw [hb] at hxv
                have := fromNone own _ c a w hR hforget hgen hxv (by simpa using hlim)
                rw [appEq] at this
                exact this
              | some b =>
                rw [hb] at hxv
                have hxv : a.eval x = .slice (some ⟨b, 0, none⟩) xs.length (c.cp k) := hxv
                obtain ⟨news, hs1, hs2⟩ := H w0 S0 G0 c a w _ hR (hy c a w hR)
                have hrow : own = true ∨ own = false := by cases own <;> simp
                have hmem : (AObj.row own ety.size xs = .row true ety.size xs ∨ AObj.row own ety.size xs = .row false ety.size xs ∨ AObj.row own ety.size xs = .view ety.size xs) := by cases own <;> simp
                rcases hR.obs k g _ hob with ⟨q1, _⟩ | ⟨b', cs, cty, hb', hh, hl, hcs, hwd, hr, hg⟩
                · rw [hb] at q1; cases q1
                rw [hb] at hb'; cases hb'
                by_cases hroom : xs.length + ys.length ≤ c.cp k
                · have hs1' := hs1
                  rw [← hsz] at hs1
                  have hfit : xs.length * ety.size + news.length ≤ cs.size := by
                    rw [hs2.1, hcs, ← Nat.add_mul]
                    exact Nat.mul_le_mul_right _ hroom
                  have hrun := run_append_room_src (P := P) w t tx o.type ty.elem i hsl hi b 0 xs.length (c.cp k) (a.eval y) ys.length news hs1 hroom (fun j hj => by
                    rw [cell_of_blk hh, hsz, Nat.zero_add, Array.getElem?_eq_getElem (by omega)]; rfl) (fun j hj => frozen_blk hh)
                  rw [hsz, Nat.zero_add] at hrun
                  obtain ⟨c', hR'⟩ := hR.extend (d := d) hob hb hs2 hroom o.dst
                  exact ⟨_, _, .inl (exec a w _ _ (by rw [hxv]; exact hrun)), c', hR'⟩
                · obtain ⟨olds, ho1, ho2⟩ := says_at (w := w) (g := b) (o := 0) (G := c.G) (e := ety.size) (ys := xs) hwd fun j x i y hx hy => by
                    obtain ⟨b', hb', _, _, h4⟩ := hR.row_elem hob hmem hx
                    rw [hb] at hb'
                    cases hb'
                    rw [Nat.zero_add]
                    exact h4 i y hy
                  have hold : (Builtin.firstCells i.size xs.length (.slice (some ⟨b, 0, none⟩) xs.length (c.cp k))).run P w.drew = .ok olds.toArray w.drew :=
                    run_firstCells_some w.drew i.size xs.length ⟨b, 0, none⟩ xs.length (c.cp k) olds (by rw [ho2.1, hsz]) (by simpa using ho1)
                  rw [← hsz] at hs1
                  obtain ⟨f1, f2⟩ := fits (xs.length + ys.length) (c.cp k) hlim (by omega)
                  have hrun := run_append_grow_src (P := P) w t tx o.type ty.elem i z hsl hi hz (some ⟨b, 0, none⟩) xs.length (c.cp k) olds hold (a.eval y) ys.length news hs1 (by omega) f1 f2
                  have hge := grownCap_ge w (xs.length + ys.length) (c.cp k) ty.elem
                  obtain ⟨c', hR'⟩ := hforget.newrow d ety.size (grownCap w (xs.length + ys.length) (c.cp k) ty.elem) own o.dst (zs := Builtin.zeroCells z.cells (grownCap w (xs.length + ys.length) (c.cp k) ty.elem - (xs.length + ys.length))) ty.elem (w.drawn + 1) (ho2.append hs2) (by rw [List.length_append]; omega) (by rw [zeroCells_size, hzs, List.length_append])
                  rw [hgen, appEq, List.length_append] at hR'
                  exact ⟨_, _, .inl (exec a w _ _ (by rw [hxv]; exact hrun)), c', hR'⟩
        case h_3 => simp [RM.val] at h
end Go.Eng
