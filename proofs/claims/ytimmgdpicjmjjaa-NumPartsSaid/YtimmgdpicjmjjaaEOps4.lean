/- The engine, part 6: stores. -/
import Derived.Test.YtimmgdpicjmjjaaEOps3
namespace Go.Eng
open Go.RowKit
set_option linter.unusedVariables false
set_option linter.unusedSimpArgs false
variable {ob : Obs} {c c' : Con} {w w' w0 : World} {S0 : Nat → Prop} {G0 G : Gh} {σ σ' : St} {a a' : Act} {P : Program}
/-- Cells set from a place on. -/
def setMany (cs : Array Value) : Nat → List Value → Array Value
  | _, [] => cs
  | o, v :: r => setMany (cs.setIfInBounds o v) (o + 1) r
theorem setMany_size : ∀ (vs : List Value) (cs : Array Value) (o : Nat), (setMany cs o vs).size = cs.size
  | [], _, _ => rfl
  | v :: r, cs, o => by simp [setMany, setMany_size r]
theorem setMany_get : ∀ (vs : List Value) (cs : Array Value) (o i : Nat), o + vs.length ≤ cs.size → (setMany cs o vs)[i]? = if o ≤ i ∧ i < o + vs.length then vs[i - o]? else cs[i]?
  | [], cs, o, i, h => by simp [setMany]; intro h1 h2; omega
  | v :: r, cs, o, i, h => by
    simp only [List.length_cons] at h
    rw [setMany, setMany_get r _ _ _ (by simp; omega)]
    by_cases e : i = o
    · subst e
      rw [if_neg (by omega), if_pos (by simp), Nat.sub_self, Array.getElem?_setIfInBounds_self_of_lt (by omega)]
      rfl
    · by_cases h2 : o + 1 ≤ i ∧ i < o + 1 + r.length
      · rw [if_pos h2, if_pos (by simp; omega)]
        obtain ⟨m, rfl⟩ : ∃ m, i = o + 1 + m := ⟨i - (o + 1), by omega⟩
        rw [show o + 1 + m - (o + 1) = m by omega, show o + 1 + m - o = m + 1 by omega]
        rfl
      · rw [if_neg h2, if_neg (by simp; omega)]
        rw [Array.getElem?_setIfInBounds_ne (fun h => e h.symm)]
theorem setCell_os (w : World) (x : Addr) (v : Value) : (w.setCell x v).os = w.os ∧ (w.setCell x v).tape = w.tape ∧ (w.setCell x v).output = w.output ∧ (w.setCell x v).heap.size = w.heap.size := by
  simp [World.setCell]
theorem setCells_os : ∀ (vs : List Value) (w : World) (b o : Nat), (w.setCells b o vs).os = w.os ∧ (w.setCells b o vs).tape = w.tape ∧ (w.setCells b o vs).output = w.output ∧ (w.setCells b o vs).heap.size = w.heap.size
  | [], _, _, _ => ⟨rfl, rfl, rfl, rfl⟩
  | v :: r, w, b, o => by
    obtain ⟨h1, h2, h3, h4⟩ := setCells_os r (w.setCell ⟨b, o, none⟩ v) b (o + 1)
    obtain ⟨g1, g2, g3, g4⟩ := setCell_os w ⟨b, o, none⟩ v
    exact ⟨h1.trans g1, h2.trans g2, h3.trans g3, h4.trans g4⟩
theorem setCells_other : ∀ (vs : List Value) (w : World) (b o k : Nat), k ≠ b → (w.setCells b o vs).heap[k]? = w.heap[k]?
  | [], _, _, _, _, _ => rfl
  | v :: r, w, b, o, k, h => by
    rw [World.setCells, setCells_other r _ b (o + 1) k h]
    exact Below.heap_setCell w ⟨b, o, none⟩ v k h
theorem setCells_self : ∀ (vs : List Value) (w : World) (b o : Nat) (cs : Array Value) (ty : TypeId), w.heap[b]? = some (.cells cs ty (0, 0)) → (w.setCells b o vs).heap[b]? = some (.cells (setMany cs o vs) ty (0, 0))
  | [], _, _, _, _, _, h => h
  | v :: r, w, b, o, cs, ty, h => by
    rw [World.setCells, setMany]
    refine setCells_self r _ b (o + 1) _ ty ?_
    have hb := (Array.getElem?_eq_some_iff.1 h).1
    simp only [World.setCell, Array.getElem?_modify, if_pos rfl, h, Option.map_some]
    simp
theorem frozen_blk {b i : Nat} {cs : Array Value} {ty : TypeId} (h : w.heap[b]? = some (.cells cs ty (0, 0))) : w.frozen? ⟨b, i, none⟩ = false := by simp [World.frozen?, h]
/-- A store of as many cells as the type has, into a block of one's own. -/
theorem run_store_gen {t b o : Nat} {ty : Ty} {v : Value} {cs : Array Value} {et : TypeId} (ht : TyOk P t ty) (hs : v.cells.size = ty.size) (h1 : v.cells.all (·.oneCell') = true) (hh : w.heap[b]? = some (.cells cs et (0, 0))) (hl : o + ty.size ≤ cs.size) :
    (Instr.storeAt t (.pointer (some ⟨b, o, none⟩)) v).run P w = .ok () (w.setCells b o v.cells.toList) := by
  obtain ⟨i, z, hi, hsz, _⟩ := ht.info
  have hst := run_storeCells_cells (P := P) b o v.cells.toList 0 w (fun j hj => by
      rw [cell_of_blk hh]
      have hj : j < v.cells.size := by simpa using hj
      rw [Array.getElem?_eq_getElem (by omega)]
      rfl) (fun j hj => frozen_blk hh) (fun u hu => by
      obtain ⟨i, hi, rfl⟩ := List.getElem_of_mem hu
      have := Array.all_eq_true.1 h1 i (by simpa using hi)
      simpa using this)
  simp only [Nat.add_zero] at hst
  have e : ¬ (v.cells.size ≠ i.size) := by rw [hs, hsz]; simp
  simp [Instr.storeAt, Instr.sureAddr, storeVar, sizeOf, typeInfo, hi, hst, hs, hsz]
/-- A thing's own block is written; nothing else changes. -/
theorem Rel.inplace (h : Rel w0 S0 G0 σ c a w) (k g : Nat) (o o' : AObj) (b : Nat) (hk : σ.ob k = (g, some o)) (ho : owned o = true) (ho' : owned o' = true) (hb : c.ρ k = some b) (d : Option Nat) (x : AV) (v : Value) (b' : Nat) (o1 : Nat) (vs : List Value) (hbb : b' = b)
    (hshape : (∀ n, rowLen (some o') = some n → rowLen (some o) = some n) ∧ (∀ e, rowE (some o') = some e → rowE (some o) = some e) ∧ (isVar (some o') = true → isVar (some o) = true))
    (hfree : ∀ i, o1 ≤ i → c.G b i = none)
    (hob : ∀ (ob' : Obs), ob' k = (g, some o') → (∀ q, Keeps σ.ob ob' c c q) → ObOk ob' c (w.setCells b' o1 vs) k o' ∧ RepAV ob' c x v) :
    Rel w0 S0 G0 (σ.app d ⟨x, [(k, g, some o')]⟩) c (a.put d v) (w.setCells b' o1 vs) := by
  subst hbb
  have eob := St.ob_app1 σ d x k (g, some o')
  have hkk : (σ.app d ⟨x, [(k, g, some o')]⟩).ob k = (g, some o') := by rw [eob, if_pos rfl]
  have hko : ∀ q, q ≠ k → (σ.app d ⟨x, [(k, g, some o')]⟩).ob q = σ.ob q := fun q hq => by rw [eob, if_neg (fun e => hq e.symm)]
  have hK : ∀ q, Keeps σ.ob (σ.app d ⟨x, [(k, g, some o')]⟩).ob c c q := fun q => by
    by_cases e : q = k
    · subst e
      right
      rw [hkk, hk]
      exact ⟨rfl, fun n hn => ⟨hshape.1 n hn, rfl, rfl⟩, fun e he => ⟨hshape.2.1 e he, rfl⟩, fun hv => ⟨hshape.2.2 hv, rfl⟩⟩
    · exact Keeps.same (hko q e) rfl rfl
  obtain ⟨h1, h2⟩ := hob _ hkk hK
  obtain ⟨s1, s2, s3, s4⟩ := setCells_os vs w b' o1
  have hbl := h.blk_lt hk ho hb
  refine h.step (Gh.le_refl _) hK (fun q i u hu => ?_) (by rw [St.len_app, Act.size_put]; exact h.sz) (slot_app h.sz d _ v h2) (by rw [Act.defers_put]; exact h.df) (fun q g' o2 hq => ?_) ?_ ?_ ?_ h.fresh
  · rw [World.cell?_setCells_out b' vs o1 w ⟨q, i, none⟩ (fun e _ => ?_)]
    · exact h.imm q i u hu
    · left
      have e : q = b' := e
      subst e
      rcases Nat.lt_or_ge i o1 with h | h
      · exact h
      · rw [hfree i h] at hu; cases hu
  · by_cases e : q = k
    · subst e
      rw [hkk] at hq
      cases hq
      exact .inr h1
    · rw [hko q e] at hq
      refine .inl ⟨hq, rfl, rfl, fun ho2 b2 hb2 => ⟨setCells_other vs w b' o1 b2 (fun e2 => ?_), fun _ => rfl⟩⟩
      subst e2
      exact e (h.sep q k g' g o2 o b2 hq hk ho2 ho hb2 hb)
  · intro q q' g1 g2 o2 o3 b2 hq hq' ho2 ho3 hb2 hb3
    by_cases e : q = k
    · by_cases e' : q' = k
      · rw [e, e']
      · subst e
        rw [hko q' e'] at hq'
        exact h.sep q q' g g2 o o3 b2 hk hq' ho ho3 hb2 hb3
    · by_cases e' : q' = k
      · subst e'
        rw [hko q e] at hq
        exact h.sep q q' g1 g o2 o b2 hq hk ho2 ho hb2 hb3
      · rw [hko q e] at hq
        rw [hko q' e'] at hq'
        exact h.sep q q' g1 g2 o2 o3 b2 hq hq' ho2 ho3 hb2 hb3
  · intro q g1 o2 b2 hq ho2 hb2
    by_cases e : q = k
    · subst e
      exact h.new q g o b2 hk ho hb2
    · rw [hko q e] at hq
      exact h.new q g1 o2 b2 hq ho2 hb2
  · refine ⟨s1.trans h.fr.os, s2.trans h.fr.tape, s3.trans h.fr.output, by rw [s4]; exact h.fr.size, fun q hq hs => ?_⟩
    have hne : q ≠ b' := fun e => by
      subst e
      rcases h.new k g o q hk ho hb with h3 | h3
      · omega
      · exact hs h3
    rw [setCells_other vs w b' o1 q hne]
    exact h.fr.block q hq hs
def absStore (tab : Nat → Option Ty) (t : Nat) (x y : Operand) : RM Eff := opnd x fun u => opnd y fun v => match tab t with
  | none => .fail
  | some ty => match u, v with
    | .one (.at (.ptr k g off)), .one z => if (v1cells z).length = ty.size then sureAll (v1cells z) (.obj k fun q => match gone g q with
        | some (.blk cells) => if off + ty.size ≤ cells.length then .ret ⟨.any, [(k, g, some (.blk (cells.take off ++ v1cells z ++ cells.drop (off + ty.size))))]⟩ else .fail
        | _ => .fail) else .fail
    | _, _ => .fail
theorem splice_get {α : Type} {cells l : List α} {off n i : Nat} {x : α} (hl : l.length = n) (h : off + n ≤ cells.length) (hx : (cells.take off ++ l ++ cells.drop (off + n))[i]? = some x) :
    (off ≤ i ∧ i < off + n ∧ l[i - off]? = some x) ∨ (¬ (off ≤ i ∧ i < off + n) ∧ cells[i]? = some x) := by
  have ht : (cells.take off).length = off := by rw [List.length_take]; omega
  by_cases h1 : i < off
  · right
    refine ⟨by omega, ?_⟩
    rw [List.append_assoc, List.getElem?_append_left (by omega), List.getElem?_take_of_lt h1] at hx
    exact hx
  · by_cases h2 : i < off + n
    · left
      refine ⟨by omega, h2, ?_⟩
      rw [List.append_assoc, List.getElem?_append_right (by omega), ht, List.getElem?_append_left (by omega)] at hx
      exact hx
    · right
      refine ⟨by omega, ?_⟩
      rw [List.append_assoc, List.getElem?_append_right (by omega), ht, List.getElem?_append_right (by omega), List.getElem?_drop, hl] at hx
      rw [show off + n + (i - off - n) = i by omega] at hx
      exact hx
theorem done_store {o : Oper} {tab : Nat → Option Ty} {t : Nat} {x y : Operand} {e : Eff} (htab : ∀ t ty, tab t = some ty → TyOk P t ty) (ho : o.op = .store t x y) (h : (absStore tab t x y).val σ = some e) : Done P w0 S0 G0 σ o e := by
  replace h := val_opnd h
  replace h := val_opnd h
  cases hty : tab t with
  | none => rw [hty] at h; simp [RM.val] at h
  | some ty =>
    rw [hty] at h
    have ht := htab t ty hty
    generalize hu : absO σ x = u at h
    generalize hv : absO σ y = v at h
    dsimp only at h
    split at h
    case h_2 => simp [RM.val] at h
    case h_1 k g off z =>
      split at h
      case isFalse => simp [RM.val] at h
      case isTrue hsz =>
        obtain ⟨h, h1⟩ := val_sureAll h
        simp only [RM.val] at h
        cases hq : gone g (σ.ob k) with
        | none => rw [hq] at h; simp [RM.val] at h
        | some ob1 =>
          have hob := gone_some hq
          rw [hq] at h
          cases ob1 with
          | row own e1 xs => simp [RM.val] at h
          | view e1 xs => simp [RM.val] at h
          | fro cells => simp [RM.val] at h
          | blk cells =>
            dsimp only at h
            split at h
            case isFalse => simp [RM.val] at h
            case isTrue hle =>
              simp only [RM.val, Option.some.injEq] at h
              subst h
              intro c a w hR
              have hx := hR.opnd x
              have hy := hR.opnd y
              rw [hu] at hx
              rw [hv] at hy
              obtain ⟨hg, hp⟩ := hx
              obtain ⟨b, hb, hva⟩ := hp (by rw [alive_of hob]; rfl)
              obtain ⟨b', cs, et, hb', hh, hl, hr, hgn⟩ := hR.obs k g _ hob
              rw [hb] at hb'; cases hb'
              obtain ⟨e1, e2, e3⟩ := cells_of_V1 (x := z) hy (fun z' hz v hv => h1 z' hz c v hv)
              refine ⟨undef, w.setCells b off (a.eval y).cells.toList, .inr ⟨?_, rfl⟩, c, ?_⟩
              · have := run_store_gen (P := P) (w := w) (o := off) ht (e1.trans hsz) e3 hh (by omega)
                simp [execOp, ho, hva, this]
              · refine hR.inplace k g (.blk cells) _ b hob rfl rfl hb o.dst .any undef b off _ rfl ⟨fun _ h => h, fun _ h => h, fun h => h⟩ (fun i _ => hgn i) fun ob' hob' hK => ⟨⟨b, _, et, hb, setCells_self _ w b off cs et hh, ?_, fun i x1 hx1 => ?_, hgn⟩, trivial⟩
                · rw [setMany_size, hl]; simp; omega
                · have hvl : (a.eval y).cells.toList.length = ty.size := by simp; omega
                  rw [Array.getD_eq_getD_getElem?, setMany_get _ cs off i (by omega)]
                  rcases splice_get hsz hle hx1 with ⟨q1, q2, q3⟩ | ⟨q1, q2⟩
                  · rw [if_pos (by omega)]
                    have := RepAt.keep (Gh.le_refl _) hK (e2 (i - off) x1 q3)
                    rw [Array.getD_eq_getD_getElem?] at this
                    simpa using this
                  · rw [if_neg (by omega)]
                    have := RepAt.keep (Gh.le_refl _) hK (hr i x1 q2)
                    rw [Array.getD_eq_getD_getElem?] at this
                    exact this
end Go.Eng
