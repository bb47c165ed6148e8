/- The engine, part 2: VOps19, VOps20, VOps21, VOps22. -/
import Derived.Laws.MakeOwn
import Derived.Laws.BytesString
import Derived.Test.YtiliffhopdiepaaGreatE1
namespace Go.E2
open Go.RowKit
set_option linter.unusedVariables false
set_option linter.unusedSimpArgs false
variable {ob : Obs} {c c' : Con} {w w' w0 : World} {S0 : Own} {G0 G : Gh} {σ σ' σ1 : St} {a a' : Act} {P : Program}
theorem lays_keep {us : List Upd} {k : Nat} (h : (us.any fun u => u.1 == k) = false) (σ : St) : (σ.lays us).ob k = σ.ob k := by
  rcases ob_lays us σ k with ⟨u, h1, h2, _⟩ | ⟨_, h2⟩
  · have : (us.any fun u => u.1 == k) = true := List.any_eq_true.2 ⟨u, h1, by simp [h2]⟩
    rw [h] at this; cases this
  · exact h2
theorem mul_in {j n e i : Nat} (hj : j < n) (hi : i < e) : j * e + i < n * e := by
  have : (j + 1) * e ≤ n * e := Nat.mul_le_mul_right e (by omega)
  rw [Nat.succ_mul] at this
  omega
theorem all_one {cs : Array Value} {ps : List PV} (hs : cs.size = ps.length) (hr : ∀ (i : Nat) (p : PV), ps[i]? = some p → Rep G p (cs.getD i undef)) : cs.all (·.oneCell') = true := by
  refine Array.all_eq_true.2 fun i hi => ?_
  obtain ⟨p, hp⟩ : ∃ p, ps[i]? = some p := ⟨ps[i]'(by omega), List.getElem?_eq_getElem (by omega)⟩
  have := rep_one (hr i p hp)
  rw [Array.getD_eq_getD_getElem?, Array.getElem?_eq_getElem hi] at this
  exact this
theorem take_get {α : Type} {l : List α} {n i : Nat} {x : α} (h : (l.take n)[i]? = some x) : l[i]? = some x := by
  rw [List.getElem?_take] at h
  split at h
  · exact h
  · cases h
def absStoreE (tab : Nat → Option Ty) (t : Nat) (x y : Operand) : RM Eff := opnd x fun u => match tab t with
  | none => .fail
  | some ty => match u with
    | .one (.at (.eptr k g j off)) => partsRM ty.es [(0, y)] 0 fun xss us => match xss with
      | [ps] => if ps.length = ty.size ∧ (us.any fun u => u.1 == k) = false then .obj k fun q => match gone g q with
          | some (.row true e xs) => match xs[j]? with
            | some x => if off + ty.size ≤ x.length then .ret ⟨.any, us ++ [(k, g, some (.row true e (xs.set j (x.take off ++ ps ++ x.drop (off + ty.size)))))]⟩ else .fail
            | none => .fail
          | _ => .fail
        else .fail
      | _ => .fail
    | _ => .fail
theorem done_storeE {o : Oper} {tab : Nat → Option Ty} {t : Nat} {x y : Operand} {e : Eff} (htab : ∀ t ty, tab t = some ty → TyOk P t ty) (ho : o.op = .store t x y) (h : (absStoreE tab t x y).val σ = some e) : Done P w0 S0 G0 σ o e := by
  replace h := val_opnd h
  cases hty : tab t with
  | none => rw [hty] at h; simp [RM.val] at h
  | some ty =>
    rw [hty] at h
    have ht := htab t ty hty
    generalize hu : absO σ x = u at h
    dsimp only at h
    split at h
    case h_2 => simp [RM.val] at h
    case h_1 k g j off =>
      obtain ⟨xss, us, h, hl, hm, H⟩ := val_partsRM h
      split at h
      case h_2 => simp [RM.val] at h
      case h_1 ps =>
        split at h
        case isFalse => simp [RM.val] at h
        case isTrue hso =>
          obtain ⟨hpl, hus⟩ := hso
          simp only [RM.val] at h
          split at h
          case h_2 => simp [RM.val] at h
          case h_1 e1 xs hq =>
            split at h
            case h_2 => simp [RM.val] at h
            case h_1 x1 hj =>
              split at h
              case isFalse => simp [RM.val] at h
              case isTrue hle =>
                simp only [RM.val, Option.some.injEq] at h
                subst h
                have hob := gone_some hq
                intro c a w hR
                have hx := hR.opnd x
                rw [hu] at hx
                obtain ⟨hg, hp⟩ := hx
                obtain ⟨b, hb, hva⟩ := hp e1 (by rw [alive_of hob]; rfl)
                obtain ⟨hF, HR⟩ := H σ (Frz.refl σ)
                obtain ⟨c1, hR1, g1, q1, q2, hv⟩ := HR w0 S0 G0 c a w hR
                obtain ⟨ps', hps, hsz, hrep⟩ := hv 0 (0, y) rfl
                cases hps
                have hsz : (a.eval y).cells.size = ps.length := hsz
                have hrep : ∀ (i : Nat) (p : PV), ps[i]? = some p → Rep c1.G p ((a.eval y).cells.getD i undef) := hrep
                have hob1 : (σ.lays us).ob k = (g, some (.row true e1 xs)) := by rw [lays_keep hus]; exact hob
                have hb1 : c1.ρ k = some b := by rw [q1]; exact hb
                have hjl := (List.getElem?_eq_some_iff.1 hj).1
                rcases hR1.obs k g _ hob1 with ⟨_, z, _⟩ | ⟨b', cs, et, hb', hh, hlc, hcs, hwd, hr, hgn⟩
                · rw [z] at hjl; simp at hjl
                rw [hb1] at hb'; cases hb'
                have hgn : ∀ o, c1.G b o = none := by simpa using hgn
                have hx1 := hwd j x1 hj
                have hvl : (a.eval y).cells.toList.length = ty.size := by simp only [Array.length_toList]; omega
                have hfit : j * e1 + off + ty.size ≤ cs.size := by
                  rw [hcs]
                  have : (j + 1) * e1 ≤ c1.cp k * e1 := Nat.mul_le_mul_right e1 (by omega)
                  rw [Nat.succ_mul] at this
                  omega
                refine ⟨undef, w.setCells b (j * e1 + off) (a.eval y).cells.toList, .inr ⟨?_, rfl⟩, c1, ?_⟩
                · have := run_store_gen (P := P) (w := w) (o := j * e1 + off) ht (by omega : (a.eval y).cells.size = ty.size) (all_one hsz hrep) hh hfit
                  simp [execOp, ho, hva, this]
                · have hin := hR1.inplace k g (.row true e1 xs) (.row true e1 (xs.set j (x1.take off ++ ps ++ x1.drop (off + ty.size)))) b hob1 rfl rfl hb1 o.dst .any undef b (j * e1 + off) (a.eval y).cells.toList rfl
                    ⟨fun n hn => by simpa [rowLen] using hn, fun _ h => h, fun h => h⟩ (fun i _ => hgn i) fun ob' hob' hK => ⟨.inr ⟨b, _, et, hb1, setCells_self _ w b (j * e1 + off) cs et hh, by simpa using hlc, by rw [setMany_size, hcs], fun j' x' hx' => ?_, fun j' x' i z hx' hz => ?_, by rw [if_pos rfl]; exact hgn⟩, trivial⟩
                  · have e5 : ((σ.lays us).app o.dst ⟨.any, [(k, g, some (.row true e1 (xs.set j (x1.take off ++ ps ++ x1.drop (off + ty.size)))))]⟩) = σ.app o.dst ⟨.any, us ++ [(k, g, some (.row true e1 (xs.set j (x1.take off ++ ps ++ x1.drop (off + ty.size)))))]⟩ := by
                      unfold St.app
                      dsimp only
                      rw [lays_append]
                    rw [e5] at hin
                    exact hin
                  · rw [List.getElem?_set] at hx'
                    split at hx'
                    · try (split at hx'; rotate_left; (cases hx'; done))
                      cases hx'
                      simp only [List.length_append, List.length_take, List.length_drop]
                      omega
                    · exact hwd j' x' hx'
                  · rw [Array.getD_eq_getD_getElem?, setMany_get _ cs _ _ (by omega)]
                    have old : ∀ x', xs[j']? = some x' → x'[i]? = some z → ¬ (j * e1 + off ≤ j' * e1 + i ∧ j' * e1 + i < j * e1 + off + (a.eval y).cells.toList.length) → Rep c1.G z ((if j * e1 + off ≤ j' * e1 + i ∧ j' * e1 + i < j * e1 + off + (a.eval y).cells.toList.length then (a.eval y).cells.toList[j' * e1 + i - (j * e1 + off)]? else cs[j' * e1 + i]?).getD undef) := fun x' h1 h2 h3 => by
                      rw [if_neg h3]
                      have := hr j' x' i z h1 h2
                      rw [Array.getD_eq_getD_getElem?] at this
                      exact this
                    rw [List.getElem?_set] at hx'
                    split at hx'
                    · rename_i hjj
                      subst hjj
                      try (split at hx'; rotate_left; (cases hx'; done))
                      cases hx'
                      rcases splice_get hpl (by omega) hz with ⟨z1, z2, z3⟩ | ⟨z1, z2⟩
                      · rw [if_pos (by omega), show j * e1 + i - (j * e1 + off) = i - off by omega]
                        have := hrep (i - off) z z3
                        rw [Array.getD_eq_getD_getElem?] at this
                        rw [Array.getElem?_toList]
                        exact this
                      · exact old x1 hj z2 (by omega)
                    · rename_i hne
                      refine old x' hx' hz ?_
                      have hi := (List.getElem?_eq_some_iff.1 hz).1
                      rw [hwd j' x' hx'] at hi
                      rcases Nat.lt_or_ge j' j with hlt | hge
                      · have : (j' + 1) * e1 ≤ j * e1 := Nat.mul_le_mul_right e1 (by omega)
                        rw [Nat.succ_mul] at this
                        omega
                      · have : (j + 1) * e1 ≤ j' * e1 := Nat.mul_le_mul_right e1 (by omega)
                        rw [Nat.succ_mul] at this
                        omega
theorem Rel.shrink (h : Rel w0 S0 G0 σ c a w) {k g e : Nat} {xs : List (List PV)} (hk : σ.ob k = (g, some (.row true e xs))) (n : Nat) : Rel w0 S0 G0 (σ.lays [(k, g + 1, some (.row true e (xs.take n)))]) c a w := by
  have hkk : (σ.lays [(k, g + 1, some (.row true e (xs.take n)))]).ob k = (g + 1, some (.row true e (xs.take n))) := by rw [ob_lays1, if_pos rfl]
  have hko : ∀ q, q ≠ k → (σ.lays [(k, g + 1, some (.row true e (xs.take n)))]).ob q = σ.ob q := fun q hq => by rw [ob_lays1, if_neg (fun e => hq e.symm)]
  have back : ∀ q g' o, (σ.lays [(k, g + 1, some (.row true e (xs.take n)))]).ob q = (g', some o) → ∃ g2 o2, σ.ob q = (g2, some o2) ∧ (owned o = true → owned o2 = true) := fun q g' o hq => by
    by_cases e1 : q = k
    · subst e1; exact ⟨g, _, hk, fun _ => rfl⟩
    · rw [hko q e1] at hq; exact ⟨g', o, hq, fun h => h⟩
  refine h.step (Gh.le_refl _) (fun q => ?_) h.imm h.sz (fun t => .inl ⟨rfl, rfl⟩) h.df (fun q g' o hq => ?_) (fun q q' g1 g2 o1 o2 b h1 h2 h3 h4 h5 h6 => ?_) (fun q g1 o1 b h1 h2 h3 => ?_) h.fr h.fresh
  · by_cases e1 : q = k
    · subst e1; left; rw [hkk, hk]; exact Nat.lt_succ_self _
    · exact Keeps.same (hko q e1) rfl rfl
  · by_cases e1 : q = k
    · subst e1
      rw [hkk] at hq
      cases hq
      right
      rcases h.obs q g _ hk with ⟨a1, a2, a3⟩ | ⟨b, cs, ty, a1, a2, a3, a4, a5, a6, a7⟩
      · exact .inl ⟨a1, by rw [a2]; simp, a3⟩
      · refine .inr ⟨b, cs, ty, a1, a2, by rw [List.length_take]; omega, a4, fun j x hx => a5 j x (take_get hx), fun j x i y hx hy => a6 j x i y (take_get hx) hy, a7⟩
    · rw [hko q e1] at hq
      exact .inl ⟨hq, rfl, rfl, fun _ b _ => ⟨rfl, fun _ => rfl⟩⟩
  · obtain ⟨g3, o3, z1, z2⟩ := back q g1 o1 h1
    obtain ⟨g4, o4, z3, z4⟩ := back q' g2 o2 h2
    exact h.sep q q' g3 g4 o3 o4 b z1 z3 (z2 h3) (z4 h4) h5 h6
  · obtain ⟨g3, o3, z1, z2⟩ := back q g1 o1 h1
    exact h.new q g3 o3 b z1 (z2 h2) h3
def absCut (tab : Nat → Option Ty) (t : Nat) (x : Operand) (lo hi : Option Operand) : RM Eff := opnd x fun u => opndInt lo fun l => opndInt hi fun h => match tab t with
  | none => .fail
  | some ty => if ty.str = true ∨ ty.elem = 0 then .fail else match tab ty.elem with
    | none => .fail
    | some ety => match u, l, h with
      | .one (.at (.row k g)), none, some h => if h < 0 then .fail else .obj k fun q => match gone g q with
        | some (.row true e xs) => if e = ety.size ∧ h ≤ xs.length then .ret ⟨.one (.at (.row k (g + 1))), [(k, g + 1, some (.row true e (xs.take h.toNat)))]⟩ else .fail
        | _ => .fail
      | .one (.at (.row k g)), some l, none => if l < 0 then .fail else .obj k fun q => match gone g q with
        | some (.row true e xs) => if e = ety.size ∧ l ≤ xs.length then .ret ⟨.one (.at (.tail k g l.toNat)), []⟩ else .fail
        | _ => .fail
      | _, _, _ => .fail
theorem done_cut {o : Oper} {tab : Nat → Option Ty} {t : Nat} {x : Operand} {lo hi : Option Operand} {e : Eff} (htab : ∀ t ty, tab t = some ty → TyOk P t ty) (ho : o.op = .slice t x lo hi none) (h : (absCut tab t x lo hi).val σ = some e) : Done P w0 S0 G0 σ o e := by
  replace h := val_opnd h
  have hx := fun c a w (hR : Rel w0 S0 G0 σ c a w) => hR.opnd x
  generalize absO σ x = u at h hx
  obtain ⟨l, h2, hl⟩ := val_opndInt h
  replace h := h2
  clear h2
  obtain ⟨hh, h2, hh2⟩ := val_opndInt h
  replace h := h2
  clear h2
  cases hty : tab t with
  | none => rw [hty] at h; simp [RM.val] at h
  | some ty =>
    rw [hty] at h
    have hT := htab t ty hty
    dsimp only at h
    split at h
    case isTrue => simp [RM.val] at h
    case isFalse he0 =>
      have he : ¬ ty.elem = 0 := fun h => he0 (.inr h)
      cases hety : tab ty.elem with
      | none => rw [hety] at h; simp [RM.val] at h
      | some ety =>
        rw [hety] at h
        have hE := htab _ ety hety
        obtain ⟨i, z, hinf, hsz, _⟩ := hE.info
        dsimp only at h
        split at h
        case h_3 => simp [RM.val] at h
        case h_1 k g n =>
          split at h
          case isTrue => simp [RM.val] at h
          case isFalse hkd =>
            simp only [RM.val] at h
            split at h
            case h_2 => simp [RM.val] at h
            case h_1 e1 xs hq =>
              split at h
              case isFalse => simp [RM.val] at h
              case isTrue hc =>
                obtain ⟨rfl, hn⟩ := hc
                simp only [RM.val, Option.some.injEq] at h
                subst h
                have hob := gone_some hq
                intro c a w hR
                have hv := (hx c a w hR).2 xs.length (by rw [alive_of hob]; rfl)
                have hcap : xs.length ≤ c.cp k ∧ (c.ρ k = none → xs = []) := by
                  rcases hR.obs k g _ hob with ⟨z1, z2, z3⟩ | ⟨b, cs, et, z1, z2, z3, _⟩
                  · exact ⟨by rw [z2]; simp, fun _ => z2⟩
                  · exact ⟨z3.1, fun h => by rw [z1] at h; cases h⟩
                have hS := hR.shrink hob n.toNat
                have hk1 : (σ.lays [(k, g + 1, some (.row true ety.size (xs.take n.toNat)))]).ob k = (g + 1, some (.row true ety.size (xs.take n.toNat))) := by rw [ob_lays1, if_pos rfl]
                have htl : (xs.take n.toNat).length = n.toNat := by rw [List.length_take]; omega
                refine ⟨rowVal (c.ρ k) n.toNat (c.cp k), w, .inl ?_, c, hS.setSlot o.dst (.one (.at (.row k (g + 1)))) _ ⟨by rw [hk1]; exact Nat.le_refl _, fun m hm => ?_⟩⟩
                · cases hρ : c.ρ k with
                  | none =>
                    have hxs := hcap.2 hρ
                    subst hxs
                    have hn0 : n = 0 := by simp at hn; omega
                    subst hn0
                    have hb := run_bounds (P := P) true 0 0 (Nat.le_refl _) a w (hl _ _ _ c a w hR) (hh2 _ _ _ c a w hR) (Int.le_refl 0) (Int.le_refl 0) (Int.le_refl 0)
                    rw [hρ] at hv
                    simp [execOp, ho, Instr.sliceAt, run_underlying (hT.slice he), Instr.slice, hv, rowVal, hb, sizeOf, typeInfo, hinf, hsz]
                  | some b =>
                    have hb := run_bounds (P := P) true xs.length (c.cp k) hcap.1 a w (hl _ _ _ c a w hR) (hh2 _ _ _ c a w hR) (Int.le_refl 0) (show (0 : Int) ≤ n by omega) (show n ≤ (xs.length : Int) from hn)
                    rw [hρ] at hv
                    by_cases hc0 : c.cp k = 0
                    · rw [hc0] at hb
                      simp [execOp, ho, Instr.sliceAt, run_underlying (hT.slice he), Instr.slice, hv, rowVal, hb, sizeOf, typeInfo, hinf, hsz, hc0]
                    · have hadd : ((⟨b, 0, none⟩ : Addr).add 0) = ⟨b, 0, none⟩ := by rw [Addr.add_mid]
                      simp [execOp, ho, Instr.sliceAt, run_underlying (hT.slice he), Instr.slice, hv, rowVal, hb, sizeOf, typeInfo, hinf, hsz, hc0, hadd]
                · rw [alive_of hk1] at hm
                  simp only [rowLen, Option.some.injEq] at hm
                  rw [← hm, htl]
        case h_2 k g n =>
          split at h
          case isTrue => simp [RM.val] at h
          case isFalse hkd =>
            simp only [RM.val] at h
            split at h
            case h_2 => simp [RM.val] at h
            case h_1 e1 xs hq =>
              split at h
              case isFalse => simp [RM.val] at h
              case isTrue hc =>
                obtain ⟨rfl, hn⟩ := hc
                simp only [RM.val, Option.some.injEq] at h
                subst h
                have hob := gone_some hq
                refine Done.pure fun c a w hR => ⟨tailVal (c.ρ k) (c.cp k) ety.size xs.length n.toNat, ?_, (hx c a w hR).1, fun m e2 hm he2 => ?_⟩
                · have hv := (hx c a w hR).2 xs.length (by rw [alive_of hob]; rfl)
                  have hcap : xs.length ≤ c.cp k ∧ (c.ρ k = none → xs = [] ∧ c.cp k = 0) := by
                    rcases hR.obs k g _ hob with ⟨z1, z2, z3⟩ | ⟨b, cs, et, z1, z2, z3, _⟩
                    · exact ⟨by rw [z2]; simp, fun _ => ⟨z2, z3⟩⟩
                    · exact ⟨z3.1, fun h => by rw [z1] at h; cases h⟩
                  cases hρ : c.ρ k with
                  | none =>
                    obtain ⟨hxs, hc0⟩ := hcap.2 hρ
                    subst hxs
                    have hn0 : n = 0 := by simp at hn; omega
                    subst hn0
                    have hb := run_bounds (P := P) true 0 0 (Nat.le_refl _) a w (hl _ _ _ c a w hR) (hh2 _ _ _ c a w hR) (Int.le_refl 0) (Int.le_refl 0) (Int.le_refl 0)
                    rw [hρ] at hv
                    simp [execOp, ho, Instr.sliceAt, run_underlying (hT.slice he), Instr.slice, hv, rowVal, hb, sizeOf, typeInfo, hinf, hsz, tailVal]
                  | some b =>
                    have hb := run_bounds (P := P) true xs.length (c.cp k) hcap.1 a w (hl _ _ _ c a w hR) (hh2 _ _ _ c a w hR) (show (0 : Int) ≤ n by omega) (show n ≤ (xs.length : Int) from hn) (Int.le_refl _)
                    rw [hρ] at hv
                    by_cases hc0 : c.cp k = n.toNat
                    · rw [hc0] at hb
                      simp [execOp, ho, Instr.sliceAt, run_underlying (hT.slice he), Instr.slice, hv, rowVal, hb, sizeOf, typeInfo, hinf, hsz, hc0, tailVal]
                    · have hadd : ((⟨b, 0, none⟩ : Addr).add (n.toNat * ety.size)) = ⟨b, n.toNat * ety.size, none⟩ := by rw [Addr.add_mid]; simp
                      simp [execOp, ho, Instr.sliceAt, run_underlying (hT.slice he), Instr.slice, hv, rowVal, hb, sizeOf, typeInfo, hinf, hsz, hc0, tailVal, hadd]
                · rw [alive_of hob] at hm he2
                  cases hm; cases he2
                  rfl
def zeroPVs : List Nat → List At → Option (List PV)
  | _, [] => some []
  | es, .pv p :: l => (zeroPVs es.tail l).map (p :: ·)
  | es, .nil :: l => (zeroPVs es.tail l).map (PV.list (es.headD 0) [] :: ·)
  | _, _ => none
theorem zeroPVs_rep {G : Gh} : ∀ {es : List Nat} {vs : List Value} {ps : List PV}, zeroPVs es (vs.map constAt) = some ps → ps.length = vs.length ∧ ∀ (i : Nat) (p : PV) (v : Value), ps[i]? = some p → vs[i]? = some v → Rep G p v
  | es, [], ps, h => by cases h; exact ⟨rfl, fun i p v h => by simp at h⟩
  | es, v :: vs, ps, h => by
    rw [List.map_cons] at h
    generalize hu : constAt v = u at h
    have hr := rep_constAt (ob := fun _ => (0, none)) (c := ⟨fun _ => none, fun _ => 0, G⟩) v
    rw [hu] at hr
    unfold zeroPVs at h
    split at h
    · rename_i he; cases he
    · rename_i p l he
      cases he
      obtain ⟨ps', h1, rfl⟩ := Option.map_eq_some_iff.1 h
      obtain ⟨h2, h3⟩ := zeroPVs_rep (G := G) h1
      refine ⟨by simp [h2], fun i q v' hq hv => ?_⟩
      cases i with
      | zero => cases hq; cases hv; exact hr
      | succ i => exact h3 i q v' hq hv
    · rename_i l he
      cases he
      obtain ⟨ps', h1, rfl⟩ := Option.map_eq_some_iff.1 h
      obtain ⟨h2, h3⟩ := zeroPVs_rep (G := G) h1
      refine ⟨by simp [h2], fun i q v' hq hv => ?_⟩
      cases i with
      | zero =>
        cases hq; cases hv
        have hr : v = .slice none 0 0 := hr
        rw [hr]
        exact .nil _ _ _
      | succ i => exact h3 i q v' hq hv
    · cases h
def absClear (tab : Nat → Option Ty) (t : Nat) (x : Operand) : RM Eff := opnd x fun u => match tab t with
  | none => .fail
  | some ty => if ty.elem = 0 then .fail else match tab ty.elem with
    | none => .fail
    | some ety => match zeroPVs ety.es ety.zero, u with
      | some zs, .one (.at (.tail k g j)) => .obj k fun q => match gone g q with
        | some (.row true e xs) => if e = ety.size ∧ j ≤ xs.length then .ret ⟨.tup [], [(k, g, some (.row true e (xs.take j ++ List.replicate (xs.length - j) zs)))]⟩ else .fail
        | _ => .fail
      | _, _ => .fail
theorem zeroCells_get (z : Array Value) (n i : Nat) (h : i < n * z.size) : (Builtin.zeroCells z n).toList[i]? = z[i % z.size]? := by
  have hz : 0 < z.size := by
    rcases Nat.eq_zero_or_pos z.size with h0 | h0
    · rw [h0, Nat.mul_zero] at h; omega
    · exact h0
  have hm := Nat.mod_lt i hz
  simp [Builtin.zeroCells, h, hm]
theorem done_clear {o : Oper} {tab : Nat → Option Ty} {cl : Call} {t : Nat} {x : Operand} {e : Eff} (htab : ∀ t ty, tab t = some ty → TyOk P t ty) (ho : o.op = .call cl) (hc : cl.callee = .builtin .clear) (ha : cl.args = #[x]) (ht : cl.argTypes = #[t])
    (h : (absClear tab t x).val σ = some e) : Done P w0 S0 G0 σ o e := by
  replace h := val_opnd h
  cases hty : tab t with
  | none => rw [hty] at h; simp [RM.val] at h
  | some ty =>
    rw [hty] at h
    have hT := htab t ty hty
    have hx := fun c a w (hR : Rel w0 S0 G0 σ c a w) => hR.opnd x
    generalize absO σ x = u at h hx
    dsimp only at h
    split at h
    case isTrue => simp [RM.val] at h
    case isFalse he =>
      cases hety : tab ty.elem with
      | none => rw [hety] at h; simp [RM.val] at h
      | some ety =>
        rw [hety] at h
        have hE := htab _ ety hety
        obtain ⟨i, z, hinf, hsz, hby, hz, hzc, hzs, hz1⟩ := hE.info
        dsimp only at h
        split at h
        case h_2 => simp [RM.val] at h
        case h_1 zs k g j hzp =>
          simp only [RM.val] at h
          split at h
          case h_2 => simp [RM.val] at h
          case h_1 e1 xs hq =>
            split at h
            case isFalse => simp [RM.val] at h
            case isTrue hcc =>
              obtain ⟨rfl, hj⟩ := hcc
              simp only [RM.val, Option.some.injEq] at h
              subst h
              have hob := gone_some hq
              intro c a w hR
              have hv := (hx c a w hR).2 xs.length ety.size (by rw [alive_of hob]; rfl) (by rw [alive_of hob]; rfl)
              have hval : RepAV (σ.app o.dst ⟨.tup [], [(k, g, some (.row true ety.size (xs.take j ++ List.replicate (xs.length - j) zs)))]⟩).ob c (.tup []) (.tuple #[]) := ⟨#[], rfl, rfl, fun i x hx => by simp at hx⟩
              rw [← hzc] at hzp
              by_cases hn : xs.length - j = 0
              · refine ⟨.tuple #[], w, .inl ?_, c, ?_⟩
                · have : ∃ A cap, a.eval x = .slice A 0 cap := by
                    rw [hv]
                    unfold tailVal
                    rw [hn]
                    cases c.ρ k with
                    | none => exact ⟨_, _, rfl⟩
                    | some b => exact ⟨_, _, rfl⟩
                  obtain ⟨A, cap, e1⟩ := this
                  cases A <;> simp [execOp, ho, resolve, hc, ha, ht, invoke, builtin, Builtin.clear_, run_underlying (hT.slice he), e1]
                · have e2 : xs.take j ++ List.replicate (xs.length - j) zs = xs := by rw [hn, List.take_of_length_le (by omega)]; simp
                  rw [e2]
                  have h1 := hR.setSlot o.dst (.tup []) (.tuple #[]) ⟨#[], rfl, rfl, fun i x hx => by simp at hx⟩
                  refine h1.congr ?_ fun q => ?_
                  · unfold St.app St.put St.lays
                    cases o.dst <;> rfl
                  · rw [St.ob_app1, St.ob_put]
                    split
                    · rename_i e3; subst e3; exact hob.symm
                    · rfl
              · rcases hR.obs k g _ hob with ⟨_, z2, _⟩ | ⟨b, cs, et, hb, hh, hlc, hcs, hwd, hr, hgn⟩
                · rw [z2] at hn; simp at hn
                have hgn : ∀ o, c.G b o = none := by simpa using hgn
                rw [hb] at hv
                have hvv : a.eval x = .slice (some ⟨b, j * ety.size, none⟩) (xs.length - j) (c.cp k - j) := by
                  rw [hv]
                  show Value.slice (some ⟨b, if c.cp k = j then 0 else j * ety.size, none⟩) _ _ = _
                  rw [if_neg (by omega)]
                obtain ⟨m, hm⟩ : ∃ m, xs.length - j = m + 1 := ⟨xs.length - j - 1, by omega⟩
                have hlen : (Builtin.zeroCells z.cells (xs.length - j)).toList.length = (xs.length - j) * ety.size := by rw [Array.length_toList, zeroCells_size, hzs]
                have hfit : j * ety.size + (xs.length - j) * ety.size ≤ cs.size := by
                  rw [hcs, ← Nat.add_mul]
                  exact Nat.mul_le_mul_right _ (by omega)
                have hst := run_storeCells_cells (P := P) b (j * ety.size) (Builtin.zeroCells z.cells (xs.length - j)).toList 0 w (fun q hq => by
                    rw [cell_of_blk hh, Nat.add_zero, Array.getElem?_eq_getElem (by omega)]
                    rfl) (fun q hq => frozen_blk hh) (fun u hu => by
                    obtain ⟨q, hq, rfl⟩ := List.getElem_of_mem hu
                    have hq' : q < (xs.length - j) * z.cells.size := by rw [hzs]; omega
                    have e3 := zeroCells_get z.cells (xs.length - j) q hq'
                    rw [List.getElem?_eq_getElem hq] at e3
                    have hmm := (Array.getElem?_eq_some_iff.1 e3.symm).1
                    rw [Array.getElem?_eq_getElem hmm] at e3
                    have := Array.all_eq_true.1 hz1 _ hmm
                    rw [← Option.some.inj e3] at this
                    exact this)
                rw [Nat.add_zero] at hst
                refine ⟨.tuple #[], w.setCells b (j * ety.size) (Builtin.zeroCells z.cells (xs.length - j)).toList, .inl ?_, c, ?_⟩
                · rw [hm] at hst
                  rw [hm] at hvv
                  rw [hm]
                  simp [execOp, ho, resolve, hc, ha, ht, invoke, builtin, Builtin.clear_, run_underlying (hT.slice he), hvv, zeroValue, typeInfo, hinf, hz, hst]
                · have hps := zeroPVs_rep (G := c.G) hzp
                  refine hR.inplace k g (.row true ety.size xs) _ b hob rfl rfl hb o.dst (.tup []) (.tuple #[]) b (j * ety.size) _ rfl ⟨fun n hn => by
                      simp only [rowLen, Option.some.injEq, List.length_append, List.length_take, List.length_replicate] at hn ⊢
                      omega, fun _ h => h, fun h => h⟩ (fun i _ => hgn i) fun ob' hob' hK => ⟨.inr ⟨b, _, et, hb, setCells_self _ w b (j * ety.size) cs et hh, by
                        simp only [List.length_append, List.length_take, List.length_replicate]
                        omega, by rw [setMany_size, hcs], fun j' x' hx' => ?_, fun j' x' i z' hx' hz' => ?_, by rw [if_pos rfl]; exact hgn⟩, ⟨#[], rfl, rfl, fun i x hx => by simp at hx⟩⟩
                  · rw [List.getElem?_append] at hx'
                    split at hx'
                    · exact hwd j' x' (take_get hx')
                    · have hx1 := List.mem_of_getElem? hx'
                      obtain rfl := (List.mem_replicate.1 hx1).2
                      rw [hps.1, Array.length_toList, hzs]
                  · have hjl : (xs.take j).length = j := by rw [List.length_take]; omega
                    rw [Array.getD_eq_getD_getElem?, setMany_get _ cs _ _ (by omega)]
                    rw [List.getElem?_append] at hx'
                    split at hx'
                    · rename_i hlt
                      have hx2 := take_get hx'
                      have hi := (List.getElem?_eq_some_iff.1 hz').1
                      rw [hwd j' x' hx2] at hi
                      have := mul_in (j := j') (n := j) (e := ety.size) (i := i) (by omega) hi
                      rw [if_neg (by omega)]
                      have := hr j' x' i z' hx2 hz'
                      rw [Array.getD_eq_getD_getElem?] at this
                      exact this
                    · rename_i hge
                      have hjj := (List.getElem?_eq_some_iff.1 hx').1
                      have hx1 := List.mem_of_getElem? hx'
                      obtain rfl := (List.mem_replicate.1 hx1).2
                      simp only [List.length_replicate] at hjj
                      have hi := (List.getElem?_eq_some_iff.1 hz').1
                      rw [hps.1, Array.length_toList, hzs] at hi
                      obtain ⟨q, rfl⟩ : ∃ q, j' = j + q := ⟨j' - j, by omega⟩
                      have := mul_in (j := q) (n := xs.length - j) (e := ety.size) (i := i) (by omega) hi
                      have e4 : (j + q) * ety.size + i = j * ety.size + (q * ety.size + i) := by rw [Nat.add_mul]; omega
                      rw [e4, if_pos (by omega), show j * ety.size + (q * ety.size + i) - j * ety.size = q * ety.size + i by omega]
                      rw [zeroCells_get z.cells _ _ (by rw [hzs]; exact this), hzs, Nat.mul_comm q, Nat.mul_add_mod, Nat.mod_eq_of_lt hi]
                      have hzi : z.cells[i]? = some (z.cells[i]'(by omega)) := Array.getElem?_eq_getElem (by omega)
                      rw [hzi]
                      exact hps.2 i z' _ hz' (by rw [Array.getElem?_toList]; exact hzi)
end Go.E2
namespace Go.E2
open Go.RowKit
set_option linter.unusedVariables false
set_option linter.unusedSimpArgs false
variable {ob : Obs} {c c' : Con} {w w' w0 : World} {S0 : Own} {G0 G : Gh} {σ σ' σ1 : St} {a a' : Act} {P : Program}
structure MapFacts (P : Program) (t kt vt : TypeId) : Prop where
  ty : P.underlying t = some (.map kt vt)
  key : ∃ F, P.underlying kt = some (.struct F)
  check : ∀ em d (w : World), (Instr.checkKey em 10000 kt (keyV d)).run P w = .ok () w
  eq : ∀ d d' (w : World), (Op.equal kt (keyV d) (keyV d')).run P w = .ok (decide (d = d')) w
  zero : ∀ (w : World), (zeroValue vt).run P w = .ok (.bool false) w
theorem run_eq_key {kt : TypeId} (hT : TagsOk P kt [.i, .i, .i]) (d d' : D3) (w : World) : (Op.equal kt (keyV d) (keyV d')).run P w = .ok (decide (d = d')) w := by
  obtain ⟨F, hF⟩ := hT.isRow
  have htd := hT.tags
  have hFo : P.fieldsOf kt = F := by unfold Program.fieldsOf; rw [hF]
  have htF : ∃ hp : P.stoodInHeld kt = false, tagsF P (tagsD P 59) F.toList 0 = some [.i, .i, .i] := by
    rw [tagsD, hF] at htd
    dsimp only at htd
    split at htd
    · rename_i hp; exact ⟨hp, htd⟩
    · cases htd
  obtain ⟨hp, htF⟩ := htF
  have rep : ∀ d : D3, CellsRep (fun _ _ => none) [.int .i64 d.1, .int .i64 d.2.1, .int .i64 d.2.2] #[.int .i64 d.1, .int .i64 d.2.1, .int .i64 d.2.2] 0 := fun d i p hp => by
    match i, hp with
    | 0, hp => cases hp; exact ⟨_, rfl, .int _ _⟩
    | 1, hp => cases hp; exact ⟨_, rfl, .int _ _⟩
    | 2, hp => cases hp; exact ⟨_, rfl, .int _ _⟩
  have he : eqTags [.i, .i, .i] [.int .i64 d.1, .int .i64 d.2.1, .int .i64 d.2.2] [.int .i64 d'.1, .int .i64 d'.2.1, .int .i64 d'.2.2] = some (decide (d = d')) := by
    obtain ⟨a, b, c⟩ := d
    obtain ⟨a', b', c'⟩ := d'
    simp only [eqTags, if_true, Option.map_some, Option.some.injEq, Prod.mk.injEq]
    by_cases h1 : a = a' <;> by_cases h2 : b = b' <;> by_cases h3 : c = c' <;> simp [h1, h2, h3]
  unfold Op.equal
  show (Op.equalIn 10000 kt (.agg _) (.agg _)).run P w = _
  rw [run_equalIn_agg w 9999 kt _ _ (by rw [hFo]; exact hF) hp, hFo]
  exact run_tagsF (run_tagsD 59) 9999 F.toList 0 _ _ _ _ _ _ (by omega) htF he (rep d) (rep d')
def MapOk (P : Program) (t : TypeId) : Prop := ∃ kt vt, MapFacts P t kt vt
section
variable {t kt vt : TypeId}
theorem find_key (hM : MapFacts P t kt vt) (d : D3) (w : World) : ∀ (es : List MapEntry) (ds : List D3) (i : Nat), es.map (fun e => (e.key, e.val)) = ds.map (fun d => (keyV d, Value.bool true)) →
    (d ∉ ds ∧ (Instr.findAsking kt (keyV d) es i).run P w = .ok none w) ∨
    (d ∈ ds ∧ ∃ j e, es[j]? = some e ∧ e.key = keyV d ∧ (Instr.findAsking kt (keyV d) es i).run P w = .ok (some (i + j, .bool true)) w)
  | [], [], _, _ => .inl ⟨by simp, rfl⟩
  | [], _ :: _, _, h => by cases h
  | _ :: _, [], _, h => by cases h
  | e :: es, s :: ds, i, h => by
    simp only [List.map_cons, List.cons.injEq, Prod.mk.injEq] at h
    obtain ⟨⟨hk, hv⟩, hr⟩ := h
    have he : (Op.equal kt (keyV d) e.key).run P w = .ok (decide (d = s)) w := by rw [hk]; exact hM.eq d s w
    by_cases hq : d = s
    · subst hq
      refine .inr ⟨.head _, 0, e, rfl, hk, ?_⟩
      simp [Instr.findAsking, he, hv, Result.andThen]
    · have hs : (Instr.findAsking kt (keyV d) (e :: es) i).run P w = (Instr.findAsking kt (keyV d) es (i + 1)).run P w := by
        simp [Instr.findAsking, he, hq, Result.andThen]
      rw [hs]
      rcases find_key hM d w es ds (i + 1) hr with ⟨h1, h2⟩ | ⟨h1, j, e', h2, h3, h4⟩
      · exact .inl ⟨by simp [hq, h1], h2⟩
      · exact .inr ⟨.tail _ h1, j + 1, e', by simpa using h2, h3, by rw [h4, show i + 1 + j = i + (j + 1) by omega]⟩
theorem findKey_key (hM : MapFacts P t kt vt) (d : D3) (w : World) (es : List MapEntry) (ds : List D3) (h : es.map (fun e => (e.key, e.val)) = ds.map (fun d => (keyV d, Value.bool true))) :
    (Instr.findKey kt (keyV d) es).run P w = (Instr.findAsking kt (keyV d) es 0).run P w := by
  obtain ⟨F, hF⟩ := hM.key
  cases es with
  | nil => simp [Instr.findKey, run_underlying hF, Instr.findNow, Instr.findAsking, Result.andThen]
  | cons e es => simp [Instr.findKey, run_underlying hF, Instr.findNow, Instr.sameNow, Result.andThen]
theorem run_lookup (hM : MapFacts P t kt vt) {r : Nat} {es : Array MapEntry} {clock : Nat} {ds : List D3} (hb : w.heap[r]? = some (.map es clock)) (hes : MapIs ds es) (d : D3) :
    (Instr.lookup t (.map (some r)) (keyV d) false).run P w = .ok (.bool (decide (d ∈ ds))) w := by
  have hf := findKey_key hM d w es.toList ds hes
  have hc := hM.check es.isEmpty d w
  have hg : (getObj r).run P w = .ok (.map es clock) w := by simp [getObj, Sem.run, hb]
  rcases find_key hM d w es.toList ds 0 hes with ⟨h1, h2⟩ | ⟨h1, j, e, h2, h3, h4⟩
  · rw [h2] at hf
    simp [Instr.lookup, run_underlying hM.ty, hg, hc, hf, Result.andThen, hM.zero w, h1]
  · rw [h4] at hf
    simp [Instr.lookup, run_underlying hM.ty, hg, hc, hf, Result.andThen, h1]
def addD (ds : List D3) (d : D3) : List D3 := if d ∈ ds then ds else ds ++ [d]
theorem run_update (hM : MapFacts P t kt vt) {r : Nat} {es : Array MapEntry} {clock : Nat} {ds : List D3} (hb : w.heap[r]? = some (.map es clock)) (hes : MapIs ds es) (d : D3) :
    ∃ es' clock', (Instr.mapUpdate t (.map (some r)) (keyV d) (.bool true)).run P w = .ok () { w with heap := w.heap.setIfInBounds r (.map es' clock') } ∧ MapIs (addD ds d) es' := by
  have hf := findKey_key hM d w es.toList ds hes
  have hc := hM.check false d w
  have hg : (getObj r).run P w = .ok (.map es clock) w := by simp [getObj, Sem.run, hb]
  have hs : ∀ o, (setObj r o).run P w = .ok () { w with heap := w.heap.setIfInBounds r o } := fun o => by simp [setObj, Sem.run, hb]
  rcases find_key hM d w es.toList ds 0 hes with ⟨h1, h2⟩ | ⟨h1, j, e, h2, h3, h4⟩
  · rw [h2] at hf
    refine ⟨es.push ⟨keyV d, .bool true, clock⟩, clock + 1, ?_, ?_⟩
    · simp [Instr.mapUpdate, run_underlying hM.ty, hg, hc, hf, hs, Result.andThen]
    · unfold addD MapIs at *
      rw [if_neg h1, Array.toList_push, List.map_append, List.map_append, hes]
      rfl
  · rw [h4] at hf
    have hk : (Instr.keyThatStays e.key (keyV d)).run P w = .ok (keyV d) w := by
      rw [h3]
      have hsb : Instr.sameBits 10000 (keyV d) (keyV d) = true := by
        show Instr.sameBits (9999 + 1) (keyV d) (keyV d) = true
        simp [keyV, Instr.sameBits]
      simp [Instr.keyThatStays, hsb]
    have hj : es[j]? = some e := by rw [← Array.getElem?_toList]; exact h2
    refine ⟨es.modify j fun e => { e with key := keyV d, val := .bool true }, clock, ?_, ?_⟩
    · have hjl : j < es.size := (Array.getElem?_eq_some_iff.1 hj).1
      simp [Instr.mapUpdate, run_underlying hM.ty, hg, hc, hf, hj, hk, hs, Result.andThen]
    · unfold addD MapIs at *
      rw [if_pos h1, ← hes]
      apply List.ext_getElem?
      intro i
      rw [List.getElem?_map, List.getElem?_map, Array.getElem?_toList, Array.getElem?_toList, Array.getElem?_modify]
      split
      · rename_i hij
        subst hij
        rw [hj]
        have hv : e.val = .bool true := by
          have h5 : (es.toList.map fun e => (e.key, e.val))[j]? = some (e.key, e.val) := by rw [List.getElem?_map, h2]; rfl
          rw [hes, List.getElem?_map] at h5
          obtain ⟨z, hz, hz2⟩ := Option.map_eq_some_iff.1 h5
          exact (Prod.mk.inj hz2).2.symm
        simp [h3, hv]
      · rfl
end
theorem Rel.swap (h : Rel w0 S0 G0 σ c a w) (k g : Nat) (o o' : AObj) (b : Nat) (hk : σ.ob k = (g, some o)) (ho : owned o = true) (ho' : owned o' = true) (hb : c.ρ k = some b) (d : Option Nat) (x : AV) (v : Value) (w' : World)
    (hos : w'.os = w.os) (htape : w'.tape = w.tape) (hout : w'.output = w.output) (hsz : w'.heap.size = w.heap.size) (hdr : w'.drawn = w.drawn) (hoth : ∀ q, q ≠ b → w'.heap[q]? = w.heap[q]?)
    (hshape : (∀ n, rowLen (some o') = some n → rowLen (some o) = some n) ∧ (∀ e, rowE (some o') = some e → rowE (some o) = some e) ∧ (isVar (some o') = true → isVar (some o) = true))
    (hfree : ∀ i, c.G b i = none)
    (hob : ∀ (ob' : Obs), ob' k = (g, some o') → (∀ q, Keeps σ.ob ob' c c q) → ObOk ob' c w' k o' ∧ RepAV ob' c x v) :
    Rel w0 S0 G0 (σ.app d ⟨x, [(k, g, some o')]⟩) c (a.put d v) w' := by
  have eob := St.ob_app1 σ d x k (g, some o')
  have hkk : (σ.app d ⟨x, [(k, g, some o')]⟩).ob k = (g, some o') := by rw [eob, if_pos rfl]
  have hko : ∀ q, q ≠ k → (σ.app d ⟨x, [(k, g, some o')]⟩).ob q = σ.ob q := fun q hq => by rw [eob, if_neg (fun e => hq e.symm)]
  have hK : ∀ q, Keeps σ.ob (σ.app d ⟨x, [(k, g, some o')]⟩).ob c c q := fun q => by
    by_cases e : q = k
    · subst e
      right
      rw [hkk, hk]
      exact ⟨rfl, fun n hn => ⟨hshape.1 n hn, rfl, rfl⟩, fun e he => ⟨hshape.2.1 e he, rfl⟩, fun hv => ⟨hshape.2.2 hv, rfl⟩⟩
    · exact Keeps.same (hko q e) rfl rfl
  obtain ⟨h1, h2⟩ := hob _ hkk hK
  have hbl := h.blk_lt hk ho hb
  refine h.step (Gh.le_refl _) hK (fun q i u hu => ?_) (by rw [St.len_app, Act.size_put]; exact h.sz) (slot_app h.sz d _ v h2) (by rw [Act.defers_put]; exact h.df) (fun q g' o2 hq => ?_) ?_ ?_ ?_ h.fresh
  · have hne : q ≠ b := fun e => by rw [e, hfree] at hu; cases hu
    have := h.imm q i u hu
    unfold World.cell? at this ⊢
    dsimp only at this ⊢
    rw [hoth q hne]
    exact this
  · by_cases e : q = k
    · subst e
      rw [hkk] at hq
      cases hq
      exact .inr h1
    · rw [hko q e] at hq
      refine .inl ⟨hq, rfl, rfl, fun ho2 b2 hb2 => ⟨hoth b2 (fun e2 => ?_), fun _ => rfl⟩⟩
      subst e2
      exact e (h.sep q k g' g o2 o b2 hq hk ho2 ho hb2 hb)
  · intro q q' g1 g2 o2 o3 b2 hq hq' ho2 ho3 hb2 hb3
    by_cases e : q = k
    · by_cases e' : q' = k
      · rw [e, e']
      · subst e
        rw [hko q' e'] at hq'
        exact h.sep q q' g g2 o o3 b2 hk hq' ho ho3 hb2 hb3
    · by_cases e' : q' = k
      · subst e'
        rw [hko q e] at hq
        exact h.sep q q' g1 g o2 o b2 hq hk ho2 ho hb2 hb3
      · rw [hko q e] at hq
        rw [hko q' e'] at hq'
        exact h.sep q q' g1 g2 o2 o3 b2 hq hq' ho2 ho3 hb2 hb3
  · intro q g1 o2 b2 hq ho2 hb2
    by_cases e : q = k
    · subst e
      exact h.new q g o b2 hk ho hb2
    · rw [hko q e] at hq
      exact h.new q g1 o2 b2 hq ho2 hb2
  · refine ⟨hos.trans h.fr.os, htape.trans h.fr.tape, hout.trans h.fr.output, by rw [hsz]; exact h.fr.size, fun q hq hs => ?_, by rw [hdr]; exact h.fr.drawn⟩
    have hne : q ≠ b := fun e => by
      subst e
      rcases h.new k g o q hk ho hb with h3 | h3
      · omega
      · exact hs h3
    rw [hoth q hne]
    exact h.fr.block q hq hs
def absMakeMap (mps : Nat → Bool) (t : Nat) (d : Option Nat) : RM Eff := match d with
  | some d => if mps t = true then .obj d fun q => .ret ⟨.one (.at (.ptr d (q.1 + 1) cloN)), [(d, q.1 + 1, some (.map []))]⟩ else .fail
  | none => .fail
theorem pval_map (b : Nat) : pval b cloN = .map (some b) := by
  unfold pval
  rw [if_neg (Nat.lt_irrefl _), if_pos (by decide)]
theorem done_makeMap {o : Oper} {mps : Nat → Bool} {t : Nat} {e : Eff} (ho : o.op = .makeMap t none) (h : (absMakeMap mps t o.dst).val σ = some e) : Done P w0 S0 G0 σ o e := by
  unfold absMakeMap at h
  split at h
  case h_2 => simp [RM.val] at h
  case h_1 d hd =>
    split at h
    case isFalse => simp [RM.val] at h
    simp only [RM.val, Option.some.injEq] at h
    subst h
    intro c a w hR
    refine ⟨.map (some w.heap.size), { w with heap := w.heap.push (.map #[] 0), drawn := w.drawn }, .inl ?_, ?_⟩
    · simp [execOp, ho, Instr.makeMap, newObj, Sem.run]
    · rw [hd]
      refine hR.freshX d (.map []) 0 (.map #[] 0) w.drawn (Nat.le_refl _) (some d) _ _ fun ob' c' h1 hK hG h2 h3 h4 => ⟨⟨w.heap.size, #[], 0, h2, by simp, rfl, h4⟩, ?_⟩
      exact ⟨by rw [h1]; exact Nat.le_refl _, fun _ => ⟨_, h2, (pval_map _).symm⟩⟩
def keyOf : AV → Option D3
  | .one (.agg [.pv (.int .i64 x), .pv (.int .i64 y), .pv (.int .i64 z)]) => some (x, y, z)
  | _ => none
theorem keyOf_rep {v : AV} {d : D3} {u : Value} (h : keyOf v = some d) (hv : RepAV ob c v u) : u = keyV d := by
  unfold keyOf at h
  split at h
  case h_2 => cases h
  case h_1 x y z =>
    cases h
    obtain ⟨cs, rfl, hl, hr⟩ := hv
    have r0 : Rep c.G _ _ := hr 0 _ rfl
    have r1 : Rep c.G _ _ := hr 1 _ rfl
    have r2 : Rep c.G _ _ := hr 2 _ rfl
    have hl : cs.size = 3 := hl
    obtain ⟨⟨l⟩⟩ : Nonempty (Σ' l : List Value, cs = l.toArray) := ⟨⟨cs.toList, by simp⟩⟩
    rename_i e
    subst e
    match l, hl with
    | [p, q, r], _ =>
      have r0 : Rep c.G (.int .i64 x) p := r0
      have r1 : Rep c.G (.int .i64 y) q := r1
      have r2 : Rep c.G (.int .i64 z) r := r2
      rw [rep_int r0, rep_int r1, rep_int r2]
      rfl
def absLookup (mps : Nat → Bool) (t : Nat) (x i : Operand) : RM Eff := opnd x fun u => opnd i fun v => if mps t = true then match u, keyOf v with
  | .one (.at (.ptr k g off)), some d => if off = cloN then .obj k fun q => match gone g q with
    | some (.map ds) => .ret ⟨.one (.at (.pv (.bool (decide (d ∈ ds))))), []⟩
    | _ => .fail else .fail
  | _, _ => .fail else .fail
theorem done_lookup {o : Oper} {mps : Nat → Bool} {t : Nat} {x i : Operand} {e : Eff} (hm : ∀ t, mps t = true → MapOk P t) (ho : o.op = .lookup t x i false) (h : (absLookup mps t x i).val σ = some e) : Done P w0 S0 G0 σ o e := by
  replace h := val_opnd h
  replace h := val_opnd h
  split at h
  case isFalse => simp [RM.val] at h
  rename_i hmt
  obtain ⟨kt, vt, hM⟩ := hm t hmt
  generalize hu : absO σ x = u at h
  generalize hv : absO σ i = v at h
  split at h
  case h_2 => simp [RM.val] at h
  case h_1 k g off d hd =>
    split at h
    case isFalse => simp [RM.val] at h
    rename_i hoff
    subst hoff
    simp only [RM.val] at h
    split at h
    case h_2 => simp [RM.val] at h
    case h_1 ds hq =>
      simp only [RM.val, Option.some.injEq] at h
      subst h
      have hob := gone_some hq
      refine Done.pure fun c a w hR => ?_
      have hx := hR.opnd x
      have hi := hR.opnd i
      rw [hu] at hx
      rw [hv] at hi
      obtain ⟨_, hp⟩ := hx
      obtain ⟨b, hb, e1⟩ := hp (by rw [alive_of hob]; rfl)
      obtain ⟨b', es, cl, hb', hh, hr, _⟩ := hR.obs k g _ hob
      rw [hb] at hb'; cases hb'
      rw [pval_map] at e1
      refine ⟨.bool (decide (d ∈ ds)), ?_, Rep.bool _⟩
      have := run_lookup hM hh hr d
      simp [execOp, ho, e1, keyOf_rep hd hi, Instr.indexAt, this]
def absUpdate (mps : Nat → Bool) (t : Nat) (x i y : Operand) : RM Eff := opnd x fun u => opnd i fun v => opnd y fun z => if mps t = true then match u, keyOf v, z with
  | .one (.at (.ptr k g off)), some d, .one (.at (.pv (.bool true))) => if off = cloN then .obj k fun q => match gone g q with
    | some (.map ds) => .ret ⟨.any, [(k, g, some (.map (addD ds d)))]⟩
    | _ => .fail else .fail
  | _, _, _ => .fail else .fail
theorem done_update {o : Oper} {mps : Nat → Bool} {t : Nat} {x i y : Operand} {e : Eff} (hm : ∀ t, mps t = true → MapOk P t) (ho : o.op = .mapUpdate t x i y) (h : (absUpdate mps t x i y).val σ = some e) : Done P w0 S0 G0 σ o e := by
  replace h := val_opnd h
  replace h := val_opnd h
  replace h := val_opnd h
  split at h
  case isFalse => simp [RM.val] at h
  rename_i hmt
  obtain ⟨kt, vt, hM⟩ := hm t hmt
  generalize hu : absO σ x = u at h
  generalize hv : absO σ i = v at h
  generalize hz : absO σ y = z at h
  split at h
  case h_2 => simp [RM.val] at h
  case h_1 k g off d hd =>
    split at h
    case isFalse => simp [RM.val] at h
    rename_i hoff
    subst hoff
    simp only [RM.val] at h
    split at h
    case h_2 => simp [RM.val] at h
    case h_1 ds hq =>
      simp only [RM.val, Option.some.injEq] at h
      subst h
      have hob := gone_some hq
      intro c a w hR
      have hx := hR.opnd x
      have hi := hR.opnd i
      have hy := hR.opnd y
      rw [hu] at hx
      rw [hv] at hi
      rw [hz] at hy
      obtain ⟨_, hp⟩ := hx
      obtain ⟨b, hb, e1⟩ := hp (by rw [alive_of hob]; rfl)
      obtain ⟨b', es, cl, hb', hh, hr, hgn⟩ := hR.obs k g _ hob
      rw [hb] at hb'; cases hb'
      rw [pval_map] at e1
      have e2 := rep_bool hy
      obtain ⟨es', cl', hrun, hes'⟩ := run_update hM hh hr d
      have hbl := (Array.getElem?_eq_some_iff.1 hh).1
      refine ⟨undef, { w with heap := w.heap.setIfInBounds b (.map es' cl') }, .inr ⟨?_, rfl⟩, c, ?_⟩
      · simp [execOp, ho, e1, keyOf_rep hd hi, e2, hrun]
      · refine hR.swap k g (.map ds) (.map (addD ds d)) b hob rfl rfl hb o.dst .any undef _ rfl rfl rfl (by simp) rfl (fun q hq => ?_) ⟨fun n hn => by simp [rowLen] at hn, fun n hn => by simp [rowE] at hn, fun _ => rfl⟩ hgn fun ob' hob' hK => ⟨⟨b, es', cl', hb, ?_, hes', hgn⟩, trivial⟩
        · show (w.heap.setIfInBounds b _)[q]? = _
          rw [Array.getElem?_setIfInBounds_ne (fun e => hq e.symm)]
        · show (w.heap.setIfInBounds b _)[b]? = _
          rw [Array.getElem?_setIfInBounds_self_of_lt hbl]
end Go.E2
namespace Go.E2
open Go.RowKit
set_option linter.unusedVariables false
set_option linter.unusedSimpArgs false
variable {ob : Obs} {c c' : Con} {w w' w0 : World} {S0 : Own} {G0 G : Gh} {σ σ' σ1 : St} {a a' : Act} {P : Program}
inductive ClM where
  | own
  | frz (ess : List (List Nat))
def absMakeOwn (fn : Fn) (first captured : List Operand) : RM Eff := match fn, first, captured with
  | .func f, [], [x] => opnd x fun u => match u with
    | .one (.at (.ptr k g off)) => if off < cloN then .obj k fun q => if isVar (gone g q) = true then .ret ⟨.one (.at (.ptr k g (off + cloN * (f + 2)))), []⟩ else .fail else .fail
    | _ => .fail
  | _, _, _ => .fail
theorem pval_clo {b off f : Nat} (h : off < cloN) : pval b (off + cloN * (f + 2)) = .func (.func f) #[] #[.pointer (some ⟨b, off, none⟩)] := by
  have h1 : ¬ off + cloN * (f + 2) < cloN := by show ¬ off + 1000000 * (f + 2) < 1000000; omega
  have h2 : ¬ off + cloN * (f + 2) < 2 * cloN := by show ¬ off + 1000000 * (f + 2) < 2 * 1000000; omega
  unfold pval
  rw [if_neg h1, if_neg h2]
  have h3 : (off + cloN * (f + 2)) / cloN = f + 2 := by
    rw [Nat.add_mul_div_left _ _ (by decide), Nat.div_eq_of_lt h, Nat.zero_add]
  have h4 : (off + cloN * (f + 2)) % cloN = off := by rw [Nat.add_mul_mod_self_left, Nat.mod_eq_of_lt h]
  rw [h3, h4, Nat.add_sub_cancel]
theorem done_makeOwn {o : Oper} {fn : Fn} {first captured : Array Operand} {e : Eff} (ho : o.op = .makeFunc fn first captured) (h : (absMakeOwn fn first.toList captured.toList).val σ = some e) : Done P w0 S0 G0 σ o e := by
  unfold absMakeOwn at h
  split at h
  case h_2 => simp [RM.val] at h
  case h_1 f x hfirst hcap =>
    obtain rfl : first = #[] := Array.toList_inj.1 (by simpa using hfirst)
    obtain rfl : captured = #[x] := Array.toList_inj.1 (by simpa using hcap)
    replace h := val_opnd h
    generalize hu : absO σ x = u at h
    split at h
    case h_2 => simp [RM.val] at h
    case h_1 k g off =>
      split at h
      case isFalse => simp [RM.val] at h
      rename_i hlt
      simp only [RM.val] at h
      split at h
      case isFalse => simp [RM.val] at h
      rename_i hv
      simp only [RM.val, Option.some.injEq] at h
      subst h
      refine Done.pure fun c a w hR => ?_
      have hx := hR.opnd x
      rw [hu] at hx
      obtain ⟨hg, hp⟩ := hx
      obtain ⟨b, hb, e1⟩ := hp hv
      rw [pval_ptr hlt] at e1
      exact ⟨.func (.func f) #[] #[.pointer (some ⟨b, off, none⟩)], by simp [execOp, ho, Instr.makeFunc, e1], hg, fun _ => ⟨b, hb, (pval_clo hlt).symm⟩⟩
theorem Rel.frzVar (h : Rel w0 S0 G0 σ c a w) {k g b : Nat} {cells : List At} {cs : Array Value} {ty : TypeId} {ps : List PV} (hk : σ.ob k = (g, some (.blk cells))) (hb : c.ρ k = some b) (hh : w.heap[b]? = some (.cells cs ty (0, 0))) (hsz : cs.size = ps.length) (hr : ∀ (i : Nat) (p : PV), ps[i]? = some p → Rep c.G p (cs.getD i undef)) :
    ∃ c', Rel w0 S0 G0 (σ.lays [(k, g, some (.fro ps))]) c' a w ∧ Gh.le c.G c'.G ∧ c'.ρ = c.ρ ∧ c'.cp = c.cp ∧ ∀ (i : Nat) (p : PV), ps[i]? = some p → ∃ v, c'.G b i = some v ∧ Rep c'.G p v := by
  have hkk : (σ.lays [(k, g, some (.fro ps))]).ob k = (g, some (.fro ps)) := by rw [ob_lays1, if_pos rfl]
  have hko : ∀ q, q ≠ k → (σ.lays [(k, g, some (.fro ps))]).ob q = σ.ob q := fun q hq => by rw [ob_lays1, if_neg (fun e => hq e.symm)]
  obtain ⟨b', cs', ty', hb', hh', _, _, hg⟩ := h.obs k g _ hk
  rw [hb] at hb'; cases hb'
  let c' : Con := { ρ := c.ρ, cp := c.cp, G := fun b' o => if b' = b then cs[o]? else c.G b' o }
  have hG : Gh.le c.G c'.G := fun b' o v hv => by
    show (if b' = b then cs[o]? else c.G b' o) = some v
    rw [if_neg (fun hh' => by rw [hh', hg] at hv; cases hv)]
    exact hv
  have hGb : ∀ o, c'.G b o = cs[o]? := fun o => if_pos rfl
  have hGo : ∀ b' o, b' ≠ b → c'.G b' o = c.G b' o := fun b' o hne => if_neg hne
  have hcells : ∀ (i : Nat) (p : PV), ps[i]? = some p → ∃ v, c'.G b i = some v ∧ Rep c'.G p v := fun i p hp => by
    have hi := (List.getElem?_eq_some_iff.1 hp).1
    exact ⟨_, by rw [hGb]; exact get_of_getD (by omega), (hr i p hp).mono hG⟩
  have hK : ∀ q, Keeps σ.ob (σ.lays [(k, g, some (.fro ps))]).ob c c' q := fun q => by
    by_cases eq : q = k
    · subst eq
      right
      rw [hkk, hk]
      exact ⟨rfl, fun n hn => by simp [rowLen] at hn, fun e he => by simp [rowE] at he, fun _ => ⟨rfl, rfl⟩⟩
    · exact Keeps.same (hko q eq) rfl rfl
  refine ⟨c', h.step hG hK (fun b' o v hv => ?_) h.sz (fun t => .inl ⟨rfl, rfl⟩) h.df (fun q g' o hq => ?_) (fun q q' g1 g2 o1 o2 b2 hq hq' ho1 ho2 hb1 hb2 => ?_) (fun q g1 o1 b2 hq ho1 hb1 => ?_) h.fr (fun b' o hne => ?_), hG, rfl, rfl, hcells⟩
  · by_cases e : b' = b
    · subst e
      rw [hGb] at hv
      rw [cell_of_blk hh]
      exact hv
    · rw [hGo b' o e] at hv
      exact h.imm b' o v hv
  · by_cases eq : q = k
    · subst eq
      rw [hkk] at hq
      cases hq
      exact .inr ⟨b, hb, hcells⟩
    · rw [hko q eq] at hq
      refine .inl ⟨hq, rfl, rfl, fun ho b2 hb2 => ⟨rfl, fun i => hGo b2 i fun e => ?_⟩⟩
      subst e
      exact eq (h.sep q k g' g o _ b2 hq hk ho rfl hb2 hb)
  · have n1 : q ≠ k := fun e => by subst e; rw [hkk] at hq; cases hq; simp [owned] at ho1
    have n2 : q' ≠ k := fun e => by subst e; rw [hkk] at hq'; cases hq'; simp [owned] at ho2
    rw [hko q n1] at hq
    rw [hko q' n2] at hq'
    exact h.sep q q' g1 g2 o1 o2 b2 hq hq' ho1 ho2 hb1 hb2
  · have n1 : q ≠ k := fun e => by subst e; rw [hkk] at hq; cases hq; simp [owned] at ho1
    rw [hko q n1] at hq
    exact h.new q g1 o1 b2 hq ho1 hb1
  · by_cases e : b' = b
    · subst e
      exact h.new k g _ b' hk rfl hb
    · exact h.fresh b' o (by rw [← hGo b' o e]; exact hne)
abbrev FV := Nat × Nat × List PV
def frzU (fs : List FV) : List Upd := fs.map fun f => (f.1, f.2.1, some (.fro f.2.2))
def FVok (σ : St) (c : Con) (w : World) (f : FV) : Prop := ∃ cells b cs ty, σ.ob f.1 = (f.2.1, some (.blk cells)) ∧ c.ρ f.1 = some b ∧ w.heap[b]? = some (.cells cs ty (0, 0)) ∧ cs.size = f.2.2.length ∧ ∀ (i : Nat) (p : PV), f.2.2[i]? = some p → Rep c.G p (cs.getD i undef)
theorem Rel.frzAll : ∀ {fs : List FV} {σ : St} {c : Con}, (fs.map (·.1)).Nodup → Rel w0 S0 G0 σ c a w → (∀ f ∈ fs, FVok σ c w f) →
    ∃ c', Rel w0 S0 G0 (σ.lays (frzU fs)) c' a w ∧ Gh.le c.G c'.G ∧ c'.ρ = c.ρ ∧ c'.cp = c.cp ∧ ∀ f ∈ fs, ∀ b, c.ρ f.1 = some b → ∀ (i : Nat) (p : PV), f.2.2[i]? = some p → ∃ v, c'.G b i = some v ∧ Rep c'.G p v
  | [], σ, c, hn, hR, hf => ⟨c, hR, Gh.le_refl _, rfl, rfl, fun f h => by cases h⟩
  | f :: fs, σ, c, hn, hR, hf => by
    obtain ⟨cells, b, cs, ty, h1, h2, h3, h4, h5⟩ := hf f (.head _)
    obtain ⟨c1, hR1, g1, e1, e2, v1⟩ := hR.frzVar h1 h2 h3 h4 h5
    rw [List.map_cons, List.nodup_cons] at hn
    obtain ⟨c2, hR2, g2, e3, e4, v2⟩ := Rel.frzAll (fs := fs) hn.2 hR1 fun f' hf' => by
      obtain ⟨cells', b', cs', ty', z1, z2, z3, z4, z5⟩ := hf f' (.tail _ hf')
      have hne : f'.1 ≠ f.1 := fun e => hn.1 (List.mem_map.2 ⟨f', hf', e⟩)
      exact ⟨cells', b', cs', ty', by rw [ob_lays1, if_neg (fun e => hne e.symm)]; exact z1, by rw [e1]; exact z2, z3, z4, fun i p hp => (z5 i p hp).mono g1⟩
    refine ⟨c2, hR2, Gh.le_trans g1 g2, e3.trans e1, e4.trans e2, fun f' hf' b' hb' i p hp => ?_⟩
    rcases List.mem_cons.1 hf' with rfl | hf'
    · rw [h2] at hb'
      cases hb'
      obtain ⟨v, z1, z2⟩ := v1 i p hp
      exact ⟨v, g2 _ _ _ z1, z2.mono g2⟩
    · exact v2 f' hf' b' (by rw [e1]; exact hb') i p hp
def varsRM {α : Type} : List (List Nat) → List Operand → (List PV → List Upd → List FV → RM α) → RM α
  | _, [], k => k [] [] []
  | ess, x :: l, k => opnd x fun u => match u with
    | .one (.at (.pv p)) => varsRM ess.tail l fun ps us fs => k (p :: ps) us fs
    | .one (.at (.ptr q g off)) => if off = 0 then .obj q fun r => match gone g r with
      | some (.blk cells) => atPVs (ess.headD []) cells fun pc us => varsRM ess.tail l fun ps us' fs => k (.ref pc :: ps) (us ++ us') ((q, g, pc) :: fs)
      | some (.fro pc) => varsRM ess.tail l fun ps us fs => k (.ref pc :: ps) us fs
      | _ => .fail else .fail
    | _ => .fail
theorem val_varsRM {α : Type} {r : α} : ∀ {l : List Operand} {ess : List (List Nat)} {k : List PV → List Upd → List FV → RM α}, (varsRM ess l k).val σ = some r →
    ∃ ps us fs, (k ps us fs).val σ = some r ∧ ps.length = l.length ∧ ∀ σ1, Frz σ σ1 → Frz σ (σ1.lays us) ∧ ∀ w0 S0 G0 c a w, Rel w0 S0 G0 σ1 c a w → ∃ c', Rel w0 S0 G0 (σ1.lays us) c' a w ∧ Gh.le c.G c'.G ∧ c'.ρ = c.ρ ∧ c'.cp = c.cp ∧
      (∀ f ∈ fs, (∃ cells, σ.ob f.1 = (f.2.1, some (.blk cells))) ∧ ∃ b cs ty, c'.ρ f.1 = some b ∧ w.heap[b]? = some (.cells cs ty (0, 0)) ∧ cs.size = f.2.2.length ∧ ∀ (i : Nat) (p : PV), f.2.2[i]? = some p → Rep c'.G p (cs.getD i undef)) ∧
      ∀ (i : Nat) (x : Operand), l[i]? = some x → ∃ p : PV, ps[i]? = some p ∧ (Rep c'.G p (a.eval x) ∨ ∃ f ∈ fs, p = .ref f.2.2 ∧ ∃ b, c'.ρ f.1 = some b ∧ a.eval x = .pointer (some ⟨b, 0, none⟩))
  | [], ess, k, h => ⟨[], [], [], h, rfl, fun σ1 hf => ⟨hf, fun w0 S0 G0 c a w hR => ⟨c, hR, Gh.le_refl _, rfl, rfl, fun f hf => (by cases hf), fun i x hx => by simp at hx⟩⟩⟩
  | x :: l, ess, k, h => by
    have still : ∀ (p : PV), (∀ σ1, Frz σ σ1 → ∀ w0 S0 G0 c a w, Rel w0 S0 G0 σ1 c a w → Rep c.G p (a.eval x)) → (varsRM ess.tail l fun ps us fs => k (p :: ps) us fs).val σ = some r →
        ∃ ps us fs, (k ps us fs).val σ = some r ∧ ps.length = (x :: l).length ∧ ∀ σ1, Frz σ σ1 → Frz σ (σ1.lays us) ∧ ∀ w0 S0 G0 c a w, Rel w0 S0 G0 σ1 c a w → ∃ c', Rel w0 S0 G0 (σ1.lays us) c' a w ∧ Gh.le c.G c'.G ∧ c'.ρ = c.ρ ∧ c'.cp = c.cp ∧
          (∀ f ∈ fs, (∃ cells, σ.ob f.1 = (f.2.1, some (.blk cells))) ∧ ∃ b cs ty, c'.ρ f.1 = some b ∧ w.heap[b]? = some (.cells cs ty (0, 0)) ∧ cs.size = f.2.2.length ∧ ∀ (i : Nat) (p : PV), f.2.2[i]? = some p → Rep c'.G p (cs.getD i undef)) ∧
          ∀ (i : Nat) (y : Operand), (x :: l)[i]? = some y → ∃ p : PV, ps[i]? = some p ∧ (Rep c'.G p (a.eval y) ∨ ∃ f ∈ fs, p = .ref f.2.2 ∧ ∃ b, c'.ρ f.1 = some b ∧ a.eval y = .pointer (some ⟨b, 0, none⟩)) := fun p hp h => by
      obtain ⟨ps, us, fs, h1, hl, H⟩ := val_varsRM h
      refine ⟨p :: ps, us, fs, h1, by simp [hl], fun σ1 hf => ?_⟩
      obtain ⟨f1, R1⟩ := H σ1 hf
      refine ⟨f1, fun w0 S0 G0 c a w hR => ?_⟩
      obtain ⟨c1, hR1, g1, e1, e2, v1, v2⟩ := R1 w0 S0 G0 c a w hR
      refine ⟨c1, hR1, g1, e1, e2, v1, fun i y hy => ?_⟩
      cases i with
      | zero => cases hy; exact ⟨p, rfl, .inl ((hp σ1 hf w0 S0 G0 c a w hR).mono g1)⟩
      | succ i => exact v2 i y hy
    have at1 : ∀ σ1, Frz σ σ1 → absO σ1 x = absO σ x := fun σ1 hf => by
      cases x <;> first | rfl | (simp only [absO, St.slot]; rw [hf.1])
    replace h := val_opnd h
    generalize hu : absO σ x = u at h
    split at h
    case h_3 => simp [RM.val] at h
    case h_1 p =>
      refine still p (fun σ1 hf w0 S0 G0 c a w hR => ?_) h
      have hx := hR.opnd x
      rw [at1 σ1 hf, hu] at hx
      exact hx
    case h_2 q g off =>
      split at h
      case isFalse => simp [RM.val] at h
      rename_i hoff
      subst hoff
      simp only [RM.val] at h
      split at h
      case h_3 => simp [RM.val] at h
      case h_2 pc hq =>
        have hob := gone_some hq
        refine still (.ref pc) (fun σ1 hf w0 S0 G0 c a w hR => ?_) h
        have hx := hR.opnd x
        rw [at1 σ1 hf, hu] at hx
        rcases hf.look hob with h1 | ⟨_, _, h1, _⟩
        · obtain ⟨b, hb, e1⟩ := hx.2 (by rw [alive_of h1]; rfl)
          obtain ⟨b', hb', hr⟩ := hR.obs q g _ h1
          rw [hb] at hb'; cases hb'
          rw [e1, pval_ptr (by decide)]
          refine Rep.ref pc b 0 (fun i => (c.G b i).getD undef) (fun i p hp => ?_) (fun i p hp => ?_)
          · obtain ⟨v, h2, _⟩ := hr _ _ hp
            rw [Nat.zero_add, h2]; rfl
          · obtain ⟨v, h2, h3⟩ := hr _ _ hp
            rw [h2]; exact h3
        · cases h1
      case h_1 cells hq =>
        have hob := gone_some hq
        obtain ⟨pc, us, h1, hl1, H1⟩ := val_atPVs h
        obtain ⟨ps, us', fs, h2, hl2, H2⟩ := val_varsRM h1
        refine ⟨.ref pc :: ps, us ++ us', (q, g, pc) :: fs, h2, by simp [hl2], fun σ1 hf => ?_⟩
        obtain ⟨f1, R1⟩ := H1 σ1 hf
        obtain ⟨f2, R2⟩ := H2 _ f1
        rw [lays_append]
        refine ⟨f2, fun w0 S0 G0 c a w hR => ?_⟩
        obtain ⟨c1, hR1, g1, e1, e2, v1⟩ := R1 w0 S0 G0 c a w hR
        obtain ⟨c2, hR2, g2, e3, e4, v2, v3⟩ := R2 w0 S0 G0 c1 a w hR1
        have hob1 : σ1.ob q = (g, some (.blk cells)) := by
          rcases hf.look hob with h1 | ⟨_, _, h1, _⟩
          · exact h1
          · cases h1
        obtain ⟨b, cs, ty, hb, hh, hl, hr, _⟩ := hR.obs q g _ hob1
        have hb2 : c2.ρ q = some b := by rw [e3, e1]; exact hb
        have hx := hR.opnd x
        rw [at1 σ1 hf, hu] at hx
        obtain ⟨b', hb', ev⟩ := hx.2 (by rw [alive_of hob1]; rfl)
        rw [hb] at hb'; cases hb'
        rw [pval_ptr (by decide)] at ev
        refine ⟨c2, hR2, Gh.le_trans g1 g2, e3.trans e1, e4.trans e2, fun f hf => ?_, fun i y hy => ?_⟩
        · rcases List.mem_cons.1 hf with rfl | hf
          · refine ⟨⟨cells, hob⟩, b, cs, ty, hb2, hh, by show cs.size = pc.length; omega, fun i p hp => ?_⟩
            have hi := (List.getElem?_eq_some_iff.1 hp).1
            have hi : i < pc.length := hi
            obtain ⟨x1, hx1⟩ : ∃ x1, cells[i]? = some x1 := ⟨_, List.getElem?_eq_getElem (by omega)⟩
            obtain ⟨p', hp', hrep⟩ := v1 i x1 _ hx1 (hr i x1 hx1)
            have hp : pc[i]? = some p := hp
            rw [hp] at hp'
            cases hp'
            exact hrep.mono g2
          · exact v2 f hf
        · cases i with
          | zero =>
            cases hy
            exact ⟨.ref pc, rfl, .inr ⟨(q, g, pc), .head _, rfl, b, hb2, ev⟩⟩
          | succ i =>
            obtain ⟨p, z1, z2⟩ := v3 i y hy
            refine ⟨p, z1, ?_⟩
            rcases z2 with z2 | ⟨f, z3, z4⟩
            · exact .inl z2
            · exact .inr ⟨f, .tail _ z3, z4⟩
def absMakeFrz (ess : List (List Nat)) (fn : Fn) (first captured : List Operand) : RM Eff := match fn, first with
  | .func f, [] => varsRM ess captured fun ps us fs => if distinct (fs.map (·.1)) = true then .ret ⟨.one (.at (.pv (.fn f ps))), us ++ frzU fs⟩ else .fail
  | _, _ => .fail
theorem done_makeFrz {o : Oper} {ess : List (List Nat)} {fn : Fn} {first captured : Array Operand} {e : Eff} (ho : o.op = .makeFunc fn first captured) (h : (absMakeFrz ess fn first.toList captured.toList).val σ = some e) : Done P w0 S0 G0 σ o e := by
  unfold absMakeFrz at h
  split at h
  case h_2 => simp [RM.val] at h
  case h_1 f hfirst =>
    obtain rfl : first = #[] := Array.toList_inj.1 (by simpa using hfirst)
    obtain ⟨ps, us, fs, h, hl, H⟩ := val_varsRM h
    split at h
    case isFalse => simp [RM.val] at h
    rename_i hd
    simp only [RM.val, Option.some.injEq] at h
    subst h
    intro c a w hR
    obtain ⟨hF, HR⟩ := H σ (Frz.refl σ)
    obtain ⟨c1, hR1, g1, e1, e2, v1, v2⟩ := HR w0 S0 G0 c a w hR
    obtain ⟨c2, hR2, g2, e3, e4, v3⟩ := Rel.frzAll (distinct_nodup hd) hR1 fun f hf => by
      obtain ⟨⟨cells, z0⟩, b, cs, ty, z1, z2, z3, z4⟩ := v1 f hf
      have z5 : (σ.lays us).ob f.1 = (f.2.1, some (.blk cells)) := by
        rcases hF.look z0 with h1 | ⟨_, _, h1, _⟩
        · exact h1
        · cases h1
      exact ⟨cells, b, cs, ty, z5, z1, z2, z3, z4⟩
    have hal : captured.toList.length = captured.size := Array.length_toList
    refine ⟨.func (.func f) #[] (captured.map a.eval), w, .inl (by simp [execOp, ho, Instr.makeFunc]), c2, ?_⟩
    have hset := hR2.setSlot o.dst (.one (.at (.pv (.fn f ps)))) (.func (.func f) #[] (captured.map a.eval)) (Rep.fn f ps _ (by simp; omega) fun i p hp => ?_)
    · unfold St.app
      dsimp only
      rw [lays_append]
      exact hset
    · have hi := (List.getElem?_eq_some_iff.1 hp).1
      obtain ⟨x, hx⟩ : ∃ x, captured.toList[i]? = some x := ⟨_, List.getElem?_eq_getElem (by omega)⟩
      obtain ⟨p', hp', hrep⟩ := v2 i x hx
      rw [hp] at hp'
      cases hp'
      rw [Array.getElem?_toList] at hx
      rw [Array.getD_eq_getD_getElem?, Array.getElem?_map, hx]
      rcases hrep with hrep | ⟨fv, hfv, rfl, b, hb, ev⟩
      · exact hrep.mono g2
      · show Rep c2.G (.ref fv.2.2) (a.eval x)
        rw [ev]
        refine Rep.ref fv.2.2 b 0 (fun i => (c2.G b i).getD undef) (fun i p hp => ?_) (fun i p hp => ?_)
        · obtain ⟨v, h2, _⟩ := v3 fv hfv b hb i p hp
          rw [Nat.zero_add, h2]; rfl
        · obtain ⟨v, h2, h3⟩ := v3 fv hfv b hb i p hp
          rw [h2]; exact h3
end Go.E2
namespace Go.E2
open Go.RowKit
set_option linter.unusedVariables false
set_option linter.unusedSimpArgs false
variable {ob : Obs} {c c' : Con} {w w' w0 : World} {S0 : Own} {G0 G : Gh} {σ σ' σ1 : St} {a a' : Act} {P : Program}
def absNil (x : Operand) : RM Eff := opnd x fun u => match u with
  | .one (.at (.pv (.ref cs))) => .ret ⟨.one (.at (.pv (.ref cs))), []⟩
  | .one (.at (.ptr k g off)) => if off < cloN then .obj k fun q => if isVar (gone g q) = true then .ret ⟨.one (.at (.ptr k g off)), []⟩ else .fail else .fail
  | _ => .fail
theorem done_nil {o : Oper} {x : Operand} {e : Eff} (ho : o.op = .nilCheck x) (h : (absNil x).val σ = some e) : Done P w0 S0 G0 σ o e := by
  replace h := val_opnd h
  have hx := fun c a w (hR : Rel w0 S0 G0 σ c a w) => hR.opnd x
  generalize absO σ x = u at h hx
  split at h
  case h_1 cs =>
    simp only [RM.val, Option.some.injEq] at h
    subst h
    refine Done.pure fun c a w hR => ⟨a.eval x, ?_, hx c a w hR⟩
    have hv : Rep c.G (.ref cs) (a.eval x) := hx c a w hR
    generalize hq : a.eval x = v at hv
    cases hv
    simp [execOp, ho, hq]
  case h_2 k g off =>
    split at h
    case isFalse => simp [RM.val] at h
    case isTrue hoff =>
      simp only [RM.val] at h
      split at h
      case isFalse => simp [RM.val] at h
      case isTrue hvar =>
        simp only [RM.val, Option.some.injEq] at h
        subst h
        refine Done.pure fun c a w hR => ⟨a.eval x, ?_, hx c a w hR⟩
        obtain ⟨b, _, hv⟩ := (hx c a w hR).2 hvar
        rw [pval_ptr hoff] at hv
        simp [execOp, ho, hv]
  case h_3 => simp [RM.val] at h
def absMakeSl (tab : Nat → Option Ty) (t : Nat) (d : Option Nat) (x y : Operand) : RM Eff := opnd x fun u => opnd y fun v => match d, tab t, u, v with
  | some d, some ty, .one (.at (.pv (.int k n))), .one (.at (.pv (.int k' m))) => if ty.elem = 0 then .fail else match tab ty.elem with
    | none => .fail
    | some ety => match zeroPVs ety.es ety.zero with
      | none => .fail
      | some zs => if n = m ∧ 0 ≤ n ∧ n * (ety.bytes + 1) ≤ appLim then .obj d fun q => .ret ⟨.one (.at (.row d (q.1 + 1))), [(d, q.1 + 1, some (.row true ety.size (List.replicate n.toNat zs)))]⟩ else .fail
  | _, _, _, _ => .fail
theorem made_zero (z : Array Value) (n : Nat) : madeCells z (n * z.size) = Builtin.zeroCells z n := rfl
theorem done_makeSl {o : Oper} {tab : Nat → Option Ty} {t : Nat} {x y : Operand} {e : Eff} (htab : ∀ t ty, tab t = some ty → TyOk P t ty) (ho : o.op = .makeSlice t x y) (h : (absMakeSl tab t o.dst x y).val σ = some e) : Done P w0 S0 G0 σ o e := by
  replace h := val_opnd h
  replace h := val_opnd h
  have hx := fun c a w (hR : Rel w0 S0 G0 σ c a w) => hR.opnd x
  have hy := fun c a w (hR : Rel w0 S0 G0 σ c a w) => hR.opnd y
  generalize absO σ x = u at h hx
  generalize absO σ y = v at h hy
  split at h
  case h_2 => simp [RM.val] at h
  case h_1 d ty k n k' m hd hty =>
    have hT := htab t ty hty
    split at h
    case isTrue => simp [RM.val] at h
    case isFalse he =>
      cases hety : tab ty.elem with
      | none => rw [hety] at h; simp [RM.val] at h
      | some ety =>
        rw [hety] at h
        have hE := htab _ ety hety
        obtain ⟨i, z, hinf, hsz, hby, hz, hzc, hzs, hz1⟩ := hE.info
        dsimp only at h
        cases hzp : zeroPVs ety.es ety.zero with
        | none => rw [hzp] at h; simp [RM.val] at h
        | some zs =>
          rw [hzp] at h
          dsimp only at h
          split at h
          case isFalse => simp [RM.val] at h
          case isTrue hc =>
            obtain ⟨rfl, hn0, hlim⟩ := hc
            simp only [RM.val, Option.some.injEq] at h
            subst h
            intro c a w hR
            have hvx := rep_int (hx c a w hR)
            have hvy := rep_int (hy c a w hR)
            obtain ⟨N, rfl⟩ : ∃ N : Nat, n = N := ⟨n.toNat, by omega⟩
            rw [← hzc] at hzp
            have hps := zeroPVs_rep (G := c.G) hzp
            have hlim' : N * (ety.bytes + 1) ≤ 70368744177664 := by
              have : ((N * (ety.bytes + 1) : Nat) : Int) ≤ 70368744177664 := by rw [Int.natCast_mul]; exact hlim
              omega
            have h1 : N * 1 ≤ N * (ety.bytes + 1) := Nat.mul_le_mul_left N (by omega)
            have h2 : N * ety.bytes ≤ N * (ety.bytes + 1) := Nat.mul_le_mul_left N (by omega)
            have hb : (i.bytes : Int) * N ≤ 281474976710656 := by
              have : ((i.bytes * N : Nat) : Int) ≤ 281474976710656 := by rw [hby, Nat.mul_comm]; omega
              rwa [Int.natCast_mul] at this
            have hrun := run_make (P := P) w t ty.elem i z (hT.slice he) hinf hz k k' N N (Int.natCast_nonneg N) (Int.le_refl _) hb (by omega)
            rw [Int.toNat_natCast, hsz, ← hzs, made_zero] at hrun
            have hlen : (Builtin.zeroCells z.cells N).toList.length = N * ety.size := by rw [Array.length_toList, zeroCells_size, hzs]
            have hsays : Says c.G ety.size (List.replicate N zs) (Builtin.zeroCells z.cells N).toList := by
              refine ⟨by rw [hlen, List.length_replicate], fun j x hx => ?_, fun j x q y' hx hy' => ?_⟩
              · obtain rfl := (List.mem_replicate.1 (List.mem_of_getElem? hx)).2
                rw [hps.1, Array.length_toList, hzs]
              · have hj := (List.getElem?_eq_some_iff.1 hx).1
                rw [List.length_replicate] at hj
                obtain rfl := (List.mem_replicate.1 (List.mem_of_getElem? hx)).2
                have hq := (List.getElem?_eq_some_iff.1 hy').1
                rw [hps.1, Array.length_toList, hzs] at hq
                have := mul_in (j := j) (n := N) (e := ety.size) (i := q) (by omega) hq
                rw [List.getD_eq_getElem?_getD, zeroCells_get z.cells _ _ (by rw [hzs]; exact this), hzs, Nat.mul_comm j, Nat.mul_add_mod, Nat.mod_eq_of_lt hq]
                have hzi : z.cells[q]? = some (z.cells[q]'(by omega)) := Array.getElem?_eq_getElem (by omega)
                rw [hzi]
                exact hps.2 q y' _ hy' (by rw [Array.getElem?_toList]; exact hzi)
            obtain ⟨c2, hR2⟩ := hR.newrow d ety.size N true o.dst (zs := #[]) ty.elem w.drawn (Nat.le_refl _) hsays ⟨by rw [List.length_replicate]; exact Nat.le_refl _, by omega⟩ (by rw [List.length_replicate]; simp)
            rw [List.length_replicate] at hR2
            have hW : ({ w with heap := w.heap.push (.cells ((Builtin.zeroCells z.cells N).toList.toArray ++ #[]) ty.elem (0, 0)), drawn := w.drawn } : World) = w.alloc (.cells (Builtin.zeroCells z.cells N) ty.elem) := by
              rw [Array.toArray_toList, Array.append_empty]
              rfl
            rw [hW] at hR2
            refine ⟨.slice (some ⟨w.heap.size, 0, none⟩) N N, w.alloc (.cells (Builtin.zeroCells z.cells N) ty.elem), .inl ?_, c2, ?_⟩
            · simp [execOp, ho, hvx, hvy, hrun]
            · rw [Int.toNat_natCast]; exact hR2
def bytesOf : List (List PV) → Option (List UInt8)
  | [] => some []
  | [.int .u8 n] :: l => (bytesOf l).map (UInt8.ofNat n.toNat :: ·)
  | _ => none
theorem bytesOf_rep : ∀ {xs : List (List PV)} {b : List UInt8}, bytesOf xs = some b → ∃ ns : List Int, xs = ns.map (fun n => [PV.int .u8 n]) ∧ b = ns.map fun n => UInt8.ofNat n.toNat
  | [], b, h => by cases h; exact ⟨[], rfl, rfl⟩
  | x :: l, b, h => by
    unfold bytesOf at h
    split at h
    · rename_i h0; cases h0
    · rename_i n l' h0
      cases h0
      obtain ⟨b', h1, rfl⟩ := Option.map_eq_some_iff.1 h
      obtain ⟨ns, rfl, rfl⟩ := bytesOf_rep h1
      exact ⟨n :: ns, rfl, rfl⟩
    · cases h
theorem push_all : ∀ (ns : List Int) (s : ByteArray), ns.foldl (fun r n => r.push (UInt8.ofNat n.toNat)) s = ⟨s.data ++ (ns.map fun n => UInt8.ofNat n.toNat).toArray⟩
  | [], s => by simp
  | n :: ns, s => by
    rw [List.foldl_cons, push_all ns]
    simp [ByteArray.push]
def absBStr (tab : Nat → Option Ty) (src dst : Nat) (x : Operand) : RM Eff := opnd x fun u => match tab src, tab dst with
  | some s, some d => if s.elem = 0 ∨ d.str = false then .fail else match tab s.elem with
    | none => .fail
    | some ety => if ety.int = some .u8 then match u with
      | .one (.at .nil) => .ret ⟨.one (.at (.pv (.str ByteArray.empty))), []⟩
      | .one (.at (.pv (.list e xs))) => if e = 1 then match bytesOf xs with
        | some b => .ret ⟨.one (.at (.pv (.str ⟨b.toArray⟩))), []⟩
        | none => .fail else .fail
      | _ => .fail else .fail
  | _, _ => .fail
theorem done_bstr {o : Oper} {tab : Nat → Option Ty} {src dst : Nat} {x : Operand} {e : Eff} (htab : ∀ t ty, tab t = some ty → TyOk P t ty) (ho : o.op = .convert src dst x) (h : (absBStr tab src dst x).val σ = some e) : Done P w0 S0 G0 σ o e := by
  replace h := val_opnd h
  have hx := fun c a w (hR : Rel w0 S0 G0 σ c a w) => hR.opnd x
  generalize absO σ x = u at h hx
  split at h
  case h_2 => simp [RM.val] at h
  case h_1 s d hs hd =>
    split at h
    case isTrue => simp [RM.val] at h
    case isFalse hc =>
      have he : ¬ s.elem = 0 := fun h => hc (.inl h)
      have hstr : d.str = true := by cases hq : d.str with
        | true => rfl
        | false => exact absurd (.inr hq) hc
      cases hety : tab s.elem with
      | none => rw [hety] at h; simp [RM.val] at h
      | some ety =>
        rw [hety] at h
        dsimp only at h
        split at h
        case isFalse => simp [RM.val] at h
        case isTrue hint =>
          have u1 := run_underlying ((htab _ _ hs).slice he)
          have u2 := run_underlying ((htab _ _ hd).str hstr)
          have u3 := run_underlying ((htab _ _ hety).int _ hint)
          have nilCase : ∀ (a : Act) (w : World) (A : Option Addr) (cap : Nat), a.eval x = .slice A 0 cap → (execOp a.eval o).run P w = .ok (.value (.string ByteArray.empty)) w := fun a w A cap hv => by
            cases A with
            | none => simp [execOp, ho, convert, u1, u2, u3, hv, Conv.bytesToString]
            | some A =>
              have := run_bytesToString (P := P) w A 0 cap [] (by
                have := run_firstCells_some (P := P) w 1 0 A 0 cap [] (by simp) (fun j v hj => by simp at hj)
                simpa [Builtin.firstCells] using this)
              simp [execOp, ho, convert, u1, u2, u3, hv, this]
          split at h
          case h_1 =>
            simp only [RM.val, Option.some.injEq] at h
            subst h
            refine Done.pure fun c a w hR => ⟨.string ByteArray.empty, nilCase a w none 0 (hx c a w hR), (Rep.str ByteArray.empty : Rep c.G _ _)⟩
          case h_2 e1 xs =>
            split at h
            case isFalse => simp [RM.val] at h
            case isTrue he1 =>
              subst he1
              cases hb : bytesOf xs with
              | none => rw [hb] at h; simp [RM.val] at h
              | some b =>
                rw [hb] at h
                simp only [RM.val, Option.some.injEq] at h
                subst h
                obtain ⟨ns, rfl, rfl⟩ := bytesOf_rep hb
                refine Done.pure fun c a w hR => ⟨.string ⟨(ns.map fun n => UInt8.ofNat n.toNat).toArray⟩, ?_, ?_⟩
                rotate_left
                · show Rep c.G (.str _) (.string _)
                  exact Rep.str _
                have hv : Rep c.G (.list 1 (ns.map fun n => [PV.int .u8 n])) (a.eval x) := hx c a w hR
                generalize hq : a.eval x = v at hv
                generalize hl : (ns.map fun n => [PV.int .u8 n]) = l at hv
                cases hv with
                | nil _ A cap =>
                  obtain rfl : ns = [] := by simpa using hl
                  exact nilCase a w A cap hq
                | list _ _ g o' cap f hcp hw hg hr =>
                  subst hl
                  rw [List.length_map] at hq hcp
                  have hcell : ∀ j v, (ns.map (Value.int .u8))[j]? = some v → w.cell? ((⟨g, o', none⟩ : Addr).add j) = some v := fun j v hj => by
                    rw [List.getElem?_map] at hj
                    obtain ⟨n, hn, rfl⟩ := Option.map_eq_some_iff.1 hj
                    have hxj : (ns.map fun n => [PV.int .u8 n])[j]? = some [PV.int .u8 n] := by rw [List.getElem?_map, hn]; rfl
                    have g1 := hg j _ 0 _ hxj rfl
                    have g2 := hr j _ 0 _ hxj rfl
                    have g3 := hR.imm _ _ _ g1
                    have g4 : f j 0 = .int .u8 n := by generalize f j 0 = q at g2; cases g2; rfl
                    rw [g4, Nat.mul_one, Nat.add_zero] at g3
                    rw [Addr.add_lit]
                    exact g3
                  have hload := run_firstCells_some (P := P) w 1 ns.length ⟨g, o', none⟩ ns.length cap (ns.map (Value.int .u8)) (by simp) hcell
                  have := run_bytesToString (P := P) w ⟨g, o', none⟩ ns.length cap ns (by simpa [Builtin.firstCells] using hload)
                  rw [push_all] at this
                  have e0 : (ByteArray.empty.data ++ (ns.map fun n => UInt8.ofNat n.toNat).toArray) = (ns.map fun n => UInt8.ofNat n.toNat).toArray := by simp [ByteArray.empty, ByteArray.emptyWithCapacity]; rfl
                  rw [e0] at this
                  simp [execOp, ho, convert, u1, u2, u3, hq, this]
          case h_3 => simp [RM.val] at h
end Go.E2
