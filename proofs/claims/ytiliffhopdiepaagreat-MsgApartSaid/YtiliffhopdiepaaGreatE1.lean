/- The engine, part 1: VOps7, VOps8, VOps9, VOps10, VOps11, VOps12, VOps16, VOps17, VOps18. -/
import Derived.Deep.Upon
import Derived.Test.YtiliffhopdiepaaGreatE0
namespace Go.E2
open Go.RowKit
set_option linter.unusedVariables false
set_option linter.unusedSimpArgs false
variable {ob : Obs} {c c' : Con} {w w' w0 : World} {S0 : Own} {G0 G : Gh} {σ σ' σ1 : St} {a a' : Act} {P : Program}
def DoneW (P : Program) (w0 : World) (S0 : Own) (G0 : Gh) (σ : St) (o : Oper) (e : Eff) : Prop :=
  ∀ c a w, Rel w0 S0 G0 σ c a w → ∀ (K : Act → World → Prop) (Q : Exit → Act → World → Prop), (∀ c' a' w', Rel w0 S0 G0 (σ.app o.dst e) c' a' w' → a'.tmps.size = a.tmps.size → K a' w') → o.wp P a w K Q
theorem Done.toW {o : Oper} {e : Eff} (h : Done P w0 S0 G0 σ o e) : DoneW P w0 S0 G0 σ o e := by
  intro c a w hR K Q hK
  obtain ⟨v, w', h1, c', h2⟩ := h c a w hR
  unfold Oper.wp
  rcases h1 with h1 | ⟨h1, h3⟩
  · rw [h1]
    exact hK c' _ _ h2 (Act.size_put _ _ _)
  · rw [h1]
    rw [h3] at h2
    exact hK c' _ _ h2 (Act.size_put _ _ _)
def CanVs (σ : St) (N : Nms) (S : List Frm) (Y Y' : List V1) (us : List Upd) (S' : List Frm) : Prop :=
  S <+: S' ∧ Y'.length = Y.length ∧ ∀ σ1, Frz σ σ1 → Frz σ (σ1.lays us) ∧ ∀ w0 S0 G0 c a w, Rel w0 S0 G0 σ1 c a w → ∃ c', Rel w0 S0 G0 (σ1.lays us) c' a w ∧ Gh.le c.G c'.G ∧ c'.ρ = c.ρ ∧ c'.cp = c.cp ∧
    ∀ σ2 c2 L, Fin w0 S0 G0 a w σ σ2 c' c2 → Ext S' L → N.ok L →
      (∀ (i : Nat) (y y' : V1) (v : Value), Y[i]? = some y → Y'[i]? = some y' → RepV1 σ1.ob c y v → RepV1 (obsC N L σ2.ob) (conC N L c2) y' v) ∧
      ∀ q g cells', Frm.blk q g cells' ∈ S' → Frm.blk q g cells' ∉ S → ∀ n, (conC N L c2).ρ n = c2.ρ q → (∃ cells, σ2.ob q = (g, some (.blk cells))) → ObOk (obsC N L σ2.ob) (conC N L c2) w n (.blk cells')
theorem CanVs.nil {N : Nms} {S : List Frm} : CanVs σ N S [] [] [] S :=
  ⟨List.prefix_rfl, rfl, fun σ1 hf => ⟨hf, fun w0 S0 G0 c a w hR => ⟨c, hR, Gh.le_refl _, rfl, rfl, fun σ2 c2 L hF hS hN => ⟨fun i x x' v hx => by simp at hx, fun q g cells' h1 h2 => absurd h1 h2⟩⟩⟩⟩
theorem CanVs.cons {N : Nms} {S S1 S2 : List Frm} {y y' : V1} {Y Y' : List V1} {us us' : List Upd} (h : CanVs σ N S [y] [y'] us S1) (h' : CanVs σ N S1 Y Y' us' S2) : CanVs σ N S (y :: Y) (y' :: Y') (us ++ us') S2 := by
  obtain ⟨p1, l1, H1⟩ := h
  obtain ⟨p2, l2, H2⟩ := h'
  refine ⟨List.IsPrefix.trans p1 p2, by simp [l2], fun σ1 hf => ?_⟩
  obtain ⟨f1, R1⟩ := H1 σ1 hf
  obtain ⟨f2, R2⟩ := H2 _ f1
  rw [lays_append]
  refine ⟨f2, fun w0 S0 G0 c a w hR => ?_⟩
  obtain ⟨c1, hR1, g1, e1, e2, v1⟩ := R1 w0 S0 G0 c a w hR
  obtain ⟨c2, hR2, g2, e3, e4, v2⟩ := R2 w0 S0 G0 c1 a w hR1
  refine ⟨c2, hR2, Gh.le_trans g1 g2, e3.trans e1, e4.trans e2, fun σ2 c3 L hF hS hN => ?_⟩
  obtain ⟨q1, q2⟩ := v1 σ2 c3 L (hF.back g2 e3 e4) (Ext.of_prefix p2 hS) hN
  obtain ⟨q3, q4⟩ := v2 σ2 c3 L hF hS hN
  refine ⟨fun i x x' v hx hx' hv => ?_, fun q g cells' hm hn => ?_⟩
  · cases i with
    | zero => exact q1 0 x x' v hx hx' hv
    | succ i => exact q3 i x x' v hx hx' (RepV1.keep g1 (Frz.keeps hf f1 e1 e2) hv)
  · by_cases hm1 : Frm.blk q g cells' ∈ S1
    · exact q2 q g cells' hm1 hn
    · exact q4 q g cells' hm hm1
def canV {α : Type} (N : Nms) (ms : List CM) (S : List Frm) (y : V1) (k : V1 → List Upd → List Frm → RM α) : RM α := match y with
  | .at x => canAt N 4 (ms.headD .auto) S x fun x' us S' => k (.at x') us S'
  | .agg l => canL (canAt N 4) ms S l fun l' us S' => k (.agg l') us S'
theorem val_canV {α : Type} {N : Nms} {ms : List CM} {S : List Frm} {y : V1} {k : V1 → List Upd → List Frm → RM α} {r : α} (h : (canV N ms S y k).val σ = some r) :
    ∃ y' us S', (k y' us S').val σ = some r ∧ CanVs σ N S [y] [y'] us S' := by
  cases y with
  | «at» x =>
    obtain ⟨x', us, S', h1, p1, l1, H⟩ := val_canAt _ _ _ _ _ h
    refine ⟨_, us, S', h1, p1, rfl, fun σ1 hf => ?_⟩
    obtain ⟨f1, R1⟩ := H σ1 hf
    refine ⟨f1, fun w0 S0 G0 c a w hR => ?_⟩
    obtain ⟨c1, hR1, g1, e1, e2, v1⟩ := R1 w0 S0 G0 c a w hR
    refine ⟨c1, hR1, g1, e1, e2, fun σ2 c2 L hF hS hN => ?_⟩
    obtain ⟨q1, q2⟩ := v1 σ2 c2 L hF hS hN
    refine ⟨fun i z z' v hz hz' hv => ?_, q2⟩
    cases i with
    | zero => cases hz; cases hz'; exact q1 0 x x' v rfl rfl hv
    | succ i => simp at hz
  | agg l =>
    obtain ⟨l', us, S', h1, p1, l1, H⟩ := val_canL (N := N) (fun m S x k h => val_canAt _ m S x k h) h
    refine ⟨_, us, S', h1, p1, rfl, fun σ1 hf => ?_⟩
    obtain ⟨f1, R1⟩ := H σ1 hf
    refine ⟨f1, fun w0 S0 G0 c a w hR => ?_⟩
    obtain ⟨c1, hR1, g1, e1, e2, v1⟩ := R1 w0 S0 G0 c a w hR
    refine ⟨c1, hR1, g1, e1, e2, fun σ2 c2 L hF hS hN => ?_⟩
    obtain ⟨q1, q2⟩ := v1 σ2 c2 L hF hS hN
    refine ⟨fun i z z' v hz hz' hv => ?_, q2⟩
    cases i with
    | zero =>
      cases hz; cases hz'
      obtain ⟨cs, e, hs, hr⟩ := hv
      refine ⟨cs, e, by rw [hs, l1], fun j x' hx' => ?_⟩
      have hj := (List.getElem?_eq_some_iff.1 hx').1
      obtain ⟨x, hx⟩ : ∃ x, l[j]? = some x := ⟨l[j]'(by omega), List.getElem?_eq_getElem (by omega)⟩
      exact q1 j x x' _ hx hx' (hr j x hx)
    | succ i => simp at hz
def canVs {α : Type} (N : Nms) : List (List CM) → List Frm → List V1 → (List V1 → List Upd → List Frm → RM α) → RM α
  | _, S, [], k => k [] [] S
  | mss, S, y :: l, k => canV N (mss.headD []) S y fun y' us S1 => canVs N mss.tail S1 l fun l' us' S2 => k (y' :: l') (us ++ us') S2
theorem val_canVs {α : Type} {N : Nms} {r : α} : ∀ {l : List V1} {mss : List (List CM)} {S : List Frm} {k : List V1 → List Upd → List Frm → RM α}, (canVs N mss S l k).val σ = some r →
    ∃ l' us S', (k l' us S').val σ = some r ∧ CanVs σ N S l l' us S'
  | [], mss, S, k, h => ⟨[], [], S, h, CanVs.nil⟩
  | y :: l, mss, S, k, h => by
    obtain ⟨y', us, S1, h1, c1⟩ := val_canV h
    obtain ⟨l', us', S2, h2, c2⟩ := val_canVs h1
    exact ⟨_, _, _, h2, c1.cons c2⟩
def opnds {α : Type} : List Operand → (List V1 → RM α) → RM α
  | [], k => k []
  | x :: l, k => opnd x fun u => match u with
    | .one y => opnds l fun ys => k (y :: ys)
    | .tup _ => .fail
theorem val_opnds {α : Type} {r : α} : ∀ {l : List Operand} {k : List V1 → RM α}, (opnds l k).val σ = some r → ∃ ys, (k ys).val σ = some r ∧ ys.length = l.length ∧ ∀ (i : Nat) (x : Operand), l[i]? = some x → ∃ y, ys[i]? = some y ∧ absO σ x = .one y
  | [], k, h => ⟨[], h, rfl, fun i x hx => by simp at hx⟩
  | x :: l, k, h => by
    replace h := val_opnd h
    split at h
    case h_2 => simp [RM.val] at h
    case h_1 y hy =>
      obtain ⟨ys, h1, h2, h3⟩ := val_opnds h
      refine ⟨_, h1, by simp [h2], fun i z hz => ?_⟩
      cases i with
      | zero => cases hz; exact ⟨y, rfl, hy⟩
      | succ i => exact h3 i z hz
def finalOb (q : Nat) : List Upd → Nat × Option AObj → Nat × Option AObj
  | [], r => r
  | u :: us, r => finalOb q us (if u.1 = q then u.2 else r)
theorem ob_final : ∀ (us : List Upd) (σ : St) (q : Nat), (σ.lays us).ob q = finalOb q us (σ.ob q)
  | [], σ, q => rfl
  | u :: us, σ, q => by
    have e : σ.lays (u :: us) = (σ.lays [u]).lays us := rfl
    rw [e, ob_final us, finalOb, show (σ.lays [u]).ob q = _ from ob_lays1 σ u.1 u.2 q]
def collect {α : Type} (us : List Upd) : List Frm → (List (Option AObj) → RM α) → RM α
  | [], k => k []
  | .nil e :: l, k => collect us l fun os => k (some (.row true e []) :: os)
  | .obj q g :: l, k => .obj q fun r => collect us l fun os => k (rowOnly (gone g (finalOb q us r)) :: os)
  | .blk q g cells :: l, k => .obj q fun r => collect us l fun os => k (blkOnly cells (gone g (finalOb q us r)) :: os)
theorem val_collect {α : Type} {us : List Upd} : ∀ {l : List Frm} {k : List (Option AObj) → RM α}, (collect us l k).val σ = (k (l.map (Frm.obOf (σ.lays us).ob))).val σ
  | [], k => rfl
  | .nil e :: l, k => val_collect (l := l)
  | .obj q g :: l, k => by
    simp only [collect, RM.val]
    rw [val_collect (l := l), ← ob_final]
    rfl
  | .blk q g cells :: l, k => by
    simp only [collect, RM.val]
    rw [val_collect (l := l), ← ob_final]
    rfl
def allSome {α : Type} : List (Option α) → Option (List α)
  | [] => some []
  | none :: _ => none
  | some x :: l => match allSome l with
    | some l' => some (x :: l')
    | none => none
theorem allSome_eq {α : Type} : ∀ {l : List (Option α)} {l' : List α}, allSome l = some l' → l'.map some = l
  | [], l', h => by cases h; rfl
  | none :: l, l', h => by simp [allSome] at h
  | some x :: l, l', h => by
    simp only [allSome] at h
    split at h
    · rename_i l2 h2
      cases h
      simp [allSome_eq h2]
    · cases h
def distinct : List Nat → Bool
  | [] => true
  | x :: l => !(l.contains x) && distinct l
theorem distinct_nodup : ∀ {l : List Nat}, distinct l = true → l.Nodup
  | [], _ => List.nodup_nil
  | x :: l, h => by
    rw [distinct, Bool.and_eq_true] at h
    exact List.nodup_cons.2 ⟨by simpa using h.1, distinct_nodup h.2⟩
def keysN : List Frm → Nat → List (Option (Nat × Nat))
  | _, 0 => []
  | [], n + 1 => none :: keysN [] n
  | s :: l, n + 1 => s.key :: keysN l n
theorem keysN_get : ∀ {L : List Frm} {n i : Nat}, i < n → (keysN L n)[i]? = some ((L[i]?).bind Frm.key)
  | _, 0, i, h => by omega
  | [], n + 1, 0, h => rfl
  | [], n + 1, i + 1, h => by rw [keysN, List.getElem?_cons_succ, keysN_get (by omega)]; simp
  | s :: l, n + 1, 0, h => rfl
  | s :: l, n + 1, i + 1, h => by rw [keysN, List.getElem?_cons_succ, keysN_get (by omega)]; simp
theorem keysN_len : ∀ {L : List Frm} {n : Nat}, (keysN L n).length = n
  | _, 0 => rfl
  | [], n + 1 => by simp [keysN, keysN_len]
  | s :: l, n + 1 => by simp [keysN, keysN_len]
def bsRM {α : Type} (d : Nat) : List (Option (Nat × Nat)) → Nat → (List (Nat × Nat) → RM α) → RM α
  | [], _, k => k []
  | some x :: l, i, k => bsRM d l (i + 1) fun bs => k (x :: bs)
  | none :: l, i, k => .obj (1000 * (i + 1) + d) fun r => bsRM d l (i + 1) fun bs => k ((1000 * (i + 1) + d, r.1 + 1) :: bs)
theorem val_bsRM {α : Type} {d : Nat} {r : α} : ∀ {l : List (Option (Nat × Nat))} {i : Nat} {k : List (Nat × Nat) → RM α}, (bsRM d l i k).val σ = some r →
    ∃ bs, (k bs).val σ = some r ∧ bs.length = l.length ∧ ∀ (j : Nat) (o : Option (Nat × Nat)), l[j]? = some o → ∃ b, bs[j]? = some b ∧ (∀ x, o = some x → b = x) ∧ (o = none → b.2 = (σ.ob b.1).1 + 1)
  | [], i, k, h => ⟨[], h, rfl, fun j o hj => by simp at hj⟩
  | some x :: l, i, k, h => by
    obtain ⟨bs, h1, h2, h3⟩ := val_bsRM (l := l) h
    refine ⟨_, h1, by simp [h2], fun j o hj => ?_⟩
    cases j with
    | zero => cases hj; exact ⟨x, rfl, fun y hy => (by cases hy; rfl), fun hn => (by cases hn)⟩
    | succ j => exact h3 j o hj
  | none :: l, i, k, h => by
    simp only [bsRM, RM.val] at h
    obtain ⟨bs, h1, h2, h3⟩ := val_bsRM (l := l) h
    refine ⟨_, h1, by simp [h2], fun j o hj => ?_⟩
    cases j with
    | zero => cases hj; exact ⟨_, rfl, fun y hy => (by cases hy), fun _ => rfl⟩
    | succ j => exact h3 j o hj
def bsAt (bs : List (Nat × Nat)) (i : Nat) : Nat × Nat := bs.getD i (0, 0)
def FnOk (P : Program) (f : FuncId) : Prop := ∃ fn, P.funcs[f]? = some fn ∧ (fn.name == "runtime.NumGoroutine") = false ∧ fn.body.isNone = false
abbrev Hand := FuncId → List V1 → List AObj → Option (AV × List (Option AObj))
def HandOk (P : Program) (H : Hand) : Prop := ∀ f args ins res fin, H f args ins = some (res, fin) → Spec P f args ins res fin
abbrev Modes := FuncId → Nat → List CM
def modesOf (tab : Nat → Option Ty) (M : Modes) (f : FuncId) : List Nat → Nat → List (List CM)
  | [], _ => []
  | t :: l, j => (match M f j with
    | [] => (((tab t).map (·.es)).getD []).map CM.pv
    | ms => ms) :: modesOf tab M f l (j + 1)
def absBody (tab : Nat → Option Ty) (fns : FuncId → Bool) (M : Modes) (H : Hand) (dst : Option Nat) (args : List Operand) (tys : List Nat) (fid : FuncId) (extra : List V1) (caps : List PV) : RM Eff :=
  if fns fid = true then opnds args fun ys =>
      canVs callN (modesOf tab M fid tys 0) [] (ys ++ extra) fun ys' us L => collect us L fun os => match allSome os with
        | none => .fail
        | some ins => match H fid (ys' ++ caps.map fun p => .at (.pv p)) ins with
          | none => .fail
          | some (res, fin) => bsRM (dst.getD 999) (keysN L fin.length) 0 fun bs =>
            if distinct (bs.map (·.1)) = true ∧ distinct (L.filterMap Frm.src) = true then .ret ⟨backAV (bsAt bs) fin.length res, us ++ backU (bsAt bs) fin.length fin 0⟩ else .fail
    else .fail
def absCall (tab : Nat → Option Ty) (fns : FuncId → Bool) (M : Modes) (H : Hand) (dst : Option Nat) (f : Operand) (args : Array Operand) (tys : Array TypeId) : RM Eff := opnd f fun u => match u with
  | .one (.at (.pv (.fn fid caps))) => absBody tab fns M H dst args.toList tys.toList fid [] caps
  | .one (.at (.ptr k g off)) => if 2 * cloN ≤ off then .obj k fun q => if isVar (gone g q) = true then absBody tab fns M H dst args.toList tys.toList (off / cloN - 2) [.at (.ptr k g (off % cloN))] [] else .fail else .fail
  | _ => .fail
theorem done_body {o : Oper} {tab : Nat → Option Ty} {fns : FuncId → Bool} {M : Modes} {H : Hand} {cl : Call} {f : Operand} {e : Eff} (hf : ∀ f, fns f = true → FnOk P f) (hH : HandOk P H) (ho : o.op = .call cl) (hc : cl.callee = .value f) {tys : List Nat} {fid : FuncId} {extra : List V1} {caps : List PV}
    (hx : ∀ c a w, Rel w0 S0 G0 σ c a w → ∃ vs : Array Value, a.eval f = .func (.func fid) #[] vs ∧ vs.size = extra.length + caps.length ∧ (∀ i y, extra[i]? = some y → RepV1 σ.ob c y (vs.getD i undef)) ∧ ∀ i p, caps[i]? = some p → Rep c.G p (vs.getD (extra.length + i) undef))
    (h : (absBody tab fns M H o.dst cl.args.toList tys fid extra caps).val σ = some e) : DoneW P w0 S0 G0 σ o e := by
  unfold absBody at h
  · split at h
    case isFalse => simp [RM.val] at h
    case isTrue hfn =>
      obtain ⟨ys, h, hyl, hys⟩ := val_opnds h
      obtain ⟨ys', us, L, h, hcan⟩ := val_canVs h
      rw [val_collect] at h
      split at h
      case h_1 => simp [RM.val] at h
      case h_2 ins hins =>
        have hins := allSome_eq hins
        split at h
        case h_1 => simp [RM.val] at h
        case h_2 res fin hres =>
          obtain ⟨bs, h, hbl, hbs⟩ := val_bsRM h
          split at h
          case isFalse => simp [RM.val] at h
          case isTrue hd =>
            simp only [RM.val, Option.some.injEq] at h
            subst h
            intro c a w hR K Q hK
            obtain ⟨_, hl2, HC⟩ := hcan
            obtain ⟨hF, HR⟩ := HC σ (Frz.refl σ)
            obtain ⟨c1, hR1, g1, e1, e2, hfin⟩ := HR w0 S0 G0 c a w hR
            obtain ⟨hv, hblk⟩ := hfin (σ.lays us) c1 L ⟨hF, hR1, Gh.le_refl _, rfl, rfl⟩ (Ext.refl L) (callN_ok L)
            have hin := hR1.into hins (distinct_nodup hd.2) fun q g cells' hm => hblk q g cells' hm (by simp)
            have eobs := obsC_ins hins
            obtain ⟨vs, hz, hl3, hr3e, hr3⟩ := hx c a w hR
            obtain ⟨fn, hfn1, hfn2, hfn3⟩ := hf fid hfn
            have hfn2 : ¬ fn.name = "runtime.NumGoroutine" := by simpa using hfn2
            have hfn3 : ¬ fn.body = none := fun e => by rw [e] at hfn3; simp at hfn3
            · have hrun : (execOp a.eval o).run P w = .ok (.enter fid (cl.args.map a.eval ++ vs)) w := by
                simp [execOp, ho, resolve, hc, hz, Deferred.ofValue, invoke, callFunc, program, Sem.run, hfn1, hfn2, hfn3]
              unfold Oper.wp
              rw [hrun, Oper.upon_enter]
              have hsp := hH fid _ ins res fin hres
              have hal : cl.args.toList.length = cl.args.size := Array.length_toList
              refine Calls.mono (hsp w _ (cl.args.map a.eval ++ vs) hin (by simp [hl2, hyl, hl3]; omega) fun i x hx => ?_) fun e w' ⟨v, c2, he, hout⟩ => ?_
              · rw [← eobs]
                by_cases hi : i < ys'.length
                · rw [List.getElem?_append_left hi] at hx
                  rw [List.length_append] at hl2
                  by_cases hie : ys.length ≤ i
                  · obtain ⟨y, hy⟩ : ∃ y, extra[i - ys.length]? = some y := ⟨_, List.getElem?_eq_getElem (by omega)⟩
                    have hrep := hr3e _ y hy
                    have hsz : (cl.args.map a.eval).size = ys.length := by simp [hyl]
                    rw [Array.getD_eq_getD_getElem?, Array.getElem?_append_right (by omega), hsz, ← Array.getD_eq_getD_getElem?]
                    exact hv i y x _ (by rw [List.getElem?_append_right hie]; exact hy) hx hrep
                  obtain ⟨xo, hxo⟩ : ∃ xo, cl.args.toList[i]? = some xo := ⟨_, List.getElem?_eq_getElem (by omega)⟩
                  obtain ⟨y, hy1, hy2⟩ := hys i xo hxo
                  have hrep := hR.opnd xo
                  rw [hy2] at hrep
                  have hi2 : i < (cl.args.map a.eval).size := by simp; omega
                  rw [Array.getD_eq_getD_getElem?, Array.getElem?_append_left hi2, Array.getElem?_map]
                  rw [Array.getElem?_toList] at hxo
                  rw [hxo]
                  exact hv i y x _ (by rw [List.getElem?_append_left (by omega)]; exact hy1) hx hrep
                · rw [List.getElem?_append_right (by omega)] at hx
                  obtain ⟨p, hp, rfl⟩ := map_get hx
                  rw [List.length_append] at hl2
                  have hsz : (cl.args.map a.eval).size = ys.length := by simp [hyl]
                  rw [Array.getD_eq_getD_getElem?, Array.getElem?_append_right (by omega), hsz]
                  have := hr3 _ p hp
                  rw [Array.getD_eq_getD_getElem?, show extra.length + (i - ys'.length) = i - ys.length by omega] at this
                  exact Rep.mono g1 this
              · subst he
                have hgen : ∀ q, ((σ.lays us).ob q).1 = (σ.ob q).1 := fun q => hF.gen.1
                have hbl : bs.length = fin.length := by rw [hbl, keysN_len]
                have hnd := distinct_nodup hd.1
                have n1 : ∀ i j, i < fin.length → j < fin.length → (bsAt bs i).1 = (bsAt bs j).1 → i = j := fun i j hi hj hij => by
                  have e3 : ∀ k, k < fin.length → (bs.map (·.1))[k]? = some (bsAt bs k).1 := fun k hk => by
                    rw [List.getElem?_map, List.getElem?_eq_getElem (by omega)]
                    simp [bsAt, List.getD_eq_getElem?_getD, List.getElem?_eq_getElem (show k < bs.length by omega)]
                  have e4 := e3 i hi
                  have e5 := e3 j hj
                  rw [← hij] at e5
                  obtain ⟨l1, e4⟩ := List.getElem?_eq_some_iff.1 e4
                  obtain ⟨l2, e5⟩ := List.getElem?_eq_some_iff.1 e5
                  exact (List.getElem_inj hnd).1 (e4.trans e5.symm)
                have n2 : ∀ (i : Nat) (s : Frm) (q g : Nat), L[i]? = some s → s.key = some (q, g) → bsAt bs i = (q, g) := fun i s q g hs hk => by
                  have hi := (List.getElem?_eq_some_iff.1 hs).1
                  have hlen : ins.length = L.length := by simpa using congrArg List.length hins
                  have hi2 : i < fin.length := by have := hout.len; omega
                  obtain ⟨b, b1, b2, b3⟩ := hbs i _ (keysN_get hi2)
                  rw [hs] at b2
                  have := b2 _ hk
                  rw [← this]
                  simp [bsAt, List.getD_eq_getElem?_getD, b1]
                have n3 : ∀ i, i < fin.length → (∀ s : Frm, L[i]? = some s → s.key = none) → (bsAt bs i).2 = ((σ.lays us).ob (bsAt bs i).1).1 + 1 := fun i hi hk => by
                  obtain ⟨b, b1, b2, b3⟩ := hbs i _ (keysN_get hi)
                  have e6 : bsAt bs i = b := by simp [bsAt, List.getD_eq_getElem?_getD, b1]
                  rw [e6, hgen]
                  refine b3 ?_
                  cases hs : L[i]? with
                  | none => rfl
                  | some s => exact hk s hs
                obtain ⟨c3, hR3⟩ := hR1.back hins hout (bsAt bs) n1 n2 n3 o.dst
                refine hK c3 _ _ ?_ (Act.size_put _ _ _)
                unfold St.app
                rw [lays_append]
                exact hR3
theorem done_call {o : Oper} {tab : Nat → Option Ty} {fns : FuncId → Bool} {M : Modes} {H : Hand} {cl : Call} {f : Operand} {e : Eff} (hf : ∀ f, fns f = true → FnOk P f) (hH : HandOk P H) (ho : o.op = .call cl) (hc : cl.callee = .value f)
    (h : (absCall tab fns M H o.dst f cl.args cl.argTypes).val σ = some e) : DoneW P w0 S0 G0 σ o e := by
  replace h := val_opnd h
  generalize hu : absO σ f = u at h
  split at h
  case h_3 => simp [RM.val] at h
  case h_1 fid caps =>
    refine done_body hf hH ho hc (fun c a w hR => ?_) h
    have hx := hR.opnd f
    rw [hu] at hx
    have hx : Rep c.G (.fn fid caps) (a.eval f) := hx
    generalize hz : a.eval f = z at hx
    cases hx with
    | fn _ _ vs hl3 hr3 => exact ⟨vs, rfl, by simp [hl3], fun i y hy => by simp at hy, fun i p hp => by simpa using hr3 i p hp⟩
  case h_2 k g off =>
    split at h
    case isFalse => simp [RM.val] at h
    rename_i hlo
    simp only [RM.val] at h
    split at h
    case isFalse => simp [RM.val] at h
    rename_i hv
    refine done_body hf hH ho hc (fun c a w hR => ?_) h
    have hx := hR.opnd f
    rw [hu] at hx
    obtain ⟨hg, hp⟩ := hx
    obtain ⟨b, hb, e1⟩ := hp hv
    have hm : off % cloN < cloN := Nat.mod_lt _ (by decide)
    refine ⟨#[.pointer (some ⟨b, off % cloN, none⟩)], ?_, rfl, fun i y hy => ?_, fun i p hp => by simp at hp⟩
    · rw [e1]
      unfold pval
      rw [if_neg (by omega), if_neg (by omega)]
    · match i, hy with
      | 0, hy => cases hy; exact ⟨hg, fun _ => ⟨b, hb, (pval_ptr hm).symm⟩⟩
def absLen (tab : Nat → Option Ty) (t : Nat) (x : Operand) : RM Eff := opnd x fun u => match tab t with
  | none => .fail
  | some ty => if ty.str = true then match u with
      | .one (.at (.pv (.str s))) => .ret ⟨.one (.at (.pv (.int .i64 s.size))), []⟩
      | _ => .fail
    else if ty.elem = 0 then .fail else match u with
      | .one (.at (.pv (.list _ xs))) => .ret ⟨.one (.at (.pv (.int .i64 xs.length))), []⟩
      | .one (.at .nil) => .ret ⟨.one (.at (.pv (.int .i64 0))), []⟩
      | .one (.at (.row k g)) => .obj k fun q => match rowLen (gone g q) with
        | some n => .ret ⟨.one (.at (.pv (.int .i64 n))), []⟩
        | none => .fail
      | .one (.at (.tail k g j)) => .obj k fun q => if (rowE (gone g q)).isSome then match rowLen (gone g q) with
        | some n => if j ≤ n then .ret ⟨.one (.at (.pv (.int .i64 (n - j : Nat)))), []⟩ else .fail
        | none => .fail else .fail
      | _ => .fail
theorem rep_list_val {e : Nat} {xs : List (List PV)} {v : Value} (h : Rep G (.list e xs) v) : ∃ A cap, v = .slice A xs.length cap := by
  cases h with
  | nil _ A cap => exact ⟨A, cap, rfl⟩
  | list _ _ g o cap f hc hw hg hr => exact ⟨_, cap, rfl⟩
theorem rowVal_slice (b : Option Nat) (n cap : Nat) (h : b = none → n = 0) : ∃ A cap', rowVal b n cap = .slice A n cap' := by
  cases b with
  | none => rw [h rfl]; exact ⟨_, _, rfl⟩
  | some b => exact ⟨_, _, rfl⟩
theorem Rel.row_slice (h : Rel w0 S0 G0 σ c a w) {k g n : Nat} (hn : rowLen (gone g (σ.ob k)) = some n) : ∃ A cap, rowVal (c.ρ k) n (c.cp k) = .slice A n cap := by
  refine rowVal_slice _ _ _ fun e => ?_
  cases hq : gone g (σ.ob k) with
  | none => rw [hq] at hn; simp [rowLen] at hn
  | some o =>
    have hob := h.obs k g o (gone_some hq)
    rw [hq] at hn
    cases o with
    | map ds => simp [rowLen] at hn
    | blk cells => simp [rowLen] at hn
    | fro cells => simp [rowLen] at hn
    | row own e1 xs =>
      simp only [rowLen, Option.some.injEq] at hn
      rcases hob with ⟨h1, h2, h3⟩ | ⟨b, cs, ty, hb, _⟩
      · rw [h2] at hn; exact hn.symm
      · rw [e] at hb; cases hb
    | view e1 xs =>
      simp only [rowLen, Option.some.injEq] at hn
      rcases hob with ⟨h1, h2⟩ | ⟨b, hb, _⟩
      · rw [h2] at hn; exact hn.symm
      · rw [e] at hb; cases hb
theorem Rel.row_pos (h : Rel w0 S0 G0 σ c a w) {k g m : Nat} (hm : rowLen (gone g (σ.ob k)) = some m) (h0 : 0 < m) : ∃ b, c.ρ k = some b ∧ m ≤ c.cp k := by
  cases hq : gone g (σ.ob k) with
  | none => rw [hq] at hm; simp [rowLen] at hm
  | some ob1 =>
    have hob := h.obs k g ob1 (gone_some hq)
    rw [hq] at hm
    cases ob1 with
    | map ds => simp [rowLen] at hm
    | blk cells => simp [rowLen] at hm
    | fro cells => simp [rowLen] at hm
    | row own e1 xs =>
      simp only [rowLen, Option.some.injEq] at hm
      rcases hob with ⟨_, h2, _⟩ | ⟨b, cs, ty, hb', _, h3, _⟩
      · rw [h2] at hm; simp at hm; omega
      · exact ⟨b, hb', by omega⟩
    | view e1 xs =>
      simp only [rowLen, Option.some.injEq] at hm
      rcases hob with ⟨_, h2⟩ | ⟨b, hb', h3, _⟩
      · rw [h2] at hm; simp at hm; omega
      · exact ⟨b, hb', by omega⟩
theorem done_len {o : Oper} {tab : Nat → Option Ty} {cl : Call} {t : Nat} {x : Operand} {e : Eff} (htab : ∀ t ty, tab t = some ty → TyOk P t ty) (ho : o.op = .call cl) (hc : cl.callee = .builtin .len) (ha : cl.args = #[x]) (ht : cl.argTypes = #[t])
    (h : (absLen tab t x).val σ = some e) : Done P w0 S0 G0 σ o e := by
  replace h := val_opnd h
  cases hty : tab t with
  | none => rw [hty] at h; simp [RM.val] at h
  | some ty =>
    rw [hty] at h
    have hT := htab t ty hty
    have hx := fun c a w (hR : Rel w0 S0 G0 σ c a w) => hR.opnd x
    generalize absO σ x = u at h hx
    dsimp only at h
    split at h
    case isTrue hs =>
      split at h
      case h_2 => simp [RM.val] at h
      case h_1 s =>
        simp only [RM.val, Option.some.injEq] at h
        subst h
        refine Done.pure fun c a w hR => ⟨.int .i64 s.size, ?_, Rep.int _ _⟩
        have e1 := rep_str (hx c a w hR)
        simp [execOp, ho, resolve, hc, ha, ht, invoke, builtin, Builtin.len_, run_underlying (hT.str hs), e1, goInt]
    case isFalse hs =>
      split at h
      case isTrue => simp [RM.val] at h
      case isFalse he =>
        have R : ∀ (a : Act) (w : World) (A : Option Addr) (n cap : Nat), a.eval x = .slice A n cap → (execOp a.eval o).run P w = .ok (.value (.int .i64 n)) w := fun a w A n cap e1 => by
          simp [execOp, ho, resolve, hc, ha, ht, invoke, builtin, Builtin.len_, run_underlying (hT.slice he), e1, goInt]
        split at h
        case h_1 e1 xs =>
          simp only [RM.val, Option.some.injEq] at h
          subst h
          refine Done.pure fun c a w hR => ⟨.int .i64 xs.length, ?_, Rep.int _ _⟩
          obtain ⟨A, cap, e1⟩ := rep_list_val (hx c a w hR)
          exact R a w A _ cap e1
        case h_2 =>
          simp only [RM.val, Option.some.injEq] at h
          subst h
          refine Done.pure fun c a w hR => ⟨.int .i64 (0 : Nat), R a w none 0 0 (hx c a w hR), Rep.int _ _⟩
        case h_3 k g =>
          simp only [RM.val] at h
          split at h
          case h_2 => simp [RM.val] at h
          case h_1 n hn =>
            simp only [RM.val, Option.some.injEq] at h
            subst h
            refine Done.pure fun c a w hR => ⟨.int .i64 n, ?_, Rep.int _ _⟩
            obtain ⟨A, cap, e1⟩ := hR.row_slice hn
            exact R a w A _ cap ((((hx c a w hR).2 n hn)).trans e1)
        case h_4 k g j =>
          simp only [RM.val] at h
          split at h
          case isFalse => simp [RM.val] at h
          rename_i he
          obtain ⟨e1, he⟩ := Option.isSome_iff_exists.1 he
          split at h
          case h_2 => simp [RM.val] at h
          case h_1 n hn =>
            split at h
            case isFalse => simp [RM.val] at h
            rename_i hjn
            simp only [RM.val, Option.some.injEq] at h
            subst h
            refine Done.pure fun c a w hR => ⟨.int .i64 (n - j : Nat), ?_, Rep.int _ _⟩
            have hv := (hx c a w hR).2 n e1 hn he
            obtain ⟨A, cap, e2⟩ := hR.row_slice hn
            cases hρ : c.ρ k with
            | none =>
              rw [hρ] at hv e2
              have hn0 : n = 0 := by
                have e2 : Value.slice none 0 0 = Value.slice A n cap := e2
                injection e2 with _ e2 _
                exact e2.symm
              subst hn0
              have : (0 - j : Nat) = 0 := Nat.zero_sub _
              rw [this]
              exact R a w none 0 0 hv
            | some b =>
              rw [hρ] at hv
              exact R a w _ (n - j) _ hv
        case h_5 => simp [RM.val] at h
def absIndexArr (tab : Nat → Option Ty) (ty : Ty) (u v : AV) : RM Eff := match v with
  | .one (.at (.pv (.int _ n))) => if n < 0 then .fail else match ty.apl[n.toNat]? with
    | none => .fail
    | some (off, ft) => match tab ft with
      | none => .fail
      | some fty => match u with
        | .one (.at (.ptr k g o)) => if o + off < cloN then .obj k fun q => match gone g q with
          | some (.blk _) => .ret ⟨.one (.at (.ptr k g (o + off))), []⟩
          | some (.fro _) => .ret ⟨.one (.at (.ptr k g (o + off))), []⟩
          | _ => .fail else .fail
        | .one (.at (.pv (.ref cells))) => .ret ⟨.one (.at (.pv (.ref (cells.drop off)))), []⟩
        | _ => .fail
  | _ => .fail
theorem run_indexArr {t b o off ft : Nat} {ty fty : Ty} {k : IntKind} {n : Int} (hT : TyOk P t ty) (h0 : ¬ n < 0) (hq : ty.apl[n.toNat]? = some (off, ft)) :
    (Instr.indexAt t (.pointer (some ⟨b, o, none⟩)) (.int k n)).run P w = .ok (.pointer (some ⟨b, o + off, none⟩)) w := by
  have hlt := (List.getElem?_eq_some_iff.1 hq).1
  obtain ⟨m, e, i, h1, h2, h3, h4⟩ := hT.arr (fun e => by rw [e] at hlt; simp at hlt)
  have h4 := h4 _ _ hq
  simp only [Prod.mk.injEq] at h4
  obtain ⟨rfl, rfl⟩ := h4
  have h5 : 0 ≤ n ∧ n < (m : Int) := ⟨by omega, by omega⟩
  simp [Instr.indexAt, asIntOf, run_underlying h1, Instr.sureAddr, h5, sizeOf, typeInfo, h2, Addr.add_mid]
theorem done_indexArr {o : Oper} {tab : Nat → Option Ty} {t : Nat} {ty : Ty} {x i : Operand} {e : Eff} (hT : TyOk P t ty) (ho : o.op = .indexAddr t x i) (h : (absIndexArr tab ty (absO σ x) (absO σ i)).val σ = some e) : Done P w0 S0 G0 σ o e := by
  have hx := fun c a w (hR : Rel w0 S0 G0 σ c a w) => hR.opnd x
  have hi := fun c a w (hR : Rel w0 S0 G0 σ c a w) => hR.opnd i
  generalize absO σ x = u at h hx
  generalize absO σ i = v at h hi
  unfold absIndexArr at h
  split at h
  case h_2 => simp [RM.val] at h
  case h_1 kk n =>
    split at h
    case isTrue => simp [RM.val] at h
    case isFalse h0 =>
      split at h
      case h_1 => simp [RM.val] at h
      case h_2 off ft hq =>
        split at h
        case h_1 => simp [RM.val] at h
        case h_2 fty hft =>
          split at h
          case h_1 k g off0 =>
            split at h
            case isFalse => simp [RM.val] at h
            rename_i hlt
            simp only [RM.val] at h
            have key : (match gone g (σ.ob k) with
                | some (.blk _) => RM.ret (α := Eff) ⟨.one (.at (.ptr k g (off0 + off))), []⟩
                | some (.fro _) => .ret ⟨.one (.at (.ptr k g (off0 + off))), []⟩
                | _ => .fail).val σ = some e → isVar (gone g (σ.ob k)) = true ∧ e = ⟨.one (.at (.ptr k g (off0 + off))), []⟩ := by
              intro h
              split at h
              · rename_i q; rw [q]; simp only [RM.val, Option.some.injEq] at h; exact ⟨rfl, h.symm⟩
              · rename_i q; rw [q]; simp only [RM.val, Option.some.injEq] at h; exact ⟨rfl, h.symm⟩
              · simp [RM.val] at h
            obtain ⟨hv, he⟩ := key h
            subst he
            refine Done.pure fun c a w hR => ?_
            obtain ⟨hg, hp⟩ := hx c a w hR
            have q2 := rep_int (hi c a w hR)
            obtain ⟨b, hb, hv'⟩ := hp hv
            rw [pval_ptr (by omega)] at hv'
            exact ⟨.pointer (some ⟨b, off0 + off, none⟩), by simp [execOp, ho, hv', q2, run_indexArr (fty := fty) hT h0 hq], hg, fun _ => ⟨b, hb, (pval_ptr hlt).symm⟩⟩
          case h_2 cells =>
            simp only [RM.val, Option.some.injEq] at h
            subst h
            refine Done.pure fun c a w hR => ?_
            have q2 := rep_int (hi c a w hR)
            have hx : Rep c.G (.ref cells) (a.eval x) := hx c a w hR
            generalize hz : a.eval x = z at hx
            cases hx with
            | ref _ g o1 f hg hr =>
              refine ⟨.pointer (some ⟨g, o1 + off, none⟩), by simp [execOp, ho, hz, q2, run_indexArr (fty := fty) hT h0 hq], ?_⟩
              refine Rep.ref (cells.drop off) g (o1 + off) (fun i => f (off + i)) (fun i c hc => ?_) (fun i c hc => ?_)
              · rw [List.getElem?_drop] at hc; rw [Nat.add_assoc]; exact hg _ _ hc
              · rw [List.getElem?_drop] at hc; exact hr _ _ hc
          case h_3 => simp [RM.val] at h
def absIndexAddr (tab : Nat → Option Ty) (t : Nat) (x i : Operand) : RM Eff := opnd x fun u => opnd i fun v => match tab t with
  | none => .fail
  | some ty => if ty.elem = 0 then absIndexArr tab ty u v else match tab ty.elem with
    | none => .fail
    | some ety => match v with
      | .one (.at (.pv (.int _ n))) => if n < 0 then .fail else match u with
        | .one (.at (.pv (.list e xs))) => if e = ety.size then match xs[n.toNat]? with
            | some cells => .ret ⟨.one (.at (.pv (.ref cells))), []⟩
            | none => .fail
          else .fail
        | .one (.at (.row k g)) => .obj k fun q => if rowE (gone g q) = some ety.size then match rowLen (gone g q) with
            | some m => if n < m then .ret ⟨.one (.at (.eptr k g n.toNat 0)), []⟩ else .fail
            | none => .fail
          else .fail
        | .one (.at (.tail k g j)) => .obj k fun q => if rowE (gone g q) = some ety.size then match rowLen (gone g q) with
            | some m => if j ≤ m ∧ n < (m - j : Nat) then .ret ⟨.one (.at (.eptr k g (j + n.toNat) 0)), []⟩ else .fail
            | none => .fail
          else .fail
        | _ => .fail
      | _ => .fail
theorem run_indexAt {t : Nat} {ty ety : Ty} (hT : TyOk P t ty) (hE : TyOk P ty.elem ety) (he : ¬ ty.elem = 0) (b o len cap : Nat) (k : IntKind) (n : Int) (h0 : ¬ n < 0) (h1 : n < len) :
    (Instr.indexAt t (.slice (some ⟨b, o, none⟩) len cap) (.int k n)).run P w = .ok (.pointer (some ⟨b, o + n.toNat * ety.size, none⟩)) w := by
  obtain ⟨i, z, hi, hsz, _⟩ := hE.info
  have h2 : 0 ≤ n ∧ n < (len : Int) := ⟨by omega, h1⟩
  simp [Instr.indexAt, asIntOf, run_underlying (hT.slice he), h2, sizeOf, typeInfo, hi, hsz, Addr.add_mid]
theorem done_indexAddr {o : Oper} {tab : Nat → Option Ty} {t : Nat} {x i : Operand} {e : Eff} (htab : ∀ t ty, tab t = some ty → TyOk P t ty) (ho : o.op = .indexAddr t x i) (h : (absIndexAddr tab t x i).val σ = some e) : Done P w0 S0 G0 σ o e := by
  replace h := val_opnd h
  replace h := val_opnd h
  cases hty : tab t with
  | none => rw [hty] at h; simp [RM.val] at h
  | some ty =>
    rw [hty] at h
    have hT := htab t ty hty
    have hx := fun c a w (hR : Rel w0 S0 G0 σ c a w) => hR.opnd x
    have hi := fun c a w (hR : Rel w0 S0 G0 σ c a w) => hR.opnd i
    dsimp only at h
    split at h
    case isTrue => exact done_indexArr hT ho h
    case isFalse he =>
      generalize absO σ x = u at h hx
      generalize absO σ i = v at h hi
      cases hety : tab ty.elem with
      | none => rw [hety] at h; simp [RM.val] at h
      | some ety =>
        rw [hety] at h
        have hE := htab _ ety hety
        dsimp only at h
        split at h
        case h_2 => simp [RM.val] at h
        case h_1 kk n =>
          split at h
          case isTrue => simp [RM.val] at h
          case isFalse h0 =>
            split at h
            case h_1 e1 xs =>
              split at h
              case isFalse => simp [RM.val] at h
              case isTrue hes =>
                split at h
                case h_2 => simp [RM.val] at h
                case h_1 cells hcell =>
                  simp only [RM.val, Option.some.injEq] at h
                  subst h
                  refine Done.pure fun c a w hR => ?_
                  have q1 := hx c a w hR
                  have q2 := rep_int (hi c a w hR)
                  have q1 : Rep c.G (.list e1 xs) (a.eval x) := q1
                  have hlt := (List.getElem?_eq_some_iff.1 hcell).1
                  generalize hz : a.eval x = z at q1
                  cases q1 with
                  | nil _ A cap => simp at hlt
                  | list _ _ g o1 cap f hc hw hg hr =>
                    refine ⟨.pointer (some ⟨g, o1 + n.toNat * ety.size, none⟩), by simp [execOp, ho, hz, q2, run_indexAt hT hE he g o1 xs.length cap kk n h0 (by omega)], ?_⟩
                    refine Rep.ref cells g _ (fun i => f n.toNat i) (fun i p hp => ?_) (fun i p hp => hr _ _ _ _ hcell hp)
                    rw [← hes]
                    exact hg _ _ _ _ hcell hp
            case h_2 k g =>
              simp only [RM.val] at h
              split at h
              case isFalse => simp [RM.val] at h
              case isTrue hes =>
                split at h
                case h_2 => simp [RM.val] at h
                case h_1 m hm =>
                  split at h
                  case isFalse => simp [RM.val] at h
                  case isTrue hlt =>
                    simp only [RM.val, Option.some.injEq] at h
                    subst h
                    refine Done.pure fun c a w hR => ?_
                    obtain ⟨q0, q1⟩ := hx c a w hR
                    have q2 := rep_int (hi c a w hR)
                    have q1 := q1 m hm
                    obtain ⟨b, hb, _⟩ := hR.row_pos hm (by omega)
                    rw [hb] at q1
                    have q1 : a.eval x = .slice (some ⟨b, 0, none⟩) m (c.cp k) := q1
                    refine ⟨.pointer (some ⟨b, 0 + n.toNat * ety.size, none⟩), by simp [execOp, ho, q1, q2, run_indexAt hT hE he b 0 m (c.cp k) kk n h0 hlt], q0, fun e2 he2 => ⟨b, hb, ?_⟩⟩
                    have he2 : rowE (gone g (σ.ob k)) = some e2 := he2
                    rw [hes] at he2
                    cases he2
                    simp
            case h_3 k g j =>
              simp only [RM.val] at h
              split at h
              case isFalse => simp [RM.val] at h
              case isTrue hes =>
                split at h
                case h_2 => simp [RM.val] at h
                case h_1 m hm =>
                  split at h
                  case isFalse => simp [RM.val] at h
                  case isTrue hlt =>
                    simp only [RM.val, Option.some.injEq] at h
                    subst h
                    refine Done.pure fun c a w hR => ?_
                    obtain ⟨q0, q1⟩ := hx c a w hR
                    have q2 := rep_int (hi c a w hR)
                    have q1 := q1 m ety.size hm hes
                    obtain ⟨b, hb, hcp⟩ := hR.row_pos hm (by omega)
                    rw [hb] at q1
                    have q1 : a.eval x = .slice (some ⟨b, if c.cp k = j then 0 else j * ety.size, none⟩) (m - j) (c.cp k - j) := q1
                    rw [if_neg (by omega)] at q1
                    refine ⟨.pointer (some ⟨b, j * ety.size + n.toNat * ety.size, none⟩), by simp [execOp, ho, q1, q2, run_indexAt hT hE he b (j * ety.size) (m - j) (c.cp k - j) kk n h0 hlt.2], q0, fun e2 he2 => ⟨b, hb, ?_⟩⟩
                    have he2 : rowE (gone g (σ.ob k)) = some e2 := he2
                    rw [hes] at he2
                    cases he2
                    simp [Nat.add_mul]
            case h_4 => simp [RM.val] at h
end Go.E2
namespace Go.E2
open Go.RowKit
set_option linter.unusedVariables false
set_option linter.unusedSimpArgs false
variable {ob : Obs} {c c' : Con} {w w' w0 : World} {S0 : Own} {G0 G : Gh} {σ σ' σ1 : St} {a a' : Act} {P : Program}
def Says (G : Gh) (e : Nat) (ys : List (List PV)) (news : List Value) : Prop :=
  news.length = ys.length * e ∧ Wide e ys ∧ ∀ (j : Nat) (x : List PV) (i : Nat) (y : PV), ys[j]? = some x → x[i]? = some y → Rep G y (news.getD (j * e + i) undef)
theorem Says.mono {G' : Gh} {e : Nat} {ys : List (List PV)} {news : List Value} (hG : Gh.le G G') (h : Says G e ys news) : Says G' e ys news := ⟨h.1, h.2.1, fun j x i y hx hy => (h.2.2 j x i y hx hy).mono hG⟩
theorem rep_one {p : PV} {v : Value} (h : Rep G p v) : v.oneCell' = true := by cases h <;> rfl
theorem Says.one {e : Nat} {ys : List (List PV)} {news : List Value} (h : Says G e ys news) : ∀ u ∈ news, u.oneCell' = true := by
  intro u hu
  obtain ⟨q, hq, rfl⟩ := List.getElem_of_mem hu
  have hl := h.1
  have he : 0 < e := by
    rcases Nat.eq_zero_or_pos e with h0 | h0
    · subst h0; rw [Nat.mul_zero] at hl; omega
    · exact h0
  have hj : q / e < ys.length := (Nat.div_lt_iff_lt_mul he).2 (by omega)
  have hx := h.2.1 (q / e) ys[q / e] (List.getElem?_eq_getElem hj)
  have hi : q % e < ys[q / e].length := by rw [hx]; exact Nat.mod_lt _ he
  have := h.2.2 (q / e) _ (q % e) _ (List.getElem?_eq_getElem hj) (List.getElem?_eq_getElem hi)
  rw [show q / e * e + q % e = q by rw [Nat.mul_comm]; exact Nat.div_add_mod q e] at this
  rw [List.getD_eq_getElem?_getD, List.getElem?_eq_getElem hq] at this
  exact rep_one this
theorem wide_append {e : Nat} {xs ys : List (List PV)} (h1 : Wide e xs) (h2 : Wide e ys) : Wide e (xs ++ ys) := by
  intro j x hx
  by_cases hj : j < xs.length
  · rw [List.getElem?_append_left hj] at hx; exact h1 j x hx
  · rw [List.getElem?_append_right (by omega)] at hx; exact h2 _ x hx
theorem Rel.extend (h : Rel w0 S0 G0 σ c a w) {k g e b d : Nat} {own : Bool} {xs ys : List (List PV)} {news : List Value} (hk : σ.ob k = (g, some (.row own e xs))) (hb : c.ρ k = some b) (hs : Says c.G e ys news) (hroom : xs.length + ys.length ≤ c.cp k) (dst : Option Nat) :
    ∃ c', Rel w0 S0 G0 (σ.app dst ⟨.one (.at (.row d ((σ.ob d).1 + 1))), [(k, g, if own = true then none else some (.view e xs)), (d, (σ.ob d).1 + 1, some (.row own e (xs ++ ys)))]⟩) c' (a.put dst (.slice (some ⟨b, 0, none⟩) (xs.length + ys.length) (c.cp k))) (w.setCells b (xs.length * e) news) := by
  rcases h.obs k g _ hk with ⟨q1, _⟩ | ⟨b', cs, ty, hb', hh, hl, hc, hwd, hr, hg⟩
  · rw [hb] at q1; cases q1
  rw [hb] at hb'; cases hb'
  obtain ⟨hs1, hs2, hs3⟩ := hs
  have hfit : xs.length * e + news.length ≤ cs.size := by
    rw [hs1, hc, ← Nat.add_mul]
    exact Nat.mul_le_mul_right e hroom
  let G' : Gh := fun b' o => if own = false ∧ b' = b ∧ xs.length * e ≤ o ∧ o < xs.length * e + news.length then news[o - xs.length * e]? else c.G b' o
  have hGend : ∀ o, xs.length * e ≤ o → c.G b o = none := by
    cases own with
    | true => exact fun o _ => (by simpa using hg : ∀ o, c.G b o = none) o
    | false => exact fun o ho => (by simpa using hg : _ ∧ ∀ o, xs.length * e ≤ o → c.G b o = none).2 o ho
  have hG : Gh.le c.G G' := fun b' o v hv => by
    show (if own = false ∧ b' = b ∧ xs.length * e ≤ o ∧ o < xs.length * e + news.length then news[o - xs.length * e]? else c.G b' o) = some v
    rw [if_neg (fun q => by rw [q.2.1, hGend o q.2.2.1] at hv; cases hv)]
    exact hv
  have hGo : ∀ b' i, b' ≠ b → G' b' i = c.G b' i := fun b' i hne => if_neg (fun q => hne q.2.1)
  let c' : Con := { ρ := fun q => if q = d then some b else c.ρ q, cp := fun q => if q = d then c.cp k else c.cp q, G := G' }
  have hGv : ∀ b' o, c'.G b' o = if own = false ∧ b' = b ∧ xs.length * e ≤ o ∧ o < xs.length * e + news.length then news[o - xs.length * e]? else c.G b' o := fun _ _ => rfl
  let ko : Option AObj := if own = true then none else some (.view e xs)
  let σ' := σ.app dst ⟨.one (.at (.row d ((σ.ob d).1 + 1))), [(k, g, ko), (d, (σ.ob d).1 + 1, some (.row own e (xs ++ ys)))]⟩
  have eob : ∀ q, σ'.ob q = if d = q then ((σ.ob d).1 + 1, some (.row own e (xs ++ ys))) else if k = q then (g, ko) else σ.ob q := fun q => by
    show (St.put _ _ _).ob q = _
    rw [St.ob_put]
    show look (lay (lay σ.obs k (g, ko)) d _) q = _
    rw [look_lay, look_lay]
    rfl
  have hdd : σ'.ob d = ((σ.ob d).1 + 1, some (.row own e (xs ++ ys))) := by rw [eob, if_pos rfl]
  have hkk : k ≠ d → σ'.ob k = (g, ko) := fun hne => by rw [eob, if_neg (fun e => hne e.symm), if_pos rfl]
  have hqq : ∀ q, q ≠ d → q ≠ k → σ'.ob q = σ.ob q := fun q h1 h2 => by rw [eob, if_neg (fun e => h1 e.symm), if_neg (fun e => h2 e.symm)]
  have hρ : ∀ q, q ≠ d → c'.ρ q = c.ρ q := fun q hq => by simp [c', hq]
  have hcp : ∀ q, q ≠ d → c'.cp q = c.cp q := fun q hq => by simp [c', hq]
  have hρd : c'.ρ d = some b := by simp [c']
  have hcpd : c'.cp d = c.cp k := by simp [c']
  have hK : ∀ q, Keeps σ.ob σ'.ob c c' q := fun q => by
    by_cases e1 : q = d
    · subst e1; left; rw [hdd]; exact Nat.lt_succ_self _
    · by_cases e2 : q = k
      · subst e2
        right
        rw [hkk e1, hk]
        refine ⟨rfl, fun n hn => ?_, fun n hn => ?_, fun hv => ?_⟩
        · cases own with
          | true => simp [ko, rowLen] at hn
          | false => exact ⟨by simpa [ko, rowLen] using hn, hρ q e1, hcp q e1⟩
        · cases own with
          | true => simp [ko, rowE] at hn
          | false => exact ⟨by simpa [ko, rowE] using hn, hρ q e1⟩
        · cases own <;> simp [ko, isVar] at hv
      · exact Keeps.same (hqq q e1 e2) (hρ q e1) (hcp q e1)
  obtain ⟨s1, s2, s3, s4, s5⟩ := setCells_os news w b (xs.length * e)
  have hbl := h.blk_lt hk rfl hb
  have hnget : ∀ j, j < news.length → (w.setCells b (xs.length * e) news).cell? ⟨b, xs.length * e + j, none⟩ = news[j]? := fun j hj => by
    rw [World.cell?_setCells_in b news _ w (fun j hj => by rw [cell_of_blk hh, Array.getElem?_eq_getElem (by omega)]; rfl) j hj, List.getElem?_eq_getElem hj]
  have hblk := setCells_self news w b (xs.length * e) cs ty hh
  have notk : ∀ q g' o', q ≠ d → σ'.ob q = (g', some o') → owned o' = true → q ≠ k ∧ σ.ob q = (g', some o') := fun q g' o' hq ho hw => by
    by_cases e2 : q = k
    · subst e2
      rw [hkk hq] at ho
      exfalso
      cases own with
      | true => simp [ko] at ho
      | false =>
        simp only [ko] at ho
        cases ho
        simp [owned] at hw
    · exact ⟨e2, by rw [hqq q hq e2] at ho; exact ho⟩
  refine ⟨c', h.step (σ' := σ') (c' := c') hG hK (fun b' o v hv => ?_) (by rw [St.len_app, Act.size_put]; exact h.sz) ?_ (by rw [Act.defers_put]; exact h.df) (fun q g' o' ho => ?_) ?_ ?_ ?_ ?_⟩
  · rw [hGv] at hv
    split at hv
    · rename_i q
      obtain ⟨_, rfl, q3, q4⟩ := q
      obtain ⟨m, rfl⟩ : ∃ m, o = xs.length * e + m := ⟨o - xs.length * e, by omega⟩
      rw [hnget m (by omega)]
      rw [show xs.length * e + m - xs.length * e = m by omega] at hv
      exact hv
    · rw [World.cell?_setCells_out b news _ w _ (fun e1 _ => ?_)]
      · exact h.imm b' o v hv
      · left
        have e1 : b' = b := e1
        subst e1
        rcases Nat.lt_or_ge o (xs.length * e) with hlt | hge
        · exact hlt
        · rw [hGend o hge] at hv; cases hv
  · refine slot_app (σ := σ) h.sz dst _ _ ⟨by rw [hdd]; exact Nat.le_refl _, fun n hn => ?_⟩
    rw [alive_of hdd] at hn
    simp only [rowLen, Option.some.injEq] at hn
    rw [hρd, hcpd, ← hn, List.length_append]
    rfl
  · by_cases e1 : q = d
    · subst e1
      rw [hdd] at ho
      cases ho
      right
      refine .inr ⟨b, setMany cs (xs.length * e) news, ty, hρd, hblk, by rw [hcpd, List.length_append]; exact ⟨hroom, hl.2⟩, by rw [setMany_size, hcpd, hc], wide_append hwd hs2, fun j x i y hx hy => ?_, ?_⟩
      · have hi := (List.getElem?_eq_some_iff.1 hy).1
        by_cases hj : j < xs.length
        · rw [List.getElem?_append_left hj] at hx
          have hwj := hwd j x hx
          have hlt : j * e + i < xs.length * e := by
            have : (j + 1) * e ≤ xs.length * e := Nat.mul_le_mul_right e (by omega)
            rw [Nat.succ_mul] at this
            omega
          have := hr j x i y hx hy
          rw [Array.getD_eq_getD_getElem?, setMany_get news cs _ _ hfit, if_neg (by omega)]
          rw [Array.getD_eq_getD_getElem?] at this
          exact this.mono hG
        · rw [List.getElem?_append_right (by omega)] at hx
          have hwj := hs2 _ x hx
          have hjl := (List.getElem?_eq_some_iff.1 hx).1
          obtain ⟨m, rfl⟩ : ∃ m, j = xs.length + m := ⟨j - xs.length, by omega⟩
          rw [show xs.length + m - xs.length = m by omega] at hx hjl
          have hlt : m * e + i < news.length := by
            have : (m + 1) * e ≤ ys.length * e := Nat.mul_le_mul_right e (by omega)
            rw [Nat.succ_mul] at this
            omega
          have h3 := hs3 m x i y hx hy
          have e3 : (xs.length + m) * e + i = xs.length * e + (m * e + i) := by rw [Nat.add_mul]; omega
          rw [Array.getD_eq_getD_getElem?, e3, setMany_get news cs _ _ hfit, if_pos (by omega), show xs.length * e + (m * e + i) - xs.length * e = m * e + i by omega]
          rw [List.getD_eq_getElem?_getD] at h3
          exact h3.mono hG
      · cases own with
        | true =>
          rw [if_pos rfl]
          intro o
          rw [hGv, if_neg (by simp)]
          exact (by simpa using hg : ∀ o, c.G b o = none) o
        | false =>
          rw [if_neg (by simp)]
          obtain ⟨g1, g2⟩ := (by simpa using hg : (∀ o, o < xs.length * e → c.G b o = cs[o]?) ∧ ∀ o, xs.length * e ≤ o → c.G b o = none)
          have elen : (xs ++ ys).length * e = xs.length * e + news.length := by rw [List.length_append, Nat.add_mul, hs1]
          rw [elen]
          refine ⟨fun o ho' => ?_, fun o ho' => ?_⟩
          · rw [hGv, setMany_get news cs _ _ hfit]
            by_cases hlt : o < xs.length * e
            · rw [if_neg (by omega), if_neg (by omega), g1 o hlt]
            · rw [if_pos ⟨rfl, rfl, by omega, ho'⟩, if_pos (by omega)]
          · rw [hGv, if_neg (by omega)]
            exact g2 o (by omega)
    · by_cases e2 : q = k
      · subst e2
        rw [hkk e1] at ho
        cases own with
        | true => simp [ko] at ho
        | false =>
          simp only [ko] at ho
          cases ho
          right
          have hv := h.read_view hk
          exact ObOk.keep hG hK (hρ q e1) (hcp q e1) (fun h => by simp [owned] at h) hv
      · rw [hqq q e1 e2] at ho
        refine .inl ⟨ho, hρ q e1, hcp q e1, fun hw b2 hb2 => ?_⟩
        have hne : b2 ≠ b := fun e3 => by
          subst e3
          exact e2 (h.sep q k g' g o' _ b2 ho hk hw rfl hb2 hb)
        exact ⟨setCells_other news w b _ b2 hne, fun i => hGo b2 i hne⟩
  · intro q q' g1 g2 o1 o2 b2 hq hq' ho1 ho2 hb1 hb2
    by_cases e1 : q = d
    · by_cases e2 : q' = d
      · rw [e1, e2]
      · obtain ⟨n1, n2⟩ := notk q' g2 o2 e2 hq' ho2
        rw [hρ q' e2] at hb2
        rw [e1, hρd] at hb1
        cases hb1
        exact absurd (h.sep q' k g2 g o2 _ b n2 hk ho2 rfl hb2 hb) n1
    · obtain ⟨n1, n2⟩ := notk q g1 o1 e1 hq ho1
      rw [hρ q e1] at hb1
      by_cases e2 : q' = d
      · rw [e2, hρd] at hb2
        cases hb2
        exact absurd (h.sep q k g1 g o1 _ b n2 hk ho1 rfl hb1 hb) n1
      · obtain ⟨m1, m2⟩ := notk q' g2 o2 e2 hq' ho2
        rw [hρ q' e2] at hb2
        exact h.sep q q' g1 g2 o1 o2 b2 n2 m2 ho1 ho2 hb1 hb2
  · intro q g1 o1 b2 hq ho1 hb2
    by_cases e1 : q = d
    · rw [e1, hρd] at hb2
      cases hb2
      exact h.new k g _ b hk rfl hb
    · obtain ⟨n1, n2⟩ := notk q g1 o1 e1 hq ho1
      rw [hρ q e1] at hb2
      exact h.new q g1 o1 b2 n2 ho1 hb2
  · refine ⟨s1.trans h.fr.os, s2.trans h.fr.tape, s3.trans h.fr.output, by rw [s4]; exact h.fr.size, fun q hq hs => ?_, by rw [s5]; exact h.fr.drawn⟩
    have hne : q ≠ b := fun e => by
      subst e
      rcases h.new k g _ q hk rfl hb with h3 | h3
      · omega
      · exact hs h3
    rw [setCells_other news w b _ q hne]
    exact h.fr.block q hq hs
  · intro b' o hne
    by_cases e1 : b' = b
    · subst e1
      exact h.new k g _ b' hk rfl hb
    · refine h.fresh b' o ?_
      rw [← hGo b' o e1]
      exact hne
end Go.E2
namespace Go.E2
open Go.RowKit
set_option linter.unusedVariables false
set_option linter.unusedSimpArgs false
variable {ob : Obs} {c c' : Con} {w w' w0 : World} {S0 : Own} {G0 G : Gh} {σ σ' σ1 : St} {a a' : Act} {P : Program}
theorem Rel.forget (h : Rel w0 S0 G0 σ c a w) {k g : Nat} {o : AObj} (hk : σ.ob k = (g, some o)) (ko : Option AObj) (hko : ko = none ∨ ∃ e xs, o = .row false e xs ∧ ko = some (.view e xs)) : Rel w0 S0 G0 (σ.lays [(k, g, ko)]) c a w := by
  have hkk : (σ.lays [(k, g, ko)]).ob k = (g, ko) := by rw [ob_lays1, if_pos rfl]
  have hqq : ∀ q, q ≠ k → (σ.lays [(k, g, ko)]).ob q = σ.ob q := fun q hq => by rw [ob_lays1, if_neg (fun e => hq e.symm)]
  have own' : ∀ q g' o', (σ.lays [(k, g, ko)]).ob q = (g', some o') → owned o' = true → σ.ob q = (g', some o') := fun q g' o' hq ho => by
    by_cases e : q = k
    · subst e
      rw [hkk] at hq
      rcases hko with rfl | ⟨e, xs, _, rfl⟩
      · cases hq
      · cases hq; simp [owned] at ho
    · rw [hqq q e] at hq; exact hq
  have hK : ∀ q, Keeps σ.ob (σ.lays [(k, g, ko)]).ob c c q := fun q => by
    by_cases e : q = k
    · subst e
      right
      rw [hkk, hk]
      rcases hko with rfl | ⟨e, xs, rfl, rfl⟩
      · exact ⟨rfl, fun n hn => by simp [rowLen] at hn, fun n hn => by simp [rowE] at hn, fun hv => by simp [isVar] at hv⟩
      · exact ⟨rfl, fun n hn => ⟨hn, rfl, rfl⟩, fun n hn => ⟨hn, rfl⟩, fun hv => by simp [isVar] at hv⟩
    · exact Keeps.same (hqq q e) rfl rfl
  refine h.step (Gh.le_refl _) hK h.imm h.sz (fun t => .inl ⟨rfl, rfl⟩) h.df (fun q g' o' hq => ?_) (fun q q' g1 g2 o1 o2 b h1 h2 h3 h4 h5 h6 => h.sep q q' g1 g2 o1 o2 b (own' q g1 o1 h1 h3) (own' q' g2 o2 h2 h4) h3 h4 h5 h6) (fun q g1 o1 b h1 h2 h3 => h.new q g1 o1 b (own' q g1 o1 h1 h2) h2 h3) h.fr h.fresh
  by_cases e : q = k
  · subst e
    rw [hkk] at hq
    rcases hko with rfl | ⟨e, xs, rfl, rfl⟩
    · cases hq
    · cases hq
      right
      exact ObOk.keep (Gh.le_refl _) hK rfl rfl (fun h => by simp [owned] at h) (h.read_view hk)
  · rw [hqq q e] at hq
    exact .inl ⟨hq, rfl, rfl, fun _ b _ => ⟨rfl, fun _ => rfl⟩⟩
theorem says_at {g o e : Nat} {ys : List (List PV)} (hw : Wide e ys) (hc : ∀ (j : Nat) (x : List PV) (i : Nat) (y : PV), ys[j]? = some x → x[i]? = some y → ∃ u, w.cell? ⟨g, o + j * e + i, none⟩ = some u ∧ Rep G y u) :
    ∃ news : List Value, (∀ j u, news[j]? = some u → w.cell? ((⟨g, o, none⟩ : Addr).add j) = some u) ∧ Says G e ys news := by
  have key : ∀ j x i y, ys[j]? = some x → x[i]? = some y → j * e + i < ys.length * e := fun j x i y hx hy => by
    have hj := (List.getElem?_eq_some_iff.1 hx).1
    have hi := (List.getElem?_eq_some_iff.1 hy).1
    rw [hw j x hx] at hi
    have : (j + 1) * e ≤ ys.length * e := Nat.mul_le_mul_right e (by omega)
    rw [Nat.succ_mul] at this
    omega
  refine ⟨(List.range (ys.length * e)).map fun j => (w.cell? ⟨g, o + j, none⟩).getD undef, fun j u hu => ?_, by simp, hw, fun j x i y hx hy => ?_⟩
  · obtain ⟨q, hq, rfl⟩ := map_get hu
    have hjl := (List.getElem?_eq_some_iff.1 hq).1
    simp at hjl
    rw [List.getElem?_range hjl] at hq
    cases hq
    rw [Addr.add_mid]
    have he : 0 < e := by
      rcases Nat.eq_zero_or_pos e with h0 | h0
      · subst h0; omega
      · exact h0
    have hj : j / e < ys.length := (Nat.div_lt_iff_lt_mul he).2 hjl
    have hx := List.getElem?_eq_getElem hj
    have hi : j % e < ys[j / e].length := by rw [hw _ _ hx]; exact Nat.mod_lt _ he
    obtain ⟨u, h1, _⟩ := hc _ _ _ _ hx (List.getElem?_eq_getElem hi)
    have e1 : o + j / e * e + j % e = o + j := by rw [Nat.add_assoc, Nat.mul_comm, Nat.div_add_mod]
    rw [e1] at h1
    rw [h1]
    rfl
  · obtain ⟨u, h1, h2⟩ := hc j x i y hx hy
    have := key j x i y hx hy
    rw [List.getD_eq_getElem?_getD, List.getElem?_map, List.getElem?_range this]
    simp only [Option.map_some, Option.getD_some]
    rw [show o + (j * e + i) = o + j * e + i by omega, h1]
    exact h2
def srcRM {α : Type} (esz : Nat) (y : AV) (k : List (List PV) → RM α) : RM α := match y with
  | .one (.at .nil) => k []
  | .one (.at (.pv (.list e ys))) => if e = esz then k ys else .fail
  | .one (.at (.row q g)) => .obj q fun r => match gone g r with
    | some (.row _ e ys) => if e = esz then k ys else .fail
    | some (.view e ys) => if e = esz then k ys else .fail
    | _ => .fail
  | _ => .fail
theorem val_srcRM {α : Type} {esz : Nat} {y : AV} {k : List (List PV) → RM α} {r : α} {tx e' : Nat} (hk : P.underlying tx = some (.slice e')) (h : (srcRM esz y k).val σ = some r) :
    ∃ ys, (k ys).val σ = some r ∧ ∀ w0 S0 G0 c a w v, Rel w0 S0 G0 σ c a w → RepAV σ.ob c y v → ∃ news, Src P esz tx v ys.length news w ∧ Says c.G esz ys news := by
  have nilCase : ∀ (w : World) (G : Gh) (A : Option Addr) (cap : Nat), ∃ news, Src P esz tx (.slice A 0 cap) ([] : List (List PV)).length news w ∧ Says G esz [] news := fun w G A cap => by
    refine ⟨[], ?_, by simp, fun j x hx => by simp at hx, fun j x i y hx => by simp at hx⟩
    cases A with
    | none => exact Src.ofNil w hk cap
    | some A => exact Src.ofSlice w hk A 0 cap [] (by simp) (fun j u hu => by simp at hu) (by simp)
  have rowCase : ∀ (w0 : World) (S0 : Own) (G0 : Gh) (c : Con) (a : Act) (w : World) (q g : Nat) (o : AObj) (ys : List (List PV)) (v : Value), Rel w0 S0 G0 σ c a w → σ.ob q = (g, some o) → (o = .row true esz ys ∨ o = .row false esz ys ∨ o = .view esz ys) → v = rowVal (c.ρ q) ys.length (c.cp q) →
      ∃ news, Src P esz tx v ys.length news w ∧ Says c.G esz ys news := fun w0 S0 G0 c a w q g o ys v hR hob ho hv => by
    cases hb : c.ρ q with
    | none =>
      have hnil : ys = [] := by
        have := hR.obs q g o hob
        rcases ho with rfl | rfl | rfl
        · rcases this with ⟨_, h2, _⟩ | ⟨b, cs, ty, hb', _⟩
          · exact h2
          · rw [hb] at hb'; cases hb'
        · rcases this with ⟨_, h2, _⟩ | ⟨b, cs, ty, hb', _⟩
          · exact h2
          · rw [hb] at hb'; cases hb'
        · rcases this with ⟨_, h2⟩ | ⟨b, hb', _⟩
          · exact h2
          · rw [hb] at hb'; cases hb'
      subst hnil
      rw [hv, hb]
      exact nilCase w c.G none 0
    | some b =>
      have hw : Wide esz ys := fun j x hx => by
        obtain ⟨_, _, _, h3, _⟩ := hR.row_elem hob ho hx
        exact h3
      obtain ⟨news, h1, h2⟩ := says_at (w := w) (g := b) (o := 0) (G := c.G) hw fun j x i y hx hy => by
        obtain ⟨b', hb', _, _, h4⟩ := hR.row_elem hob ho hx
        rw [hb] at hb'
        cases hb'
        rw [Nat.zero_add]
        exact h4 i y hy
      refine ⟨news, ?_, h2⟩
      rw [hv, hb]
      exact Src.ofSlice w hk ⟨b, 0, none⟩ ys.length (c.cp q) news h2.1 h1 h2.one
  unfold srcRM at h
  split at h
  case h_1 => exact ⟨[], h, fun w0 S0 G0 c a w v hR hv => by have hv : v = .slice none 0 0 := hv; rw [hv]; exact nilCase w c.G none 0⟩
  case h_2 e ys =>
    split at h
    case isFalse => simp [RM.val] at h
    case isTrue he =>
      subst he
      refine ⟨ys, h, fun w0 S0 G0 c a w v hR hv => ?_⟩
      have hv : Rep c.G (.list e ys) v := hv
      cases hv with
      | nil _ A cap => exact nilCase w c.G A cap
      | list _ _ g o cap f hc hw hg hr =>
        obtain ⟨news, h1, h2⟩ := says_at (w := w) (g := g) (o := o) (G := c.G) hw fun j x i y hx hy => ⟨_, hR.imm _ _ _ (hg j x i y hx hy), hr j x i y hx hy⟩
        exact ⟨news, Src.ofSlice w hk ⟨g, o, none⟩ ys.length cap news h2.1 h1 h2.one, h2⟩
  case h_3 q g =>
    simp only [RM.val] at h
    split at h
    case h_1 own e ys hq =>
      split at h
      case isFalse => simp [RM.val] at h
      case isTrue he =>
        subst he
        have hob := gone_some hq
        refine ⟨ys, h, fun w0 S0 G0 c a w v hR hv => rowCase w0 S0 G0 c a w q g _ ys v hR hob (by cases own <;> simp) (hv.2 _ (by rw [alive_of hob]; rfl))⟩
    case h_2 e ys hq =>
      split at h
      case isFalse => simp [RM.val] at h
      case isTrue he =>
        subst he
        have hob := gone_some hq
        refine ⟨ys, h, fun w0 S0 G0 c a w v hR hv => rowCase w0 S0 G0 c a w q g _ ys v hR hob (by simp) (hv.2 _ (by rw [alive_of hob]; rfl))⟩
    case h_3 => simp [RM.val] at h
  case h_4 => simp [RM.val] at h
def bytesPV (s : ByteArray) : List (List PV) := s.data.toList.map fun b => [.int .u8 (b.toNat : Int)]
theorem bytesPV_len (s : ByteArray) : (bytesPV s).length = s.size := by
  unfold bytesPV
  rw [List.length_map, Array.length_toList]
  rfl
def srcB {α : Type} (st : Bool) (esz : Nat) (y : AV) (k : List (List PV) → RM α) : RM α := match st with
  | false => srcRM esz y k
  | true => match y with
    | .one (.at (.pv (.str s))) => if esz = 1 then k (bytesPV s) else .fail
    | _ => .fail
def SrcTy (P : Program) (tx : Nat) : Bool → Prop
  | false => ∃ e', P.underlying tx = some (.slice e')
  | true => P.underlying tx = some .string
theorem says_bytes (s : ByteArray) (G : Gh) : Says G 1 (bytesPV s) (byteCells s) := by
  refine ⟨by rw [byteCells_length, bytesPV_len, Nat.mul_one], fun j x hx => ?_, fun j x i y hx hy => ?_⟩
  · unfold bytesPV at hx
    obtain ⟨b, _, rfl⟩ := map_get hx
    rfl
  · unfold bytesPV at hx
    obtain ⟨b, hb, rfl⟩ := map_get hx
    match i, hy with
    | 0, hy =>
      cases hy
      rw [Nat.mul_one, Nat.add_zero, List.getD_eq_getElem?_getD]
      unfold byteCells
      rw [List.getElem?_map, hb]
      exact Rep.int _ _
theorem val_srcB {α : Type} {st : Bool} {esz : Nat} {y : AV} {k : List (List PV) → RM α} {r : α} {tx : Nat} (hk : SrcTy P tx st) (h : (srcB st esz y k).val σ = some r) :
    ∃ ys, (k ys).val σ = some r ∧ ∀ w0 S0 G0 c a w v, Rel w0 S0 G0 σ c a w → RepAV σ.ob c y v → ∃ news, Src P esz tx v ys.length news w ∧ Says c.G esz ys news := by
  cases st with
  | false =>
    obtain ⟨e', hk⟩ := hk
    exact val_srcRM hk h
  | true =>
    have hk : P.underlying tx = some .string := hk
    unfold srcB at h
    dsimp only at h
    split at h
    case h_2 => simp [RM.val] at h
    case h_1 s =>
      split at h
      case isFalse => simp [RM.val] at h
      case isTrue he =>
        subst he
        refine ⟨_, h, fun w0 S0 G0 c a w v hR hv => ⟨byteCells s, ?_, says_bytes s c.G⟩⟩
        have hv := rep_str hv
        rw [hv, bytesPV_len]
        exact Src.ofString w hk s
end Go.E2
namespace Go.E2
open Go.RowKit
set_option linter.unusedVariables false
set_option linter.unusedSimpArgs false
variable {ob : Obs} {c c' : Con} {w w' w0 : World} {S0 : Own} {G0 G : Gh} {σ σ' σ1 : St} {a a' : Act} {P : Program}
theorem Says.append {e : Nat} {xs ys : List (List PV)} {olds news : List Value} (h1 : Says G e xs olds) (h2 : Says G e ys news) : Says G e (xs ++ ys) (olds ++ news) := by
  refine ⟨by rw [List.length_append, List.length_append, h1.1, h2.1, Nat.add_mul], wide_append h1.2.1 h2.2.1, fun j x i y hx hy => ?_⟩
  have hi := (List.getElem?_eq_some_iff.1 hy).1
  by_cases hj : j < xs.length
  · rw [List.getElem?_append_left hj] at hx
    have hwj := h1.2.1 j x hx
    have hlt : j * e + i < olds.length := by
      have : (j + 1) * e ≤ xs.length * e := Nat.mul_le_mul_right e (by omega)
      rw [Nat.succ_mul] at this
      rw [h1.1]
      omega
    have := h1.2.2 j x i y hx hy
    rw [List.getD_eq_getElem?_getD, List.getElem?_append_left hlt]
    rw [List.getD_eq_getElem?_getD] at this
    exact this
  · rw [List.getElem?_append_right (by omega)] at hx
    obtain ⟨m, rfl⟩ : ∃ m, j = xs.length + m := ⟨j - xs.length, by omega⟩
    rw [show xs.length + m - xs.length = m by omega] at hx
    have := h2.2.2 m x i y hx hy
    have e3 : (xs.length + m) * e + i = olds.length + (m * e + i) := by rw [Nat.add_mul, h1.1]; omega
    rw [List.getD_eq_getElem?_getD, e3, List.getElem?_append_right (by omega), show olds.length + (m * e + i) - olds.length = m * e + i by omega]
    rw [List.getD_eq_getElem?_getD] at this
    exact this
theorem row_of_says {b e cap k : Nat} {xs : List (List PV)} {news : List Value} {zs : Array Value} {ty : TypeId} (h : Says c.G e xs news) (hb : c.ρ k = some b) (hcp : c.cp k = cap) (hh : w.heap[b]? = some (.cells (news.toArray ++ zs) ty (0, 0))) (hl : xs.length ≤ cap ∧ cap ≤ 9223372036854775807)
    (hz : zs.size = (cap - xs.length) * e) (hg : ∀ o, c.G b o = none) : ObOk ob c w k (.row true e xs) := by
  refine .inr ⟨b, _, ty, hb, hh, by rw [hcp]; exact hl, ?_, h.2.1, fun j x i y hx hy => ?_, by rw [if_pos rfl]; exact hg⟩
  · rw [Array.size_append, List.size_toArray, h.1, hz, hcp, ← Nat.add_mul, Nat.add_sub_cancel' hl.1]
  · have hj := (List.getElem?_eq_some_iff.1 hx).1
    have hi := (List.getElem?_eq_some_iff.1 hy).1
    rw [h.2.1 j x hx] at hi
    have hlt : j * e + i < news.length := by
      have : (j + 1) * e ≤ xs.length * e := Nat.mul_le_mul_right e (by omega)
      rw [Nat.succ_mul] at this
      rw [h.1]
      omega
    have := h.2.2 j x i y hx hy
    rw [Array.getD_eq_getD_getElem?, Array.getElem?_append_left (by simpa using hlt), List.getElem?_toArray]
    rw [List.getD_eq_getElem?_getD] at this
    exact this
theorem zeroCells_size (z : Array Value) (n : Nat) : (Builtin.zeroCells z n).size = n * z.size := by simp [Builtin.zeroCells]
theorem Rel.nilrow (h : Rel w0 S0 G0 σ c a w) (d e : Nat) (own : Bool) (dst : Option Nat) :
    ∃ c', Rel w0 S0 G0 (σ.app dst ⟨.one (.at (.row d ((σ.ob d).1 + 1))), [(d, (σ.ob d).1 + 1, some (.row own e []))]⟩) c' (a.put dst (.slice none 0 0)) w := by
  let c' : Con := { ρ := fun q => if q = d then none else c.ρ q, cp := fun q => if q = d then 0 else c.cp q, G := c.G }
  have eob := St.ob_app1 σ dst (.one (.at (.row d ((σ.ob d).1 + 1)))) d ((σ.ob d).1 + 1, some (.row own e []))
  generalize hσ : σ.app dst ⟨.one (.at (.row d ((σ.ob d).1 + 1))), [(d, (σ.ob d).1 + 1, some (.row own e []))]⟩ = σ' at eob ⊢
  have hdd : σ'.ob d = ((σ.ob d).1 + 1, some (.row own e [])) := by rw [eob, if_pos rfl]
  have hqq : ∀ q, q ≠ d → σ'.ob q = σ.ob q := fun q hq => by rw [eob, if_neg (fun e => hq e.symm)]
  have hρ : ∀ q, q ≠ d → c'.ρ q = c.ρ q := fun q hq => by simp [c', hq]
  have hcp : ∀ q, q ≠ d → c'.cp q = c.cp q := fun q hq => by simp [c', hq]
  have hρd : c'.ρ d = none := by simp [c']
  have hcpd : c'.cp d = 0 := by simp [c']
  have hK : ∀ q, Keeps σ.ob σ'.ob c c' q := fun q => by
    by_cases e : q = d
    · subst e; left; rw [hdd]; exact Nat.lt_succ_self _
    · exact Keeps.same (hqq q e) (hρ q e) (hcp q e)
  have ne : ∀ q b, c'.ρ q = some b → q ≠ d := fun q b hb e => by rw [e, hρd] at hb; cases hb
  refine ⟨c', h.step (Gh.le_refl _) hK h.imm (by rw [← hσ, St.len_app, Act.size_put]; exact h.sz) ?_ (by rw [Act.defers_put]; exact h.df) (fun q g o hq => ?_) (fun q q' g1 g2 o1 o2 b h1 h2 h3 h4 h5 h6 => ?_) (fun q g1 o1 b h1 h2 h3 => ?_) h.fr h.fresh⟩
  · rw [← hσ]
    refine slot_app (σ := σ) h.sz dst _ _ ?_
    rw [hσ]
    refine ⟨by rw [hdd]; exact Nat.le_refl _, fun n hn => ?_⟩
    rw [alive_of hdd] at hn
    simp only [rowLen, Option.some.injEq] at hn
    rw [hρd]
    rfl
  · by_cases e1 : q = d
    · subst e1
      rw [hdd] at hq
      cases hq
      exact .inr (.inl ⟨hρd, rfl, hcpd⟩)
    · rw [hqq q e1] at hq
      exact .inl ⟨hq, hρ q e1, hcp q e1, fun _ b _ => ⟨rfl, fun _ => rfl⟩⟩
  · have n1 := ne q b h5
    have n2 := ne q' b h6
    rw [hqq q n1] at h1
    rw [hqq q' n2] at h2
    rw [hρ q n1] at h5
    rw [hρ q' n2] at h6
    exact h.sep q q' g1 g2 o1 o2 b h1 h2 h3 h4 h5 h6
  · have n1 := ne q b h3
    rw [hqq q n1] at h1
    rw [hρ q n1] at h3
    exact h.new q g1 o1 b h1 h2 h3
theorem Rel.newrow (h : Rel w0 S0 G0 σ c a w) (d e cap : Nat) (own : Bool) (dst : Option Nat) {xs : List (List PV)} {news : List Value} {zs : Array Value} (ty : TypeId) (n : Nat) (hdr : w.drawn ≤ n) (hs : Says c.G e xs news) (hl : xs.length ≤ cap ∧ cap ≤ 9223372036854775807) (hz : zs.size = (cap - xs.length) * e) :
    ∃ c', Rel w0 S0 G0 (σ.app dst ⟨.one (.at (.row d ((σ.ob d).1 + 1))), [(d, (σ.ob d).1 + 1, some (.row own e xs))]⟩) c' (a.put dst (.slice (some ⟨w.heap.size, 0, none⟩) xs.length cap)) { w with heap := w.heap.push (.cells (news.toArray ++ zs) ty (0, 0)), drawn := n } := by
  obtain ⟨c1, h1⟩ := h.fresh_ d (.row true e xs) cap (news.toArray ++ zs) ty n hdr dst (.one (.at (.row d ((σ.ob d).1 + 1)))) (.slice (some ⟨w.heap.size, 0, none⟩) xs.length cap) (fun ob' c' e1 hK hG e2 e3 e4 => ⟨row_of_says (ty := ty) (hs.mono hG) e2 e3 (by simp) hl hz e4, by rw [e1]; exact Nat.le_refl _, fun m hm => by
    rw [alive_of e1] at hm
    simp only [rowLen, Option.some.injEq] at hm
    rw [e2, e3, ← hm]
    rfl⟩)
  cases own with
  | true => exact ⟨c1, h1⟩
  | false =>
    have hd : (σ.app dst ⟨.one (.at (.row d ((σ.ob d).1 + 1))), [(d, (σ.ob d).1 + 1, some (.row true e xs))]⟩).ob d = ((σ.ob d).1 + 1, some (.row true e xs)) := by rw [St.ob_app1, if_pos rfl]
    obtain ⟨c2, h2, _⟩ := h1.freeze hd
    refine ⟨c2, h2.congr ?_ fun q => ?_⟩
    · unfold St.app St.put St.lays
      cases dst <;> rfl
    · rw [ob_lays1, St.ob_app1, St.ob_app1]
      split <;> rfl
def appLim : Nat := 70368744177664
def absAppend (tab : Nat → Option Ty) (st : Bool) (t : Nat) (d : Option Nat) (x y : Operand) : RM Eff := opnd x fun u => opnd y fun v => match d, tab t with
  | some d, some ty => if ty.elem = 0 then .fail else match tab ty.elem with
    | none => .fail
    | some ety => srcB st ety.size v fun ys => .obj d fun qd => match u with
      | .one (.at .nil) => if ys.length * (ety.bytes + 1) ≤ appLim then .ret ⟨.one (.at (.row d (qd.1 + 1))), [(d, qd.1 + 1, some (.row true ety.size ys))]⟩ else .fail
      | .one (.at (.row k g)) => .obj k fun qk => match gone g qk with
        | some (.row own e xs) => if e = ety.size ∧ (xs.length + ys.length) * (ety.bytes + 1) ≤ appLim then
            .ret ⟨.one (.at (.row d (qd.1 + 1))), [(k, g, if own = true then none else some (.view e xs)), (d, qd.1 + 1, some (.row own e (xs ++ ys)))]⟩ else .fail
        | _ => .fail
      | _ => .fail
  | _, _ => .fail
theorem done_append {o : Oper} {tab : Nat → Option Ty} {cl : Call} {st : Bool} {t tx : Nat} {x y : Operand} {e : Eff} (htab : ∀ t ty, tab t = some ty → TyOk P t ty) (hk : SrcTy P tx st) (ho : o.op = .call cl) (hc : cl.callee = .builtin .append) (ha : cl.args = #[x, y]) (ht : cl.argTypes = #[t, tx])
    (h : (absAppend tab st t o.dst x y).val σ = some e) : Done P w0 S0 G0 σ o e := by
  replace h := val_opnd h
  replace h := val_opnd h
  have hx := fun c a w (hR : Rel w0 S0 G0 σ c a w) => hR.opnd x
  have hy := fun c a w (hR : Rel w0 S0 G0 σ c a w) => hR.opnd y
  generalize absO σ x = u at h hx
  generalize absO σ y = v at h hy
  split at h
  case h_2 => simp [RM.val] at h
  case h_1 d ty hd hty =>
    have hT := htab t ty hty
    split at h
    case isTrue => simp [RM.val] at h
    case isFalse he =>
      cases hety : tab ty.elem with
      | none => rw [hety] at h; simp [RM.val] at h
      | some ety =>
        rw [hety] at h
        have hE := htab _ ety hety
        obtain ⟨ys, h2, H⟩ := val_srcB hk h
        replace h := h2
        clear h2
        simp only [RM.val] at h
        obtain ⟨i, z, hi, hsz, hby, hz, _, hzs, _⟩ := hE.info
        have hsl := hT.slice he
        have exec : ∀ (a : Act) (w : World) (r : Value) (w' : World), (Builtin.append_ #[t, tx] o.type #[a.eval x, a.eval y]).run P w = .ok r w' → (execOp a.eval o).run P w = .ok (.value r) w' := fun a w r w' hr => by
          simp [execOp, ho, resolve, hc, ha, ht, invoke, builtin, hr]
        have fits : ∀ need cap : Nat, need * (ety.bytes + 1) ≤ appLim → cap < need → ((need : Nat) : Int) ≤ 9223372036854775807 ∧ Builtin.nextslicecap need cap * i.bytes ≤ 281474976710656 := fun need cap h1 h2 => by
          unfold appLim at h1
          have h3 : need * 1 ≤ need * (ety.bytes + 1) := Nat.mul_le_mul_left need (by omega)
          have h4 : need * ety.bytes ≤ need * (ety.bytes + 1) := Nat.mul_le_mul_left need (by omega)
          have h5 : Builtin.nextslicecap need cap * i.bytes ≤ 2 * need * i.bytes := Nat.mul_le_mul_right _ (nextslicecap_le h2)
          rw [hby] at h5 ⊢
          rw [Nat.mul_assoc] at h5
          omega
        have fromNone : ∀ (own : Bool) (σ1 : St) (c : Con) (a : Act) (w : World), Rel w0 S0 G0 σ c a w → Rel w0 S0 G0 σ1 c a w → (σ1.ob d).1 = (σ.ob d).1 → a.eval x = .slice none 0 0 → ys.length * (ety.bytes + 1) ≤ appLim →
            ∃ v w', ((execOp a.eval o).run P w = .ok (.value v) w' ∨ ((execOp a.eval o).run P w = .ok .skip w' ∧ v = undef)) ∧ ∃ c', Rel w0 S0 G0 (σ1.app o.dst ⟨.one (.at (.row d ((σ.ob d).1 + 1))), [(d, (σ.ob d).1 + 1, some (.row own ety.size ys))]⟩) c' (a.put o.dst v) w' := by
          intro own σ1 c a w hR hR1 hgen hv hlim
          obtain ⟨news, hs1, hs2⟩ := H w0 S0 G0 c a w _ hR (hy c a w hR)
          by_cases hn : ys.length = 0
          · have hnil : ys = [] := List.length_eq_zero_iff.1 hn
            subst hnil
            have hnews : news = [] := List.length_eq_zero_iff.1 (by rw [hs2.1]; simp)
            subst hnews
            rw [← hsz] at hs1
            have hrun := run_append_nothing (P := P) w t tx o.type ty.elem i hsl hi none 0 0 (Nat.le_refl _) (a.eval y) hs1
            obtain ⟨c', hR'⟩ := hR1.nilrow d ety.size own o.dst
            rw [hgen] at hR'
            exact ⟨_, w, .inl (exec a w _ _ (by rw [hv]; exact hrun)), c', hR'⟩
          · rw [← hsz] at hs1
            obtain ⟨f1, f2⟩ := fits (0 + ys.length) 0 (by rw [Nat.zero_add]; exact hlim) (by omega)
            have hrun := run_append_grow_src (P := P) w t tx o.type ty.elem i z hsl hi hz none 0 0 [] (run_firstCells_none w.drew i.size 0 0 0) (a.eval y) ys.length news hs1 (by omega) f1 f2
            have hge := grownCap_ge w (0 + ys.length) 0 ty.elem
            obtain ⟨c', hR'⟩ := hR1.newrow d ety.size (grownCap w (0 + ys.length) 0 ty.elem) own o.dst (zs := Builtin.zeroCells z.cells (grownCap w (0 + ys.length) 0 ty.elem - (0 + ys.length))) ty.elem (w.drawn + 1) (Nat.le_succ _) hs2 ⟨by omega, grownCap_le_maxLen w (0 + ys.length) 0 ty.elem (by show _ ≤ 9223372036854775807; omega)⟩ (by rw [zeroCells_size, hzs, Nat.zero_add])
            rw [hgen] at hR'
            rw [Nat.zero_add] at hrun hR'
            exact ⟨_, _, .inl (exec a w _ _ (by rw [hv]; exact hrun)), c', hR'⟩
        split at h
        case h_1 =>
          split at h
          case isFalse => simp [RM.val] at h
          case isTrue hlim =>
            simp only [RM.val, Option.some.injEq] at h
            subst h
            intro c a w hR
            exact fromNone true σ c a w hR hR rfl (hx c a w hR) hlim
        case h_2 k g =>
          simp only [RM.val] at h
          split at h
          case h_2 => simp [RM.val] at h
          case h_1 own e1 xs hq =>
            split at h
            case isFalse => simp [RM.val] at h
            case isTrue hcond =>
              obtain ⟨rfl, hlim⟩ := hcond
              simp only [RM.val, Option.some.injEq] at h
              subst h
              have hob := gone_some hq
              intro c a w hR
              have hxv := (hx c a w hR).2 xs.length (by rw [alive_of hob]; rfl)
              have hforget := hR.forget hob (if own = true then none else some (.view ety.size xs)) (by
                cases own with
                | true => exact .inl rfl
                | false => exact .inr ⟨_, _, rfl, rfl⟩)
              have hgen : ((σ.lays [(k, g, if own = true then none else some (.view ety.size xs))]).ob d).1 = (σ.ob d).1 := by
                rw [ob_lays1]
                split
                · rename_i e2; subst e2; rw [hob]
                · rfl
              have appEq : ∀ (s : List (Nat × Nat × Option AObj)) (v : AV), (σ.lays [(k, g, if own = true then none else some (.view ety.size xs))]).app o.dst ⟨v, s⟩ = σ.app o.dst ⟨v, (k, g, if own = true then none else some (.view ety.size xs)) :: s⟩ := fun s v => rfl
              cases hb : c.ρ k with
              | none =>
                have hnil : xs = [] ∧ c.cp k = 0 := by
                  rcases hR.obs k g _ hob with ⟨_, h2, h3⟩ | ⟨b, cs, ty, hb', _⟩
                  · exact ⟨h2, h3⟩
                  · rw [hb] at hb'; cases hb'
                obtain ⟨rfl, _⟩ := hnil
                rw [hb] at hxv
                have := fromNone own _ c a w hR hforget hgen hxv (by simpa using hlim)
                rw [appEq] at this
                exact this
              | some b =>
                rw [hb] at hxv
                have hxv : a.eval x = .slice (some ⟨b, 0, none⟩) xs.length (c.cp k) := hxv
                obtain ⟨news, hs1, hs2⟩ := H w0 S0 G0 c a w _ hR (hy c a w hR)
                have hrow : own = true ∨ own = false := by cases own <;> simp
                have hmem : (AObj.row own ety.size xs = .row true ety.size xs ∨ AObj.row own ety.size xs = .row false ety.size xs ∨ AObj.row own ety.size xs = .view ety.size xs) := by cases own <;> simp
                rcases hR.obs k g _ hob with ⟨q1, _⟩ | ⟨b', cs, cty, hb', hh, hl, hcs, hwd, hr, hg⟩
                · rw [hb] at q1; cases q1
                rw [hb] at hb'; cases hb'
                by_cases hroom : xs.length + ys.length ≤ c.cp k
                · have hs1' := hs1
                  rw [← hsz] at hs1
                  have hfit : xs.length * ety.size + news.length ≤ cs.size := by
                    rw [hs2.1, hcs, ← Nat.add_mul]
                    exact Nat.mul_le_mul_right _ hroom
                  have hrun := run_append_room_src (P := P) w t tx o.type ty.elem i hsl hi b 0 xs.length (c.cp k) (a.eval y) ys.length news hs1 hroom (fun j hj => by
                    rw [cell_of_blk hh, hsz, Nat.zero_add, Array.getElem?_eq_getElem (by omega)]; rfl) (fun j hj => frozen_blk hh)
                  rw [hsz, Nat.zero_add] at hrun
                  obtain ⟨c', hR'⟩ := hR.extend (d := d) hob hb hs2 hroom o.dst
                  exact ⟨_, _, .inl (exec a w _ _ (by rw [hxv]; exact hrun)), c', hR'⟩
                · obtain ⟨olds, ho1, ho2⟩ := says_at (w := w) (g := b) (o := 0) (G := c.G) (e := ety.size) (ys := xs) hwd fun j x i y hx hy => by
                    obtain ⟨b', hb', _, _, h4⟩ := hR.row_elem hob hmem hx
                    rw [hb] at hb'
                    cases hb'
                    rw [Nat.zero_add]
                    exact h4 i y hy
                  have hold : (Builtin.firstCells i.size xs.length (.slice (some ⟨b, 0, none⟩) xs.length (c.cp k))).run P w.drew = .ok olds.toArray w.drew :=
                    run_firstCells_some w.drew i.size xs.length ⟨b, 0, none⟩ xs.length (c.cp k) olds (by rw [ho2.1, hsz]) (by simpa using ho1)
                  rw [← hsz] at hs1
                  obtain ⟨f1, f2⟩ := fits (xs.length + ys.length) (c.cp k) hlim (by omega)
                  have hrun := run_append_grow_src (P := P) w t tx o.type ty.elem i z hsl hi hz (some ⟨b, 0, none⟩) xs.length (c.cp k) olds hold (a.eval y) ys.length news hs1 (by omega) f1 f2
                  have hge := grownCap_ge w (xs.length + ys.length) (c.cp k) ty.elem
                  obtain ⟨c', hR'⟩ := hforget.newrow d ety.size (grownCap w (xs.length + ys.length) (c.cp k) ty.elem) own o.dst (zs := Builtin.zeroCells z.cells (grownCap w (xs.length + ys.length) (c.cp k) ty.elem - (xs.length + ys.length))) ty.elem (w.drawn + 1) (Nat.le_succ _) (ho2.append hs2) ⟨by rw [List.length_append]; omega, grownCap_le_maxLen w (xs.length + ys.length) (c.cp k) ty.elem (by show _ ≤ 9223372036854775807; omega)⟩ (by rw [zeroCells_size, hzs, List.length_append])
                  rw [hgen, appEq, List.length_append] at hR'
                  exact ⟨_, _, .inl (exec a w _ _ (by rw [hxv]; exact hrun)), c', hR'⟩
        case h_3 => simp [RM.val] at h
end Go.E2
namespace Go.E2
open Go.RowKit
set_option linter.unusedVariables false
set_option linter.unusedSimpArgs false
variable {ob : Obs} {c c' : Con} {w w' w0 : World} {S0 : Own} {G0 G : Gh} {σ σ' σ1 : St} {a a' : Act} {P : Program}
def absConv (tab : Nat → Option Ty) (src dst : Nat) (x : Operand) : RM Eff := opnd x fun u => match tab src, tab dst with
  | some s, some d => match s.int, d.int with
    | some _, some k => match u with
      | .one (.at (.pv (.int k0 n))) => .ret ⟨.one (.at (.pv (.int k (k.wrap n)))), []⟩
      | _ => .fail
    | _, _ => .fail
  | _, _ => .fail
theorem done_conv {o : Oper} {tab : Nat → Option Ty} {src dst : Nat} {x : Operand} {e : Eff} (htab : ∀ t ty, tab t = some ty → TyOk P t ty) (ho : o.op = .convert src dst x) (h : (absConv tab src dst x).val σ = some e) : Done P w0 S0 G0 σ o e := by
  replace h := val_opnd h
  generalize hu : absO σ x = u at h
  split at h
  case h_2 => simp [RM.val] at h
  case h_1 s d hs hd =>
    split at h
    case h_2 => simp [RM.val] at h
    case h_1 k1 k hk1 hk =>
      split at h
      case h_2 => simp [RM.val] at h
      case h_1 k0 n =>
        simp only [RM.val, Option.some.injEq] at h
        subst h
        refine Done.pure fun c a w hR => ⟨.int k (k.wrap n), ?_, Rep.int _ _⟩
        have hx := hR.opnd x
        rw [hu] at hx
        have hx := rep_int hx
        simp [execOp, ho, convert, run_underlying ((htab _ _ hs).int _ hk1), run_underlying ((htab _ _ hd).int _ hk), hx, Conv.intToInt]
def absIndex (tab : Nat → Option Ty) (t : Nat) (x i : Operand) : RM Eff := opnd x fun u => opnd i fun v => match tab t with
  | none => .fail
  | some ty => if ty.str = true then match u, v with
      | .one (.at (.pv (.str s))), .one (.at (.pv (.int _ n))) => if n < 0 then .fail else match s[n.toNat]? with
        | some b => .ret ⟨.one (.at (.pv (.int .u8 b.toNat))), []⟩
        | none => .fail
      | _, _ => .fail
    else .fail
theorem done_index {o : Oper} {tab : Nat → Option Ty} {t : Nat} {x i : Operand} {e : Eff} (htab : ∀ t ty, tab t = some ty → TyOk P t ty) (ho : o.op = .index t x i) (h : (absIndex tab t x i).val σ = some e) : Done P w0 S0 G0 σ o e := by
  replace h := val_opnd h
  replace h := val_opnd h
  generalize hu : absO σ x = u at h
  generalize hv : absO σ i = v at h
  cases hty : tab t with
  | none => rw [hty] at h; simp [RM.val] at h
  | some ty =>
    rw [hty] at h
    dsimp only at h
    split at h
    case isFalse => simp [RM.val] at h
    case isTrue hs =>
      split at h
      case h_2 => simp [RM.val] at h
      case h_1 s k n =>
        split at h
        case isTrue => simp [RM.val] at h
        case isFalse hn =>
          split at h
          case h_2 => simp [RM.val] at h
          case h_1 b hb =>
            simp only [RM.val, Option.some.injEq] at h
            subst h
            refine Done.pure fun c a w hR => ⟨.int .u8 b.toNat, ?_, Rep.int _ _⟩
            have hx := hR.opnd x
            have hi := hR.opnd i
            rw [hu] at hx
            rw [hv] at hi
            have hx := rep_str hx
            have hi := rep_int hi
            have h0 : 0 ≤ n := by omega
            simp [execOp, ho, Instr.index, asIntOf, hx, hi, run_underlying ((htab _ _ hty).str hs), h0, hb]
def optInt (σ : St) : Option Operand → Option (Option Int)
  | none => some none
  | some x => match absO σ x with
    | .one (.at (.pv (.int _ n))) => some (some n)
    | _ => none
def IntOf (a : Act) : Option Operand → Option Int → Prop
  | none, none => True
  | some x, some n => ∃ kk, a.eval x = .int kk n
  | _, _ => False
def opndInt {α : Type} (x : Option Operand) (k : Option Int → RM α) : RM α := match x with
  | none => k none
  | some x => opnd x fun u => match u with
    | .one (.at (.pv (.int _ n))) => k (some n)
    | _ => .fail
theorem val_opndInt {α : Type} {x : Option Operand} {k : Option Int → RM α} {r : α} (h : (opndInt x k).val σ = some r) : ∃ n, (k n).val σ = some r ∧ ∀ w0 S0 G0 c a w, Rel w0 S0 G0 σ c a w → IntOf a x n := by
  cases x with
  | none => exact ⟨none, h, fun _ _ _ _ _ _ _ => trivial⟩
  | some x =>
    simp only [opndInt] at h
    replace h := val_opnd h
    generalize hu : absO σ x = u at h
    split at h
    case h_2 => simp [RM.val] at h
    case h_1 kk n =>
      refine ⟨some n, h, fun _ _ _ c a w hR => ⟨kk, ?_⟩⟩
      have hx := hR.opnd x
      rw [hu] at hx
      exact rep_int hx
def absSlice (tab : Nat → Option Ty) (t : Nat) (x : Operand) (lo hi : Option Operand) : RM Eff := opnd x fun u => opndInt lo fun l => opndInt hi fun h => match tab t with
  | none => .fail
  | some ty => if ty.str = true then match u with
      | .one (.at (.pv (.str s))) => if 0 ≤ l.getD 0 ∧ l.getD 0 ≤ h.getD s.size ∧ h.getD s.size ≤ s.size then .ret ⟨.one (.at (.pv (.str (s.extract (l.getD 0).toNat (h.getD s.size).toNat)))), []⟩ else .fail
      | _ => .fail
    else if ty.elem = 0 then .fail else match tab ty.elem with
      | none => .fail
      | some ety => match u with
        | .one (.at y) => atPV ety.size y fun p us => match p with
          | .list e xs => if (e = ety.size ∨ xs = []) ∧ 0 ≤ l.getD 0 ∧ l.getD 0 ≤ h.getD xs.length ∧ h.getD xs.length ≤ xs.length then
              .ret ⟨.one (.at (.pv (.list e ((xs.drop (l.getD 0).toNat).take ((h.getD xs.length).toNat - (l.getD 0).toNat))))), us⟩ else .fail
          | _ => .fail
        | _ => .fail
theorem run_bounds (isS : Bool) (len cap : Nat) (hlc : len ≤ cap) {lo hi : Option Operand} {l h : Option Int} (a : Act) (w : World)
    (hl : IntOf a lo l) (hh : IntOf a hi h)
    (h0 : 0 ≤ l.getD 0) (h1 : l.getD 0 ≤ h.getD len) (h2 : h.getD len ≤ len) :
    (Instr.sliceBounds isS len cap (lo.map a.eval) (hi.map a.eval) none).run P w = .ok ((l.getD 0).toNat, (h.getD (len : Int)).toNat, cap) w := by
  cases lo with
  | none => cases l with
    | some n => exact hl.elim
    | none => cases hi with
      | none => cases h with
        | some n => exact hh.elim
        | none => simp [Instr.sliceBounds]
      | some x => cases h with
        | none => exact hh.elim
        | some n =>
          obtain ⟨kk, e⟩ := hh
          have g1 : 0 ≤ n := h1
          have g2 : n ≤ (len : Int) := h2
          have g3 : 0 ≤ n ∧ n ≤ (cap : Int) := ⟨by omega, by omega⟩
          cases isS <;> simp [Instr.sliceBounds, Instr.sliceBound, e, asIntOf, g3]
  | some y => cases l with
    | none => exact hl.elim
    | some m =>
      obtain ⟨kk, e⟩ := hl
      have g0 : 0 ≤ m := h0
      cases hi with
      | none => cases h with
        | some n => exact hh.elim
        | none =>
          have g1 : m ≤ (len : Int) := h1
          have g2 : 0 ≤ m ∧ m ≤ (len : Int) := ⟨g0, g1⟩
          simp [Instr.sliceBounds, Instr.sliceBound, e, asIntOf, g2]
      | some x => cases h with
        | none => exact hh.elim
        | some n =>
          obtain ⟨kk', e'⟩ := hh
          have g1 : m ≤ n := h1
          have g2 : n ≤ (len : Int) := h2
          have g3 : 0 ≤ n ∧ n ≤ (cap : Int) := ⟨by omega, by omega⟩
          have g4 : 0 ≤ m ∧ m ≤ (n.toNat : Int) := ⟨g0, by omega⟩
          have g5 : 0 ≤ m ∧ m ≤ max n 0 := ⟨g0, by omega⟩
          cases isS <;> simp [Instr.sliceBounds, Instr.sliceBound, e, e', asIntOf, g3, g5]
theorem rep_sub {e esz : Nat} {xs : List (List PV)} {A : Option Addr} {n cap : Nat} (h : Rep G (.list e xs) (.slice A n cap)) {l h' : Nat} (h1 : l ≤ h') (h2 : h' ≤ xs.length) (he : e = esz ∨ xs = []) :
    Rep G (.list e ((xs.drop l).take (h' - l))) (.slice (if cap = l then A else A.map (·.add (l * esz))) (h' - l) (cap - l)) := by
  by_cases hz : h' - l = 0
  · rw [hz, List.take_zero]
    exact .nil _ _ _
  · generalize hv : Value.slice A n cap = v at h
    cases h with
    | nil _ A' cap' => simp at h2; omega
    | list _ _ g o cap' f hc hw hg hr =>
      cases hv
      have he : e = esz := by
        rcases he with h | h
        · exact h
        · rw [h] at h2; simp at h2; omega
      subst he
      rw [if_neg (by omega)]
      have hadd : ((⟨g, o, none⟩ : Addr).add (l * e)) = ⟨g, o + l * e, none⟩ := Addr.add_mid g o _
      simp only [Option.map_some, hadd]
      have hlen : ((xs.drop l).take (h' - l)).length = h' - l := by rw [List.length_take, List.length_drop]; omega
      have hget : ∀ (j : Nat) (x : List PV), ((xs.drop l).take (h' - l))[j]? = some x → xs[l + j]? = some x := fun j x hx => drop_take_get hx
      have := Rep.list (G := G) e ((xs.drop l).take (h' - l)) g (o + l * e) (cap - l) (fun j i => f (l + j) i) (by omega) (fun j x hx => hw _ x (hget j x hx)) (fun j x i y hx hy => by
        have := hg _ x i y (hget j x hx) hy
        rw [Nat.add_mul] at this
        rw [show o + l * e + j * e + i = o + (l * e + j * e) + i by omega]
        exact this) (fun j x i y hx hy => hr _ x i y (hget j x hx) hy)
      rw [hlen] at this
      exact this
theorem done_slice {o : Oper} {tab : Nat → Option Ty} {t : Nat} {x : Operand} {lo hi : Option Operand} {e : Eff} (htab : ∀ t ty, tab t = some ty → TyOk P t ty) (ho : o.op = .slice t x lo hi none) (h : (absSlice tab t x lo hi).val σ = some e) : Done P w0 S0 G0 σ o e := by
  replace h := val_opnd h
  have hx := fun c a w (hR : Rel w0 S0 G0 σ c a w) => hR.opnd x
  generalize absO σ x = u at h hx
  obtain ⟨l, h2, hl⟩ := val_opndInt h
  replace h := h2
  clear h2
  obtain ⟨hh, h2, hh2⟩ := val_opndInt h
  replace h := h2
  clear h2
  cases hty : tab t with
  | none => rw [hty] at h; simp [RM.val] at h
  | some ty =>
    rw [hty] at h
    have hT := htab t ty hty
    dsimp only at h
    split at h
    case isTrue hs =>
      split at h
      case h_2 => simp [RM.val] at h
      case h_1 s =>
        split at h
        case isFalse => simp [RM.val] at h
        case isTrue hc =>
          simp only [RM.val, Option.some.injEq] at h
          subst h
          refine Done.pure fun c a w hR => ⟨.string (s.extract (l.getD 0).toNat (hh.getD s.size).toNat), ?_, Rep.str _⟩
          have hv := rep_str (hx c a w hR)
          have hb := run_bounds (P := P) false s.size s.size (Nat.le_refl _) a w (hl _ _ _ c a w hR) (hh2 _ _ _ c a w hR) hc.1 hc.2.1 hc.2.2
          simp [execOp, ho, Instr.sliceAt, run_underlying (hT.str hs), Instr.slice, hv, hb]
    case isFalse hs =>
      split at h
      case isTrue => simp [RM.val] at h
      case isFalse he =>
        cases hety : tab ty.elem with
        | none => rw [hety] at h; simp [RM.val] at h
        | some ety =>
          rw [hety] at h
          have hE := htab _ ety hety
          dsimp only at h
          split at h
          case h_2 => simp [RM.val] at h
          case h_1 y =>
            obtain ⟨p, us, h2, H⟩ := val_atPV h
            replace h := h2
            clear h2
            split at h
            case h_2 => simp [RM.val] at h
            case h_1 e1 xs =>
              split at h
              case isFalse => simp [RM.val] at h
              case isTrue hc =>
                obtain ⟨hc0, hc1, hc2, hc3⟩ := hc
                simp only [RM.val, Option.some.injEq] at h
                subst h
                intro c a w hR
                obtain ⟨hF, HR⟩ := H σ (Frz.refl σ)
                obtain ⟨c', hR', hG, e1', e2', hv⟩ := HR w0 S0 G0 c a w hR
                have hrep := hv _ (hx c a w hR)
                obtain ⟨i, z, hinf, hsz, _⟩ := hE.info
                obtain ⟨A, cap, hA⟩ := rep_list_val hrep
                have hcap : xs.length ≤ cap ∨ xs = [] := by
                  rw [hA] at hrep
                  generalize hq : Value.slice A xs.length cap = q at hrep
                  cases hrep with
                  | nil _ A' cap' => right; rfl
                  | list _ _ g o cap' f hc hw hg hr => cases hq; left; exact hc
                have hcap : xs.length ≤ cap := by
                  rcases hcap with h | h
                  · exact h
                  · rw [h]; exact Nat.zero_le _
                have hb := run_bounds (P := P) true xs.length cap hcap a w (hl _ _ _ c a w hR) (hh2 _ _ _ c a w hR) hc1 hc2 hc3
                rw [hA] at hrep
                have hsub := rep_sub (esz := ety.size) hrep (l := (l.getD 0).toNat) (h' := (hh.getD (xs.length : Int)).toNat) (by omega) (by omega) hc0
                refine ⟨.slice (if cap = (l.getD 0).toNat then A else A.map (·.add ((l.getD 0).toNat * ety.size))) ((hh.getD (xs.length : Int)).toNat - (l.getD 0).toNat) (cap - (l.getD 0).toNat), w, .inl ?_, c', ?_⟩
                · simp [execOp, ho, Instr.sliceAt, run_underlying (hT.slice he), Instr.slice, hA, hb, sizeOf, typeInfo, hinf, hsz]
                · exact hR'.setSlot o.dst _ _ hsub
def absMin (isMax : Bool) (x y : Operand) : RM Eff := opnd x fun u => opnd y fun v => match u, v with
  | .one (.at (.pv (.int k a))), .one (.at (.pv (.int _ b))) => .ret ⟨.one (.at (.pv (.int k (if isMax = true then (if a < b then b else a) else (if b < a then b else a))))), []⟩
  | _, _ => .fail
theorem done_min {o : Oper} {cl : Call} {x y : Operand} {e : Eff} (ho : o.op = .call cl) (hc : cl.callee = .builtin .min) (ha : cl.args = #[x, y]) (h : (absMin false x y).val σ = some e) : Done P w0 S0 G0 σ o e := by
  replace h := val_opnd h
  replace h := val_opnd h
  generalize hu : absO σ x = u at h
  generalize hv : absO σ y = v at h
  split at h
  case h_2 => simp [RM.val] at h
  case h_1 k n k2 m =>
    simp only [RM.val, Option.some.injEq] at h
    subst h
    refine Done.pure fun c a w hR => ⟨.int k (if m < n then m else n), ?_, Rep.int _ _⟩
    have hx := hR.opnd x
    have hy := hR.opnd y
    rw [hu] at hx
    rw [hv] at hy
    have hx := rep_int hx
    have hy := rep_int hy
    simp [execOp, ho, resolve, hc, ha, invoke, builtin, Builtin.min_, hx, hy, Builtin.min2]
theorem done_max {o : Oper} {cl : Call} {x y : Operand} {e : Eff} (ho : o.op = .call cl) (hc : cl.callee = .builtin .max) (ha : cl.args = #[x, y]) (h : (absMin true x y).val σ = some e) : Done P w0 S0 G0 σ o e := by
  replace h := val_opnd h
  replace h := val_opnd h
  generalize hu : absO σ x = u at h
  generalize hv : absO σ y = v at h
  split at h
  case h_2 => simp [RM.val] at h
  case h_1 k n k2 m =>
    simp only [RM.val, Option.some.injEq] at h
    subst h
    refine Done.pure fun c a w hR => ⟨.int k (if n < m then m else n), ?_, Rep.int _ _⟩
    have hx := hR.opnd x
    have hy := hR.opnd y
    rw [hu] at hx
    rw [hv] at hy
    have hx := rep_int hx
    have hy := rep_int hy
    simp [execOp, ho, resolve, hc, ha, invoke, builtin, Builtin.max_, hx, hy, Builtin.max2]
def absExtract (x : Operand) (i : Nat) : RM Eff := opnd x fun u => match u with
  | .tup l => match l[i]? with
    | some y => .ret ⟨.one y, []⟩
    | none => .fail
  | _ => .fail
theorem done_extract {o : Oper} {x : Operand} {i : Nat} {e : Eff} (ho : o.op = .extract x i) (h : (absExtract x i).val σ = some e) : Done P w0 S0 G0 σ o e := by
  replace h := val_opnd h
  generalize hu : absO σ x = u at h
  split at h
  case h_2 => simp [RM.val] at h
  case h_1 l =>
    split at h
    case h_2 => simp [RM.val] at h
    case h_1 y hy =>
      simp only [RM.val, Option.some.injEq] at h
      subst h
      refine Done.pure fun c a w hR => ?_
      have hx := hR.opnd x
      rw [hu] at hx
      obtain ⟨vs, e1, hl, hr⟩ := hx
      have hi := (List.getElem?_eq_some_iff.1 hy).1
      have hget : vs[i]? = some (vs.getD i undef) := get_of_getD (by omega)
      have hrep := hr i y hy
      generalize vs.getD i undef = z at hget hrep
      exact ⟨z, by simp [execOp, ho, e1, Instr.extract, hget], hrep⟩
def absEqB (tab : Nat → Option Ty) (neq : Bool) (t : Nat) (x y : Operand) : RM Eff := opnd x fun u => opnd y fun v => match tab t with
  | none => .fail
  | some ty => if ty.bool = true then match u, v with
      | .one (.at (.pv (.bool a))), .one (.at (.pv (.bool b))) => .ret ⟨.one (.at (.pv (.bool (if neq = true then !(a == b) else a == b)))), []⟩
      | _, _ => .fail
    else .fail
theorem done_eqB {o : Oper} {tab : Nat → Option Ty} {op : BinOp} {t ty : TypeId} {x y : Operand} {e : Eff} (htab : ∀ t ty, tab t = some ty → TyOk P t ty) (hop : op = .eql ∨ op = .neq) (ho : o.op = .binOp op t x y ty) (h : (absEqB tab (match op with | .neq => true | _ => false) t x y).val σ = some e) : Done P w0 S0 G0 σ o e := by
  replace h := val_opnd h
  replace h := val_opnd h
  generalize hu : absO σ x = u at h
  generalize hv : absO σ y = v at h
  cases hty : tab t with
  | none => rw [hty] at h; simp [RM.val] at h
  | some tyy =>
    rw [hty] at h
    dsimp only at h
    split at h
    case isFalse => simp [RM.val] at h
    case isTrue hb =>
      split at h
      case h_2 => simp [RM.val] at h
      case h_1 p q =>
        simp only [RM.val, Option.some.injEq] at h
        subst h
        have hund := (htab _ _ hty).bool hb
        have hrun : ∀ w, (Op.equal t (.bool p) (.bool q)).run P w = .ok (p == q) w := fun w => run_equalIn_bool' (P := P) w 9999 t p q hund
        have hguard : ∀ (op : BinOp) (w : World), (eqGuard op t x y (.bool p) (.bool q)).run P w = .ok () w := fun op w => by cases op <;> rfl
        have hbe : ∀ w, (binOp .eql t (.bool p) (.bool q)).run P w = .ok (.bool (p == q)) w := fun w => by
          show ((Op.equal t (.bool p) (.bool q)) >>= fun b => pure (Value.bool b) : Sem Value).run P w = _
          rw [Sem.run_bind, hrun]
          rfl
        have hbn : ∀ w, (binOp .neq t (.bool p) (.bool q)).run P w = .ok (.bool (!(p == q))) w := fun w => by
          show ((Op.equal t (.bool p) (.bool q)) >>= fun b => pure (Value.bool (!b)) : Sem Value).run P w = _
          rw [Sem.run_bind, hrun]
          rfl
        rcases hop with rfl | rfl
        · refine Done.pure fun c a w hR => ⟨.bool (p == q), ?_, Rep.bool _⟩
          have hx := hR.opnd x
          have hy := hR.opnd y
          rw [hu] at hx
          rw [hv] at hy
          have hx := rep_bool hx
          have hy := rep_bool hy
          simp only [execOp, ho, hx, hy, Sem.run_bind, hguard, hbe, Sem.run_pure, Result.andThen_ok]
        · refine Done.pure fun c a w hR => ⟨.bool (!(p == q)), ?_, Rep.bool _⟩
          have hx := hR.opnd x
          have hy := hR.opnd y
          rw [hu] at hx
          rw [hv] at hy
          have hx := rep_bool hx
          have hy := rep_bool hy
          simp only [execOp, ho, hx, hy, Sem.run_bind, hguard, hbn, Sem.run_pure, Result.andThen_ok]
end Go.E2
namespace Go.E2
open Go.RowKit
set_option linter.unusedVariables false
set_option linter.unusedSimpArgs false
variable {ob : Obs} {c c' : Con} {w w' w0 : World} {S0 : Own} {G0 G : Gh} {σ σ' σ1 : St} {a a' : Act} {P : Program}
def atPVs {α : Type} : List Nat → List At → (List PV → List (Nat × Nat × Option AObj) → RM α) → RM α
  | _, [], k => k [] []
  | es, x :: l, k => atPV (es.headD 0) x fun p us => atPVs es.tail l fun ps us' => k (p :: ps) (us ++ us')
theorem val_atPVs {α : Type} {r : α} : ∀ {l : List At} {es : List Nat} {k : List PV → List (Nat × Nat × Option AObj) → RM α}, (atPVs es l k).val σ = some r →
    ∃ ps us, (k ps us).val σ = some r ∧ ps.length = l.length ∧ ∀ σ1, Frz σ σ1 → Frz σ (σ1.lays us) ∧ ∀ w0 S0 G0 c a w, Rel w0 S0 G0 σ1 c a w → ∃ c', Rel w0 S0 G0 (σ1.lays us) c' a w ∧ Gh.le c.G c'.G ∧ c'.ρ = c.ρ ∧ c'.cp = c.cp ∧
      ∀ (i : Nat) (x : At) (v : Value), l[i]? = some x → RepAt σ1.ob c x v → ∃ p : PV, ps[i]? = some p ∧ Rep c'.G p v
  | [], es, k, h => ⟨[], [], h, rfl, fun σ1 hf => ⟨hf, fun w0 S0 G0 c a w hR => ⟨c, hR, Gh.le_refl _, rfl, rfl, fun i x v hx => by simp at hx⟩⟩⟩
  | x :: l, es, k, h => by
    obtain ⟨p, us, h1, H1⟩ := val_atPV h
    obtain ⟨ps, us', h2, hl, H2⟩ := val_atPVs h1
    refine ⟨p :: ps, us ++ us', h2, by simp [hl], fun σ1 hf => ?_⟩
    obtain ⟨f1, R1⟩ := H1 σ1 hf
    obtain ⟨f2, R2⟩ := H2 _ f1
    rw [lays_append]
    refine ⟨f2, fun w0 S0 G0 c a w hR => ?_⟩
    obtain ⟨c1, hR1, g1, e1, e2, v1⟩ := R1 w0 S0 G0 c a w hR
    obtain ⟨c2, hR2, g2, e3, e4, v2⟩ := R2 w0 S0 G0 c1 a w hR1
    refine ⟨c2, hR2, Gh.le_trans g1 g2, e3.trans e1, e4.trans e2, fun i y v hy hv => ?_⟩
    cases i with
    | zero => simp at hy; subst hy; exact ⟨p, rfl, (v1 v hv).mono g2⟩
    | succ i =>
      simp only [List.getElem?_cons_succ] at hy ⊢
      exact v2 i y v hy (RepAt.keep g1 (Frz.keeps hf f1 e1 e2) hv)
theorem fold_setMany (off : Nat) : ∀ (l : List Value) (k : Nat) (cells : Array Value), (l.zipIdx k).foldl (fun cs p => cs.setIfInBounds (off + p.2) p.1) cells = setMany cells (off + k) l
  | [], _, _ => rfl
  | v :: l, k, cells => by
    rw [List.zipIdx_cons, List.foldl_cons, fold_setMany off l (k + 1), setMany]
    rfl
theorem fill_step (off : Nat) (v : Value) (cells : Array Value) : v.cells.zipIdx.foldl (fun cs (p : Value × Nat) => cs.setIfInBounds (off + p.2) p.1) cells = setMany cells off v.cells.toList := by
  rw [← Array.foldl_toList, Array.toList_zipIdx, fold_setMany, Nat.add_zero]
theorem setMany_append : ∀ (l m : List Value) (cells : Array Value) (o : Nat), setMany cells o (l ++ m) = setMany (setMany cells o l) (o + l.length) m
  | [], m, cells, o => rfl
  | v :: l, m, cells, o => by
    rw [List.cons_append, setMany, setMany, setMany_append l m]
    congr 1
    simp only [List.length_cons]
    omega
theorem fill_row (sz : Nat) : ∀ (vals : List Value) (s : Nat) (cells : Array Value), (∀ v ∈ vals, v.cells.size = sz) → (s + vals.length) * sz ≤ cells.size →
    Instr.fill (fun i => some (i * sz, sz)) cells ((List.range' s vals.length).zip vals) = some (setMany cells (s * sz) (vals.flatMap fun v => v.cells.toList))
  | [], s, cells, _, _ => rfl
  | v :: vals, s, cells, hv, hl => by
    have h1 := hv v (.head _)
    have e : (s + (vals.length + 1)) * sz = s * sz + sz + vals.length * sz := by rw [Nat.add_mul, Nat.add_mul, Nat.one_mul]; omega
    simp only [List.length_cons] at hl
    rw [e] at hl
    simp only [List.length_cons, List.range'_succ, List.zip_cons_cons, Instr.fill, List.flatMap_cons]
    rw [if_neg (by simp only [h1, ne_eq, not_true_eq_false, decide_false, Bool.false_or, decide_eq_true_eq]; omega)]
    rw [fill_step, fill_row sz vals (s + 1) _ (fun u hu => hv u (.tail _ hu)) (by rw [setMany_size, Nat.add_mul, Nat.add_mul, Nat.one_mul]; omega), setMany_append]
    congr 2
    rw [Nat.add_mul, Nat.one_mul, Array.length_toList, h1]
theorem setMany_all (l : List Value) (cells : Array Value) (h : cells.size = l.length) : setMany cells 0 l = l.toArray := by
  apply Array.ext_getElem?
  intro i
  rw [setMany_get l cells 0 i (by omega)]
  by_cases hi : i < l.length
  · rw [if_pos (by omega)]
    simp
  · have h1 : cells.size ≤ i := by omega
    have h2 : l.length ≤ i := by omega
    rw [if_neg (by omega), Array.getElem?_eq_none h1, Array.getElem?_eq_none (by simpa using h2)]
def partsRM {α : Type} (es : List Nat) : List (Nat × Operand) → Nat → (List (List PV) → List (Nat × Nat × Option AObj) → RM α) → RM α
  | [], _, k => k [] []
  | (i, x) :: l, s, k => if i = s then opnd x fun u => match u with
      | .one y => atPVs es (v1cells y) fun ps us => partsRM es l (s + 1) fun xs us' => k (ps :: xs) (us ++ us')
      | .tup _ => .fail
    else .fail
theorem val_partsRM {α : Type} {r : α} {es : List Nat} : ∀ {l : List (Nat × Operand)} {s : Nat} {k : List (List PV) → List (Nat × Nat × Option AObj) → RM α}, (partsRM es l s k).val σ = some r →
    ∃ xs us, (k xs us).val σ = some r ∧ xs.length = l.length ∧ l.map (·.1) = List.range' s l.length ∧ ∀ σ1, Frz σ σ1 → Frz σ (σ1.lays us) ∧ ∀ w0 S0 G0 c a w, Rel w0 S0 G0 σ1 c a w → ∃ c', Rel w0 S0 G0 (σ1.lays us) c' a w ∧ Gh.le c.G c'.G ∧ c'.ρ = c.ρ ∧ c'.cp = c.cp ∧
      ∀ (j : Nat) (x : Nat × Operand), l[j]? = some x → ∃ ps : List PV, xs[j]? = some ps ∧ (a.eval x.2).cells.size = ps.length ∧ ∀ (i : Nat) (p : PV), ps[i]? = some p → Rep c'.G p ((a.eval x.2).cells.getD i undef)
  | [], s, k, h => ⟨[], [], h, rfl, rfl, fun σ1 hf => ⟨hf, fun w0 S0 G0 c a w hR => ⟨c, hR, Gh.le_refl _, rfl, rfl, fun j x hx => by simp at hx⟩⟩⟩
  | (i, x) :: l, s, k, h => by
    simp only [partsRM] at h
    split at h
    case isFalse => simp [RM.val] at h
    case isTrue hi =>
      subst hi
      replace h := val_opnd h
      cases hu : absO σ x with
      | tup q => rw [hu] at h; simp [RM.val] at h
      | one y =>
        rw [hu] at h
        obtain ⟨ps, us, h1, hl1, H1⟩ := val_atPVs h
        obtain ⟨xs, us', h2, hl2, hm, H2⟩ := val_partsRM h1
        refine ⟨ps :: xs, us ++ us', h2, by simp [hl2], by simp [hm, List.range'_succ], fun σ1 hf => ?_⟩
        obtain ⟨f1, R1⟩ := H1 σ1 hf
        obtain ⟨f2, R2⟩ := H2 _ f1
        rw [lays_append]
        refine ⟨f2, fun w0 S0 G0 c a w hR => ?_⟩
        obtain ⟨c1, hR1, g1, e1, e2, v1⟩ := R1 w0 S0 G0 c a w hR
        obtain ⟨c2, hR2, g2, e3, e4, v2⟩ := R2 w0 S0 G0 c1 a w hR1
        refine ⟨c2, hR2, Gh.le_trans g1 g2, e3.trans e1, e4.trans e2, fun j z hz => ?_⟩
        cases j with
        | succ j =>
          simp only [List.getElem?_cons_succ] at hz ⊢
          exact v2 j z hz
        | zero =>
          simp at hz
          subst hz
          refine ⟨ps, rfl, ?_⟩
          have hx := hR.opnd x
          have e5 : absO σ1 x = absO σ x := by
            cases x <;> first | rfl | (simp only [absO, St.slot]; rw [hf.1])
          rw [e5, hu] at hx
          have hx : RepV1 σ1.ob c y (a.eval x) := hx
          cases y with
          | agg q =>
            obtain ⟨cs, ecs, hsz, hr⟩ := hx
            have hsz' : cs.size = ps.length := by rw [hsz]; exact hl1.symm
            rw [ecs]
            refine ⟨hsz', fun i p hp => ?_⟩
            have hi := (List.getElem?_eq_some_iff.1 hp).1
            obtain ⟨z, hz⟩ : ∃ z, q[i]? = some z := ⟨_, List.getElem?_eq_getElem (by omega)⟩
            obtain ⟨p', hp', hrep⟩ := v1 i z _ hz (hr i z hz)
            rw [hp] at hp'
            cases hp'
            exact hrep.mono g2
          | «at» q =>
            obtain ⟨p, hp, hrep⟩ := v1 0 q (a.eval x) rfl hx
            have hlen : ps.length = 1 := hl1
            match ps, hlen, hp with
            | [p'], _, hp =>
              simp at hp
              subst hp
              have hone := rep_one hrep
              have hcells : (a.eval x).cells = #[a.eval x] := by
                revert hone
                cases a.eval x <;> intro hone <;> first | rfl | (simp [Value.oneCell'] at hone)
              rw [hcells]
              refine ⟨rfl, fun i p hp => ?_⟩
              cases i with
              | zero => simp at hp; subst hp; exact hrep.mono g2
              | succ i => simp at hp
def absBuildSlice (tab : Nat → Option Ty) (t n : Nat) (parts : Array (Nat × Operand)) (d : Option Nat) : RM Eff := match d, tab t with
  | some d, some ty => if ty.elem = 0 then .fail else match tab ty.elem with
    | none => .fail
    | some ety => partsRM ety.es parts.toList 0 fun xs us => if xs.length = n ∧ (xs.all fun x => x.length == ety.size) = true ∧ n * ety.size ≤ 16777216 ∧ n ≤ 16777216 then
        .obj d fun q => .ret ⟨.one (.at (.row d (q.1 + 1))), us ++ [(d, q.1 + 1, some (.row true ety.size xs))]⟩ else .fail
  | _, _ => .fail
theorem flat_says {e : Nat} {xs : List (List PV)} {vals : List Value} (hl : xs.length = vals.length) (hw : ∀ x ∈ xs, x.length = e)
    (h : ∀ (j : Nat) (ps : List PV) (v : Value), xs[j]? = some ps → vals[j]? = some v → v.cells.size = ps.length ∧ ∀ (i : Nat) (p : PV), ps[i]? = some p → Rep G p (v.cells.getD i undef)) :
    Says G e xs (vals.flatMap fun v => v.cells.toList) := by
  induction xs generalizing vals with
  | nil =>
    match vals, hl with
    | [], _ => exact ⟨by simp, fun j x hx => by simp at hx, fun j x i y hx => by simp at hx⟩
  | cons x xs ih =>
    match vals, hl with
    | v :: vals, hl =>
      have h0 := h 0 x v rfl rfl
      have hx := hw x (.head _)
      have ih := ih (vals := vals) (by simpa using hl) (fun y hy => hw y (.tail _ hy)) (fun j ps u h1 h2 => h (j + 1) ps u h1 h2)
      have one : Says G e [x] v.cells.toList := by
        refine ⟨by simp [h0.1, hx], fun j y hy => ?_, fun j y i z hy hz => ?_⟩
        · match j, hy with
          | 0, hy => simp at hy; subst hy; exact hx
        · match j, hy with
          | 0, hy =>
            simp at hy
            subst hy
            have := h0.2 i z hz
            rw [Nat.zero_mul, Nat.zero_add, List.getD_eq_getElem?_getD, Array.getElem?_toList]
            rw [Array.getD_eq_getD_getElem?] at this
            exact this
      have := one.append ih
      simpa using this
theorem done_buildSlice {o : Oper} {tab : Nat → Option Ty} {t n : Nat} {parts : Array (Nat × Operand)} {e : Eff} (htab : ∀ t ty, tab t = some ty → TyOk P t ty) (ho : o.op = .buildSlice t n parts) (h : (absBuildSlice tab t n parts o.dst).val σ = some e) : Done P w0 S0 G0 σ o e := by
  unfold absBuildSlice at h
  split at h
  case h_2 => simp [RM.val] at h
  case h_1 d ty hd hty =>
    have hT := htab t ty hty
    split at h
    case isTrue => simp [RM.val] at h
    case isFalse he =>
      cases hety : tab ty.elem with
      | none => rw [hety] at h; simp [RM.val] at h
      | some ety =>
        rw [hety] at h
        have hE := htab _ ety hety
        obtain ⟨xs, us, h2, hl, hm, H⟩ := val_partsRM h
        replace h := h2
        clear h2
        split at h
        case isFalse => simp [RM.val] at h
        case isTrue hc =>
          obtain ⟨hn, hall, hbig⟩ := hc
          simp only [RM.val, Option.some.injEq] at h
          subst h
          intro c a w hR
          obtain ⟨hF, HR⟩ := H σ (Frz.refl σ)
          obtain ⟨c1, hR1, g1, e1, e2, hv⟩ := HR w0 S0 G0 c a w hR
          obtain ⟨i, z, hi, hsz, _, hz, _, hzs, _⟩ := hE.info
          let vals : List Value := parts.toList.map fun x => a.eval x.2
          have hvl : vals.length = n := by simp only [vals, List.length_map]; omega
          have hwide : ∀ x ∈ xs, x.length = ety.size := fun x hx => by simpa using List.all_eq_true.1 hall x hx
          have hval : ∀ (j : Nat) (ps : List PV) (v : Value), xs[j]? = some ps → vals[j]? = some v → v.cells.size = ps.length ∧ ∀ (i : Nat) (p : PV), ps[i]? = some p → Rep c1.G p (v.cells.getD i undef) := fun j ps v h1 h2 => by
            obtain ⟨x, hx, rfl⟩ := map_get h2
            obtain ⟨ps', q1, q2, q3⟩ := hv j x hx
            rw [h1] at q1
            cases q1
            exact ⟨q2, q3⟩
          have hsays := flat_says (G := c1.G) (e := ety.size) (xs := xs) (vals := vals) (by omega) hwide hval
          have hcells : ∀ v ∈ vals, v.cells.size = ety.size := fun v hv' => by
            obtain ⟨j, hj, rfl⟩ := List.getElem_of_mem hv'
            obtain ⟨ps, hps⟩ : ∃ ps, xs[j]? = some ps := ⟨_, List.getElem?_eq_getElem (by omega)⟩
            rw [(hval j ps _ hps (List.getElem?_eq_getElem hj)).1]
            exact hwide ps (List.mem_of_getElem? hps)
          have hparts : (parts.map fun x => (x.1, a.eval x.2)).toList = (List.range' 0 vals.length).zip vals := by
            have e3 : vals.length = parts.toList.length := by simp [vals]
            rw [e3, ← hm, Array.toList_map]
            simp only [vals]
            rw [List.zip_map']
          have hfill : ∀ z0 : Array Value, z0.size = n * ety.size → Instr.fill (fun i => some (i * ety.size, ety.size)) z0 ((parts.map fun x => (x.1, a.eval x.2)).toList) = some (vals.flatMap fun v => v.cells.toList).toArray := fun z0 hz0 => by
            rw [hparts, fill_row ety.size vals 0 z0 hcells (by rw [Nat.zero_add, hvl, hz0]; exact Nat.le_refl _), Nat.zero_mul, setMany_all _ _ (by rw [hz0, hsays.1, hn])]
          obtain ⟨c2, hR2⟩ := hR1.newrow d ety.size n true o.dst (zs := #[]) ty.elem w.drawn (Nat.le_refl _) hsays (by omega) (by rw [hn]; simp)
          rw [hn] at hR2
          have hgen : ((σ.lays us).ob d).1 = (σ.ob d).1 := by
            rcases hF.2 d with h | ⟨g, e5, xs5, h1, h2⟩
            · rw [h]
            · rw [h1, h2]
          rw [hgen] at hR2
          refine ⟨.slice (some ⟨w.heap.size, 0, none⟩) n n, { w with heap := w.heap.push (.cells ((vals.flatMap fun v => v.cells.toList).toArray ++ #[]) ty.elem (0, 0)), drawn := w.drawn }, .inl ?_, c2, ?_⟩
          · have hbig' : ¬ (16777216 < n * ety.size) := by omega
            have hmap : (parts.map fun (x : Nat × Operand) => (x.1, a.eval x.2)).toList = (parts.map fun x => (x.1, a.eval x.2)).toList := rfl
            by_cases hz0 : n * ety.size = 0
            · have := hfill ((Array.range (n * ety.size)).map (#[][· % (#[] : Array Value).size]!)) (by simp)
              simp [execOp, ho, Instr.buildSlice, run_underlying (hT.slice he), sizeOf, typeInfo, hi, hsz, hbig', hz0] at this ⊢
              rw [this]
              simp [newRow, newObj, Sem.run]
            · have := hfill ((Array.range (n * ety.size)).map (z.cells[· % z.cells.size]!)) (by simp)
              simp [execOp, ho, Instr.buildSlice, run_underlying (hT.slice he), sizeOf, typeInfo, hi, hsz, hbig', hz0, zeroValue, hz] at this ⊢
              rw [this]
              simp [newRow, newObj, Sem.run]
          · unfold St.app at hR2 ⊢
            rw [lays_append]
            exact hR2
end Go.E2
namespace Go.E2
open Go.RowKit
set_option linter.unusedVariables false
set_option linter.unusedSimpArgs false
variable {ob : Obs} {c c' : Con} {w w' w0 : World} {S0 : Own} {G0 G : Gh} {σ σ' σ1 : St} {a a' : Act} {P : Program}
theorem mapM_ok {α β : Type} {w : World} (g : α → Sem β) : ∀ l : List α, (∀ x ∈ l, ∃ v, (g x).run P w = .ok v w) → ∃ vs, (l.mapM g).run P w = .ok vs w
  | [], _ => ⟨[], rfl⟩
  | x :: l, h => by
    obtain ⟨v, hv⟩ := h x (.head _)
    obtain ⟨vs, hvs⟩ := mapM_ok g l fun y hy => h y (.tail _ hy)
    refine ⟨v :: vs, ?_⟩
    rw [List.mapM_cons]
    simp [hv, hvs]
theorem mapM_arr {α β : Type} {w : World} (g : α → Sem β) (l : Array α) (h : ∀ x ∈ l.toList, ∃ v, (g x).run P w = .ok v w) : ∃ vs, (l.mapM g).run P w = .ok vs w := by
  obtain ⟨vs, hvs⟩ := mapM_ok g l.toList h
  refine ⟨vs.toArray, ?_⟩
  rw [Array.mapM_eq_mapM_toList]
  simp [hvs]
def absBuild0 (tab : Nat → Option Ty) (t : Nat) : RM Eff := match tab t with
  | some ty => if ty.fields ≠ [] ∧ (ty.fields.all fun q => (tab q.2).isSome) = true then .ret ⟨.one (.agg ty.zero), []⟩ else .fail
  | none => .fail
theorem done_build0 {o : Oper} {tab : Nat → Option Ty} {t : Nat} {e : Eff} (htab : ∀ t ty, tab t = some ty → TyOk P t ty) (ho : o.op = .build t #[]) (h : (absBuild0 tab t).val σ = some e) : Done P w0 S0 G0 σ o e := by
  unfold absBuild0 at h
  split at h
  case h_2 => simp [RM.val] at h
  case h_1 ty hty =>
    split at h
    case isFalse => simp [RM.val] at h
    case isTrue hc =>
      simp only [RM.val, Option.some.injEq] at h
      subst h
      obtain ⟨i, z, hi, hsz, hby, hz, hzc, hzs, hz1⟩ := (htab t ty hty).info
      obtain ⟨F, hF, hFs, hr⟩ := (htab t ty hty).fields hc.1
      refine Done.pure fun c a w hR => ⟨.agg z.cells, ?_, ⟨_, rfl, by rw [← hzc]; simp, fun j x hx => ?_⟩⟩
      · obtain ⟨vs, hvs⟩ := mapM_arr (P := P) (w := w) (fun f : Field => Prod.mk f.offset <$> sizeOf f.type) F fun f hf => by
          obtain ⟨j, hj, rfl⟩ := List.getElem_of_mem hf
          have hj' : j < F.size := by simpa using hj
          obtain ⟨f, h1, h2, h3⟩ := hr j _ (List.getElem?_eq_getElem (show j < ty.fields.length by omega))
          have hall := List.all_eq_true.1 hc.2 _ (List.getElem_mem (show j < ty.fields.length by omega))
          obtain ⟨fty, hfty⟩ := Option.isSome_iff_exists.1 hall
          obtain ⟨i2, _, hi2, hsz2, _⟩ := (htab _ _ hfty).info
          rw [Array.getElem?_eq_getElem hj'] at h1
          cases h1
          refine ⟨(F[j].offset, fty.size), ?_⟩
          rw [Array.getElem_toList]
          simp [sizeOf, typeInfo, h3, hi2, hsz2]
        simp [execOp, ho, Instr.build, zeroValue, typeInfo, hi, hz, run_underlying hF, hvs, Instr.fill]
      · rw [← hzc] at hx
        obtain ⟨u, hu, rfl⟩ := map_get hx
        rw [Array.getElem?_toList] at hu
        rw [Array.getD_eq_getD_getElem?, hu]
        exact rep_constAt u
end Go.E2
namespace Go.E2
open Go.RowKit
set_option linter.unusedVariables false
set_option linter.unusedSimpArgs false
variable {ob : Obs} {c c' : Con} {w w' w0 : World} {S0 : Own} {G0 G : Gh} {σ σ' σ1 : St} {a a' : Act} {P : Program}
inductive All2 {α β : Type} (R : α → β → Prop) : List α → List β → Prop where
  | nil : All2 R [] []
  | cons {x y l m} : R x y → All2 R l m → All2 R (x :: l) (y :: m)
theorem mapM_eq {α β : Type} {w : World} (g : α → Sem β) (f : α → β) : ∀ l : List α, (∀ x ∈ l, (g x).run P w = .ok (f x) w) → (l.mapM g).run P w = .ok (l.map f) w
  | [], _ => rfl
  | x :: l, h => by
    have h1 := h x (.head _)
    have h2 := mapM_eq g f l fun y hy => h y (.tail _ hy)
    rw [List.mapM_cons]
    simp [h1, h2]
theorem mapM_arr_eq {α β : Type} {w : World} (g : α → Sem β) (f : α → β) (l : Array α) (h : ∀ x ∈ l.toList, (g x).run P w = .ok (f x) w) : (l.mapM g).run P w = .ok (l.map f) w := by
  have := mapM_eq (P := P) g f l.toList h
  have e : l.map f = (l.toList.map f).toArray := by rw [← Array.toList_map, Array.toArray_toList]
  rw [Array.mapM_eq_mapM_toList, e]
  simp only [Sem.run_map, this]
  rfl
def valsRM {α : Type} : List (Nat × Operand) → (List (Nat × V1) → RM α) → RM α
  | [], k => k []
  | (i, x) :: l, k => opnd x fun u => match u with
    | .one y => sureAll (v1cells y) (valsRM l fun ys => k ((i, y) :: ys))
    | .tup _ => .fail
theorem val_valsRM {α : Type} {r : α} : ∀ {l : List (Nat × Operand)} {k : List (Nat × V1) → RM α}, (valsRM l k).val σ = some r → ∃ ys, (k ys).val σ = some r ∧ ∀ w0 S0 G0 c a w, Rel w0 S0 G0 σ c a w →
    All2 (fun (y : Nat × V1) (v : Nat × Value) => y.1 = v.1 ∧ RepV1 σ.ob c y.2 v.2 ∧ ∀ z ∈ v1cells y.2, ∀ v, RepAt σ.ob c z v → v.oneCell' = true) ys (l.map fun x => (x.1, a.eval x.2))
  | [], k, h => ⟨[], h, fun w0 S0 G0 c a w hR => .nil⟩
  | (i, x) :: l, k, h => by
    simp only [valsRM] at h
    replace h := val_opnd h
    cases hu : absO σ x with
    | tup q => rw [hu] at h; simp [RM.val] at h
    | one y =>
      rw [hu] at h
      obtain ⟨h, h1⟩ := val_sureAll h
      obtain ⟨ys, h2, h3⟩ := val_valsRM h
      refine ⟨_, h2, fun w0 S0 G0 c a w hR => .cons ⟨rfl, ?_, fun z hz v hv => h1 z hz c v hv⟩ (h3 w0 S0 G0 c a w hR)⟩
      have hx := hR.opnd x
      rw [hu] at hx
      exact hx
def putParts (tab : Nat → Option Ty) (fields : List (Nat × Nat)) : List At → List (Nat × V1) → Option (List At)
  | cells, [] => some cells
  | cells, (i, y) :: l => match fields[i]? with
    | some (off, ft) => match tab ft with
      | some fty => if (v1cells y).length = fty.size ∧ off + fty.size ≤ cells.length then putParts tab fields (cells.take off ++ v1cells y ++ cells.drop (off + fty.size)) l else none
      | none => none
    | none => none
theorem put_fill {tab : Nat → Option Ty} {fields : List (Nat × Nat)} {place : Nat → Option (Nat × Nat)} (hpl : ∀ i off ft fty, fields[i]? = some (off, ft) → tab ft = some fty → place i = some (off, fty.size)) :
    ∀ {ys : List (Nat × V1)} {vs : List (Nat × Value)} {cells cells' : List At} {cs : Array Value},
      All2 (fun (y : Nat × V1) (v : Nat × Value) => y.1 = v.1 ∧ RepV1 ob c y.2 v.2 ∧ ∀ z ∈ v1cells y.2, ∀ v, RepAt ob c z v → v.oneCell' = true) ys vs →
      putParts tab fields cells ys = some cells' → cs.size = cells.length → (∀ i x, cells[i]? = some x → RepAt ob c x (cs.getD i undef)) →
      ∃ cs', Instr.fill place cs vs = some cs' ∧ cs'.size = cells'.length ∧ ∀ i x, cells'[i]? = some x → RepAt ob c x (cs'.getD i undef)
  | [], [], cells, cells', cs, _, h, hl, hr => by
    cases h
    exact ⟨cs, rfl, hl, hr⟩
  | (i, y) :: ys, (j, v) :: vs, cells, cells', cs, hf, h, hl, hr => by
    cases hf with
    | cons h1 h2 =>
      obtain ⟨hij, hy, ho⟩ := h1
      simp only at hij
      subst hij
      simp only [putParts] at h
      split at h
      case h_2 => cases h
      case h_1 off ft hfi =>
        split at h
        case h_2 => cases h
        case h_1 fty hft =>
          split at h
          case isFalse => cases h
          case isTrue hc =>
            obtain ⟨e1, e2, e3⟩ := cells_of_V1 hy ho
            have e1 : v.cells.size = (v1cells y).length := e1
            obtain ⟨hc1, hc2⟩ := hc
            have hc : (v1cells y).length = fty.size ∧ off + fty.size ≤ cells.length := ⟨hc1, hc2⟩
            have hvl : v.cells.toList.length = fty.size := by simp; omega
            have step : ∀ k x, (cells.take off ++ v1cells y ++ cells.drop (off + fty.size))[k]? = some x → RepAt ob c x ((setMany cs off v.cells.toList).getD k undef) := fun k x hx => by
              rw [Array.getD_eq_getD_getElem?, setMany_get _ cs off k (by omega)]
              rcases splice_get hc.1 hc.2 hx with ⟨q1, q2, q3⟩ | ⟨q1, q2⟩
              · rw [if_pos (by omega)]
                have := e2 (k - off) x q3
                rw [Array.getD_eq_getD_getElem?] at this
                simpa using this
              · rw [if_neg (by omega)]
                have := hr k x q2
                rw [Array.getD_eq_getD_getElem?] at this
                exact this
            obtain ⟨cs', f1, f2, f3⟩ := put_fill hpl h2 h (cs := setMany cs off v.cells.toList) (by rw [setMany_size, hl]; simp; omega) step
            refine ⟨cs', ?_, f2, f3⟩
            unfold Instr.fill
            rw [hpl i off ft fty hfi hft]
            dsimp only
            have n1 : ¬ (v.cells.size ≠ fty.size ∨ off + v.cells.size > cs.size) := by
              rw [hl, e1, hc1]
              simp [hc2]
            rw [if_neg (by simpa using n1), fill_step]
            exact f1
def absBuildA (tab : Nat → Option Ty) (ty : Ty) (parts : List (Nat × Operand)) : RM Eff :=
  if ty.apl ≠ [] ∧ (ty.apl.all fun q => (tab q.2).isSome) = true then valsRM parts fun ys => match putParts tab ty.apl ty.zero ys with
      | some cells => .ret ⟨.one (.agg cells), []⟩
      | none => .fail
    else .fail
theorem done_buildA {o : Oper} {tab : Nat → Option Ty} {t : Nat} {ty : Ty} {parts : Array (Nat × Operand)} {e : Eff} (htab : ∀ t ty, tab t = some ty → TyOk P t ty) (hty : tab t = some ty) (ho : o.op = .build t parts) (h : (absBuildA tab ty parts.toList).val σ = some e) : Done P w0 S0 G0 σ o e := by
  unfold absBuildA at h
  split at h
  case isFalse => simp [RM.val] at h
  case isTrue hc =>
    obtain ⟨ys, h, H⟩ := val_valsRM h
    split at h
    case h_2 => simp [RM.val] at h
    case h_1 cells hcells =>
      simp only [RM.val, Option.some.injEq] at h
      subst h
      obtain ⟨i, z, hi, hsz, hby, hz, hzc, hzs, hz1⟩ := (htab t ty hty).info
      obtain ⟨n, el, ei, h1, h2, h3, h4⟩ := (htab t ty hty).arr hc.1
      refine Done.pure fun c a w hR => ?_
      obtain ⟨cs', f1, f2, f3⟩ := put_fill (tab := tab) (fields := ty.apl) (place := fun i => some (i * ei.size, ei.size)) (fun j off ft fty q1 q2 => by
        have h4 := h4 _ _ q1
        simp only [Prod.mk.injEq] at h4
        obtain ⟨rfl, rfl⟩ := h4
        obtain ⟨i2, _, hi2, hsz2, _⟩ := (htab _ _ q2).info
        rw [h2] at hi2
        cases hi2
        rw [hsz2]) (H _ _ _ c a w hR) hcells (cs := z.cells) (by rw [← hzc]; simp) (fun j x hx => by
        rw [← hzc] at hx
        obtain ⟨u, hu, rfl⟩ := map_get hx
        rw [Array.getElem?_toList] at hu
        rw [Array.getD_eq_getD_getElem?, hu]
        exact rep_constAt u)
      refine ⟨.agg cs', ?_, ⟨_, rfl, f2, f3⟩⟩
      have e4 : (parts.map fun (x : Nat × Operand) => (x.1, a.eval x.2)).toList = parts.toList.map fun x => (x.1, a.eval x.2) := by simp
      rw [← e4] at f1
      simp only [execOp, ho, Instr.build, zeroValue, typeInfo]
      simp [hi, hz, run_underlying h1, sizeOf, typeInfo, h2] at f1 ⊢
      rw [f1]
      rfl
def absBuild (tab : Nat → Option Ty) (t : Nat) (parts : List (Nat × Operand)) : RM Eff := match tab t with
  | some ty => if ty.fields ≠ [] ∧ (ty.fields.all fun q => (tab q.2).isSome) = true then valsRM parts fun ys => match putParts tab ty.fields ty.zero ys with
      | some cells => .ret ⟨.one (.agg cells), []⟩
      | none => .fail
    else absBuildA tab ty parts
  | none => .fail
theorem done_build {o : Oper} {tab : Nat → Option Ty} {t : Nat} {parts : Array (Nat × Operand)} {e : Eff} (htab : ∀ t ty, tab t = some ty → TyOk P t ty) (ho : o.op = .build t parts) (h : (absBuild tab t parts.toList).val σ = some e) : Done P w0 S0 G0 σ o e := by
  unfold absBuild at h
  split at h
  case h_2 => simp [RM.val] at h
  case h_1 ty hty =>
    split at h
    case isFalse => exact done_buildA htab hty ho h
    case isTrue hc =>
      obtain ⟨ys, h, H⟩ := val_valsRM h
      split at h
      case h_2 => simp [RM.val] at h
      case h_1 cells hcells =>
        simp only [RM.val, Option.some.injEq] at h
        subst h
        obtain ⟨i, z, hi, hsz, hby, hz, hzc, hzs, hz1⟩ := (htab t ty hty).info
        obtain ⟨F, hF, hFs, hr⟩ := (htab t ty hty).fields hc.1
        refine Done.pure fun c a w hR => ?_
        let g : Field → Nat × Nat := fun f => (f.offset, ((tab f.type).map (·.size)).getD 0)
        have hg : ∀ (j : Nat) (f : Field), F[j]? = some f → ∃ off ft fty, ty.fields[j]? = some (off, ft) ∧ tab ft = some fty ∧ f.offset = off ∧ f.type = ft ∧ g f = (off, fty.size) := fun j f hf => by
          have hj : j < F.size := (Array.getElem?_eq_some_iff.1 hf).1
          obtain ⟨f', h1, h2, h3⟩ := hr j _ (List.getElem?_eq_getElem (show j < ty.fields.length by omega))
          rw [hf] at h1
          cases h1
          have hall := List.all_eq_true.1 hc.2 _ (List.getElem_mem (show j < ty.fields.length by omega))
          obtain ⟨fty, hfty⟩ := Option.isSome_iff_exists.1 hall
          refine ⟨_, _, fty, List.getElem?_eq_getElem (by omega), hfty, h2, h3, ?_⟩
          show (f.offset, ((tab f.type).map (·.size)).getD 0) = _
          rw [h2, h3, hfty]
          rfl
        have hm := mapM_arr_eq (P := P) (w := w) (fun f : Field => Prod.mk f.offset <$> sizeOf f.type) g F fun f hf => by
          obtain ⟨j, hj, rfl⟩ := List.getElem_of_mem hf
          have hj' : j < F.size := by simpa using hj
          obtain ⟨off, ft, fty, q1, q2, q3, q4, q5⟩ := hg j F[j] (Array.getElem?_eq_getElem hj')
          obtain ⟨i2, _, hi2, hsz2, _⟩ := (htab _ _ q2).info
          rw [Array.getElem_toList, q5]
          simp [sizeOf, typeInfo, q3, q4, hi2, hsz2]
        obtain ⟨cs', f1, f2, f3⟩ := put_fill (tab := tab) (fields := ty.fields) (place := ((F.map g)[·]?)) (fun j off ft fty q1 q2 => by
          have hj := (List.getElem?_eq_some_iff.1 q1).1
          obtain ⟨off', ft', fty', r1, r2, r3, r4, r5⟩ := hg j (F[j]'(by omega)) (Array.getElem?_eq_getElem (by omega))
          rw [q1] at r1
          cases r1
          rw [q2] at r2
          cases r2
          rw [Array.getElem?_map, Array.getElem?_eq_getElem (show j < F.size by omega)]
          simp [r5]) (H _ _ _ c a w hR) hcells (cs := z.cells) (by rw [← hzc]; simp) (fun j x hx => by
          rw [← hzc] at hx
          obtain ⟨u, hu, rfl⟩ := map_get hx
          rw [Array.getElem?_toList] at hu
          rw [Array.getD_eq_getD_getElem?, hu]
          exact rep_constAt u)
        refine ⟨.agg cs', ?_, ⟨_, rfl, f2, f3⟩⟩
        have e4 : (parts.map fun (x : Nat × Operand) => (x.1, a.eval x.2)).toList = parts.toList.map fun x => (x.1, a.eval x.2) := by simp
        rw [← e4] at f1
        simp only [execOp, ho, Instr.build, zeroValue, typeInfo]
        simp [hi, hz, run_underlying hF, hm] at f1 ⊢
        rw [f1]
        rfl
def capsRM {α : Type} : List Operand → (List PV → List Upd → RM α) → RM α
  | [], k => k [] []
  | x :: l, k => opnd x fun u => match u with
    | .one (.at y) => atPV 0 y fun p us => capsRM l fun ps us' => k (p :: ps) (us ++ us')
    | _ => .fail
theorem val_capsRM {α : Type} {r : α} : ∀ {l : List Operand} {k : List PV → List Upd → RM α}, (capsRM l k).val σ = some r →
    ∃ ps us, (k ps us).val σ = some r ∧ ps.length = l.length ∧ ∀ σ1, Frz σ σ1 → Frz σ (σ1.lays us) ∧ ∀ w0 S0 G0 c a w, Rel w0 S0 G0 σ1 c a w → ∃ c', Rel w0 S0 G0 (σ1.lays us) c' a w ∧ Gh.le c.G c'.G ∧ c'.ρ = c.ρ ∧ c'.cp = c.cp ∧
      ∀ (i : Nat) (x : Operand), l[i]? = some x → ∃ p : PV, ps[i]? = some p ∧ Rep c'.G p (a.eval x)
  | [], k, h => ⟨[], [], h, rfl, fun σ1 hf => ⟨hf, fun w0 S0 G0 c a w hR => ⟨c, hR, Gh.le_refl _, rfl, rfl, fun i x hx => by simp at hx⟩⟩⟩
  | x :: l, k, h => by
    replace h := val_opnd h
    generalize hu : absO σ x = u at h
    split at h
    case h_2 => simp [RM.val] at h
    case h_1 y =>
      obtain ⟨p, us, h1, H1⟩ := val_atPV h
      obtain ⟨ps, us', h2, hl, H2⟩ := val_capsRM h1
      refine ⟨p :: ps, us ++ us', h2, by simp [hl], fun σ1 hf => ?_⟩
      obtain ⟨f1, R1⟩ := H1 σ1 hf
      obtain ⟨f2, R2⟩ := H2 _ f1
      rw [lays_append]
      refine ⟨f2, fun w0 S0 G0 c a w hR => ?_⟩
      obtain ⟨c1, hR1, g1, e1, e2, v1⟩ := R1 w0 S0 G0 c a w hR
      obtain ⟨c2, hR2, g2, e3, e4, v2⟩ := R2 w0 S0 G0 c1 a w hR1
      refine ⟨c2, hR2, Gh.le_trans g1 g2, e3.trans e1, e4.trans e2, fun i z hz => ?_⟩
      cases i with
      | zero =>
        simp at hz
        subst hz
        have hx := hR.opnd x
        have e5 : absO σ1 x = absO σ x := by
          cases x <;> first | rfl | (simp only [absO, St.slot]; rw [hf.1])
        rw [e5, hu] at hx
        exact ⟨p, rfl, (v1 _ hx).mono g2⟩
      | succ i =>
        simp only [List.getElem?_cons_succ] at hz ⊢
        exact v2 i z hz
def absMakeFunc (fn : Fn) (first captured : List Operand) : RM Eff := match fn, first with
  | .func f, [] => capsRM captured fun ps us => .ret ⟨.one (.at (.pv (.fn f ps))), us⟩
  | _, _ => .fail
theorem done_makeFunc {o : Oper} {fn : Fn} {first captured : Array Operand} {e : Eff} (ho : o.op = .makeFunc fn first captured) (h : (absMakeFunc fn first.toList captured.toList).val σ = some e) : Done P w0 S0 G0 σ o e := by
  unfold absMakeFunc at h
  split at h
  case h_2 => simp [RM.val] at h
  case h_1 f hfirst =>
    obtain rfl : first = #[] := Array.toList_inj.1 (by simpa using hfirst)
    obtain ⟨ps, us, h, hl, H⟩ := val_capsRM h
    simp only [RM.val, Option.some.injEq] at h
    subst h
    intro c a w hR
    obtain ⟨hF, HR⟩ := H σ (Frz.refl σ)
    obtain ⟨c1, hR1, g1, e1, e2, hv⟩ := HR w0 S0 G0 c a w hR
    have hal : captured.toList.length = captured.size := Array.length_toList
    refine ⟨.func (.func f) #[] (captured.map a.eval), w, .inl (by simp [execOp, ho, Instr.makeFunc]), c1, ?_⟩
    refine hR1.setSlot o.dst _ _ (Rep.fn f ps _ (by simp; omega) fun i p hp => ?_)
    have hi := (List.getElem?_eq_some_iff.1 hp).1
    obtain ⟨x, hx⟩ : ∃ x, captured.toList[i]? = some x := ⟨_, List.getElem?_eq_getElem (by omega)⟩
    obtain ⟨p', hp', hrep⟩ := hv i x hx
    rw [hp] at hp'
    cases hp'
    rw [Array.getElem?_toList] at hx
    rw [Array.getD_eq_getD_getElem?, Array.getElem?_map, hx]
    exact hrep
def absField (tab : Nat → Option Ty) (t : Nat) (x : Operand) (f : Nat) : RM Eff := opnd x fun u => match tab t with
  | none => .fail
  | some ty => match ty.fields[f]? with
    | none => .fail
    | some (off, ft) => match tab ft with
      | none => .fail
      | some fty => match u with
        | .one (.agg l) => if off + fty.size ≤ l.length then retLoad fty ((l.drop off).take fty.size) else .fail
        | _ => .fail
theorem done_field {o : Oper} {tab : Nat → Option Ty} {t f : Nat} {x : Operand} {e : Eff} (htab : ∀ t ty, tab t = some ty → TyOk P t ty) (ho : o.op = .field t x f) (h : (absField tab t x f).val σ = some e) : Done P w0 S0 G0 σ o e := by
  replace h := val_opnd h
  generalize hu : absO σ x = u at h
  split at h
  case h_1 => simp [RM.val] at h
  case h_2 ty hty =>
    split at h
    case h_1 => simp [RM.val] at h
    case h_2 off ft hq =>
      split at h
      case h_1 => simp [RM.val] at h
      case h_2 fty hft =>
        split at h
        case h_2 => simp [RM.val] at h
        case h_1 l =>
          split at h
          case isFalse => simp [RM.val] at h
          case isTrue hle =>
            obtain ⟨F, hF, _, hr⟩ := (htab t ty hty).fields (fun e => by rw [e] at hq; simp at hq)
            obtain ⟨fl, h1, h2, h3⟩ := hr f _ hq
            simp only at h2 h3
            have hT := htab ft fty hft
            obtain ⟨i, z, hi, hsz, _⟩ := hT.info
            obtain ⟨dd, hdd, hagg⟩ := hT.isAgg
            have hag : ∀ w, (isAgg ft).run P w = .ok fty.agg w := fun w => by
              unfold isAgg
              rw [Sem.run_bind, run_underlying hdd w]
              rw [← hagg]
              cases dd <;> rfl
            unfold retLoad at h
            split at h
            case isFalse => simp [RM.val] at h
            case isTrue hl =>
              split at h
              case isTrue ha =>
                simp only [RM.val, Option.some.injEq] at h
                subst h
                refine Done.pure fun c a w hR => ?_
                have hx := hR.opnd x
                rw [hu] at hx
                obtain ⟨cs, ecs, hcs, hrep⟩ := hx
                refine ⟨.agg (cs.extract off (off + fty.size)), ?_, _, rfl, by simp; omega, fun j y hy => ?_⟩
                · simp [execOp, ho, Instr.field, run_underlying hF, h1, part, h2, h3, hag, ha, ecs, asAgg, sizeOf, typeInfo, hi, hsz]
                · have := hrep _ _ (drop_take_get hy)
                  have hj := (List.getElem?_eq_some_iff.1 hy).1
                  rw [Array.getD_eq_getD_getElem?] at this ⊢
                  rw [Array.getElem?_extract, if_pos (by omega)]
                  exact this
              case isFalse ha =>
                split at h
                case h_2 => simp [RM.val] at h
                case h_1 y hy =>
                  simp only [RM.val, Option.some.injEq] at h
                  subst h
                  refine Done.pure fun c a w hR => ?_
                  have hx := hR.opnd x
                  rw [hu] at hx
                  obtain ⟨cs, ecs, hcs, hrep⟩ := hx
                  have hy0 : l[off + 0]? = some y := drop_take_get (l := l) (n := fty.size) (by rw [hy]; rfl)
                  have := hrep _ _ hy0
                  have hlt := (List.getElem?_eq_some_iff.1 hy0).1
                  rw [Nat.add_zero] at this hlt
                  have ha' : fty.agg = false := by simpa using ha
                  have hget := get_of_getD (show off < cs.size by omega)
                  generalize cs.getD off undef = u at hget this
                  refine ⟨u, ?_, this⟩
                  simp [execOp, ho, Instr.field, run_underlying hF, h1, part, h2, h3, hag, ha', ecs, asAgg, hget]
end Go.E2
namespace Go.E2
open Go.RowKit
set_option linter.unusedVariables false
set_option linter.unusedSimpArgs false
variable {ob : Obs} {c c' : Con} {w w' w0 : World} {S0 : Own} {G0 G : Gh} {σ σ' σ1 : St} {a a' : Act} {P : Program}
inductive Tag where
  | b
  | i
  | s
  deriving DecidableEq
def tagsF (P : Program) (g : TypeId → Option (List Tag)) : List Field → Nat → Option (List Tag)
  | [], _ => some []
  | f :: fs, off => if f.offset = off ∧ f.name ≠ "_" then match g f.type with
      | some l => if (P.info? f.type).map (·.size) = some l.length then match tagsF P g fs (off + l.length) with
          | some m => some (l ++ m)
          | none => none
        else none
      | none => none
    else none
def tagsD (P : Program) : Nat → TypeId → Option (List Tag)
  | 0, _ => none
  | d + 1, t => match P.underlying t with
    | some .bool => some [.b]
    | some (.int _) => some [.i]
    | some .string => some [.s]
    | some (.struct F) => if P.stoodInHeld t = false then tagsF P (tagsD P d) F.toList 0 else none
    | _ => none
structure TagsOk (P : Program) (t : TypeId) (l : List Tag) : Prop where
  guard : P.eqGuardType P.depth t = false
  isRow : ∃ F, P.underlying t = some (.struct F)
  tags : tagsD P 60 t = some l
def eqTags : List Tag → List PV → List PV → Option Bool
  | [], [], [] => some true
  | .b :: l, .bool x :: xs, .bool y :: ys => (eqTags l xs ys).map ((x == y) && ·)
  | .i :: l, .int k x :: xs, .int k' y :: ys => if k = k' then (eqTags l xs ys).map ((x == y) && ·) else none
  | .s :: l, .str x :: xs, .str y :: ys => (eqTags l xs ys).map ((x.toList == y.toList) && ·)
  | _, _, _ => none
theorem eqTags_cons {t : Tag} {l : List Tag} {xs ys : List PV} {r : Bool} (h : eqTags (t :: l) xs ys = some r) : ∃ x xs' y ys' b1 b2, xs = x :: xs' ∧ ys = y :: ys' ∧ eqTags [t] [x] [y] = some b1 ∧ eqTags l xs' ys' = some b2 ∧ r = (b1 && b2) := by
  cases t <;> cases xs with
  | nil => simp [eqTags] at h
  | cons x xs =>
    cases ys with
    | nil => cases x <;> simp [eqTags] at h
    | cons y ys =>
      cases x <;> cases y <;> first
        | (simp [eqTags] at h; done)
        | (simp only [eqTags] at h
           try (split at h)
           all_goals first
             | (cases h; done)
             | (obtain ⟨b2, h1, h2⟩ := Option.map_eq_some_iff.1 h
                exact ⟨_, _, _, _, _, b2, rfl, rfl, by simp [eqTags, *], h1, h2.symm⟩))
theorem eqTags_app : ∀ {l m : List Tag} {xs ys : List PV} {r : Bool}, eqTags (l ++ m) xs ys = some r → ∃ b1 b2, eqTags l (xs.take l.length) (ys.take l.length) = some b1 ∧ eqTags m (xs.drop l.length) (ys.drop l.length) = some b2 ∧ r = (b1 && b2)
  | [], m, xs, ys, r, h => ⟨true, r, rfl, h, rfl⟩
  | t :: l, m, xs, ys, r, h => by
    obtain ⟨x, xs', y, ys', b1, b2, rfl, rfl, h1, h2, rfl⟩ := eqTags_cons h
    obtain ⟨b3, b4, h3, h4, rfl⟩ := eqTags_app h2
    refine ⟨b1 && b3, b4, ?_, by simpa using h4, by rw [Bool.and_assoc]⟩
    simp only [List.length_cons, List.take_succ_cons]
    cases t <;> cases x <;> first
      | (simp [eqTags] at h1; done)
      | (cases y <;> first
          | (simp [eqTags] at h1; done)
          | (simp only [eqTags] at h1 ⊢
             try (split at h1)
             all_goals first
               | (cases h1; done)
               | (simp at h1; subst h1; simp [*])))
theorem eqTags_len : ∀ {l : List Tag} {xs ys : List PV} {r : Bool}, eqTags l xs ys = some r → xs.length = l.length ∧ ys.length = l.length
  | [], [], [], _, _ => ⟨rfl, rfl⟩
  | [], [], _ :: _, _, h => by simp [eqTags] at h
  | [], _ :: _, ys, _, h => by cases ys <;> simp [eqTags] at h
  | t :: l, xs, ys, r, h => by
    obtain ⟨x, xs', y, ys', b1, b2, rfl, rfl, h1, h2, rfl⟩ := eqTags_cons h
    obtain ⟨h3, h4⟩ := eqTags_len h2
    exact ⟨by simp [h3], by simp [h4]⟩
theorem eq_one {t : Tag} {x y : PV} {u v : Value} {r : Bool} (h : eqTags [t] [x] [y] = some r) (hx : Rep G x u) (hy : Rep G y v) : (t = .b ∧ ∃ a b, u = .bool a ∧ v = .bool b ∧ r = (a == b)) ∨ (t = .i ∧ ∃ k a b, u = .int k a ∧ v = .int k b ∧ r = (a == b)) ∨ (t = .s ∧ ∃ a b, u = .string a ∧ v = .string b ∧ r = (a.toList == b.toList)) := by
  cases t <;> cases x <;> first
    | (simp [eqTags] at h; done)
    | (cases y <;> first
        | (simp [eqTags] at h; done)
        | (simp only [eqTags] at h
           try (split at h)
           all_goals first
             | (cases h; done)
             | (cases hx; cases hy
                simp only [eqTags, Option.map_some, Bool.and_true, Option.some.injEq] at h
                subst h
                try subst_vars
                first
                  | exact .inl ⟨rfl, _, _, rfl, rfl, rfl⟩
                  | exact .inr (.inl ⟨rfl, _, _, _, rfl, rfl, rfl⟩)
                  | exact .inr (.inr ⟨rfl, _, _, rfl, rfl, rfl⟩))))
def CellsRep (G : Gh) (xs : List PV) (cs : Array Value) (off : Nat) : Prop := ∀ (i : Nat) (x : PV), xs[i]? = some x → ∃ v, cs[off + i]? = some v ∧ Rep G x v
theorem CellsRep.take {G : Gh} {xs : List PV} {cs : Array Value} {off n : Nat} (h : CellsRep G xs cs off) : CellsRep G (xs.take n) cs off := fun i x hx => by
  rw [List.getElem?_take] at hx
  split at hx
  · exact h i x hx
  · cases hx
theorem CellsRep.drop {G : Gh} {xs : List PV} {cs : Array Value} {off n : Nat} (h : CellsRep G xs cs off) : CellsRep G (xs.drop n) cs (off + n) := fun i x hx => by
  rw [List.getElem?_drop] at hx
  rw [Nat.add_assoc]
  exact h _ x hx
theorem run_part_agg {cs : Array Value} {off n : Nat} {t : TypeId} {d : TypeDesc} (hu : P.underlying t = some d) (hs : (P.info? t).map (·.size) = some n) : (part t cs off).run P w = (if d.isRow = true then .ok (.agg (cs.extract off (off + n))) w else match cs[off]? with
    | some v => .ok v w
    | none => (stuck "part: no such cell" : Sem Value).run P w) := by
  obtain ⟨i, hi, hn⟩ := Option.map_eq_some_iff.1 hs
  have hag : (isAgg t).run P w = .ok d.isRow w := by
    unfold isAgg
    rw [Sem.run_bind, run_underlying hu w]
    cases d <;> rfl
  unfold part
  rw [Sem.run_bind, hag]
  simp only [Result.andThen_ok]
  by_cases hr : d.isRow = true
  · rw [if_pos hr, if_pos hr]
    simp [sizeOf, typeInfo, hi, hn]
  · rw [if_neg hr, if_neg hr]
    cases cs[off]? <;> rfl
def StD (P : Program) (G : Gh) (w : World) (d : Nat) : Prop := ∀ (D : Nat) (t : TypeId) (l : List Tag) (px py : List PV) (r : Bool) (cx cy : Array Value) (ox oy : Nat), d ≤ D → tagsD P d t = some l → eqTags l px py = some r → CellsRep G px cx ox → CellsRep G py cy oy → (P.info? t).map (·.size) = some l.length →
    ∃ u v, (part t cx ox).run P w = .ok u w ∧ (part t cy oy).run P w = .ok v w ∧ (Op.equalIn D t u v).run P w = .ok r w
theorem run_tagsF {d : Nat} (hd : StD P G w d) : ∀ (D : Nat) (fs : List Field) (off : Nat) (l : List Tag) (px py : List PV) (r : Bool) (cx cy : Array Value), d ≤ D → tagsF P (tagsD P d) fs off = some l → eqTags l px py = some r → CellsRep G px cx off → CellsRep G py cy off →
    (Op.eqFields D cx cy fs).run P w = .ok r w
  | D, [], off, l, px, py, r, cx, cy, hD, ht, he, hx, hy => by
    rw [tagsF] at ht
    cases ht
    cases px <;> cases py <;> simp [eqTags] at he
    subst he
    rfl
  | D, f :: fs, off, l, px, py, r, cx, cy, hD, ht, he, hx, hy => by
    rw [tagsF] at ht
    split at ht
    case isFalse => cases ht
    case isTrue hf =>
      split at ht
      case h_2 => cases ht
      case h_1 l1 h1 =>
        split at ht
        case isFalse => cases ht
        case isTrue hs =>
          split at ht
          case h_2 => cases ht
          case h_1 m hm =>
            cases ht
            obtain ⟨b1, b2, e1, e2, rfl⟩ := eqTags_app he
            obtain ⟨u, v, p1, p2, p3⟩ := hd D f.type l1 _ _ b1 cx cy off off hD h1 e1 hx.take hy.take hs
            have ih := run_tagsF hd D fs (off + l1.length) m _ _ b2 cx cy hD hm e2 hx.drop hy.drop
            simp only [Op.eqFields]
            rw [if_pos hf.2, hf.1]
            simp only [Sem.run_bind, p1, p2, p3, Result.andThen_ok]
            cases b1
            · simp
            · simp [ih]
theorem run_tagsD : ∀ d, StD P G w d := by
  intro d
  induction d with
  | zero => intro D t l px py r cx cy ox oy hD ht; simp [tagsD] at ht
  | succ d ih =>
    intro D t l px py r cx cy ox oy hD ht he hx hy hs
    obtain ⟨D, rfl⟩ : ∃ D', D = D' + 1 := ⟨D - 1, by omega⟩
    rw [tagsD] at ht
    have scal : ∀ (tg : Tag) (dd : TypeDesc), P.underlying t = some dd → dd.isRow = false → l = [tg] → ∃ x y u v, px = [x] ∧ py = [y] ∧ (part t cx ox).run P w = .ok u w ∧ (part t cy oy).run P w = .ok v w ∧ Rep G x u ∧ Rep G y v := fun tg dd hu hr hl => by
      subst hl
      obtain ⟨h1, h2⟩ := eqTags_len he
      match px, h1, py, h2 with
      | [x], _, [y], _ =>
        obtain ⟨u, hu1, hu2⟩ := hx 0 x rfl
        obtain ⟨v, hv1, hv2⟩ := hy 0 y rfl
        rw [Nat.add_zero] at hu1 hv1
        refine ⟨x, y, u, v, rfl, rfl, ?_, ?_, hu2, hv2⟩
        · rw [run_part_agg hu hs, if_neg (by rw [hr]; simp), hu1]
        · rw [run_part_agg hu hs, if_neg (by rw [hr]; simp), hv1]
    split at ht
    · rename_i hu
      cases ht
      obtain ⟨x, y, u, v, rfl, rfl, h1, h2, h3, h4⟩ := scal .b .bool hu rfl rfl
      refine ⟨u, v, h1, h2, ?_⟩
      rcases eq_one he h3 h4 with ⟨_, a, b, rfl, rfl, rfl⟩ | ⟨h, _⟩ | ⟨h, _⟩
      · exact run_equalIn_bool' w D t a b hu
      · cases h
      · cases h
    · rename_i k0 hu
      cases ht
      obtain ⟨x, y, u, v, rfl, rfl, h1, h2, h3, h4⟩ := scal .i (.int k0) hu rfl rfl
      refine ⟨u, v, h1, h2, ?_⟩
      rcases eq_one he h3 h4 with ⟨h, _⟩ | ⟨_, k, a, b, rfl, rfl, rfl⟩ | ⟨h, _⟩
      · cases h
      · exact run_equalIn_int w D t k k0 a b hu
      · cases h
    · rename_i hu
      cases ht
      obtain ⟨x, y, u, v, rfl, rfl, h1, h2, h3, h4⟩ := scal .s .string hu rfl rfl
      refine ⟨u, v, h1, h2, ?_⟩
      rcases eq_one he h3 h4 with ⟨h, _⟩ | ⟨h, _⟩ | ⟨_, a, b, rfl, rfl, rfl⟩
      · cases h
      · cases h
      · exact run_equalIn_string w D t a b hu
    · rename_i F hu
      split at ht
      case isFalse => cases ht
      case isTrue hp =>
        have hF : P.fieldsOf t = F := by unfold Program.fieldsOf; rw [hu]
        obtain ⟨h1, h2⟩ := eqTags_len he
        refine ⟨_, _, (by rw [run_part_agg hu hs, if_pos rfl]), (by rw [run_part_agg hu hs, if_pos rfl]), ?_⟩
        rw [run_equalIn_agg w D t _ _ (by rw [hF]; exact hu) hp, hF]
        have ext : ∀ {pz : List PV} {cz : Array Value} {oz : Nat}, pz.length = l.length → CellsRep G pz cz oz → CellsRep G pz (cz.extract oz (oz + l.length)) 0 := fun {pz cz oz} hl hz i x hx => by
          obtain ⟨v, hv1, hv2⟩ := hz i x hx
          have hi := (List.getElem?_eq_some_iff.1 hx).1
          refine ⟨v, ?_, hv2⟩
          have hsz := (Array.getElem?_eq_some_iff.1 hv1).1
          rw [Nat.zero_add, Array.getElem?_extract, if_pos (by omega)]
          exact hv1
        exact run_tagsF ih D F.toList 0 l px py r _ _ (by omega) ht he (ext h1 hx) (ext h2 hy)
    · cases ht
def pvsOf : List At → Option (List PV)
  | [] => some []
  | .pv p :: l => (pvsOf l).map (p :: ·)
  | _ :: _ => none
theorem pvsOf_map : ∀ {l : List At} {ps : List PV}, pvsOf l = some ps → l = ps.map .pv
  | [], ps, h => by cases h; rfl
  | .pv p :: l, ps, h => by
    obtain ⟨qs, h1, rfl⟩ := Option.map_eq_some_iff.1 h
    rw [pvsOf_map h1]
    rfl
  | .row _ _ :: l, ps, h => by simp [pvsOf] at h
  | .ptr _ _ _ :: l, ps, h => by simp [pvsOf] at h
  | .eptr _ _ _ _ :: l, ps, h => by simp [pvsOf] at h
  | .nil :: l, ps, h => by simp [pvsOf] at h
  | .any :: l, ps, h => by simp [pvsOf] at h
def eqS2 (neg : Bool) : Option Bool → RM Eff
  | some b => .ret ⟨.one (.at (.pv (.bool (if neg = true then !b else b)))), []⟩
  | none => .fail
def eqS1 (neg : Bool) (l : List Tag) : Option (List PV) → Option (List PV) → RM Eff
  | some xs, some ys => eqS2 neg (eqTags l xs ys)
  | _, _ => .fail
def absEqS (tags : Nat → Option (List Tag)) (neg : Bool) (t : Nat) (x y : Operand) : RM Eff := opnd x fun u => opnd y fun v => match tags t, u, v with
  | some l, .one (.agg xs), .one (.agg ys) => eqS1 neg l (pvsOf xs) (pvsOf ys)
  | _, _, _ => .fail
theorem done_eqS {o : Oper} {op : BinOp} {tags : Nat → Option (List Tag)} {t ty : TypeId} {x y : Operand} {e : Eff} (htags : ∀ t l, tags t = some l → TagsOk P t l) (hop : op = .eql ∨ op = .neq) (ho : o.op = .binOp op t x y ty)
    (h : (absEqS tags (match op with | .neq => true | _ => false) t x y).val σ = some e) : Done P w0 S0 G0 σ o e := by
  replace h := val_opnd h
  replace h := val_opnd h
  generalize hu : absO σ x = u at h
  generalize hv : absO σ y = v at h
  split at h
  case h_2 => simp [RM.val] at h
  case h_1 l xs ys htg =>
    have hT := htags t l htg
    cases hpx : pvsOf xs with
    | none => rw [hpx] at h; simp [eqS1, RM.val] at h
    | some px =>
      cases hpy : pvsOf ys with
      | none => rw [hpx, hpy] at h; simp [eqS1, RM.val] at h
      | some py =>
        rw [hpx, hpy, eqS1] at h
        cases hr : eqTags l px py with
        | none => rw [hr] at h; simp [eqS2, RM.val] at h
        | some r =>
          rw [hr] at h
          simp only [eqS2, RM.val, Option.some.injEq] at h
          subst h
          refine Done.pure fun c a w hR => ?_
          have hx := hR.opnd x
          have hy := hR.opnd y
          rw [hu] at hx
          rw [hv] at hy
          obtain ⟨cx, ecx, hcx, hrx⟩ := hx
          obtain ⟨cy, ecy, hcy, hry⟩ := hy
          rw [pvsOf_map hpx] at hcx hrx
          rw [pvsOf_map hpy] at hcy hry
          have rep : ∀ {pz : List PV} {cz : Array Value}, cz.size = (pz.map At.pv).length → (∀ i x, (pz.map At.pv)[i]? = some x → RepAt σ.ob c x (cz.getD i undef)) → CellsRep c.G pz cz 0 := fun {pz cz} hl hz i p hp => by
            have hi := (List.getElem?_eq_some_iff.1 hp).1
            have := hz i (.pv p) (by rw [List.getElem?_map, hp]; rfl)
            refine ⟨_, ?_, this⟩
            rw [Nat.zero_add]
            exact get_of_getD (by rw [hl, List.length_map]; exact hi)
          have rx := rep hcx hrx
          have ry := rep hcy hry
          obtain ⟨F, hF⟩ := hT.isRow
          have htd := hT.tags
          have hFo : P.fieldsOf t = F := by unfold Program.fieldsOf; rw [hF]
          have htF : ∃ hp : P.stoodInHeld t = false, tagsF P (tagsD P 59) F.toList 0 = some l := by
            rw [tagsD, hF] at htd
            dsimp only at htd
            split at htd
            · rename_i hp; exact ⟨hp, htd⟩
            · cases htd
          obtain ⟨hp, htF⟩ := htF
          have hrun : (Op.equalIn 10000 t (.agg cx) (.agg cy)).run P w = .ok r w := by
            rw [run_equalIn_agg w 9999 t _ _ (by rw [hFo]; exact hF) hp, hFo]
            exact run_tagsF (run_tagsD 59) 9999 F.toList 0 l px py r cx cy (by omega) htF hr rx ry
          refine ⟨.bool (if (match op with | .neq => true | _ => false) = true then !r else r), ?_, Rep.bool _⟩
          rcases hop with rfl | rfl
          · simp [execOp, ho, ecx, ecy, run_eqGuard_agg w .eql t x y cx cy hT.guard, run_eql_struct, hrun]
          · simp [execOp, ho, ecx, ecy, run_eqGuard_agg w .neq t x y cx cy hT.guard, run_neq_struct, hrun]
end Go.E2
