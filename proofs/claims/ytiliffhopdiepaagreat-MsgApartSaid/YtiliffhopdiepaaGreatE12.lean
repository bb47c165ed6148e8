/- The engine, part 12: VClone. -/
import Derived.Lib.SliceRun
import Derived.Test.YtiliffhopdiepaaGreatE11
namespace Go.E2
open Go.RowKit
set_option linter.unusedVariables false
set_option linter.unusedSimpArgs false
variable {P : Program}
def noOra : Ora := ⟨fun _ _ _ => none, fun _ _ _ => none⟩
theorem noOra_ok : OraOk P noOra := ⟨fun f args ins res fin h => (by cases h), fun f id s e s' h => (by cases h)⟩
structure OpIs (o : Oper) (op : Op) (d : Option Nat) : Prop where
  op : o.op = op
  dst : o.dst = d
  guard : o.guard = none
theorem exec_sndR {E : Env} (hE : EnvOk P E) {A : Ora} (hA : OraOk P A) {f : FuncId} {x : Code} {cur : Nat} {s s' : St} {e : Exit} (hl : loops cur x = []) (hr : regs x = []) (h : exec E A f cur x s = some (e, s')) : ∀ w0 S0 G0, Snd P w0 S0 G0 x s e s' := by
  have key : ∀ (x : Code) (cur : Nat) (s : St) (e : Exit) (s' : St), loops cur x = [] → regs x = [] → exec E A f cur x s = some (e, s') → ∀ w0 S0 G0, Snd P w0 S0 G0 x s e s' := by
    intro x
    induction x with
    | skip => intro cur s e s' hc hi h w0 S0 G0; cases h; exact fun c a w hR => wp_skip ⟨rfl, c, hR⟩
    | region id ops draw =>
      intro cur s e s' hc hi h w0 S0 G0
      cases draw with
      | true => simp [regs] at hi
      | false =>
        obtain ⟨s1, h1, h2⟩ := Option.bind_eq_some_iff.1 h
        cases h2
        exact fun c a w hR => wp_region_list (runOps_wp hE hA.fn h1 hR rfl fun c' a' w' hR' _ => ⟨rfl, c', hR'⟩)
    | seq x y ihx ihy =>
      intro cur s e s' hc hi h w0 S0 G0
      simp only [loops, regs, List.append_eq_nil_iff] at hc hi
      obtain ⟨⟨e1, s1⟩, h1, h2⟩ := Option.bind_eq_some_iff.1 h
      have hx := ihx cur s e1 s1 hc.1 hi.1 h1 w0 S0 G0
      dsimp only at h2
      split at h2
      · intro c a w hR
        refine wp_seq (Code.wp_mono ?_ (hx c a w hR))
        rintro e' a' w' ⟨rfl, c', hR'⟩
        exact ihy cur s1 e s' hc.2 hi.2 h2 w0 S0 G0 c' a' w' hR'
      · rename_i hne
        cases h2
        intro c a w hR
        refine wp_seq (Code.wp_mono ?_ (hx c a w hR))
        rintro e' a' w' ⟨rfl, hR'⟩
        cases e' <;> first | exact absurd rfl hne | exact ⟨rfl, hR'⟩
    | cond q x y ihx ihy =>
      intro cur s e s' hc hi h w0 S0 G0
      simp only [loops, regs, List.append_eq_nil_iff] at hc hi
      simp only [exec] at h
      split at h
      case h_2 => cases h
      case h_1 b hb =>
        intro c a w hR
        have hx := hR.opnd q
        rw [hb] at hx
        refine wp_cond (rep_bool hx) ?_
        cases b with
        | true => exact ihx cur s e s' hc.1 hi.1 (by simpa using h) w0 S0 G0 c a w hR
        | false => exact ihy cur s e s' hc.2 hi.2 (by simpa using h) w0 S0 G0 c a w hR
    | block id x ih =>
      intro cur s e s' hc hi h w0 S0 G0
      obtain ⟨⟨e1, s1⟩, h1, h2⟩ := Option.bind_eq_some_iff.1 h
      cases h2
      intro c a w hR
      refine wp_block (Code.wp_mono ?_ (ih id s e1 s1 hc hi h1 w0 S0 G0 c a w hR))
      rintro e' a' w' ⟨rfl, hR'⟩
      cases e' <;> first | exact ⟨rfl, hR'⟩ | skip
      rename_i id'
      show if id' = _ then _ else _
      split
      · rename_i q; subst q; exact ⟨by simp [outOf], hR'⟩
      · rename_i q; exact ⟨by simp [outOf, q], hR'⟩
    | loop x ih => intro cur s e s' hc; simp [loops] at hc
    | exit id => intro cur s e s' hc hi h w0 S0 G0; cases h; exact fun c a w hR => wp_exit ⟨rfl, c, hR⟩
    | ret => intro cur s e s' hc hi h w0 S0 G0; cases h; exact fun c a w hR => wp_ret ⟨rfl, c, hR⟩
    | rangeFunc q ps x y _ _ => intro cur s e s' hc hi h; cases h
    | scope x _ => intro cur s e s' hc hi h; cases h
    | label l => intro cur s e s' hc hi h; cases h
    | goto l => intro cur s e s' hc hi h; cases h
    | refuse y => intro cur s e s' hc hi h; cases h
  exact key x cur s e s' hl hr h
set_option maxHeartbeats 1000000 in
theorem clone_spec {E : Env} (hE : EnvOk P E) (hP : PlainOk P E) {f : FuncId} {fn : Func} {t : TypeId} {ty ety : Ty} {o0 o1 o2 o3 o4 o5 o6 o7 : Oper} {i0 i1 i2 i3 : Nat}
    (hf : P.funcs[f]? = some fn) (hb : fn.body = some ((Code.region i0 #[o0] false).seq (((Code.region i1 #[o1, o2] false).seq (.cond (.tmp 4) ((Code.region i2 #[o3] false).seq .ret) .skip)).seq ((Code.region i3 #[o4, o5, o6, o7] false).seq .ret))))
    (hn : fn.ntmps = 8) (hr : fn.results = #[.tmp 2]) (hR : E.R f = [[.own ety.size]]) (ht : E.tab t = some ty) (hel : ¬ ty.elem = 0) (hety : E.tab ty.elem = some ety)
    (h0 : OpIs o0 (.assign (.const (.slice none 0 0))) (some 2)) (h1 : OpIs o1 (.move (.tmp 0)) (some 3)) (h2 : OpIs o2 (.binOp .eql t (.tmp 3) (.const (.slice none 0 0)) t) (some 4)) (h3 : OpIs o3 (.assign (.const (.slice none 0 0))) (some 2))
    (h4 : OpIs o4 (.buildSlice t 0 #[]) (some 5)) (h5 : OpIs o5 (.move (.tmp 0)) (some 6)) (h6 : OpIs o6 (.call ⟨.builtin .append, #[.tmp 5, .tmp 6], #[t, t]⟩) (some 7)) (h7 : OpIs o7 (.assign (.tmp 7)) (some 2))
    {xs : List (List PV)} (hlim : xs.length * (ety.bytes + 1) ≤ appLim) :
    Spec P f [.at (.pv (.list ety.size xs))] [] (.one (.at (.row pinN 0))) [some (.row true ety.size xs)] := by
  have hT := hE.tab t ty ht
  have hlim' : xs.length * (ety.bytes + 1) ≤ 70368744177664 := hlim
  let v0 : V1 := .at (.pv (.list ety.size xs))
  let sA (b : AV) (r : AV) : St := ⟨[.one v0, .any, r, .one v0, b, .any, .any, .any], []⟩
  let σF : St := ⟨[.any, .any, .one (.at (.row 2000 0)), .any, .any, .any, .any, .any], [(2000, 0, some (.row true ety.size xs))]⟩
  have g0 : runOps E noOra.fn #[o0] [o0] (entryN [v0] [] 8) = some ⟨[.one v0, .any, .one (.at .nil), .any, .any, .any, .any, .any], []⟩ := by
    simp [h0.op, h0.dst, h0.guard]
  have g1 : (absG E noOra.fn #[o1, o2] o1).val ⟨[.one v0, .any, .one (.at .nil), .any, .any, .any, .any, .any], []⟩ = some ⟨.one v0, []⟩ := by
    simp [h1.op, h1.dst, h1.guard]
  have gT : xs = [] → exec E noOra f 0 (.cond (.tmp 4) ((Code.region i2 #[o3] false).seq .ret) .skip) (sA (.one (.at (.pv (.bool true)))) (.one (.at .nil))) = some (.ret, sA (.one (.at (.pv (.bool true)))) (.one (.at .nil))) := fun _ => by
    simp [h3.op, h3.dst, h3.guard, sA]
  have gF : exec E noOra f 0 (.cond (.tmp 4) ((Code.region i2 #[o3] false).seq .ret) .skip) (sA (.one (.at (.pv (.bool false)))) (.one (.at .nil))) = some (.normal, sA (.one (.at (.pv (.bool false)))) (.one (.at .nil))) := by
    simp [sA]
  have nT : xs = [] → normSt [(2, [.own ety.size])] (sA (.one (.at (.pv (.bool true)))) (.one (.at .nil))) = some σF := fun hx => by
    subst hx
    rw [norm_eq]
    simp [sA, σF]
  let sB : St := ⟨[.one v0, .any, .one (.at (.row 7 1)), .one v0, .one (.at (.pv (.bool false))), .one (.at (.row 5 1)), .one v0, .one (.at (.row 7 1))], [(5, 1, none), (7, 1, some (.row true ety.size xs))]⟩
  have gB : exec E noOra f 0 ((Code.region i3 #[o4, o5, o6, o7] false).seq .ret) (sA (.one (.at (.pv (.bool false)))) (.one (.at .nil))) = some (.ret, sB) := by
    simp [h4.op, h4.dst, h4.guard, h5.op, h5.dst, h5.guard, h6.op, h6.dst, h6.guard, h7.op, h7.dst, h7.guard, sA, sB, v0, ht, hel, hety, hlim']
  have nB : normSt [(2, [.own ety.size])] sB = some σF := by
    rw [norm_eq]
    simp [sB, σF, v0]
  have hfin : (finRM E f 0 [.tmp 2] fn.resultTypes.toList).val σF = some (.one (.at (.row pinN 0)), [some (.row true ety.size xs)]) := by
    rw [finD_eq, finD]
    simp [σF, hR]
  have hA := noOra_ok (P := P)
  have hsnd : ∀ w0 S0 G0, Snd P w0 S0 G0 ((Code.region i0 #[o0] false).seq (((Code.region i1 #[o1, o2] false).seq (.cond (.tmp 4) ((Code.region i2 #[o3] false).seq .ret) .skip)).seq ((Code.region i3 #[o4, o5, o6, o7] false).seq .ret))) (entryN [v0] [] fn.ntmps) .ret σF := by
    intro w0 S0 G0 c a w hRel
    rw [hn] at hRel
    refine wp_seq (wp_region_list (runOps_wp hE hA.fn g0 hRel rfl fun c1 a1 w1 hR1 _ => ?_))
    have rest : ∀ (b : Bool) (a' : Act) (w' : World) (c' : Con), (b = true → xs = []) → Rel w0 S0 G0 (sA (.one (.at (.pv (.bool b)))) (.one (.at .nil))) c' a' w' →
        (Code.cond (.tmp 4) ((Code.region i2 #[o3] false).seq .ret) .skip).wp P (Exit.then (((Code.region i3 #[o4, o5, o6, o7] false).seq .ret).wp P fun e' a' w' => e' = .ret ∧ ∃ c', Rel w0 S0 G0 σF c' a' w') fun e' a' w' => e' = .ret ∧ ∃ c', Rel w0 S0 G0 σF c' a' w') a' w' := by
      intro b a' w' c' hb' hR'
      cases b with
      | true =>
        have hx := hb' rfl
        refine Code.wp_mono ?_ (exec_sndR hE hA (by simp [loops]) (by simp [regs]) (gT hx) w0 S0 G0 c' a' w' hR')
        rintro e' a2 w2 ⟨rfl, c2, hR2⟩
        exact ⟨rfl, weak_norm (nT hx) _ _ _ _ _ _ hR2⟩
      | false =>
        refine Code.wp_mono ?_ (exec_sndR hE hA (by simp [loops]) (by simp [regs]) gF w0 S0 G0 c' a' w' hR')
        rintro e' a2 w2 ⟨rfl, c2, hR2⟩
        refine Code.wp_mono ?_ (exec_sndR hE hA (by simp [loops]) (by simp [regs]) gB w0 S0 G0 c2 a2 w2 hR2)
        rintro e' a3 w3 ⟨rfl, c3, hR3⟩
        exact ⟨rfl, weak_norm nB _ _ _ _ _ _ hR3⟩
    refine wp_seq (wp_seq (wp_region_list (wpList_step fun K hK => done_g hE hA.fn g1 hR1 fun c2 a2 w2 hR2 hn2 => hK _ _ (wpList_step fun K hK => ?_))))
    have e2 : (St.app ⟨[.one v0, .any, .one (.at .nil), .any, .any, .any, .any, .any], []⟩ o1.dst ⟨.one v0, []⟩) = sA .any (.one (.at .nil)) := by rw [h1.dst]; rfl
    rw [e2] at hR2
    have hx : Rep c2.G (.list ety.size xs) (a2.tmps.getD 3 undef) := hR2.slots 3
    obtain ⟨A, cap, hv⟩ := rep_list_val hx
    have hnil : A.isNone = true → xs = [] := fun h => by
      cases A with
      | some A => cases h
      | none =>
        rw [hv] at hx
        generalize hq : Value.slice none xs.length cap = q at hx
        cases hx with
        | nil => rfl
        | list _ _ g o cap' f' => cases hq
    have hrun : (execOp a2.eval o2).run P w2 = .ok (.value (.bool A.isNone)) w2 := by
      have hg : (eqGuard .eql t (.tmp 3) (.const (.slice none 0 0)) (.slice A xs.length cap) (.slice none 0 0)).run P w2 = .ok () w2 := by
        simp [eqGuard]
      have := Lib.run_eql_slice_nil w2 t ty.elem A xs.length cap 0 0 (hT.slice hel)
      simp [execOp, h2.op, Act.eval, hv, hg, this]
    rw [if_pos (by simp [Region.wanted, h2.guard])]
    unfold Oper.wp
    rw [hrun]
    refine hK _ _ ?_
    have hR3 := hR2.setSlot (some 4) (.one (.at (.pv (.bool A.isNone)))) (.bool A.isNone) (Rep.bool _)
    rw [h2.dst]
    exact rest A.isNone _ _ c2 hnil hR3
  have := spec_of hE (args := [v0]) (ins := []) hf hb (by rw [hr]; decide) hsnd (.inr rfl) (ts := fn.resultTypes.toList) (by rw [hr]; exact hfin)
  exact this
end Go.E2
