/- The engine, part 5: VExec. -/
import Derived.Test.YtiliffhopdiepaaGreatE4
namespace Go.E2
open Go.RowKit
set_option linter.unusedVariables false
set_option linter.unusedSimpArgs false
variable {ob : Obs} {c c' : Con} {w w' w0 : World} {S0 : Own} {G0 G : Gh} {σ σ' σ1 : St} {a a' : Act} {P : Program}
def RM.bind {α β : Type} : RM α → (α → RM β) → RM β
  | .ret a, f => f a
  | .fail, _ => .fail
  | .slot t k, f => .slot t fun v => (k v).bind f
  | .obj q k, f => .obj q fun v => (k v).bind f
theorem RM.val_bind {α β : Type} (f : α → RM β) : ∀ m : RM α, (m.bind f).val σ = (m.val σ).bind fun x => (f x).val σ
  | .ret a => rfl
  | .fail => rfl
  | .slot t k => RM.val_bind f (k (σ.slot t))
  | .obj q k => RM.val_bind f (k (σ.ob q))
def one1 (v : AV) : RM V1 := match v with
  | .one y => .ret y
  | .tup _ => .fail
def resVal (E : Env) : ResultVar → RM V1
  | .tmp t => .slot t one1
  | .cell q t => (absLoad E.tab t (.tmp q)).bind fun e => one1 e.val
def readRes (tmps : Array Value) : ResultVar → Sem Value
  | .tmp t => pure (tmps.getD t undef)
  | .cell q t => do loadVar t (← asAddr (tmps.getD q undef))
theorem res_val {E : Env} (hE : EnvOk P E) {r : ResultVar} {y : V1} (h : (resVal E r).val σ = some y) (hR : Rel w0 S0 G0 σ c a w) : ∃ v, (readRes a.tmps r).run P w = .ok v w ∧ RepV1 σ.ob c y v := by
  cases r with
  | tmp t =>
    simp only [resVal, RM.val, one1] at h
    split at h
    case h_2 => simp [RM.val] at h
    case h_1 z hz =>
      simp only [RM.val, Option.some.injEq] at h
      subst h
      have := hR.slots t
      rw [hz] at this
      exact ⟨_, rfl, this⟩
  | cell q t =>
    simp only [resVal] at h
    rw [RM.val_bind] at h
    obtain ⟨e, h1, h2⟩ := Option.bind_eq_some_iff.1 h
    unfold one1 at h2
    split at h2
    case h_2 => simp [RM.val] at h2
    case h_1 z hz =>
      simp only [RM.val, Option.some.injEq] at h2
      subst h2
      obtain ⟨_, v, h3, h4⟩ := load_run (P := P) hE.tab h1 hR
      rw [hz] at h4
      refine ⟨v, ?_, h4⟩
      simp only [readRes, Act.eval, Instr.loadAt, Instr.sureAddr] at h3 ⊢
      cases hv : a.tmps.getD q undef <;> rw [hv] at h3 <;> first | (simp [stuck] at h3; done) | skip
      rename_i x
      cases x with
      | none => simp [stuck] at h3
      | some x => simpa [asAddr] using h3
def resVals {α : Type} (E : Env) : List ResultVar → (List V1 → RM α) → RM α
  | [], k => k []
  | r :: l, k => (resVal E r).bind fun y => resVals E l fun ys => k (y :: ys)
theorem val_resVals {α : Type} {E : Env} {r : α} : ∀ {l : List ResultVar} {k : List V1 → RM α}, (resVals E l k).val σ = some r → ∃ ys, (k ys).val σ = some r ∧ ys.length = l.length ∧ ∀ (i : Nat) (x : ResultVar), l[i]? = some x → ∃ y, ys[i]? = some y ∧ (resVal E x).val σ = some y
  | [], k, h => ⟨[], h, rfl, fun i x hx => by simp at hx⟩
  | x :: l, k, h => by
    simp only [resVals] at h
    rw [RM.val_bind] at h
    obtain ⟨y, hy, h⟩ := Option.bind_eq_some_iff.1 h
    obtain ⟨ys, h1, h2, h3⟩ := val_resVals h
    refine ⟨_, h1, by simp [h2], fun i z hz => ?_⟩
    cases i with
    | zero => cases hz; exact ⟨y, rfl, hy⟩
    | succ i => exact h3 i z hz
theorem run_results {fn : Func} {rs : List ResultVar} (hrs : fn.results = rs.toArray) (hl : rs.length ≤ 4) (tmps : Array Value) (f : Nat → Value) (h : ∀ i r, rs[i]? = some r → (readRes tmps r).run P w = .ok (f i) w) :
    (results fn tmps).run P w = .ok (if rs.length = 1 then f 0 else .tuple ((List.range rs.length).map f).toArray) w := by
  have e : results fn tmps = (do
      let vs ← fn.results.mapM (readRes tmps)
      pure (if h : vs.size = 1 then vs[0] else .tuple vs)) := by
    unfold results
    congr 1
  rw [e, hrs]
  rcases rs with _ | ⟨r1, _ | ⟨r2, _ | ⟨r3, _ | ⟨r4, _ | ⟨r5, rs⟩⟩⟩⟩⟩
  · simp
  · simp [h 0 r1 rfl]
  · simp [h 0 r1 rfl, h 1 r2 rfl, List.range_succ]
  · simp [h 0 r1 rfl, h 1 r2 rfl, h 2 r3 rfl, List.range_succ]
  · simp [h 0 r1 rfl, h 1 r2 rfl, h 2 r3 rfl, h 3 r4 rfl, List.range_succ]
  · simp at hl
def resAV : List V1 → AV
  | [y] => .one y
  | ys => .tup ys
def rmodes (tab : Nat → Option Ty) (R : List (List CM)) (ts : List Nat) : List (List CM) := match R with
  | [] => ts.map fun t => (((tab t).map (·.es)).getD []).map CM.pv
  | R => R
def finRM (E : Env) (f : FuncId) (m : Nat) (rs : List ResultVar) (ts : List Nat) : RM (AV × List (Option AObj)) :=
  resVals E rs fun ys => wholeRM callN m (rmodes E.tab (E.R f) ts) ys fun ys' us L os => .ret (resAV ys', os)
def entryN (args : List V1) (ins : List AObj) (n : Nat) : St := { slots := args.map .one ++ List.replicate (n - args.length) .any, obs := mkObs callN 0 (ins.map some) }
theorem callN_ok2 (L : List Frm) : callN.Ok2 L := ⟨callN_ok L, fun n i hn => by
  have hn : (if pinN ≤ n then some (n - pinN) else none) = some i := hn
  split at hn
  · have hn := Option.some.inj hn
    show pinN + i = n
    omega
  · cases hn⟩
theorem ob_entry (ins : List AObj) (l : List AV) : St.ob ⟨l, mkObs callN 0 (ins.map some)⟩ = obsL ins := by
  have look1 : ∀ (os : List (Option AObj)) (i n : Nat), (pinN + i ≤ n ∧ n < pinN + i + os.length → look (mkObs callN i os) n = (0, (os[n - (pinN + i)]?).join)) ∧ (¬ (pinN + i ≤ n ∧ n < pinN + i + os.length) → look (mkObs callN i os) n = (0, none)) := by
    intro os
    induction os with
    | nil => intro i n; exact ⟨fun h => by simp at h; omega, fun _ => rfl⟩
    | cons o os ih =>
      intro i n
      obtain ⟨r1, r2⟩ := ih (i + 1) n
      simp only [mkObs, look, List.length_cons]
      by_cases e : callN.nm i = n
      · rw [if_pos e]
        have e : pinN + i = n := e
        refine ⟨fun _ => by rw [show n - (pinN + i) = 0 by omega]; rfl, fun h => absurd ⟨by omega, by omega⟩ h⟩
      · rw [if_neg e]
        have e : ¬ pinN + i = n := e
        refine ⟨fun h => ?_, fun h => r2 fun h1 => h ⟨by omega, by omega⟩⟩
        rw [r1 ⟨by omega, by omega⟩, show n - (pinN + i) = n - (pinN + (i + 1)) + 1 by omega, List.getElem?_cons_succ]
  funext n
  show look _ n = _
  obtain ⟨r1, r2⟩ := look1 (ins.map some) 0 n
  rw [Nat.add_zero] at r1 r2
  unfold obsL
  by_cases h : pinN ≤ n ∧ n < pinN + (ins.map some).length
  · rw [r1 h, if_pos h.1, List.getElem?_map]
    cases ins[n - pinN]? <;> rfl
  · rw [r2 h]
    split
    · rename_i h1
      rw [List.getElem?_eq_none (by simp at h; omega)]
    · rfl
theorem entry_rel {w : World} {c0 : Con} {ins : List AObj} {vs : Array Value} {args : List V1} {n : Nat} (hin : InOk w c0 ins) (hsz : vs.size = args.length) (hargs : ∀ i x, args[i]? = some x → RepV1 (obsL ins) c0 x (vs.getD i undef)) :
    Rel w ⟨blks ins c0, obsL ins, c0⟩ c0.G (entryN args ins n) c0 { tmps := vs ++ Array.replicate (n - vs.size) undef, defers := [] } w := by
  have eob : (entryN args ins n).ob = obsL ins := ob_entry ins _
  have at' : ∀ k g o, obsL ins k = (g, some o) → ∃ i, k = pinN + i ∧ ins[i]? = some o := fun k g o h => by
    unfold obsL at h
    simp only [Prod.mk.injEq] at h
    obtain ⟨_, h⟩ := h
    split at h
    · exact ⟨k - pinN, by omega, h⟩
    · cases h
  refine ⟨Gh.le_refl _, hin.imm, by simp [entryN, hsz], fun t => ?_, rfl, fun k g o h => ?_, fun k k' g g' o o' b h1 h2 h3 h4 h5 h6 => ?_, fun k g o b h1 h2 h3 => ?_, Fr.refl _ _, fun b o h => absurd rfl h, fun k hk => ?_⟩
  · rw [eob]
    by_cases ht : t < args.length
    · have h1 : (entryN args ins n).slot t = .one args[t] := by
        unfold entryN St.slot
        rw [List.getD_eq_getElem?_getD, List.getElem?_append_left (by simpa using ht), List.getElem?_map, List.getElem?_eq_getElem ht]
        rfl
      rw [h1]
      have h2 := hargs t _ (List.getElem?_eq_getElem ht)
      have h3 : (vs ++ Array.replicate (n - vs.size) undef).getD t undef = vs.getD t undef := by
        rw [Array.getD_eq_getD_getElem?, Array.getD_eq_getD_getElem?, Array.getElem?_append_left (by omega)]
      show RepV1 _ _ _ ((vs ++ Array.replicate (n - vs.size) undef).getD t undef)
      rw [h3]
      exact h2
    · have h1 : (entryN args ins n).slot t = .any := by
        unfold entryN St.slot
        rw [List.getD_eq_getElem?_getD, List.getElem?_append_right (by simp; omega), List.getElem?_replicate]
        split <;> rfl
      rw [h1]
      trivial
  · rw [eob] at h ⊢
    obtain ⟨i, rfl, hi⟩ := at' k g o h
    exact hin.obs i o hi
  · rw [eob] at h1 h2
    obtain ⟨i, rfl, hi⟩ := at' k g o h1
    obtain ⟨i', rfl, hi'⟩ := at' k' g' o' h2
    rw [hin.sep i i' o o' b hi hi' h3 h4 h5 h6]
  · rw [eob] at h1
    obtain ⟨i, rfl, hi⟩ := at' k g o h1
    exact .inr ⟨i, o, hi, h2, h3⟩
  · rw [eob]
    exact ⟨rfl, Keeps.same rfl rfl rfl⟩
theorem obsC_fin (L : List Frm) : obsC callN L ob = obsF (L.map (Frm.obOf ob)) := by
  funext n
  unfold obsC obsF
  by_cases hn : pinN ≤ n
  · rw [if_pos hn]
    have : callN.inv n = some (n - pinN) := if_pos hn
    rw [this, Option.bind_some, List.getElem?_map]
    cases L[n - pinN]? <;> rfl
  · rw [if_neg hn]
    have : callN.inv n = none := if_neg hn
    rw [this]
    rfl
theorem spec_of {E : Env} (hE : EnvOk P E) {f : FuncId} {fn : Func} {code : Code} (hf : P.funcs[f]? = some fn) (hb : fn.body = some code) (hl : fn.results.size ≤ 4)
    {args : List V1} {ins : List AObj} {e : Exit} (hrun : ∀ w0 S0 G0, Snd P w0 S0 G0 code (entryN args ins fn.ntmps) e σ') (he : e = .normal ∨ e = .ret) {ts : List Nat} {res : AV} {fin : List (Option AObj)}
    (hres : (finRM E f ins.length fn.results.toList ts).val σ' = some (res, fin)) : Spec P f args ins res fin := by
  intro w c0 vs hin hsz hargs
  have hentry := entry_rel (n := fn.ntmps) hin hsz hargs
  refine calls_of_wp hf hb (Code.wp_mono ?_ (hrun _ _ _ _ _ _ hentry))
  rintro e' a' w' ⟨rfl, c1, hR⟩
  obtain ⟨ys, h1, hyl, hys⟩ := val_resVals hres
  obtain ⟨ys', us, L, h2, hl2, hnd, hm, hpin, HW⟩ := val_wholeRM h1
  simp only [RM.val, Option.some.injEq, Prod.mk.injEq] at h2
  obtain ⟨rfl, rfl⟩ := h2
  have hN := callN_ok2 L
  obtain ⟨c2, hW⟩ := HW hN.ok _ _ _ _ _ _ hR
  have hR2 := hW.rel
  have eF := obsC_fin (ob := (σ'.lays us).ob) L
  have hval : ∀ (i : Nat) (r : ResultVar), fn.results.toList[i]? = some r → ∃ v, (readRes a'.tmps r).run P w' = .ok v w' ∧ ∃ y', ys'[i]? = some y' ∧ RepV1 (obsF (L.map (Frm.obOf (σ'.lays us).ob))) (conC callN L c2) y' v := fun i r hr => by
    obtain ⟨y, hy, hv⟩ := hys i r hr
    obtain ⟨v, h3, h4⟩ := res_val (P := P) hE hv hR
    have hi := (List.getElem?_eq_some_iff.1 hy).1
    obtain ⟨y', hy'⟩ : ∃ y', ys'[i]? = some y' := ⟨ys'[i]'(by omega), List.getElem?_eq_getElem (by omega)⟩
    refine ⟨v, h3, y', hy', ?_⟩
    rw [← eF]
    exact hW.vals i y y' v hy hy' h4
  have dec : ∀ i : Nat, Decidable (∃ (v : Value) (r : ResultVar), fn.results.toList[i]? = some r ∧ (readRes a'.tmps r).run P w' = .ok v w' ∧ ∃ y', ys'[i]? = some y' ∧ RepV1 (obsF (L.map (Frm.obOf (σ'.lays us).ob))) (conC callN L c2) y' v) := fun i => Classical.propDecidable _
  let val : Nat → Value := fun i => if h : ∃ (v : Value) (r : ResultVar), fn.results.toList[i]? = some r ∧ (readRes a'.tmps r).run P w' = .ok v w' ∧ ∃ y', ys'[i]? = some y' ∧ RepV1 (obsF (L.map (Frm.obOf (σ'.lays us).ob))) (conC callN L c2) y' v then Classical.choose h else undef
  have hval2 : ∀ (i : Nat) (r : ResultVar), fn.results.toList[i]? = some r → (readRes a'.tmps r).run P w' = .ok (val i) w' ∧ ∃ y', ys'[i]? = some y' ∧ RepV1 (obsF (L.map (Frm.obOf (σ'.lays us).ob))) (conC callN L c2) y' (val i) := fun i r hr => by
    obtain ⟨v, q1, q2⟩ := hval i r hr
    have hex : ∃ (v : Value) (r : ResultVar), fn.results.toList[i]? = some r ∧ (readRes a'.tmps r).run P w' = .ok v w' ∧ ∃ y', ys'[i]? = some y' ∧ RepV1 (obsF (L.map (Frm.obOf (σ'.lays us).ob))) (conC callN L c2) y' v := ⟨v, r, hr, q1, q2⟩
    have e : val i = Classical.choose hex := dif_pos hex
    obtain ⟨r', z1, z2⟩ := Classical.choose_spec hex
    rw [e]
    rw [hr] at z1
    cases z1
    exact z2
  have hsz4 : fn.results.toList.length ≤ 4 := by simpa using hl
  have hrr := run_results (P := P) (fn := fn) (rs := fn.results.toList) (by simp) hsz4 a'.tmps val fun i r hr => (hval2 i r hr).1
  have get : ∀ (i : Nat) (o : AObj), (L.map (Frm.obOf (σ'.lays us).ob))[i]? = some (some o) → ∃ s : Frm, L[i]? = some s ∧ s.obOf (σ'.lays us).ob = some o := fun i o h => by
    obtain ⟨s, hs, hso⟩ := map_get h
    exact ⟨s, hs, hso⟩
  have out : OutOk w c0 ins (resAV ys') (L.map (Frm.obOf (σ'.lays us).ob)) (if fn.results.toList.length = 1 then val 0 else .tuple ((List.range fn.results.toList.length).map val).toArray) (conC callN L c2) w' := by
    refine ⟨hR2.le, hR2.imm, hR2.fresh, hR2.fr, ?_, fun i o h => ?_, fun i i' o o' b h1 h2 h3 h4 h5 h6 => ?_, fun i o b h1 h2 h3 => ?_, fun i hi => ?_, by simpa using hm⟩
    · have one : ys'.length = 1 → RepAV (obsF (L.map (Frm.obOf (σ'.lays us).ob))) (conC callN L c2) (resAV ys') (val 0) := fun h => by
        have h0 : 0 < fn.results.toList.length := by omega
        match ys', h, hval2 with
        | [y], _, hval2 =>
          obtain ⟨r, hr⟩ : ∃ r, fn.results.toList[0]? = some r := ⟨_, List.getElem?_eq_getElem h0⟩
          obtain ⟨_, y', hy', hv⟩ := hval2 0 r hr
          cases hy'
          exact hv
      have many : ys'.length ≠ 1 → RepAV (obsF (L.map (Frm.obOf (σ'.lays us).ob))) (conC callN L c2) (resAV ys') (.tuple ((List.range fn.results.toList.length).map val).toArray) := fun h => by
        have e : resAV ys' = .tup ys' := by
          match ys', h with
          | [], _ => rfl
          | [y], h => exact absurd rfl h
          | y :: z :: l, _ => rfl
        rw [e]
        refine ⟨_, rfl, by simp only [List.size_toArray, List.length_map, List.length_range]; omega, fun i y hy => ?_⟩
        have hi := (List.getElem?_eq_some_iff.1 hy).1
        obtain ⟨r, hr⟩ : ∃ r, fn.results.toList[i]? = some r := ⟨fn.results.toList[i]'(by omega), List.getElem?_eq_getElem (by omega)⟩
        obtain ⟨_, y', hy', hv⟩ := hval2 i r hr
        rw [hy] at hy'
        cases hy'
        have e2 : (((List.range fn.results.toList.length).map val).toArray).getD i undef = val i := by
          rw [Array.getD_eq_getD_getElem?]
          have : i < fn.results.toList.length := by omega
          simp at this
          simp [this]
        rw [e2]
        exact hv
      by_cases h1 : fn.results.toList.length = 1
      · rw [if_pos h1]; exact one (by omega)
      · rw [if_neg h1]; exact many (by omega)
    · obtain ⟨s, hs, hso⟩ := get i o h
      have := (hR2.things hN.ok hW.blk hs hso).1
      rw [eF] at this
      exact this
    · obtain ⟨s, hs, hso⟩ := get i o h1
      obtain ⟨s', hs', hso'⟩ := get i' o' h2
      obtain ⟨q, gq, oq, z1, z2, z3, z4⟩ := (hR2.things hN.ok hW.blk hs hso).2 b h3 h5
      obtain ⟨q', gq', oq', z1', z2', z3', z4'⟩ := (hR2.things hN.ok hW.blk hs' hso').2 b h4 h6
      have := hR2.sep q q' gq gq' oq oq' b z2 z2' z3 z3' z4 z4'
      subst this
      exact live_uniq hnd i i' s s' q _ _ hs hs' z1 z1' hso hso'
    · obtain ⟨s, hs, hso⟩ := get i o h1
      obtain ⟨q, gq, oq, z1, z2, z3, z4⟩ := (hR2.things hN.ok hW.blk hs hso).2 b h2 h3
      exact hR2.new q gq oq b z2 z3 z4
    · obtain ⟨s, hs, hsk⟩ := hpin i hi
      have := hR2.pinned hN.ok hs rfl hsk
      rw [eF] at this
      exact this
  have done : a'.defers = [] ∧ ∃ v, (results fn a'.tmps).run P w' = .ok v w' ∧ ∃ v' c, Ending.returned v = .returned v' ∧ OutOk w c0 ins (resAV ys') (L.map (Frm.obOf (σ'.lays us).ob)) v' c w' := ⟨hR.df, _, hrr, _, _, rfl, out⟩
  rcases he with rfl | rfl
  · exact done
  · exact done
end Go.E2
