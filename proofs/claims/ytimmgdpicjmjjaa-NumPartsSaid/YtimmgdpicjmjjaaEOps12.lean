/- The engine, part 7f: rows written out; what is no nil pointer. -/
import Derived.Test.YtimmgdpicjmjjaaEOps11
namespace Go.Eng
open Go.RowKit
set_option linter.unusedVariables false
set_option linter.unusedSimpArgs false
variable {ob : Obs} {c c' : Con} {w w' w0 : World} {S0 : Nat → Prop} {G0 G : Gh} {σ σ' σ1 : St} {a a' : Act} {P : Program}
theorem fold_setMany (off : Nat) : ∀ (l : List Value) (k : Nat) (cells : Array Value), (l.zipIdx k).foldl (fun cs p => cs.setIfInBounds (off + p.2) p.1) cells = setMany cells (off + k) l
  | [], _, _ => rfl
  | v :: l, k, cells => by
    rw [List.zipIdx_cons, List.foldl_cons, fold_setMany off l (k + 1), setMany]
    rfl
theorem fill_step (off : Nat) (v : Value) (cells : Array Value) : v.cells.zipIdx.foldl (fun cs (p : Value × Nat) => cs.setIfInBounds (off + p.2) p.1) cells = setMany cells off v.cells.toList := by
  rw [← Array.foldl_toList, Array.toList_zipIdx, fold_setMany, Nat.add_zero]
theorem setMany_append : ∀ (l m : List Value) (cells : Array Value) (o : Nat), setMany cells o (l ++ m) = setMany (setMany cells o l) (o + l.length) m
  | [], m, cells, o => rfl
  | v :: l, m, cells, o => by
    rw [List.cons_append, setMany, setMany, setMany_append l m]
    congr 1
    simp only [List.length_cons]
    omega
theorem fill_row (sz : Nat) : ∀ (vals : List Value) (s : Nat) (cells : Array Value), (∀ v ∈ vals, v.cells.size = sz) → (s + vals.length) * sz ≤ cells.size →
    Instr.fill (fun i => some (i * sz, sz)) cells ((List.range' s vals.length).zip vals) = some (setMany cells (s * sz) (vals.flatMap fun v => v.cells.toList))
  | [], s, cells, _, _ => rfl
  | v :: vals, s, cells, hv, hl => by
    have h1 := hv v (.head _)
    have e : (s + (vals.length + 1)) * sz = s * sz + sz + vals.length * sz := by rw [Nat.add_mul, Nat.add_mul, Nat.one_mul]; omega
    simp only [List.length_cons] at hl
    rw [e] at hl
    simp only [List.length_cons, List.range'_succ, List.zip_cons_cons, Instr.fill, List.flatMap_cons]
    rw [if_neg (by simp only [h1, ne_eq, not_true_eq_false, decide_false, Bool.false_or, decide_eq_true_eq]; omega)]
    rw [fill_step, fill_row sz vals (s + 1) _ (fun u hu => hv u (.tail _ hu)) (by rw [setMany_size, Nat.add_mul, Nat.add_mul, Nat.one_mul]; omega), setMany_append]
    congr 2
    rw [Nat.add_mul, Nat.one_mul, Array.length_toList, h1]
theorem setMany_all (l : List Value) (cells : Array Value) (h : cells.size = l.length) : setMany cells 0 l = l.toArray := by
  apply Array.ext_getElem?
  intro i
  rw [setMany_get l cells 0 i (by omega)]
  by_cases hi : i < l.length
  · rw [if_pos (by omega)]
    simp
  · have h1 : cells.size ≤ i := by omega
    have h2 : l.length ≤ i := by omega
    rw [if_neg (by omega), Array.getElem?_eq_none h1, Array.getElem?_eq_none (by simpa using h2)]
def partsRM {α : Type} (es : List Nat) : List (Nat × Operand) → Nat → (List (List PV) → List (Nat × Nat × Option AObj) → RM α) → RM α
  | [], _, k => k [] []
  | (i, x) :: l, s, k => if i = s then opnd x fun u => match u with
      | .one y => atPVs es (v1cells y) fun ps us => partsRM es l (s + 1) fun xs us' => k (ps :: xs) (us ++ us')
      | .tup _ => .fail
    else .fail
theorem val_partsRM {α : Type} {r : α} {es : List Nat} : ∀ {l : List (Nat × Operand)} {s : Nat} {k : List (List PV) → List (Nat × Nat × Option AObj) → RM α}, (partsRM es l s k).val σ = some r →
    ∃ xs us, (k xs us).val σ = some r ∧ xs.length = l.length ∧ l.map (·.1) = List.range' s l.length ∧ ∀ σ1, Frz σ σ1 → Frz σ (σ1.lays us) ∧ ∀ w0 S0 G0 c a w, Rel w0 S0 G0 σ1 c a w → ∃ c', Rel w0 S0 G0 (σ1.lays us) c' a w ∧ Gh.le c.G c'.G ∧ c'.ρ = c.ρ ∧ c'.cp = c.cp ∧
      ∀ (j : Nat) (x : Nat × Operand), l[j]? = some x → ∃ ps : List PV, xs[j]? = some ps ∧ (a.eval x.2).cells.size = ps.length ∧ ∀ (i : Nat) (p : PV), ps[i]? = some p → Rep c'.G p ((a.eval x.2).cells.getD i undef)
  | [], s, k, h => ⟨[], [], h, rfl, rfl, fun σ1 hf => ⟨hf, fun w0 S0 G0 c a w hR => ⟨c, hR, Gh.le_refl _, rfl, rfl, fun j x hx => by simp at hx⟩⟩⟩
  | (i, x) :: l, s, k, h => by
    simp only [partsRM] at h
    split at h
    case isFalse => simp [RM.val] at h
    case isTrue hi =>
      subst hi
      replace h := val_opnd h
      cases hu : absO σ x with
      | tup q => rw [hu] at h; simp [RM.val] at h
      | one y =>
        rw [hu] at h
        obtain ⟨ps, us, h1, hl1, H1⟩ := val_atPVs h
        obtain ⟨xs, us', h2, hl2, hm, H2⟩ := val_partsRM h1
        refine ⟨ps :: xs, us ++ us', h2, by simp [hl2], by simp [hm, List.range'_succ], fun σ1 hf => ?_⟩
        obtain ⟨f1, R1⟩ := H1 σ1 hf
        obtain ⟨f2, R2⟩ := H2 _ f1
        rw [lays_append]
        refine ⟨f2, fun w0 S0 G0 c a w hR => ?_⟩
        obtain ⟨c1, hR1, g1, e1, e2, v1⟩ := R1 w0 S0 G0 c a w hR
        obtain ⟨c2, hR2, g2, e3, e4, v2⟩ := R2 w0 S0 G0 c1 a w hR1
        refine ⟨c2, hR2, Gh.le_trans g1 g2, e3.trans e1, e4.trans e2, fun j z hz => ?_⟩
        cases j with
        | succ j =>
          simp only [List.getElem?_cons_succ] at hz ⊢
          exact v2 j z hz
        | zero =>
          simp at hz
          subst hz
          refine ⟨ps, rfl, ?_⟩
          have hx := hR.opnd x
          have e5 : absO σ1 x = absO σ x := by
            cases x <;> first | rfl | (simp only [absO, St.slot]; rw [hf.1])
          rw [e5, hu] at hx
          have hx : RepV1 σ1.ob c y (a.eval x) := hx
          cases y with
          | agg q =>
            obtain ⟨cs, ecs, hsz, hr⟩ := hx
            have hsz' : cs.size = ps.length := by rw [hsz]; exact hl1.symm
            rw [ecs]
            refine ⟨hsz', fun i p hp => ?_⟩
            have hi := (List.getElem?_eq_some_iff.1 hp).1
            obtain ⟨z, hz⟩ : ∃ z, q[i]? = some z := ⟨_, List.getElem?_eq_getElem (by omega)⟩
            obtain ⟨p', hp', hrep⟩ := v1 i z _ hz (hr i z hz)
            rw [hp] at hp'
            cases hp'
            exact hrep.mono g2
          | «at» q =>
            obtain ⟨p, hp, hrep⟩ := v1 0 q (a.eval x) rfl hx
            have hlen : ps.length = 1 := hl1
            match ps, hlen, hp with
            | [p'], _, hp =>
              simp at hp
              subst hp
              have hone := rep_one hrep
              have hcells : (a.eval x).cells = #[a.eval x] := by
                revert hone
                cases a.eval x <;> intro hone <;> first | rfl | (simp [Value.oneCell'] at hone)
              rw [hcells]
              refine ⟨rfl, fun i p hp => ?_⟩
              cases i with
              | zero => simp at hp; subst hp; exact hrep.mono g2
              | succ i => simp at hp
def absBuildSlice (tab : Nat → Option Ty) (t n : Nat) (parts : Array (Nat × Operand)) (d : Option Nat) : RM Eff := match d, tab t with
  | some d, some ty => if ty.elem = 0 then .fail else match tab ty.elem with
    | none => .fail
    | some ety => partsRM ety.es parts.toList 0 fun xs us => if xs.length = n ∧ (xs.all fun x => x.length == ety.size) = true ∧ n * ety.size ≤ 16777216 then
        .obj d fun q => .ret ⟨.one (.at (.row d (q.1 + 1))), us ++ [(d, q.1 + 1, some (.row true ety.size xs))]⟩ else .fail
  | _, _ => .fail
theorem flat_says {e : Nat} {xs : List (List PV)} {vals : List Value} (hl : xs.length = vals.length) (hw : ∀ x ∈ xs, x.length = e)
    (h : ∀ (j : Nat) (ps : List PV) (v : Value), xs[j]? = some ps → vals[j]? = some v → v.cells.size = ps.length ∧ ∀ (i : Nat) (p : PV), ps[i]? = some p → Rep G p (v.cells.getD i undef)) :
    Says G e xs (vals.flatMap fun v => v.cells.toList) := by
  induction xs generalizing vals with
  | nil =>
    match vals, hl with
    | [], _ => exact ⟨by simp, fun j x hx => by simp at hx, fun j x i y hx => by simp at hx⟩
  | cons x xs ih =>
    match vals, hl with
    | v :: vals, hl =>
      have h0 := h 0 x v rfl rfl
      have hx := hw x (.head _)
      have ih := ih (vals := vals) (by simpa using hl) (fun y hy => hw y (.tail _ hy)) (fun j ps u h1 h2 => h (j + 1) ps u h1 h2)
      have one : Says G e [x] v.cells.toList := by
        refine ⟨by simp [h0.1, hx], fun j y hy => ?_, fun j y i z hy hz => ?_⟩
        · match j, hy with
          | 0, hy => simp at hy; subst hy; exact hx
        · match j, hy with
          | 0, hy =>
            simp at hy
            subst hy
            have := h0.2 i z hz
            rw [Nat.zero_mul, Nat.zero_add, List.getD_eq_getElem?_getD, Array.getElem?_toList]
            rw [Array.getD_eq_getD_getElem?] at this
            exact this
      have := one.append ih
      simpa using this
theorem done_buildSlice {o : Oper} {tab : Nat → Option Ty} {t n : Nat} {parts : Array (Nat × Operand)} {e : Eff} (htab : ∀ t ty, tab t = some ty → TyOk P t ty) (ho : o.op = .buildSlice t n parts) (h : (absBuildSlice tab t n parts o.dst).val σ = some e) : Done P w0 S0 G0 σ o e := by
  unfold absBuildSlice at h
  split at h
  case h_2 => simp [RM.val] at h
  case h_1 d ty hd hty =>
    have hT := htab t ty hty
    split at h
    case isTrue => simp [RM.val] at h
    case isFalse he =>
      cases hety : tab ty.elem with
      | none => rw [hety] at h; simp [RM.val] at h
      | some ety =>
        rw [hety] at h
        have hE := htab _ ety hety
        obtain ⟨xs, us, h2, hl, hm, H⟩ := val_partsRM h
        replace h := h2
        clear h2
        split at h
        case isFalse => simp [RM.val] at h
        case isTrue hc =>
          obtain ⟨hn, hall, hbig⟩ := hc
          simp only [RM.val, Option.some.injEq] at h
          subst h
          intro c a w hR
          obtain ⟨hF, HR⟩ := H σ (Frz.refl σ)
          obtain ⟨c1, hR1, g1, e1, e2, hv⟩ := HR w0 S0 G0 c a w hR
          obtain ⟨i, z, hi, hsz, _, hz, _, hzs, _⟩ := hE.info
          let vals : List Value := parts.toList.map fun x => a.eval x.2
          have hvl : vals.length = n := by simp only [vals, List.length_map]; omega
          have hwide : ∀ x ∈ xs, x.length = ety.size := fun x hx => by simpa using List.all_eq_true.1 hall x hx
          have hval : ∀ (j : Nat) (ps : List PV) (v : Value), xs[j]? = some ps → vals[j]? = some v → v.cells.size = ps.length ∧ ∀ (i : Nat) (p : PV), ps[i]? = some p → Rep c1.G p (v.cells.getD i undef) := fun j ps v h1 h2 => by
            obtain ⟨x, hx, rfl⟩ := map_get h2
            obtain ⟨ps', q1, q2, q3⟩ := hv j x hx
            rw [h1] at q1
            cases q1
            exact ⟨q2, q3⟩
          have hsays := flat_says (G := c1.G) (e := ety.size) (xs := xs) (vals := vals) (by omega) hwide hval
          have hcells : ∀ v ∈ vals, v.cells.size = ety.size := fun v hv' => by
            obtain ⟨j, hj, rfl⟩ := List.getElem_of_mem hv'
            obtain ⟨ps, hps⟩ : ∃ ps, xs[j]? = some ps := ⟨_, List.getElem?_eq_getElem (by omega)⟩
            rw [(hval j ps _ hps (List.getElem?_eq_getElem hj)).1]
            exact hwide ps (List.mem_of_getElem? hps)
          have hparts : (parts.map fun x => (x.1, a.eval x.2)).toList = (List.range' 0 vals.length).zip vals := by
            have e3 : vals.length = parts.toList.length := by simp [vals]
            rw [e3, ← hm, Array.toList_map]
            simp only [vals]
            rw [List.zip_map']
          have hfill : ∀ z0 : Array Value, z0.size = n * ety.size → Instr.fill (fun i => some (i * ety.size, ety.size)) z0 ((parts.map fun x => (x.1, a.eval x.2)).toList) = some (vals.flatMap fun v => v.cells.toList).toArray := fun z0 hz0 => by
            rw [hparts, fill_row ety.size vals 0 z0 hcells (by rw [Nat.zero_add, hvl, hz0]; exact Nat.le_refl _), Nat.zero_mul, setMany_all _ _ (by rw [hz0, hsays.1, hn])]
          obtain ⟨c2, hR2⟩ := hR1.newrow d ety.size n true o.dst (zs := #[]) ty.elem w.drawn hsays (by omega) (by rw [hn]; simp)
          rw [hn] at hR2
          have hgen : ((σ.lays us).ob d).1 = (σ.ob d).1 := by
            rcases hF.2 d with h | ⟨g, e5, xs5, h1, h2⟩
            · rw [h]
            · rw [h1, h2]
          rw [hgen] at hR2
          refine ⟨.slice (some ⟨w.heap.size, 0, none⟩) n n, { w with heap := w.heap.push (.cells ((vals.flatMap fun v => v.cells.toList).toArray ++ #[]) ty.elem (0, 0)), drawn := w.drawn }, .inl ?_, c2, ?_⟩
          · have hbig' : ¬ (16777216 < n * ety.size) := by omega
            have hmap : (parts.map fun (x : Nat × Operand) => (x.1, a.eval x.2)).toList = (parts.map fun x => (x.1, a.eval x.2)).toList := rfl
            by_cases hz0 : n * ety.size = 0
            · have := hfill ((Array.range (n * ety.size)).map (#[][· % (#[] : Array Value).size]!)) (by simp)
              simp [execOp, ho, Instr.buildSlice, run_underlying (hT.slice he), sizeOf, typeInfo, hi, hsz, hbig', hz0] at this ⊢
              rw [this]
              simp [newRow, newObj, Sem.run]
            · have := hfill ((Array.range (n * ety.size)).map (z.cells[· % z.cells.size]!)) (by simp)
              simp [execOp, ho, Instr.buildSlice, run_underlying (hT.slice he), sizeOf, typeInfo, hi, hsz, hbig', hz0, zeroValue, hz] at this ⊢
              rw [this]
              simp [newRow, newObj, Sem.run]
          · unfold St.app at hR2 ⊢
            rw [lays_append]
            exact hR2
end Go.Eng
