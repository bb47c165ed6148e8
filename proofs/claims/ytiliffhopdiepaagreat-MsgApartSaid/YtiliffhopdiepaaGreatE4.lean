/- The engine, part 4: VPure, VNorm, VNorm2. -/
import Derived.Test.YtiliffhopdiepaaGreatE3
namespace Go.E2
open Go.RowKit
set_option linter.unusedVariables false
set_option linter.unusedSimpArgs false
variable {σ σ' σ1 : St} {P : Program}
def RM.within {α : Type} (U : List Nat) : RM α → Prop
  | .ret _ => True
  | .fail => True
  | .slot t k => t ∈ U ∧ ∀ v, (k v).within U
  | .obj q k => ∀ v, (k v).within U
theorem within_sees {α : Type} {U : List Nat} : ∀ (m : RM α), m.within U → ∀ t ∈ (m.sees σ).1, t ∈ U
  | .ret _, _, t, h => by simp [RM.sees] at h
  | .fail, _, t, h => by simp [RM.sees] at h
  | .slot s k, hw, t, h => by
    simp only [RM.sees] at h
    rcases List.mem_cons.1 h with rfl | h
    · exact hw.1
    · exact within_sees _ (hw.2 _) t h
  | .obj q k, hw, t, h => within_sees _ (hw _) t h
def opT : Operand → List Nat
  | .tmp t => [t]
  | _ => []
theorem within_opnd {α : Type} {U : List Nat} {x : Operand} {k : AV → RM α} (hx : ∀ t ∈ opT x, t ∈ U) (hk : ∀ v, (k v).within U) : (opnd x k).within U := by
  cases x with
  | tmp t => exact ⟨hx t (.head _), hk⟩
  | const v => exact hk _
  | func f => exact hk _
  | global g => trivial
theorem within_mono {α : Type} {U V : List Nat} (h : ∀ t ∈ U, t ∈ V) : ∀ (m : RM α), m.within U → m.within V
  | .ret _, _ => trivial
  | .fail, _ => trivial
  | .slot s k, hw => ⟨h _ hw.1, fun v => within_mono h _ (hw.2 v)⟩
  | .obj q k, hw => fun v => within_mono h _ (hw v)
theorem within_match {α : Type} {U : List Nat} {m : RM α} (h : m.within U) : m.within U := h
def optT : Option Operand → List Nat
  | some x => opT x
  | none => []
def pureUses (o : Oper) : Option (List Nat) := match o.op with
  | .move x => some (opT x)
  | .assign x => some (opT x)
  | .pick x y z => some (opT x ++ opT y ++ opT z)
  | .binOp _ _ x y _ => some (opT x ++ opT y)
  | .unOp _ _ x => some (opT x)
  | .load _ x => some (opT x)
  | .fieldAddr _ x _ => some (opT x)
  | .field _ x _ => some (opT x)
  | .indexAddr _ x i => some (opT x ++ opT i)
  | .index _ x i => some (opT x ++ opT i)
  | .convert _ _ x => some (opT x)
  | .extract x _ => some (opT x)
  | .call cl => match cl.callee with
    | .builtin .len => match cl.args.toList with
      | [x] => some (opT x)
      | _ => none
    | .builtin .min => match cl.args.toList with
      | [x, y] => some (opT x ++ opT y)
      | _ => none
    | .builtin .max => match cl.args.toList with
      | [x, y] => some (opT x ++ opT y)
      | _ => none
    | _ => none
  | .slice _ x lo hi none => some (opT x ++ (optT lo ++ optT hi))
  | .lookup _ x i false => some (opT x ++ opT i)
  | .nilCheck x => some (opT x)
  | _ => none
section
variable (tab : Nat → Option Ty) (tags : Nat → Option (List Tag))
theorem wi_move (x : Operand) : (absMove x).within (opT x) := within_opnd (fun _ h => h) fun _ => trivial
theorem wi_pick (x y z : Operand) : (absPick x y z).within (opT x ++ opT y ++ opT z) := by
  refine within_opnd (fun t h => by simp [h]) fun v => ?_
  split
  · split
    · exact within_mono (fun t h => by simp [h]) _ (wi_move y)
    · exact within_mono (fun t h => by simp [h]) _ (wi_move z)
  · trivial
theorem wi_retLoad (U : List Nat) (ty : Ty) (l : List At) : (retLoad ty l).within U := by
  unfold retLoad
  split
  · split
    · trivial
    · split <;> trivial
  · trivial
theorem wi_bin (op : BinOp) (x y : Operand) : (absBinO op x y).within (opT x ++ opT y) := by
  refine within_opnd (fun t h => by simp [h]) fun u => within_opnd (fun t h => by simp [h]) fun v => ?_
  split
  · split <;> trivial
  · trivial
theorem wi_eqB (neq : Bool) (t : Nat) (x y : Operand) : (absEqB tab neq t x y).within (opT x ++ opT y) := by
  refine within_opnd (fun t h => by simp [h]) fun u => within_opnd (fun t h => by simp [h]) fun v => ?_
  split
  · trivial
  · split
    · split <;> trivial
    · trivial
theorem wi_eqS (neq : Bool) (t : Nat) (x y : Operand) : (absEqS tags neq t x y).within (opT x ++ opT y) := by
  refine within_opnd (fun t h => by simp [h]) fun u => within_opnd (fun t h => by simp [h]) fun v => ?_
  split
  · unfold eqS1
    split
    · unfold eqS2; split <;> trivial
    · trivial
  · trivial
theorem wi_un (op : UnOp) (x : Operand) : (absUn op x).within (opT x) := by
  refine within_opnd (fun _ h => h) fun u => ?_
  split <;> trivial
theorem wi_load (t : Nat) (x : Operand) : (absLoad tab t x).within (opT x) := by
  refine within_opnd (fun _ h => h) fun u => ?_
  split
  · trivial
  · split
    · split
      · intro q; dsimp only
        split
        · exact wi_retLoad _ _ _
        · exact wi_retLoad _ _ _
        · trivial
      · trivial
    · exact wi_retLoad _ _ _
    · intro q; dsimp only
      split
      · split
        · exact wi_retLoad _ _ _
        · trivial
      · split
        · exact wi_retLoad _ _ _
        · trivial
      · trivial
    · trivial
theorem wi_fieldAddr (t : Nat) (x : Operand) (f : Nat) : (absFieldAddr tab t x f).within (opT x) := by
  refine within_opnd (fun _ h => h) fun u => ?_
  split
  · trivial
  · split
    · trivial
    · split
      · trivial
      · split
        · trivial
        · split
          · split
            · intro q; dsimp only; split <;> trivial
            · trivial
          · intro q; dsimp only; split <;> trivial
          · trivial
          · trivial
theorem wi_field (t : Nat) (x : Operand) (f : Nat) : (absField tab t x f).within (opT x) := by
  refine within_opnd (fun _ h => h) fun u => ?_
  split
  · trivial
  · split
    · trivial
    · split
      · trivial
      · split
        · split
          · exact wi_retLoad _ _ _
          · trivial
        · trivial
theorem wi_indexArr (ty : Ty) (u v : AV) (l : List Nat) : (absIndexArr tab ty u v).within l := by
  unfold absIndexArr
  split
  · split
    · trivial
    · split
      · trivial
      · split
        · trivial
        · split
          · split
            · intro q; dsimp only; split <;> trivial
            · trivial
          · trivial
          · trivial
  · trivial
theorem wi_indexAddr (t : Nat) (x i : Operand) : (absIndexAddr tab t x i).within (opT x ++ opT i) := by
  refine within_opnd (fun t h => by simp [h]) fun u => within_opnd (fun t h => by simp [h]) fun v => ?_
  split
  · trivial
  · split
    · exact wi_indexArr _ _ _ _ _
    · split
      · trivial
      · split
        · split
          · trivial
          · split
            · split
              · split <;> trivial
              · trivial
            · intro q; dsimp only
              split
              · split
                · split <;> trivial
                · trivial
              · trivial
            · intro q; dsimp only
              split
              · split
                · split <;> trivial
                · trivial
              · trivial
            · trivial
        · trivial
theorem wi_index (t : Nat) (x i : Operand) : (absIndex tab t x i).within (opT x ++ opT i) := by
  refine within_opnd (fun t h => by simp [h]) fun u => within_opnd (fun t h => by simp [h]) fun v => ?_
  split
  · trivial
  · split
    · split
      · split
        · trivial
        · split <;> trivial
      · trivial
    · trivial
theorem wi_conv (s d : Nat) (x : Operand) : (absConv tab s d x).within (opT x) := by
  refine within_opnd (fun _ h => h) fun u => ?_
  split
  · split
    · split <;> trivial
    · trivial
  · trivial
theorem wi_bstr (s d : Nat) (x : Operand) : (absBStr tab s d x).within (opT x) := by
  refine within_opnd (fun _ h => h) fun u => ?_
  (repeat (first | trivial | split))
theorem wi_nil (x : Operand) : (absNil x).within (opT x) := by
  refine within_opnd (fun _ h => h) fun u => ?_
  split
  · trivial
  · split
    · intro q; dsimp only
      split <;> trivial
    · trivial
  · trivial
theorem wi_extract (x : Operand) (i : Nat) : (absExtract x i).within (opT x) := by
  refine within_opnd (fun _ h => h) fun u => ?_
  split
  · split <;> trivial
  · trivial
theorem wi_len (t : Nat) (x : Operand) : (absLen tab t x).within (opT x) := by
  refine within_opnd (fun _ h => h) fun u => ?_
  split
  · trivial
  · split
    · split <;> trivial
    · split
      · trivial
      · split
        · trivial
        · trivial
        · intro q; dsimp only; split <;> trivial
        · intro q; dsimp only; split
          · split
            · split <;> trivial
            · trivial
          · trivial
        · trivial
theorem wi_min (b : Bool) (x y : Operand) : (absMin b x y).within (opT x ++ opT y) := by
  refine within_opnd (fun t h => by simp [h]) fun u => within_opnd (fun t h => by simp [h]) fun v => ?_
  split <;> trivial
end
theorem wi_atPV {α : Type} {U : List Nat} (e : Nat) (x : At) (k : PV → List (Nat × Nat × Option AObj) → RM α) (h : ∀ p us, (k p us).within U) : (atPV e x k).within U := by
  unfold atPV
  split
  · exact h _ _
  · exact h _ _
  · intro r; dsimp only
    split
    · split <;> exact h _ _
    · exact h _ _
    · trivial
  · split
    · intro r; dsimp only
      split
      · exact h _ _
      · trivial
    · trivial
  · trivial
theorem wi_opndInt {α : Type} {U : List Nat} {x : Option Operand} {k : Option Int → RM α} (hx : ∀ t ∈ optT x, t ∈ U) (hk : ∀ v, (k v).within U) : (opndInt x k).within U := by
  cases x with
  | none => exact hk _
  | some x =>
    refine within_opnd hx fun u => ?_
    split
    · exact hk _
    · trivial
theorem wi_slice (tab : Nat → Option Ty) (t : Nat) (x : Operand) (lo hi : Option Operand) : (absSlice tab t x lo hi).within (opT x ++ (optT lo ++ optT hi)) := by
  refine within_opnd (fun t h => by simp [h]) fun u => wi_opndInt (fun t h => by simp [h]) fun l => wi_opndInt (fun t h => by simp [h]) fun h => ?_
  split
  · trivial
  · split
    · split
      · split <;> trivial
      · trivial
    · split
      · trivial
      · split
        · trivial
        · split
          · refine wi_atPV _ _ _ fun p us => ?_
            split
            · split <;> trivial
            · trivial
          · trivial
theorem wi_cut (tab : Nat → Option Ty) (t : Nat) (x : Operand) (lo hi : Option Operand) : (absCut tab t x lo hi).within (opT x ++ (optT lo ++ optT hi)) := by
  refine within_opnd (fun t h => by simp [h]) fun u => wi_opndInt (fun t h => by simp [h]) fun l => wi_opndInt (fun t h => by simp [h]) fun h => ?_
  split
  · trivial
  · split
    · trivial
    · split
      · trivial
      · split
        · split
          · trivial
          · intro q; dsimp only
            split
            · split <;> trivial
            · trivial
        · split
          · trivial
          · intro q; dsimp only
            split
            · split <;> trivial
            · trivial
        · trivial
theorem wi_lookup (mps : Nat → Bool) (t : Nat) (x i : Operand) : (absLookup mps t x i).within (opT x ++ opT i) := by
  refine within_opnd (fun t h => by simp [h]) fun u => within_opnd (fun t h => by simp [h]) fun v => ?_
  split
  · split
    · split
      · intro q; dsimp only
        split <;> trivial
      · trivial
    · trivial
  · trivial
theorem wi_op (E : Env) (H : Hand) (o : Oper) (U : List Nat) (h : pureUses o = some U) : (absOp E H o).within U := by
  unfold pureUses at h
  unfold absOp
  split at h
  case h_1 x ho => cases h; rw [ho]; exact wi_move x
  case h_2 x ho => cases h; rw [ho]; exact wi_move x
  case h_3 x y z ho => cases h; rw [ho]; exact wi_pick x y z
  case h_4 op t x y ty ho =>
    cases h
    rw [ho]
    refine within_opnd (fun t h => by simp [h]) fun u => ?_
    split
    · split
      · exact wi_eqB _ _ _ _ _
      · exact wi_eqB _ _ _ _ _
      · trivial
    · split
      · exact wi_eqS _ _ _ _ _
      · exact wi_eqS _ _ _ _ _
      · trivial
    · exact wi_bin _ _ _
  case h_5 op t x ho => cases h; rw [ho]; exact wi_un _ _
  case h_6 t x ho => cases h; rw [ho]; exact wi_load _ _ _
  case h_7 t x f ho => cases h; rw [ho]; exact wi_fieldAddr _ _ _ _
  case h_8 t x f ho => cases h; rw [ho]; exact wi_field _ _ _ _
  case h_9 t x i ho => cases h; rw [ho]; exact wi_indexAddr _ _ _ _
  case h_10 t x i ho => cases h; rw [ho]; exact wi_index _ _ _ _
  case h_11 s d x ho =>
    cases h; rw [ho]
    refine within_opnd (fun _ h => h) fun u => ?_
    split
    · exact wi_bstr _ _ _ _
    · exact wi_bstr _ _ _ _
    · exact wi_conv _ _ _ _
  case h_12 x i ho => cases h; rw [ho]; exact wi_extract _ _
  case h_13 cl ho =>
    rw [ho]
    dsimp only
    split at h
    case h_1 hc =>
      rw [hc]
      dsimp only
      split at h
      · rename_i x hx
        cases h
        try rw [hx]
        split
        · rename_i x' t he _
          cases he
          exact wi_len _ _ _
        · trivial
      · cases h
    case h_2 hc =>
      rw [hc]
      dsimp only
      split at h
      · rename_i x y hx
        cases h
        try rw [hx]
        exact wi_min _ _ _
      · cases h
    case h_3 hc =>
      rw [hc]
      dsimp only
      split at h
      · rename_i x y hx
        cases h
        try rw [hx]
        exact wi_min _ _ _
      · cases h
    case h_4 => cases h
  case h_14 t x lo hi ho =>
    cases h; rw [ho]
    refine within_opnd (fun t h => by simp [h]) fun u => ?_
    split
    · split
      · exact wi_cut _ _ _ _ _
      · exact wi_slice _ _ _ _ _
    · exact wi_slice _ _ _ _ _
  case h_15 t x i ho => cases h; rw [ho]; exact wi_lookup _ _ _ _
  case h_16 x ho => cases h; rw [ho]; exact wi_nil _
  case h_17 => cases h
def gUses (ops : Array Oper) (o : Oper) : Option (List Nat) := match pureUses o with
  | none => none
  | some U => match o.guard with
    | none => some U
    | some (j, _) => match (ops[j]?).bind (·.dst) with
      | none => some U
      | some s => some (s :: U)
theorem wi_g (E : Env) (H : Hand) (ops : Array Oper) (o : Oper) (U : List Nat) (h : gUses ops o = some U) : (absG E H ops o).within U := by
  unfold gUses at h
  split at h
  case h_1 => cases h
  case h_2 V hV =>
    have ho := wi_op E H o V hV
    unfold absG
    split at h
    case h_1 hg => cases h; rw [hg]; exact ho
    case h_2 j want hg =>
      rw [hg]
      dsimp only
      split at h
      case h_1 hs => cases h; rw [hs]; trivial
      case h_2 s hs =>
        cases h
        rw [hs]
        refine ⟨.head _, fun v => ?_⟩
        dsimp only
        split
        · split
          · exact within_mono (fun t h => .tail _ h) _ ho
          · trivial
        · trivial
        · trivial
def textFeet (ops : Array Oper) : List Oper → Option (List Foot)
  | [] => some []
  | o :: l => match gUses ops o with
    | some U => (textFeet ops l).map (⟨U, [], []⟩ :: ·)
    | none => none
def okText (ops : Array Oper) : Bool := match textFeet ops ops.toList with
  | some fs => okWith ops fs (ancs ops)
  | none => false
def pureK (f : St → Option St) (d : Option Nat) (s : St) : Option Eff → Option St
  | some ⟨v, []⟩ => f (s.app d ⟨v, []⟩)
  | _ => none
def runPure (E : Env) (H : Hand) (ops : Array Oper) : List Oper → St → Option St
  | [], s => some s
  | o :: l, s => pureK (runPure E H ops l) o.dst s ((absG E H ops o).val s)
def FootLe (f g : Foot) : Prop := (∀ t ∈ f.slots, t ∈ g.slots) ∧ f.lays = [] ∧ g.lays = []
theorem runPure_RD {E : Env} {H : Hand} {ops : Array Oper} : ∀ {l : List Oper} {s s' : St} {ft : List Foot}, runPure E H ops l s = some s' → textFeet ops l = some ft → ∃ fs, RD E H ops l s s' fs ∧ fs.length = ft.length ∧ ∀ (i : Nat) (f g : Foot), fs[i]? = some f → ft[i]? = some g → FootLe f g
  | [], s, s', ft, h, ht => by
    cases h; cases ht
    exact ⟨[], .nil, rfl, fun i f g hf => by simp at hf⟩
  | o :: l, s, s', ft, h, ht => by
    simp only [runPure] at h
    simp only [textFeet] at ht
    split at ht
    case h_2 => cases ht
    case h_1 U hU =>
      obtain ⟨ft', ht', rfl⟩ := Option.map_eq_some_iff.1 ht
      unfold pureK at h
      split at h
      case h_2 => cases h
      case h_1 v hv =>
        obtain ⟨fs, h1, h2, h3⟩ := runPure_RD h ht'
        refine ⟨_, .cons hv rfl rfl rfl h1, by simp [h2], fun i f g hf hg => ?_⟩
        cases i with
        | zero =>
          cases hf; cases hg
          exact ⟨within_sees _ (wi_g E H ops o U hU), rfl, rfl⟩
        | succ i => exact h3 i f g hf hg
theorem okWith_le {ops : Array Oper} {fs ft : List Foot} {A : List (List Nat)} (hl : fs.length = ft.length) (h : ∀ (i : Nat) (f g : Foot), fs[i]? = some f → ft[i]? = some g → FootLe f g) (hok : okWith ops ft A = true) : okWith ops fs A = true := by
  have le : ∀ i, FootLe (footOf fs i) (footOf ft i) := fun i => by
    unfold footOf
    rw [List.getD_eq_getElem?_getD, List.getD_eq_getElem?_getD]
    by_cases hi : i < fs.length
    · rw [List.getElem?_eq_getElem hi, List.getElem?_eq_getElem (show i < ft.length by omega)]
      exact h i _ _ (List.getElem?_eq_getElem hi) (List.getElem?_eq_getElem (by omega))
    · rw [List.getElem?_eq_none (by omega), List.getElem?_eq_none (by omega)]
      exact ⟨fun t ht => ht, rfl, rfl⟩
  have cl : ∀ j i, clash ops fs j i = true → clash ops ft j i = true := fun j i hc => by
    obtain ⟨a1, a2, a3⟩ := le i
    obtain ⟨b1, b2, b3⟩ := le j
    unfold clash at hc ⊢
    rw [a2, b2] at hc
    rw [a3, b3]
    simp only [List.any_nil, Bool.or_false, Bool.or_eq_true, Option.any_eq_true] at hc ⊢
    rcases hc with ⟨d, h1, h2⟩ | ⟨d, h1, h2⟩
    · refine .inl ⟨d, h1, ?_⟩
      rcases h2 with h2 | h2
      · exact .inl (by simpa using a1 d (by simpa using h2))
      · exact .inr h2
    · exact .inr ⟨d, h1, by simpa using b1 d (by simpa using h2)⟩
  unfold okWith at hok ⊢
  rw [List.all_eq_true] at hok ⊢
  intro i hi
  have h1 := hok i hi
  simp only [Bool.and_eq_true, List.all_eq_true] at h1 ⊢
  refine ⟨h1.1, fun j hj => ?_⟩
  have h2 := h1.2 j hj
  simp only [Bool.or_eq_true, Bool.not_eq_true'] at h2 ⊢
  rcases h2 with h2 | h2
  · left
    cases hc : clash ops fs j i with
    | false => rfl
    | true => rw [cl j i hc] at h2; cases h2
  · exact .inr h2
theorem pure_snd {E : Env} {H : Hand} (hE : EnvOk P E) (hH : HandOk P H) {w0 : World} {S0 : Own} {G0 : Gh} {id : Nat} {ops : Array Oper} (hok : okText ops = true) (h : runPure E H ops ops.toList σ = some σ') : Snd P w0 S0 G0 (.region id ops true) σ .normal σ' := by
  unfold okText at hok
  split at hok
  case h_2 => cases hok
  case h_1 ft hft =>
    obtain ⟨fs, h1, h2, h3⟩ := runPure_RD h hft
    exact RD.snd hE hH h1 (okWith_le h2 h3 hok)
end Go.E2
namespace Go.E2
open Go.RowKit
set_option linter.unusedVariables false
set_option linter.unusedSimpArgs false
variable {ob : Obs} {c c' : Con} {w w' w0 : World} {S0 : Own} {G0 G : Gh} {σ σ' σ1 : St} {a a' : Act} {P : Program}
def pinS : Nat → Nat → List Frm
  | _, 0 => []
  | i, n + 1 => .obj (pinN + i) 0 :: pinS (i + 1) n
theorem pinS_len : ∀ i n, (pinS i n).length = n
  | _, 0 => rfl
  | i, n + 1 => by simp [pinS, pinS_len]
theorem pinS_get : ∀ {i n j}, j < n → (pinS i n)[j]? = some (.obj (pinN + i + j) 0)
  | _, 0, j, h => by omega
  | i, n + 1, 0, h => by simp [pinS]
  | i, n + 1, j + 1, h => by
    rw [pinS, List.getElem?_cons_succ, pinS_get (by omega)]
    rw [show pinN + (i + 1) + j = pinN + i + (j + 1) by omega]
def pinRM {α : Type} (N : Nms) : List Frm → List Frm → (List Frm → List Upd → List Frm → RM α) → RM α
  | [], S, k => k [] [] S
  | .obj q g :: l, S, k => .obj q fun r => match gone g r with
    | some (.blk cells) => canL (canAt N 4) [] S cells fun cells' us S1 => pinRM N l S1 fun l' us' S2 => k (.blk q g cells' :: l') (us ++ us') S2
    | _ => pinRM N l S fun l' us S2 => k (.obj q g :: l') us S2
  | _ :: _, _, _ => .fail
def Cel (s s' : Frm) : Prop := s' = s ∨ ∃ q g cells, s = .obj q g ∧ s' = .blk q g cells
def PinSnd (σ : St) (N : Nms) (S l l' : List Frm) (us : List Upd) (S' : List Frm) : Prop :=
  S <+: S' ∧ l'.length = l.length ∧ (∀ (i : Nat) (s : Frm), l[i]? = some s → ∃ s', l'[i]? = some s' ∧ Cel s s') ∧ ∀ σ1, Frz σ σ1 → Frz σ (σ1.lays us) ∧ ∀ w0 S0 G0 c a w, Rel w0 S0 G0 σ1 c a w → ∃ c', Rel w0 S0 G0 (σ1.lays us) c' a w ∧ Gh.le c.G c'.G ∧ c'.ρ = c.ρ ∧ c'.cp = c.cp ∧
    ∀ σ2 c2 L, Fin w0 S0 G0 a w σ σ2 c' c2 → Ext S' L → N.ok L →
      (∀ q g cells', Frm.blk q g cells' ∈ l' → ∀ n, (conC N L c2).ρ n = c2.ρ q → (∃ cells, σ2.ob q = (g, some (.blk cells))) → ObOk (obsC N L σ2.ob) (conC N L c2) w n (.blk cells')) ∧
      ∀ q g cells', Frm.blk q g cells' ∈ S' → Frm.blk q g cells' ∉ S → ∀ n, (conC N L c2).ρ n = c2.ρ q → (∃ cells, σ2.ob q = (g, some (.blk cells))) → ObOk (obsC N L σ2.ob) (conC N L c2) w n (.blk cells')
theorem val_pinRM {α : Type} {N : Nms} {r : α} : ∀ {l S : List Frm} {k : List Frm → List Upd → List Frm → RM α}, (pinRM N l S k).val σ = some r → ∃ l' us S', (k l' us S').val σ = some r ∧ PinSnd σ N S l l' us S'
  | [], S, k, h => ⟨[], [], S, h, List.prefix_rfl, rfl, fun i s hs => by simp at hs, fun σ1 hf => ⟨hf, fun w0 S0 G0 c a w hR => ⟨c, hR, Gh.le_refl _, rfl, rfl, fun σ2 c2 L hF hS hN => ⟨fun q g cells' h1 => by simp at h1, fun q g cells' h1 h2 => absurd h1 h2⟩⟩⟩⟩
  | .nil e :: l, S, k, h => by simp [pinRM, RM.val] at h
  | .blk q g cells :: l, S, k, h => by simp [pinRM, RM.val] at h
  | .obj q g :: l, S, k, h => by
    simp only [pinRM, RM.val] at h
    have plain : (pinRM N l S fun l' us S2 => k (.obj q g :: l') us S2).val σ = some r → ∃ l' us S', (k l' us S').val σ = some r ∧ PinSnd σ N S (.obj q g :: l) l' us S' := fun h => by
      obtain ⟨l', us, S', h1, p1, l1, e1, H⟩ := val_pinRM h
      refine ⟨_, us, S', h1, p1, by simp [l1], fun i s hs => ?_, fun σ1 hf => ?_⟩
      · cases i with
        | zero => cases hs; exact ⟨_, rfl, .inl rfl⟩
        | succ i => exact e1 i s hs
      · obtain ⟨f1, R1⟩ := H σ1 hf
        refine ⟨f1, fun w0 S0 G0 c a w hR => ?_⟩
        obtain ⟨c1, hR1, g1, e1, e2, v1⟩ := R1 w0 S0 G0 c a w hR
        refine ⟨c1, hR1, g1, e1, e2, fun σ2 c2 L hF hS hN => ?_⟩
        obtain ⟨q1, q2⟩ := v1 σ2 c2 L hF hS hN
        refine ⟨fun q' g' cells' hm => ?_, q2⟩
        rcases List.mem_cons.1 hm with hm | hm
        · cases hm
        · exact q1 q' g' cells' hm
    split at h
    case h_2 => exact plain h
    case h_1 cells hq =>
      have hob := gone_some hq
      obtain ⟨cells', us, S1, h1, p1, l1, H1⟩ := val_canL (N := N) (fun m S x k h => val_canAt _ m S x k h) h
      obtain ⟨l', us', S2, h2, p2, l2, e2, H2⟩ := val_pinRM h1
      refine ⟨_, us ++ us', S2, h2, List.IsPrefix.trans p1 p2, by simp [l2], fun i s hs => ?_, fun σ1 hf => ?_⟩
      · cases i with
        | zero => cases hs; exact ⟨_, rfl, .inr ⟨q, g, cells', rfl, rfl⟩⟩
        | succ i => exact e2 i s hs
      · obtain ⟨f1, R1⟩ := H1 σ1 hf
        obtain ⟨f2, R2⟩ := H2 _ f1
        rw [lays_append]
        refine ⟨f2, fun w0 S0 G0 c a w hR => ?_⟩
        obtain ⟨c1, hR1, g1, e1, e2, v1⟩ := R1 w0 S0 G0 c a w hR
        obtain ⟨c2, hR2, g2, e3, e4, v2⟩ := R2 w0 S0 G0 c1 a w hR1
        refine ⟨c2, hR2, Gh.le_trans g1 g2, e3.trans e1, e4.trans e2, fun σ2 c3 L hF hS hN => ?_⟩
        obtain ⟨q1, q2⟩ := v1 σ2 c3 L (hF.back g2 e3 e4) (Ext.of_prefix p2 hS) hN
        obtain ⟨q3, q4⟩ := v2 σ2 c3 L hF hS hN
        refine ⟨fun q' g' cells1 hm n hρ hex => ?_, fun q' g' cells1 hm hn => ?_⟩
        · rcases List.mem_cons.1 hm with hm | hm
          · cases hm
            have hob1 : σ1.ob q = (g, some (.blk cells)) := by
              rcases hf.look hob with h1 | ⟨_, _, h1, _⟩
              · exact h1
              · cases h1
            have hob2 : σ2.ob q = (g, some (.blk cells)) := by
              rcases hF.frz.look hob with h1 | ⟨_, _, h1, _⟩
              · exact h1
              · cases h1
            obtain ⟨b, cs, ty, hb, hh, hl, hr, hg⟩ := hR.obs _ _ _ hob1
            obtain ⟨b2, cs2, ty2, hb2, hh2, hl2, hr2, hg2⟩ := hF.rel.obs _ _ _ hob2
            rw [hF.ρ, e3, e1, hb] at hb2
            cases hb2
            rw [hh] at hh2
            cases hh2
            refine ⟨b, cs, ty, by rw [hρ, hF.ρ, e3, e1]; exact hb, hh, by rw [hl, l1], fun i x1 hx1 => ?_, hg2⟩
            have hi := (List.getElem?_eq_some_iff.1 hx1).1
            obtain ⟨x, hx⟩ : ∃ x, cells[i]? = some x := ⟨cells[i]'(by omega), List.getElem?_eq_getElem (by omega)⟩
            exact q1 i x x1 _ hx hx1 (hr i x hx)
          · exact q3 q' g' cells1 hm n hρ hex
        · by_cases hm1 : Frm.blk q' g' cells1 ∈ S1
          · exact q2 q' g' cells1 hm1 hn
          · exact q4 q' g' cells1 hm hm1
structure Nms.Ok2 (N : Nms) (L : List Frm) : Prop where
  ok : N.ok L
  back : ∀ n i, N.inv n = some i → N.nm i = n
theorem conC_at {N : Nms} {L : List Frm} (hN : N.ok L) {i : Nat} {s : Frm} (hs : L[i]? = some s) : (conC N L c).ρ (N.nm i) = s.src.bind c.ρ ∧ (∀ q, s.src = some q → (conC N L c).cp (N.nm i) = c.cp q) ∧ (s.src = none → (conC N L c).cp (N.nm i) = 0) := by
  have hat := Nms.at hN hs
  refine ⟨?_, fun q hq => ?_, fun hq => ?_⟩
  · show (((N.inv (N.nm i)).bind (L[·]?)).bind Frm.src).bind c.ρ = _
    rw [hat]; rfl
  · show (match ((N.inv (N.nm i)).bind (L[·]?)).bind Frm.src with | some q => c.cp q | none => 0) = _
    rw [hat, Option.bind_some, hq]
  · show (match ((N.inv (N.nm i)).bind (L[·]?)).bind Frm.src with | some q => c.cp q | none => 0) = _
    rw [hat, Option.bind_some, hq]
theorem obsC_at {N : Nms} {L : List Frm} (hN : N.ok L) {i : Nat} {s : Frm} (hs : L[i]? = some s) : obsC N L ob (N.nm i) = (0, s.obOf ob) := by
  unfold obsC
  rw [Nms.at hN hs]
  rfl
theorem obsC_some {N : Nms} {L : List Frm} (hN : N.Ok2 L) {k g : Nat} {o : AObj} (h : obsC N L ob k = (g, some o)) : ∃ i s, N.nm i = k ∧ L[i]? = some s ∧ s.obOf ob = some o := by
  unfold obsC at h
  simp only [Prod.mk.injEq] at h
  obtain ⟨s, h1, h2⟩ := Option.bind_eq_some_iff.1 h.2
  obtain ⟨i, h3, h4⟩ := Option.bind_eq_some_iff.1 h1
  exact ⟨i, s, hN.back _ _ h3, h4, h2⟩
theorem Rel.things (h : Rel w0 S0 G0 σ c a w) {N : Nms} {L : List Frm} (hN : N.ok L)
    (hblk : ∀ q g cells', Frm.blk q g cells' ∈ L → ∀ n, (conC N L c).ρ n = c.ρ q → (∃ cells, σ.ob q = (g, some (.blk cells))) → ObOk (obsC N L σ.ob) (conC N L c) w n (.blk cells'))
    {i : Nat} {s : Frm} {o : AObj} (hs : L[i]? = some s) (hso : s.obOf σ.ob = some o) : ObOk (obsC N L σ.ob) (conC N L c) w (N.nm i) o ∧ ∀ b, owned o = true → (conC N L c).ρ (N.nm i) = some b → ∃ q g o', s.src = some q ∧ σ.ob q = (g, some o') ∧ owned o' = true ∧ c.ρ q = some b := by
  obtain ⟨e1, e2, e3⟩ := conC_at (c := c) hN hs
  rcases obOf_some hso with ⟨q, g, rfl, hob, hv⟩ | ⟨e, rfl, rfl⟩ | ⟨q, g, cells, cells', rfl, hob, rfl⟩
  · have hk := h.obs q g o hob
    have e1 : (conC N L c).ρ (N.nm i) = c.ρ q := e1
    have e2 := e2 q rfl
    refine ⟨?_, fun b ho hb => ⟨q, g, o, rfl, hob, ho, by rw [← e1]; exact hb⟩⟩
    cases o with
    | blk cells => cases hv
    | fro cells => cases hv
    | map ds =>
      obtain ⟨b, es, cl, a1, a2, a3, a4⟩ := hk
      exact ⟨b, es, cl, e1.trans a1, a2, a3, a4⟩
    | row own e xs =>
      rcases hk with ⟨a1, a2, a3⟩ | ⟨b, cs, ty, a1, a2, a3, a4, a5, a6, a7⟩
      · exact .inl ⟨e1.trans a1, a2, e2.trans a3⟩
      · exact .inr ⟨b, cs, ty, e1.trans a1, a2, by rw [e2]; exact a3, by rw [e2]; exact a4, a5, a6, a7⟩
    | view e xs =>
      rcases hk with ⟨a1, a2⟩ | ⟨b, a1, a2, a3, a4⟩
      · exact .inl ⟨e1.trans a1, a2⟩
      · exact .inr ⟨b, e1.trans a1, by rw [e2]; exact a2, a3, a4⟩
  · refine ⟨.inl ⟨e1, rfl, e3 rfl⟩, fun b _ hb => ?_⟩
    rw [e1] at hb
    cases hb
  · refine ⟨hblk q g cells' (List.mem_of_getElem? hs) _ e1 ⟨cells, hob⟩, fun b _ hb => ⟨q, g, _, rfl, hob, rfl, ?_⟩⟩
    rw [e1] at hb
    exact hb
theorem src_uniq : ∀ {L : List Frm}, (L.filterMap Frm.src).Nodup → ∀ (i j : Nat) (s t : Frm) (q : Nat), L[i]? = some s → L[j]? = some t → s.src = some q → t.src = some q → i = j
  | [], _, i, j, s, t, q, h1, _, _, _ => by simp at h1
  | x :: L, hn, i, j, s, t, q, h1, h2, h3, h4 => by
    have mem : ∀ (k : Nat) (u : Frm), L[k]? = some u → u.src = some q → q ∈ L.filterMap Frm.src := fun k u hu hq => List.mem_filterMap.2 ⟨u, List.mem_of_getElem? hu, hq⟩
    cases i with
    | zero =>
      cases h1
      rw [List.filterMap_cons, h3] at hn
      cases j with
      | zero => rfl
      | succ j => exact absurd (mem j t h2 h4) (List.nodup_cons.1 hn).1
    | succ i =>
      cases j with
      | zero =>
        cases h2
        rw [List.filterMap_cons, h4] at hn
        exact absurd (mem i s h1 h3) (List.nodup_cons.1 hn).1
      | succ j =>
        rw [List.filterMap_cons] at hn
        have hn' : (L.filterMap Frm.src).Nodup := by
          split at hn
          · exact hn
          · exact (List.nodup_cons.1 hn).2
        rw [src_uniq hn' i j s t q h1 h2 h3 h4]
theorem Rel.pinned (h : Rel w0 S0 G0 σ c a w) {N : Nms} {L : List Frm} (hN : N.ok L) {i : Nat} {s : Frm} (hs : L[i]? = some s) (hnm : N.nm i = pinN + i) (hk : s.key = some (pinN + i, 0)) :
    Keeps S0.ob (obsC N L σ.ob) S0.con (conC N L c) (pinN + i) := by
  obtain ⟨h0, hb⟩ := h.base (pinN + i) (by omega)
  have e0 := obsC_at (ob := σ.ob) hN hs
  obtain ⟨e1, e2, _⟩ := conC_at (c := c) hN hs
  rw [hnm] at e0 e1 e2
  unfold Keeps
  rw [e0]
  right
  refine ⟨h0.symm, ?_⟩
  have none' : s.obOf σ.ob = none → (∀ n, rowLen (s.obOf σ.ob) = some n → rowLen (S0.ob (pinN + i)).2 = some n ∧ (conC N L c).ρ (pinN + i) = S0.con.ρ (pinN + i) ∧ (conC N L c).cp (pinN + i) = S0.con.cp (pinN + i)) ∧
      (∀ e, rowE (s.obOf σ.ob) = some e → rowE (S0.ob (pinN + i)).2 = some e ∧ (conC N L c).ρ (pinN + i) = S0.con.ρ (pinN + i)) ∧ (isVar (s.obOf σ.ob) = true → isVar (S0.ob (pinN + i)).2 = true ∧ (conC N L c).ρ (pinN + i) = S0.con.ρ (pinN + i)) := fun e => by
    rw [e]
    exact ⟨fun n hn => by simp [rowLen] at hn, fun e he => by simp [rowE] at he, fun hv => by simp [isVar] at hv⟩
  cases ho : s.obOf σ.ob with
  | none => rw [ho] at none'; exact none' rfl
  | some o =>
    have hsrc : s.src = some (pinN + i) := by
      cases s with
      | obj q g => cases hk; rfl
      | blk q g cells => cases hk; rfl
      | nil e => cases hk
    rw [hsrc, Option.bind_some] at e1
    have e2 := e2 _ hsrc
    have hsh : ∃ o', σ.ob (pinN + i) = (0, some o') ∧ rowLen (some o') = rowLen (some o) ∧ rowE (some o') = rowE (some o) ∧ isVar (some o') = isVar (some o) := by
      rcases obOf_some ho with ⟨q, g, rfl, hob, hv⟩ | ⟨e, rfl, rfl⟩ | ⟨q, g, cells, cells', rfl, hob, rfl⟩
      · cases hk; exact ⟨o, hob, rfl, rfl, rfl⟩
      · cases hk
      · cases hk; exact ⟨_, hob, rfl, rfl, rfl⟩
    obtain ⟨o', q1, q2, q3, q4⟩ := hsh
    unfold Keeps at hb
    rw [q1, h0] at hb
    rcases hb with hb | ⟨_, b1, b2, b3⟩
    · exact absurd hb (Nat.lt_irrefl _)
    · refine ⟨fun n hn => ?_, fun e he => ?_, fun hv => ?_⟩
      · obtain ⟨z1, z2, z3⟩ := b1 n (q2.trans hn)
        exact ⟨z1, e1.trans z2, e2.trans z3⟩
      · obtain ⟨z1, z2⟩ := b2 e (q3.trans he)
        exact ⟨z1, e1.trans z2⟩
      · obtain ⟨z1, z2⟩ := b3 (q4.trans hv)
        exact ⟨z1, e1.trans z2⟩
end Go.E2
namespace Go.E2
open Go.RowKit
set_option linter.unusedVariables false
set_option linter.unusedSimpArgs false
variable {ob : Obs} {c c' : Con} {w w' w0 : World} {S0 : Own} {G0 G : Gh} {σ σ' σ1 : St} {a a' : Act} {P : Program}
def liveS : List Frm → List (Option AObj) → List Nat
  | s :: l, some _ :: os => s.src.toList ++ liveS l os
  | _ :: l, none :: os => liveS l os
  | _, _ => []
theorem live_uniq {f : Frm → Option AObj} : ∀ {L : List Frm}, (liveS L (L.map f)).Nodup → ∀ (i j : Nat) (s t : Frm) (q : Nat) (o o' : AObj), L[i]? = some s → L[j]? = some t → s.src = some q → t.src = some q → f s = some o → f t = some o' → i = j
  | [], _, i, j, s, t, q, _, _, h1, _, _, _, _, _ => by simp at h1
  | x :: L, hn, i, j, s, t, q, o, o', h1, h2, h3, h4, h5, h6 => by
    have mem : ∀ (L : List Frm) (k : Nat) (u : Frm) (o : AObj), L[k]? = some u → u.src = some q → f u = some o → q ∈ liveS L (L.map f) := fun L => by
      induction L with
      | nil => intro k u o hu; simp at hu
      | cons y L ih =>
        intro k u o hu hq ho
        cases k with
        | zero =>
          cases hu
          rw [List.map_cons, ho, liveS, hq]
          exact .head _
        | succ k =>
          have := ih k u o hu hq ho
          rw [List.map_cons]
          cases f y with
          | none => exact this
          | some z => rw [liveS]; exact List.mem_append_right _ this
    have hn' : (liveS L (L.map f)).Nodup := by
      rw [List.map_cons] at hn
      cases hx : f x with
      | none => rw [hx] at hn; exact hn
      | some z => rw [hx, liveS] at hn; exact (List.nodup_append.1 hn).2.1
    cases i with
    | zero =>
      cases h1
      rw [List.map_cons, h5, liveS, h3] at hn
      cases j with
      | zero => rfl
      | succ j => exact absurd (mem L j t o' h2 h4 h6) (List.nodup_cons.1 hn).1
    | succ i =>
      cases j with
      | zero =>
        cases h2
        rw [List.map_cons, h6, liveS, h4] at hn
        exact absurd (mem L i s o h1 h3 h5) (List.nodup_cons.1 hn).1
      | succ j => rw [live_uniq hn' i j s t q o o' h1 h2 h3 h4 h5 h6]
def wholeRM {α : Type} (N : Nms) (m : Nat) (mss : List (List CM)) (ys : List V1) (k : List V1 → List Upd → List Frm → List (Option AObj) → RM α) : RM α :=
  pinRM N (pinS 0 m) (pinS 0 m) fun l us S => canVs N mss S ys fun ys' us' S' =>
    collect (us ++ us') (l ++ S'.drop m) fun os => if distinct (liveS (l ++ S'.drop m) os) = true then k ys' (us ++ us') (l ++ S'.drop m) os else .fail
theorem ext_cel {m : Nat} {S0' l S' : List Frm} (hl : S0'.length = m) (hll : l.length = m) (hp : S0' <+: S') (hc : ∀ (i : Nat) (s : Frm), S0'[i]? = some s → ∃ s', l[i]? = some s' ∧ Cel s s') : Ext S' (l ++ S'.drop m) := by
  intro i s hs
  by_cases hi : i < m
  · rw [List.getElem?_append_left (by omega)]
    obtain ⟨t, rfl⟩ := hp
    rw [List.getElem?_append_left (by omega)] at hs
    exact hc i s hs
  · rw [List.getElem?_append_right (by omega), List.getElem?_drop, hll]
    refine ⟨s, ?_, .inl rfl⟩
    rw [show m + (i - m) = i by omega]
    exact hs
structure Whole (w0 : World) (S0 : Own) (G0 : Gh) (a : Act) (w : World) (N : Nms) (m : Nat) (σ : St) (c : Con) (ys ys' : List V1) (us : List Upd) (L : List Frm) (c2 : Con) : Prop where
  rel : Rel w0 S0 G0 (σ.lays us) c2 a w
  le : Gh.le c.G c2.G
  vals : ∀ (i : Nat) (y y' : V1) (v : Value), ys[i]? = some y → ys'[i]? = some y' → RepV1 σ.ob c y v → RepV1 (obsC N L (σ.lays us).ob) (conC N L c2) y' v
  blk : ∀ q g cells', Frm.blk q g cells' ∈ L → ∀ n, (conC N L c2).ρ n = c2.ρ q → (∃ cells, (σ.lays us).ob q = (g, some (.blk cells))) → ObOk (obsC N L (σ.lays us).ob) (conC N L c2) w n (.blk cells')
theorem val_wholeRM {α : Type} {N : Nms} {m : Nat} {mss : List (List CM)} {ys : List V1} {k : List V1 → List Upd → List Frm → List (Option AObj) → RM α} {r : α} (h : (wholeRM N m mss ys k).val σ = some r) :
    ∃ ys' us L, (k ys' us L (L.map (Frm.obOf (σ.lays us).ob))).val σ = some r ∧ ys'.length = ys.length ∧ (liveS L (L.map (Frm.obOf (σ.lays us).ob))).Nodup ∧ m ≤ L.length ∧ (∀ i, i < m → ∃ s, L[i]? = some s ∧ s.key = some (pinN + i, 0)) ∧
      (N.ok L → ∀ w0 S0 G0 c a w, Rel w0 S0 G0 σ c a w → ∃ c2, Whole w0 S0 G0 a w N m σ c ys ys' us L c2) := by
  obtain ⟨l, us, S, h1, p1, l1, e1, H1⟩ := val_pinRM h
  obtain ⟨ys', us', S', h2, p2, l2, H2⟩ := val_canVs h1
  rw [val_collect] at h2
  split at h2
  case isFalse => simp [RM.val] at h2
  case isTrue hd =>
    rw [pinS_len] at l1
    have pref : pinS 0 m <+: S' := List.IsPrefix.trans p1 p2
    have hext : Ext S' (l ++ S'.drop m) := ext_cel (pinS_len 0 m) l1 pref e1
    refine ⟨ys', us ++ us', l ++ S'.drop m, h2, l2, distinct_nodup hd, by simp; omega, fun i hi => ?_, fun hN w0 S0 G0 c a w hR => ?_⟩
    · obtain ⟨s', z1, z2⟩ := e1 i _ (pinS_get hi)
      rw [Nat.add_zero] at z2
      refine ⟨s', by rw [List.getElem?_append_left (by omega)]; exact z1, ?_⟩
      rcases z2 with rfl | ⟨q, g, cells, z3, rfl⟩
      · rfl
      · cases z3; rfl
    · obtain ⟨f1, R1⟩ := H1 σ (Frz.refl σ)
      obtain ⟨c1, hR1, g1, a1, a2, v1⟩ := R1 w0 S0 G0 c a w hR
      obtain ⟨f2, R2⟩ := H2 _ f1
      obtain ⟨c2, hR2, g2, a3, a4, v2⟩ := R2 w0 S0 G0 c1 a w hR1
      rw [← lays_append] at hR2 f2
      have hF2 : Fin w0 S0 G0 a w σ (σ.lays (us ++ us')) c2 c2 := ⟨f2, hR2, Gh.le_refl _, rfl, rfl⟩
      obtain ⟨q1, q2⟩ := v1 _ _ _ (hF2.back g2 a3 a4) (Ext.of_prefix p2 hext) hN
      obtain ⟨q3, q4⟩ := v2 _ _ _ hF2 hext hN
      refine ⟨c2, hR2, Gh.le_trans g1 g2, fun i y y' v hy hy' hv => ?_, fun q g cells' hm n hρ hex => ?_⟩
      · exact q3 i y y' v hy hy' (RepV1.keep g1 (Frz.keeps (Frz.refl σ) f1 a1 a2) hv)
      · rcases List.mem_append.1 hm with hm | hm
        · exact q1 q g cells' hm n hρ hex
        · have hm : Frm.blk q g cells' ∈ S' := List.mem_of_mem_drop hm
          by_cases hS : Frm.blk q g cells' ∈ S
          · refine q2 q g cells' hS (fun hp => ?_) n hρ hex
            obtain ⟨i, hi, e⟩ := List.getElem_of_mem hp
            have hi' : i < m := by rw [pinS_len] at hi; exact hi
            have := pinS_get (i := 0) hi'
            rw [List.getElem?_eq_getElem hi, e] at this
            cases this
          · exact q4 q g cells' hm hS n hρ hex
def loopN (m : Nat) : Nms where
  nm i := if i < m then pinN + i else 2000 + i
  inv n := if pinN ≤ n then (if n - pinN < m then some (n - pinN) else none) else if 2000 + m ≤ n then some (n - 2000) else none
theorem loopN_gen (p m : Nat) (n i l : Nat) (hp : 902000 ≤ p) (hl : l ≤ 900000) :
    (i < l → (if p ≤ (if i < m then p + i else 2000 + i) then (if (if i < m then p + i else 2000 + i) - p < m then some ((if i < m then p + i else 2000 + i) - p) else none) else if 2000 + m ≤ (if i < m then p + i else 2000 + i) then some ((if i < m then p + i else 2000 + i) - 2000) else none) = some i) ∧
    ((if p ≤ n then (if n - p < m then some (n - p) else none) else if 2000 + m ≤ n then some (n - 2000) else none) = some i → (if i < m then p + i else 2000 + i) = n) := by
  constructor
  · intro hi
    by_cases hm : i < m
    · rw [if_pos hm, if_pos (by omega), if_pos (by omega)]
      exact congrArg some (by omega)
    · rw [if_neg hm, if_neg (by omega), if_pos (by omega)]
      exact congrArg some (by omega)
  · intro hn
    split at hn
    · split at hn
      · have hn := Option.some.inj hn
        rw [if_pos (by omega)]; omega
      · cases hn
    · split at hn
      · have hn := Option.some.inj hn
        rw [if_neg (by omega)]; omega
      · cases hn
theorem loopN_ok (m : Nat) (L : List Frm) (h : L.length ≤ 900000) : (loopN m).Ok2 L :=
  ⟨fun i hi => (loopN_gen pinN m 0 i L.length (by decide) h).1 hi, fun n i hn => (loopN_gen pinN m n i L.length (by decide) h).2 hn⟩
def mkObs (N : Nms) : Nat → List (Option AObj) → List (Nat × Nat × Option AObj)
  | _, [] => []
  | i, o :: os => (N.nm i, 0, o) :: mkObs N (i + 1) os
theorem look_mkObs {N : Nms} {L : List Frm} (hN : N.Ok2 L) (f : Frm → Option AObj) : ∀ (T : List Frm) (i : Nat), (∀ (j : Nat) (s : Frm), T[j]? = some s → L[i + j]? = some s) → ∀ n, (∀ j, N.inv n = some j → i ≤ j → j < i + T.length → look (mkObs N i (T.map f)) n = (0, (L[j]?).bind f)) ∧ ((∀ j, N.inv n = some j → ¬ (i ≤ j ∧ j < i + T.length)) → look (mkObs N i (T.map f)) n = (0, none))
  | [], i, h, n => ⟨fun j _ h1 h2 => by simp at h2; omega, fun _ => rfl⟩
  | s :: T, i, h, n => by
    have hs := h 0 s rfl
    rw [Nat.add_zero] at hs
    have hi := (List.getElem?_eq_some_iff.1 hs).1
    obtain ⟨r1, r2⟩ := look_mkObs hN f T (i + 1) (fun j s hj => by rw [show i + 1 + j = i + (j + 1) by omega]; exact h (j + 1) s hj) n
    simp only [List.map_cons, mkObs, look, List.length_cons]
    by_cases e : N.nm i = n
    · subst e
      rw [if_pos rfl, hN.ok i hi]
      refine ⟨fun j hj _ _ => ?_, fun hn => absurd ⟨Nat.le_refl _, by omega⟩ (hn i rfl)⟩
      cases hj
      rw [hs]
      rfl
    · rw [if_neg e]
      refine ⟨fun j hj h1 h2 => r1 j hj ?_ (by omega), fun hn => r2 fun j hj h1 => hn j hj ⟨by omega, by omega⟩⟩
      rcases Nat.lt_or_ge i j with h3 | h3
      · exact h3
      · obtain rfl : i = j := by omega
        exact absurd (hN.back _ _ hj) e
theorem ob_mkObs {N : Nms} {L : List Frm} (hN : N.Ok2 L) (l : List AV) : St.ob ⟨l, mkObs N 0 (L.map (Frm.obOf ob))⟩ = obsC N L ob := by
  funext n
  show look _ n = _
  obtain ⟨r1, r2⟩ := look_mkObs hN (Frm.obOf ob) L 0 (fun j s h => by rw [Nat.zero_add]; exact h) n
  unfold obsC
  cases hj : N.inv n with
  | none => rw [r2 (fun j h => by rw [hj] at h; cases h)]; rfl
  | some j =>
    by_cases hl : j < L.length
    · rw [r1 j hj (Nat.zero_le _) (by omega)]; rfl
    · rw [r2 (fun i h => by rw [hj] at h; cases h; omega), Option.bind_some, List.getElem?_eq_none (by omega)]; rfl
def mkSlots (n : Nat) : List (Nat × List CM) → List V1 → List AV
  | h :: hs, y :: ys => (mkSlots n hs ys).set h.1 (.one y)
  | _, _ => List.replicate n .any
theorem mkSlots_len (n : Nat) : ∀ hs ys, (mkSlots n hs ys).length = n
  | h :: hs, y :: ys => by rw [mkSlots, List.length_set, mkSlots_len n hs ys]
  | [], _ => by simp [mkSlots]
  | _ :: _, [] => by simp [mkSlots]
theorem mkSlots_get (n : Nat) : ∀ (hs : List (Nat × List CM)) (ys : List V1) (t : Nat), (mkSlots n hs ys).getD t .any = .any ∨ ∃ (i : Nat) (h : Nat × List CM) (y : V1), hs[i]? = some h ∧ ys[i]? = some y ∧ h.1 = t ∧ (mkSlots n hs ys).getD t .any = .one y
  | h :: hs, y :: ys, t => by
    rw [mkSlots, List.getD_eq_getElem?_getD]
    by_cases e : h.1 = t
    · by_cases hl : h.1 < (mkSlots n hs ys).length
      · right
        exact ⟨0, h, y, rfl, rfl, e, by rw [← e, List.getElem?_set_self hl]; rfl⟩
      · left
        rw [List.getElem?_eq_none (by rw [List.length_set]; omega)]; rfl
    · rw [List.getElem?_set_ne e]
      rcases mkSlots_get n hs ys t with h1 | ⟨i, h', y', h1, h2, h3, h4⟩
      · left; rw [List.getD_eq_getElem?_getD] at h1; exact h1
      · right
        rw [List.getD_eq_getElem?_getD] at h4
        exact ⟨i + 1, h', y', h1, h2, h3, h4⟩
  | [], _, t => by left; simp only [mkSlots, List.getD_eq_getElem?_getD, List.getElem?_replicate]; split <;> rfl
  | _ :: _, [], t => by left; simp only [mkSlots, List.getD_eq_getElem?_getD, List.getElem?_replicate]; split <;> rfl
def slotsRM {α : Type} : List (Nat × List CM) → (List V1 → RM α) → RM α
  | [], k => k []
  | h :: hs, k => .slot h.1 fun v => match v with
    | .one y => slotsRM hs fun ys => k (y :: ys)
    | .tup _ => .fail
theorem val_slotsRM {α : Type} {r : α} : ∀ {hs : List (Nat × List CM)} {k : List V1 → RM α}, (slotsRM hs k).val σ = some r → ∃ ys, (k ys).val σ = some r ∧ ys.length = hs.length ∧ ∀ (i : Nat) (h : Nat × List CM), hs[i]? = some h → ∃ y, ys[i]? = some y ∧ σ.slot h.1 = .one y
  | [], k, h => ⟨[], h, rfl, fun i x hx => by simp at hx⟩
  | h0 :: hs, k, h => by
    simp only [slotsRM, RM.val] at h
    split at h
    case h_2 => simp [RM.val] at h
    case h_1 y hy =>
      obtain ⟨ys, h1, h2, h3⟩ := val_slotsRM h
      refine ⟨_, h1, by simp [h2], fun i z hz => ?_⟩
      cases i with
      | zero => cases hz; exact ⟨y, rfl, hy⟩
      | succ i => exact h3 i z hz
def pinsOf : List (Nat × Nat × Option AObj) → Nat → Nat
  | [], m => m
  | u :: l, m => pinsOf l (if pinN ≤ u.1 then m + 1 else m)
def normRM (n m : Nat) (hs : List (Nat × List CM)) : RM St := slotsRM hs fun ys => wholeRM (loopN m) m (hs.map (·.2)) ys fun ys' us L os => if L.length ≤ 900000 then .ret ⟨mkSlots n hs ys', mkObs (loopN m) 0 os⟩ else .fail
def normSt (hs : List (Nat × List CM)) (σ : St) : Option St := (normRM σ.slots.length (pinsOf σ.obs 0) hs).val σ
theorem weak_normRM {n m : Nat} {hs : List (Nat × List CM)} (hn : n ≤ σ.slots.length) (h : (normRM n m hs).val σ = some σ') : Weak σ σ' := by
  intro w0 S0 G0 c a w hR
  obtain ⟨ys, h, hl, hys⟩ := val_slotsRM h
  obtain ⟨ys', us, L, h, hl2, hnd, hm, hpin, HW⟩ := val_wholeRM h
  split at h
  case isFalse => simp [RM.val] at h
  case isTrue hlim =>
    simp only [RM.val, Option.some.injEq] at h
    subst h
    have hN := loopN_ok m L hlim
    obtain ⟨c2, hW⟩ := HW hN.ok w0 S0 G0 c a w hR
    have hR2 := hW.rel
    have eob := ob_mkObs (ob := (σ.lays us).ob) hN (mkSlots n hs ys')
    have get : ∀ k g o, obsC (loopN m) L (σ.lays us).ob k = (g, some o) → ∃ i s, (loopN m).nm i = k ∧ L[i]? = some s ∧ s.obOf (σ.lays us).ob = some o := fun k g o h => obsC_some hN h
    refine ⟨conC (loopN m) L c2, ⟨hR2.le, hR2.imm, ?_, fun t => ?_, hR2.df, fun k g o ho => ?_, fun k k' g g' o o' b h1 h2 h3 h4 h5 h6 => ?_, fun k g o b h1 h2 h3 => ?_, hR2.fr, hR2.fresh, fun k hk => ?_⟩⟩
    · show (mkSlots n hs ys').length ≤ _
      rw [mkSlots_len]
      exact Nat.le_trans hn hR.sz
    · rw [eob]
      rcases mkSlots_get n hs ys' t with e | ⟨i, h', y, h1, h2, h3, e⟩
      · rw [show St.slot ⟨mkSlots n hs ys', _⟩ t = .any from e]; trivial
      · rw [show St.slot ⟨mkSlots n hs ys', _⟩ t = .one y from e]
        obtain ⟨y0, hy0, hs0⟩ := hys i h' h1
        have := hR.slots t
        rw [← h3, hs0] at this
        rw [← h3]
        exact hW.vals i y0 y _ hy0 h2 this
    · rw [eob] at ho ⊢
      obtain ⟨i, s, rfl, hs, hso⟩ := get k g o ho
      exact (hR2.things hN.ok hW.blk hs hso).1
    · rw [eob] at h1 h2
      obtain ⟨i, s, rfl, hs, hso⟩ := get k g o h1
      obtain ⟨i', s', rfl, hs', hso'⟩ := get k' g' o' h2
      obtain ⟨q, gq, oq, z1, z2, z3, z4⟩ := (hR2.things hN.ok hW.blk hs hso).2 b h3 h5
      obtain ⟨q', gq', oq', z1', z2', z3', z4'⟩ := (hR2.things hN.ok hW.blk hs' hso').2 b h4 h6
      have := hR2.sep q q' gq gq' oq oq' b z2 z2' z3 z3' z4 z4'
      subst this
      rw [live_uniq hnd i i' s s' q _ _ hs hs' z1 z1' hso hso']
    · rw [eob] at h1
      obtain ⟨i, s, rfl, hs, hso⟩ := get k g o h1
      obtain ⟨q, gq, oq, z1, z2, z3, z4⟩ := (hR2.things hN.ok hW.blk hs hso).2 b h2 h3
      exact hR2.new q gq oq b z2 z3 z4
    · rw [eob]
      obtain ⟨h0, hb⟩ := hR2.base k hk
      refine ⟨h0, ?_⟩
      by_cases hkm : k - pinN < m
      · obtain ⟨s, hs, hsk⟩ := hpin (k - pinN) hkm
        have e : k = pinN + (k - pinN) := by omega
        rw [e]
        exact hR2.pinned hN.ok hs (if_pos hkm) hsk
      · have hinv : (loopN m).inv k = none := by
          show (if pinN ≤ k then (if k - pinN < m then some (k - pinN) else none) else _) = none
          rw [if_pos hk, if_neg hkm]
        have : obsC (loopN m) L (σ.lays us).ob k = (0, none) := by unfold obsC; rw [hinv]; rfl
        rw [Keeps, this]
        right
        exact ⟨h0.symm, fun n hn => by simp [rowLen] at hn, fun e he => by simp [rowE] at he, fun hv => by simp [isVar] at hv⟩
theorem weak_norm {hs : List (Nat × List CM)} (h : normSt hs σ = some σ') : Weak σ σ' := weak_normRM (Nat.le_refl _) h
end Go.E2
