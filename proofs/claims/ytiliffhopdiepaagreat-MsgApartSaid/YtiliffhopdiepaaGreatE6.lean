/- The engine, part 6: VAns. -/
import Derived.Test.YtiliffhopdiepaaGreatE5
namespace Go.E2
open Go.RowKit
set_option linter.unusedVariables false
set_option linter.unusedSimpArgs false
variable {w w' w0 : World} {S0 : Own} {G0 G : Gh} {σ σ' σ1 : St} {P : Program}
abbrev Res := AV × List (Option AObj)
structure Ora where
  fn : Hand
  lp : FuncId → Nat → St → Option (Exit × St)
inductive Qry where
  | fn (f : FuncId) (args : List V1) (ins : List AObj)
  | lp (f : FuncId) (id : Nat) (s : St)
def Qry.sub (A A' : Ora) : Qry → Prop
  | .fn f args ins => ∀ r, A.fn f args ins = some r → A'.fn f args ins = some r
  | .lp f id s => ∀ r, A.lp f id s = some r → A'.lp f id s = some r
def FS {β : Type} (F : Ora → Option β) : Prop := ∀ A r, F A = some r → ∃ qs : List Qry, ∀ A', (∀ q ∈ qs, q.sub A A') → F A' = some r
theorem FS.const {β : Type} (x : Option β) : FS fun _ => x := fun A r h => ⟨[], fun _ _ => h⟩
theorem FS.bind {β γ : Type} {F : Ora → Option β} {G : β → Ora → Option γ} (hF : FS F) (hG : ∀ b, FS (G b)) : FS fun A => (F A).bind fun b => G b A := fun A r h => by
  obtain ⟨b, h1, h2⟩ := Option.bind_eq_some_iff.1 h
  obtain ⟨q1, H1⟩ := hF A b h1
  obtain ⟨q2, H2⟩ := hG b A r h2
  refine ⟨q1 ++ q2, fun A' hA => ?_⟩
  show (F A').bind _ = _
  rw [H1 A' fun q hq => hA q (List.mem_append_left _ hq), Option.bind_some]
  exact H2 A' fun q hq => hA q (List.mem_append_right _ hq)
theorem FS.fn (f : FuncId) (args : List V1) (ins : List AObj) : FS fun A => A.fn f args ins := fun A r h => ⟨[.fn f args ins], fun A' hA => hA _ (.head _) r h⟩
theorem FS.lp (f : FuncId) (id : Nat) (s : St) : FS fun A => A.lp f id s := fun A r h => ⟨[.lp f id s], fun A' hA => hA _ (.head _) r h⟩
def RM.obs {α : Type} (σ : St) : RM α → Option (α × List Nat × List Nat)
  | .ret a => some (a, [], [])
  | .fail => none
  | .slot t k => ((k (σ.slot t)).obs σ).map fun x => (x.1, t :: x.2.1, x.2.2)
  | .obj q k => ((k (σ.ob q)).obs σ).map fun x => (x.1, x.2.1, q :: x.2.2)
theorem obs_eq {α : Type} : ∀ m : RM α, m.obs σ = (m.val σ).bind fun a => some (a, m.sees σ)
  | .ret a => rfl
  | .fail => rfl
  | .slot t k => by
    simp only [RM.obs, RM.val, RM.sees, obs_eq (k (σ.slot t))]
    cases (k (σ.slot t)).val σ <;> rfl
  | .obj q k => by
    simp only [RM.obs, RM.val, RM.sees, obs_eq (k (σ.ob q))]
    cases (k (σ.ob q)).val σ <;> rfl
theorem val_obs {α : Type} (m : RM α) : m.val σ = (m.obs σ).bind fun x => some x.1 := by
  rw [obs_eq]
  cases m.val σ <;> rfl
abbrev Pre := List Nat × List Nat
def addp {α : Type} (p : Pre) (x : α × List Nat × List Nat) : α × List Nat × List Nat := (x.1, p.1 ++ x.2.1, p.2 ++ x.2.2)
theorem addp_addp {α : Type} (p q : Pre) (o : Option (α × List Nat × List Nat)) : (o.map (addp q)).map (addp p) = o.map (addp (p.1 ++ q.1, p.2 ++ q.2)) := by
  cases o with
  | none => rfl
  | some x => simp [addp]
theorem addp_nil {α : Type} (o : Option (α × List Nat × List Nat)) : o = o.map (addp ([], [])) := by
  cases o with
  | none => rfl
  | some x => rfl
def Uni {α β : Type} (σ : St) (F : (β → RM α) → RM α) : Prop := (∃ (b : β) (p : Pre), ∀ k, (F k).obs σ = ((k b).obs σ).map (addp p)) ∨ ∀ k, (F k).obs σ = none
theorem Uni.comp {α β γ : Type} {F : (β → RM α) → RM α} {G : β → (γ → RM α) → RM α} (hF : Uni σ F) (hG : ∀ b, Uni σ (G b)) : Uni σ fun k => F fun b => G b k := by
  rcases hF with ⟨b, p, hb⟩ | hn
  · rcases hG b with ⟨d, q, hd⟩ | hn
    · exact .inl ⟨d, (p.1 ++ q.1, p.2 ++ q.2), fun k => by rw [hb, hd, addp_addp]⟩
    · exact .inr fun k => by rw [hb, hn]; rfl
  · exact .inr fun k => hn _
theorem Uni.fail {α β : Type} : Uni (α := α) (β := β) σ fun _ => .fail := .inr fun _ => rfl
theorem Uni.ret {α β : Type} (b : β) : Uni (α := α) σ fun k => k b := .inl ⟨b, ([], []), fun _ => addp_nil _⟩
theorem Uni.obj {α β : Type} (q : Nat) (F : Nat × Option AObj → (β → RM α) → RM α) (h : Uni σ (F (σ.ob q))) : Uni σ fun k => .obj q fun r => F r k := by
  rcases h with ⟨b, p, hb⟩ | hn
  · refine .inl ⟨b, (p.1, q :: p.2), fun k => ?_⟩
    show ((F (σ.ob q) k).obs σ).map _ = _
    rw [hb]
    cases (k b).obs σ <;> rfl
  · refine .inr fun k => ?_
    show ((F (σ.ob q) k).obs σ).map _ = _
    rw [hn]; rfl
theorem uni_opnd {α β : Type} (x : Operand) (F : AV → (β → RM α) → RM α) (h : Uni σ (F (absO σ x))) : Uni σ fun k => opnd x fun u => F u k := by
  cases x with
  | tmp t =>
    rcases h with ⟨b, p, hb⟩ | hn
    · refine .inl ⟨b, (t :: p.1, p.2), fun k => ?_⟩
      show ((F (absO σ (.tmp t)) k).obs σ).map _ = _
      rw [hb]
      cases (k b).obs σ <;> rfl
    · refine .inr fun k => ?_
      show ((F (absO σ (.tmp t)) k).obs σ).map _ = _
      rw [hn]; rfl
  | const v => exact h
  | func f => exact h
  | global g => exact .fail
theorem uni_opnds {α : Type} : ∀ l : List Operand, Uni (α := α) σ fun k => opnds l k
  | [] => .ret _
  | x :: l => uni_opnd x (fun u k => match u with | .one y => opnds l fun ys => k (y :: ys) | .tup _ => .fail) (by
      cases absO σ x with
      | one y => exact Uni.comp (F := fun k => opnds l k) (G := fun ys k => k (y :: ys)) (uni_opnds l) fun ys => .ret _
      | tup q => exact .fail)
def mk2 (p : PV) (us : List Upd) : PV × List Upd := (p, us)
def mk3 (x : At) (us : List Upd) (S : List Frm) : At × List Upd × List Frm := (x, us, S)
theorem uni_atPV {α : Type} (e : Nat) (x : At) : Uni (α := α) σ fun (k : PV × List Upd → RM α) => atPV e x fun p us => k (p, us) := by
  cases x with
  | pv p => exact .ret (mk2 p [])
  | nil => exact .ret (mk2 (.list e []) [])
  | any => exact .fail
  | eptr q g j o => exact .fail
  | tail q g j => exact .fail
  | row q g =>
    refine Uni.obj q (fun r (k : PV × List Upd → RM α) => match gone g r with
      | some (.row own e' xs) => if own = true then k (mk2 (.list e' xs) [(q, g, some (.row false e' xs))]) else k (mk2 (.list e' xs) [])
      | some (.view e' xs) => k (mk2 (.list e' xs) [])
      | _ => .fail) ?_
    generalize gone g (σ.ob q) = o
    rcases o with _ | ⟨_ | _ | ⟨own, e', xs⟩ | ⟨e', xs⟩ | _⟩
    · exact .fail
    · exact .fail
    · exact .fail
    · cases own
      · exact .ret (mk2 (.list e' xs) [])
      · exact .ret (mk2 (.list e' xs) [(q, g, some (.row false e' xs))])
    · exact .ret (mk2 (.list e' xs) [])
    · exact .fail
  | ptr q g off =>
    by_cases hlt : off < cloN
    case neg =>
      have e1 : (fun (k : PV × List Upd → RM α) => atPV e (.ptr q g off) fun p us => k (p, us)) = fun _ => .fail := by
        funext k
        exact if_neg hlt
      rw [e1]
      exact .fail
    have e1 : (fun (k : PV × List Upd → RM α) => atPV e (.ptr q g off) fun p us => k (p, us)) = fun (k : PV × List Upd → RM α) => .obj q fun r => match gone g r with
      | some (.fro cells) => k (mk2 (.ref (cells.drop off)) [])
      | _ => .fail := by
      funext k
      exact if_pos hlt
    rw [e1]
    refine Uni.obj q (fun r (k : PV × List Upd → RM α) => match gone g r with
      | some (.fro cells) => k (mk2 (.ref (cells.drop off)) [])
      | _ => .fail) ?_
    generalize gone g (σ.ob q) = o
    rcases o with _ | ⟨_ | cells | _ | _ | _⟩
    · exact .fail
    · exact .fail
    · exact .ret (mk2 (.ref (cells.drop off)) [])
    · exact .fail
    · exact .fail
    · exact .fail
theorem uni_canL {α : Type} {f : CM → List Frm → At → (At → List Upd → List Frm → RM α) → RM α} (hf : ∀ m S x, Uni (α := α) σ fun (k : At × List Upd × List Frm → RM α) => f m S x fun x' us S' => k (x', us, S')) :
    ∀ (l : List At) (ms : List CM) (S : List Frm), Uni (α := α) σ fun (k : List At × List Upd × List Frm → RM α) => canL f ms S l fun l' us S' => k (l', us, S')
  | [], ms, S => .ret (([], [], S) : List At × List Upd × List Frm)
  | x :: l, ms, S => Uni.comp (F := fun (k : At × List Upd × List Frm → RM α) => f (ms.headD .auto) S x fun x' us S' => k (x', us, S')) (G := fun b k => canL f ms.tail b.2.2 l fun l' us' S2 => k (b.1 :: l', b.2.1 ++ us', S2)) (hf _ _ _)
      fun b => Uni.comp (F := fun (k : List At × List Upd × List Frm → RM α) => canL f ms.tail b.2.2 l fun l' us S' => k (l', us, S')) (G := fun d k => k (b.1 :: d.1, b.2.1 ++ d.2.1, d.2.2)) (uni_canL hf l _ _) fun d => .ret (b.1 :: d.1, b.2.1 ++ d.2.1, d.2.2)
theorem uni_canAt {α : Type} (N : Nms) : ∀ (d : Nat) (m : CM) (S : List Frm) (x : At), Uni (α := α) σ fun (k : At × List Upd × List Frm → RM α) => canAt N d m S x fun x' us S' => k (mk3 (x') (us) (S')) := by
  have plain : ∀ (m : CM) (S : List Frm) (x : At), (∀ q g off, x ≠ .ptr q g off) → Uni (α := α) σ fun (k : At × List Upd × List Frm → RM α) => canAt N 0 m S x fun x' us S' => k (mk3 (x') (us) (S')) := by
    intro m S x hx
    cases x with
    | pv p => exact .ret (mk3 (.pv p) ([]) (S))
    | any => exact .ret (mk3 (.any) ([]) (S))
    | eptr q g j o => exact .ret (mk3 (.any) ([]) (S))
    | tail q g j =>
      show Uni σ fun (k : At × List Upd × List Frm → RM α) => match findS q g 0 S with
        | some i => k (mk3 (.tail (N.nm i) 0 j) ([]) (S))
        | none => k (mk3 (.tail (N.nm S.length) 0 j) ([]) (S ++ [.obj q g]))
      cases findS q g 0 S with
      | some i => exact .ret (mk3 (.tail (N.nm i) 0 j) ([]) (S))
      | none => exact .ret (mk3 (.tail (N.nm S.length) 0 j) ([]) (S ++ [.obj q g]))
    | ptr q g off => exact absurd rfl (hx q g off)
    | nil =>
      cases m with
      | auto => exact .ret (mk3 (.nil) ([]) (S))
      | ptr ms => exact .ret (mk3 (.nil) ([]) (S))
      | own e => exact .ret (mk3 (.row (N.nm S.length) 0) ([]) (S ++ [.nil e]))
      | pv e => exact .ret (mk3 (.pv (.list e [])) ([]) (S))
    | row q g =>
      have own : Uni (α := α) σ fun (k : At × List Upd × List Frm → RM α) => match findS q g 0 S with
          | some i => k (mk3 (.row (N.nm i) 0) ([]) (S))
          | none => k (mk3 (.row (N.nm S.length) 0) ([]) (S ++ [.obj q g])) := by
        cases findS q g 0 S with
        | some i => exact .ret (mk3 (.row (N.nm i) 0) ([]) (S))
        | none => exact .ret (mk3 (.row (N.nm S.length) 0) ([]) (S ++ [.obj q g]))
      cases m with
      | auto => exact own
      | ptr ms => exact own
      | own e => exact own
      | pv e => exact Uni.comp (F := fun (k : PV × List Upd → RM α) => atPV e (.row q g) fun p us => k (p, us)) (G := fun b k => k (mk3 (.pv b.1) (b.2) (S))) (uni_atPV e _) fun b => .ret (mk3 (.pv b.1) (b.2) (S))
  intro d
  induction d with
  | zero =>
    intro m S x
    cases x with
    | ptr q g off =>
      show Uni σ fun (k : At × List Upd × List Frm → RM α) => match findS q g 0 S with
        | some i => k (mk3 (.ptr (N.nm i) 0 off) ([]) (S))
        | none => .fail
      cases findS q g 0 S with
      | some i => exact .ret (mk3 (.ptr (N.nm i) 0 off) ([]) (S))
      | none => exact .fail
    | pv p => exact plain m S (.pv p) (by simp)
    | any => exact plain m S (.any) (by simp)
    | eptr q g j o => exact plain m S (.eptr q g j o) (by simp)
    | tail q g j => exact plain m S (.tail q g j) (by simp)
    | nil => exact plain m S (.nil) (by simp)
    | row q g => exact plain m S (.row q g) (by simp)
  | succ d ih =>
    intro m S x
    cases x with
    | ptr q g off =>
      show Uni σ fun (k : At × List Upd × List Frm → RM α) => match findS q g 0 S with
        | some i => k (mk3 (.ptr (N.nm i) 0 off) ([]) (S))
        | none => .obj q fun r => match gone g r with
          | some (.blk cells) => canL (canAt N d) m.sub S cells fun cells' us S' => k (mk3 (.ptr (N.nm S'.length) 0 off) (us) (S' ++ [.blk q g cells']))
          | some (.fro cells) => if off < cloN then k (mk3 (.pv (.ref (cells.drop off))) ([]) (S)) else .fail
          | some (.map _) => k (mk3 (.ptr (N.nm S.length) 0 off) ([]) (S ++ [.obj q g]))
          | _ => .fail
      cases findS q g 0 S with
      | some i => exact .ret (mk3 (.ptr (N.nm i) 0 off) ([]) (S))
      | none =>
        refine Uni.obj q (fun r (k : At × List Upd × List Frm → RM α) => match gone g r with
          | some (.blk cells) => canL (canAt N d) m.sub S cells fun cells' us S' => k (mk3 (.ptr (N.nm S'.length) 0 off) (us) (S' ++ [.blk q g cells']))
          | some (.fro cells) => if off < cloN then k (mk3 (.pv (.ref (cells.drop off))) ([]) (S)) else .fail
          | some (.map _) => k (mk3 (.ptr (N.nm S.length) 0 off) ([]) (S ++ [.obj q g]))
          | _ => .fail) ?_
        generalize gone g (σ.ob q) = o
        rcases o with _ | ⟨cells | cells | _ | _ | _⟩
        · exact .fail
        · exact Uni.comp (F := fun (k : List At × List Upd × List Frm → RM α) => canL (canAt N d) m.sub S cells fun l' us S' => k (l', us, S')) (G := fun b k => k (mk3 (.ptr (N.nm b.2.2.length) 0 off) (b.2.1) (b.2.2 ++ [.blk q g b.1])))
            (uni_canL (fun m S x => ih m S x) cells _ _) fun b => .ret (mk3 (.ptr (N.nm b.2.2.length) 0 off) (b.2.1) (b.2.2 ++ [.blk q g b.1]))
        · by_cases hlt : off < cloN
          · simp only [if_pos hlt]
            exact .ret (mk3 (.pv (.ref (cells.drop off))) ([]) (S))
          · simp only [if_neg hlt]
            exact .fail
        · exact .fail
        · exact .fail
        · exact .ret (mk3 (.ptr (N.nm S.length) 0 off) ([]) (S ++ [.obj q g]))
    | pv p => exact plain m S (.pv p) (by simp)
    | any => exact plain m S (.any) (by simp)
    | eptr q g j o => exact plain m S (.eptr q g j o) (by simp)
    | tail q g j => exact plain m S (.tail q g j) (by simp)
    | nil => exact plain m S (.nil) (by simp)
    | row q g => exact plain m S (.row q g) (by simp)
theorem uni_canV {α : Type} (N : Nms) (ms : List CM) (S : List Frm) (y : V1) : Uni (α := α) σ fun (k : V1 × List Upd × List Frm → RM α) => canV N ms S y fun y' us S' => k (y', us, S') := by
  cases y with
  | «at» x => exact Uni.comp (F := fun (k : At × List Upd × List Frm → RM α) => canAt N 4 (ms.headD .auto) S x fun x' us S' => k (x', us, S')) (G := fun b (k : V1 × List Upd × List Frm → RM α) => k (V1.at b.1, b.2)) (uni_canAt N _ _ _ _) fun b => .ret (V1.at b.1, b.2)
  | agg l => exact Uni.comp (F := fun (k : List At × List Upd × List Frm → RM α) => canL (canAt N 4) ms S l fun x' us S' => k (x', us, S')) (G := fun b (k : V1 × List Upd × List Frm → RM α) => k (V1.agg b.1, b.2)) (uni_canL (fun m S x => uni_canAt N _ m S x) l _ _) fun b => .ret (V1.agg b.1, b.2)
theorem uni_canVs {α : Type} (N : Nms) : ∀ (l : List V1) (mss : List (List CM)) (S : List Frm), Uni (α := α) σ fun (k : List V1 × List Upd × List Frm → RM α) => canVs N mss S l fun l' us S' => k (l', us, S')
  | [], mss, S => .ret (([], [], S) : List V1 × List Upd × List Frm)
  | y :: l, mss, S => Uni.comp (F := fun (k : V1 × List Upd × List Frm → RM α) => canV N (mss.headD []) S y fun x' us S' => k (x', us, S')) (G := fun b k => canVs N mss.tail b.2.2 l fun l' us' S2 => k (b.1 :: l', b.2.1 ++ us', S2)) (uni_canV N _ _ _)
      fun b => Uni.comp (F := fun (k : List V1 × List Upd × List Frm → RM α) => canVs N mss.tail b.2.2 l fun l' us S' => k (l', us, S')) (G := fun d k => k (b.1 :: d.1, b.2.1 ++ d.2.1, d.2.2)) (uni_canVs N l _ _) fun d => .ret (b.1 :: d.1, b.2.1 ++ d.2.1, d.2.2)
def colP : List Frm → List Nat
  | [] => []
  | .nil _ :: l => colP l
  | .obj q _ :: l => q :: colP l
  | .blk q _ _ :: l => q :: colP l
theorem obs_collect {α : Type} {us : List Upd} : ∀ {l : List Frm} {k : List (Option AObj) → RM α}, (collect us l k).obs σ = ((k (l.map (Frm.obOf (σ.lays us).ob))).obs σ).map (addp ([], colP l))
  | [], k => addp_nil _
  | .nil e :: l, k => obs_collect (l := l)
  | .obj q g :: l, k => by
    simp only [collect, RM.obs]
    rw [obs_collect (l := l), ← ob_final, Option.map_map]
    rfl
  | .blk q g cells :: l, k => by
    simp only [collect, RM.obs]
    rw [obs_collect (l := l), ← ob_final, Option.map_map]
    rfl
theorem FS.congr {β : Type} {F G : Ora → Option β} (h : ∀ A, F A = G A) (hG : FS G) : FS F := by
  have : F = G := funext h
  rw [this]
  exact hG
theorem FS.map {β γ : Type} {F : Ora → Option β} (g : β → γ) (hF : FS F) : FS fun A => (F A).map g := FS.congr (fun A => by cases F A <;> rfl) (FS.bind hF fun b => FS.const (some (g b)))
theorem fs_body (tab : Nat → Option Ty) (fns : FuncId → Bool) (M : Modes) (dst : Option Nat) (args : List Operand) (tys : List Nat) (fid : FuncId) (extra : List V1) (caps : List PV) : FS fun A => (absBody tab fns M A.fn dst args tys fid extra caps).obs σ := by
  let leaf : FuncId → List PV → List V1 × List Upd × List Frm → Hand → RM Eff := fun fid caps b H => collect b.2.1 b.2.2 fun os => match allSome os with
    | none => .fail
    | some ins => match H fid (b.1 ++ caps.map fun p => .at (.pv p)) ins with
      | none => .fail
      | some (res, fin) => bsRM (dst.getD 999) (keysN b.2.2 fin.length) 0 fun bs =>
        if distinct (bs.map (·.1)) = true ∧ distinct (b.2.2.filterMap Frm.src) = true then .ret ⟨backAV (bsAt bs) fin.length res, b.2.1 ++ backU (bsAt bs) fin.length fin 0⟩ else .fail
  have fleaf : ∀ fid caps b, FS fun A => (leaf fid caps b A.fn).obs σ := fun fid caps b => by
    refine FS.congr (fun A => obs_collect) (FS.map _ ?_)
    cases allSome (b.2.2.map (Frm.obOf (σ.lays b.2.1).ob)) with
    | none => exact FS.const none
    | some ins =>
      refine FS.congr (G := fun A => (A.fn fid (b.1 ++ caps.map fun p => .at (.pv p)) ins).bind fun r => (bsRM (dst.getD 999) (keysN b.2.2 r.2.length) 0 fun bs =>
        if distinct (bs.map (·.1)) = true ∧ distinct (b.2.2.filterMap Frm.src) = true then RM.ret (⟨backAV (bsAt bs) r.2.length r.1, b.2.1 ++ backU (bsAt bs) r.2.length r.2 0⟩ : Eff) else .fail).obs σ) (fun A => ?_) (FS.bind (FS.fn _ _ _) fun b => FS.const _)
      dsimp only
      cases A.fn fid (b.1 ++ caps.map fun p => .at (.pv p)) ins with
      | none => rfl
      | some r => rfl
  have whole : ∀ (fid : FuncId) (caps : List PV), Uni (α := Eff) σ fun (k : List V1 × List Upd × List Frm → RM Eff) => opnds args fun ys => canVs callN (modesOf tab M fid tys 0) [] (ys ++ extra) fun ys' us L => k (ys', us, L) := fun fid caps =>
    Uni.comp (F := fun k => opnds args k) (G := fun ys (k : List V1 × List Upd × List Frm → RM Eff) => canVs callN (modesOf tab M fid tys 0) [] (ys ++ extra) fun ys' us L => k (ys', us, L)) (uni_opnds _) fun ys => uni_canVs callN (ys ++ extra) _ _
  unfold absBody
  by_cases hfn : fns fid = true
  · rcases whole fid caps with ⟨b, p2, hb⟩ | hn
    · refine FS.congr (fun A => ?_) (FS.map (addp p2) (fleaf fid caps b))
      rw [if_pos hfn]
      exact hb fun b => leaf fid caps b A.fn
    · refine FS.congr (fun A => ?_) (FS.const none)
      rw [if_pos hfn]
      exact hn fun b => leaf fid caps b A.fn
  · refine FS.congr (fun A => ?_) (FS.const none)
    rw [if_neg hfn]
    rfl
theorem fs_call (tab : Nat → Option Ty) (fns : FuncId → Bool) (M : Modes) (dst : Option Nat) (f : Operand) (args : Array Operand) (tys : Array TypeId) : FS fun A => (absCall tab fns M A.fn dst f args tys).obs σ := by
  have top : Uni (α := Eff) σ fun (k : AV → RM Eff) => opnd f k := uni_opnd f (fun u k => k u) (.ret _)
  rcases top with ⟨u, p, hu⟩ | hn
  · refine FS.congr (fun A => hu _) (FS.map _ ?_)
    cases u with
    | tup l => exact FS.const none
    | one y =>
      cases y with
      | agg l => exact FS.const none
      | «at» x =>
        cases x with
        | pv q =>
          cases q with
          | fn fid caps => exact fs_body tab fns M dst _ _ fid [] caps
          | int k n => exact FS.const none
          | bool b => exact FS.const none
          | str s => exact FS.const none
          | list e xs => exact FS.const none
          | ref cells => exact FS.const none
        | row k g => exact FS.const none
        | ptr k g off =>
          by_cases hlo : 2 * cloN ≤ off
          · by_cases hv : isVar (gone g (σ.ob k)) = true
            · refine FS.congr (G := fun A => ((absBody tab fns M A.fn dst args.toList tys.toList (off / cloN - 2) [.at (.ptr k g (off % cloN))] []).obs σ).map fun (x : Eff × List Nat × List Nat) => (x.1, x.2.1, k :: x.2.2)) (fun A => ?_) (FS.map _ (fs_body tab fns M dst _ _ _ _ _))
              dsimp only
              rw [if_pos hlo]
              simp only [RM.obs]
              rw [if_pos hv]
            · refine FS.congr (fun A => ?_) (FS.const none)
              dsimp only
              rw [if_pos hlo]
              simp only [RM.obs]
              rw [if_neg hv]
              rfl
          · refine FS.congr (fun A => ?_) (FS.const none)
            dsimp only
            rw [if_neg hlo]
            rfl
        | eptr k g j off => exact FS.const none
        | tail k g j => exact FS.const none
        | nil => exact FS.const none
        | any => exact FS.const none
  · exact FS.congr (fun A => hn _) (FS.const none)
theorem fs_op (E : Env) (o : Oper) : FS fun A => (absOp E A.fn o).obs σ := by
  by_cases hc : ∃ cl f, o.op = .call cl ∧ cl.callee = .value f
  · obtain ⟨cl, f, ho, hcl⟩ := hc
    have e : ∀ A : Ora, absOp E A.fn o = absCall E.tab E.fns E.M A.fn o.dst f cl.args cl.argTypes := fun A => by
      unfold absOp
      rw [ho]
      dsimp only
      rw [hcl]
    exact FS.congr (fun A => by rw [e]) (fs_call (σ := σ) E.tab E.fns E.M o.dst f cl.args cl.argTypes)
  · have e : ∀ H H' : Hand, absOp E H o = absOp E H' o := fun H H' => by
      unfold absOp
      split <;> try rfl
      rename_i cl ho
      split <;> try rfl
      rename_i f hcl
      exact absurd ⟨cl, f, ho, hcl⟩ hc
    exact FS.congr (fun A => by rw [e A.fn fun _ _ _ => none]) (FS.const _)
theorem fs_g (E : Env) (ops : Array Oper) (o : Oper) : FS fun A => (absG E A.fn ops o).obs σ := by
  cases hg : o.guard with
  | none => exact FS.congr (fun A => by unfold absG; rw [hg]) (fs_op (σ := σ) E o)
  | some q =>
    obtain ⟨j, want⟩ := q
    cases hs : (ops[j]?).bind (·.dst) with
    | none => exact FS.congr (fun A => by unfold absG; rw [hg]; dsimp only; rw [hs]; rfl) (FS.const none)
    | some s =>
      refine FS.congr (G := fun A => ((match σ.slot s with
        | .one (.at (.pv (.bool b))) => if b = want then absOp E A.fn o else .ret ⟨.tup [], []⟩
        | .tup [] => .ret ⟨.tup [], []⟩
        | _ => .fail).obs σ).map fun (x : Eff × List Nat × List Nat) => (x.1, s :: x.2.1, x.2.2)) (fun A => by unfold absG; rw [hg]; dsimp only; rw [hs]; rfl) (FS.map _ ?_)
      split
      · split
        · exact fs_op (σ := σ) E o
        · exact FS.const _
      · exact FS.const _
      · exact FS.const _
theorem fs_gval (E : Env) (ops : Array Oper) (o : Oper) : FS fun A => (absG E A.fn ops o).val σ := FS.congr (fun A => val_obs _) (FS.bind (fs_g E ops o) fun b => FS.const _)
theorem fs_ops (E : Env) (ops : Array Oper) : ∀ (l : List Oper) (s : St), FS fun A => runOps E A.fn ops l s
  | [], s => FS.const _
  | o :: l, s => FS.congr (G := fun A => ((absG E A.fn ops o).val s).bind fun e => runOps E A.fn ops l (s.app o.dst e)) (fun A => by
      simp only [runOps]
      cases (absG E A.fn ops o).val s <;> rfl) (FS.bind (fs_gval E ops o) fun e => fs_ops E ops l _)
end Go.E2
