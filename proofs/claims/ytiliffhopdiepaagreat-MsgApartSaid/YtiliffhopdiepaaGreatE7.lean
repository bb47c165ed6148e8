/- The engine, part 7: VUp, VUp2. -/
import Derived.Test.YtiliffhopdiepaaGreatE4
namespace Go.E2
open Go.RowKit
set_option linter.unusedVariables false
set_option linter.unusedSimpArgs false
variable {σ σ' σ1 : St} {P : Program}
def atNames : At → List Nat
  | .row q _ => [q]
  | .ptr q _ _ => [q]
  | .eptr q _ _ _ => [q]
  | .tail q _ _ => [q]
  | _ => []
def v1Names (y : V1) : List Nat := (v1cells y).flatMap atNames
def avNames : AV → List Nat
  | .one y => v1Names y
  | .tup l => l.flatMap v1Names
def objNames : Option AObj → List Nat
  | some (.blk cells) => cells.flatMap atNames
  | _ => []
def Bnd (σ : St) (U : List Nat) (O : Nat → Prop) {α : Type} (m : RM α) : Prop := (∀ t ∈ (m.sees σ).1, t ∈ U) ∧ ∀ q ∈ (m.sees σ).2, O q
section
variable {U : List Nat} {O : Nat → Prop} {α : Type}
theorem bnd_ret {a : α} : Bnd σ U O (.ret a) := ⟨fun t h => by simp [RM.sees] at h, fun q h => by simp [RM.sees] at h⟩
theorem bnd_fail : Bnd σ U O (RM.fail : RM α) := ⟨fun t h => by simp [RM.sees] at h, fun q h => by simp [RM.sees] at h⟩
theorem bnd_slot {t : Nat} {k : AV → RM α} (ht : t ∈ U) (h : Bnd σ U O (k (σ.slot t))) : Bnd σ U O (.slot t k) :=
  ⟨fun s hs => by
    simp only [RM.sees] at hs
    rcases List.mem_cons.1 hs with rfl | hs
    · exact ht
    · exact h.1 s hs, h.2⟩
theorem bnd_obj {q : Nat} {k : Nat × Option AObj → RM α} (hq : O q) (h : Bnd σ U O (k (σ.ob q))) : Bnd σ U O (.obj q k) :=
  ⟨h.1, fun s hs => by
    simp only [RM.sees] at hs
    rcases List.mem_cons.1 hs with rfl | hs
    · exact hq
    · exact h.2 s hs⟩
theorem Bnd.mono {V : List Nat} {Q : Nat → Prop} {m : RM α} (h : Bnd σ U O m) (hU : ∀ t ∈ U, t ∈ V) (hO : ∀ q, O q → Q q) : Bnd σ V Q m := ⟨fun t ht => hU _ (h.1 t ht), fun q hq => hO _ (h.2 q hq)⟩
theorem bnd_opnd {x : Operand} {k : AV → RM α} (hx : ∀ t ∈ opT x, t ∈ U) (hk : Bnd σ U O (k (absO σ x))) : Bnd σ U O (opnd x k) := by
  cases x with
  | tmp t => exact bnd_slot (hx t (.head _)) hk
  | const v => exact hk
  | func f => exact hk
  | global g => exact bnd_fail
theorem bnd_opndInt {x : Option Operand} {k : Option Int → RM α} (hx : ∀ t ∈ optT x, t ∈ U) (hk : ∀ v, Bnd σ U O (k v)) : Bnd σ U O (opndInt x k) := by
  cases x with
  | none => exact hk _
  | some x =>
    refine bnd_opnd hx ?_
    split
    · exact hk _
    · exact bnd_fail
theorem bnd_atPV {e : Nat} {x : At} {k : PV → List (Nat × Nat × Option AObj) → RM α} (hn : ∀ n ∈ atNames x, O n) (h : ∀ p us, Bnd σ U O (k p us)) : Bnd σ U O (atPV e x k) := by
  unfold atPV
  split
  · exact h _ _
  · exact h _ _
  · refine bnd_obj (hn _ (.head _)) ?_
    split
    · split <;> exact h _ _
    · exact h _ _
    · exact bnd_fail
  · split
    · refine bnd_obj (hn _ (.head _)) ?_
      split
      · exact h _ _
      · exact bnd_fail
    · exact bnd_fail
  · exact bnd_fail
theorem bnd_atPVs : ∀ {l : List At} {es : List Nat} {k : List PV → List (Nat × Nat × Option AObj) → RM α}, (∀ x ∈ l, ∀ n ∈ atNames x, O n) → (∀ p us, Bnd σ U O (k p us)) → Bnd σ U O (atPVs es l k)
  | [], es, k, hn, h => h _ _
  | x :: l, es, k, hn, h => bnd_atPV (hn x (.head _)) fun p us => bnd_atPVs (fun y hy => hn y (.tail _ hy)) fun ps us' => h _ _
theorem bnd_retLoad (ty : Ty) (l : List At) : Bnd σ U O (retLoad ty l) := by
  unfold retLoad
  split
  · split
    · exact bnd_ret
    · split <;> first | exact bnd_ret | exact bnd_fail
  · exact bnd_fail
theorem bnd_sureAt {x : At} {k : RM α} (hn : ∀ n ∈ atNames x, O n) (h : Bnd σ U O k) : Bnd σ U O (sureAt x k) := by
  unfold sureAt
  split
  · exact h
  · exact h
  · exact bnd_fail
  rotate_left 2
  · exact bnd_fail
  rotate_left 1
  · refine bnd_obj (hn _ (.head _)) ?_
    split <;> first | exact h | exact bnd_fail
  · refine bnd_obj (hn _ (.head _)) ?_
    split <;> first | exact h | exact bnd_fail
  · refine bnd_obj (hn _ (.head _)) ?_
    split <;> first | exact h | exact bnd_fail
theorem bnd_sureAll {k : RM α} : ∀ {l : List At}, (∀ x ∈ l, ∀ n ∈ atNames x, O n) → Bnd σ U O k → Bnd σ U O (sureAll l k)
  | [], hn, h => h
  | x :: l, hn, h => bnd_sureAt (hn x (.head _)) (bnd_sureAll (fun y hy => hn y (.tail _ hy)) h)
theorem bnd_src {e : Nat} {y : AV} {k : List (List PV) → RM α} (hn : ∀ n ∈ avNames y, O n) (h : ∀ p, Bnd σ U O (k p)) : Bnd σ U O (srcRM e y k) := by
  unfold srcRM
  split
  · exact h _
  · split <;> first | exact h _ | exact bnd_fail
  · refine bnd_obj (hn _ (by simp [avNames, v1Names, v1cells, atNames])) ?_
    split
    · split <;> first | exact h _ | exact bnd_fail
    · split <;> first | exact h _ | exact bnd_fail
    · exact bnd_fail
  · exact bnd_fail
theorem bnd_srcB {st : Bool} {e : Nat} {y : AV} {k : List (List PV) → RM α} (hn : ∀ n ∈ avNames y, O n) (h : ∀ p, Bnd σ U O (k p)) : Bnd σ U O (srcB st e y k) := by
  cases st with
  | false => exact bnd_src hn h
  | true =>
    unfold srcB
    dsimp only
    split
    · split
      · exact h _
      · exact bnd_fail
    · exact bnd_fail
theorem names_one {y : V1} (h : ∀ n ∈ avNames (.one y), O n) : ∀ x ∈ v1cells y, ∀ n ∈ atNames x, O n := fun x hx n hn => h n (List.mem_flatMap.2 ⟨x, hx, hn⟩)
def opsT (l : List Operand) : List Nat := l.flatMap opT
theorem opsT_head {x : Operand} {l : List Operand} (h : ∀ t ∈ opsT (x :: l), t ∈ U) : (∀ t ∈ opT x, t ∈ U) ∧ ∀ t ∈ opsT l, t ∈ U :=
  ⟨fun t ht => h t (List.mem_flatMap.2 ⟨x, .head _, ht⟩), fun t ht => h t (by
    obtain ⟨y, hy, h2⟩ := List.mem_flatMap.1 ht
    exact List.mem_flatMap.2 ⟨y, .tail _ hy, h2⟩)⟩
def NamesIn (σ : St) (O : Nat → Prop) (l : List Operand) : Prop := ∀ x ∈ l, ∀ n ∈ avNames (absO σ x), O n
theorem bnd_parts {es : List Nat} : ∀ {l : List (Nat × Operand)} {s : Nat} {k : List (List PV) → List (Nat × Nat × Option AObj) → RM α}, (∀ t ∈ opsT (l.map (·.2)), t ∈ U) → NamesIn σ O (l.map (·.2)) → (∀ p us, Bnd σ U O (k p us)) → Bnd σ U O (partsRM es l s k)
  | [], s, k, hu, hn, h => h _ _
  | (i, x) :: l, s, k, hu, hn, h => by
    obtain ⟨h1, h2⟩ := opsT_head hu
    unfold partsRM
    split
    · refine bnd_opnd h1 ?_
      have := hn x (.head _)
      split
      · rename_i y e
        rw [e] at this
        exact bnd_atPVs (names_one this) fun p us => bnd_parts h2 (fun y hy => hn y (.tail _ hy)) fun ps us' => h _ _
      · exact bnd_fail
    · exact bnd_fail
theorem bnd_vals : ∀ {l : List (Nat × Operand)} {k : List (Nat × V1) → RM α}, (∀ t ∈ opsT (l.map (·.2)), t ∈ U) → NamesIn σ O (l.map (·.2)) → (∀ p, Bnd σ U O (k p)) → Bnd σ U O (valsRM l k)
  | [], k, hu, hn, h => h _
  | (i, x) :: l, k, hu, hn, h => by
    obtain ⟨h1, h2⟩ := opsT_head hu
    unfold valsRM
    refine bnd_opnd h1 ?_
    have := hn x (.head _)
    split
    · rename_i y e
      rw [e] at this
      exact bnd_sureAll (names_one this) (bnd_vals h2 (fun y hy => hn y (.tail _ hy)) fun p => h _)
    · exact bnd_fail
theorem bnd_caps : ∀ {l : List Operand} {k : List PV → List Upd → RM α}, (∀ t ∈ opsT l, t ∈ U) → NamesIn σ O l → (∀ p us, Bnd σ U O (k p us)) → Bnd σ U O (capsRM l k)
  | [], k, hu, hn, h => h _ _
  | x :: l, k, hu, hn, h => by
    obtain ⟨h1, h2⟩ := opsT_head hu
    unfold capsRM
    refine bnd_opnd h1 ?_
    have := hn x (.head _)
    split
    · rename_i y e
      rw [e] at this
      exact bnd_atPV (names_one this y (.head _)) fun p us => bnd_caps h2 (fun y hy => hn y (.tail _ hy)) fun ps us' => h _ _
    · exact bnd_fail
def Cl (σ : St) (O : Nat → Prop) : Nat → Nat → Prop
  | 0, q => O q
  | d + 1, q => O q ∧ ∀ n ∈ objNames (σ.ob q).2, Cl σ O d n
theorem Cl.here {d q : Nat} (h : Cl σ O d q) : O q := by
  cases d with
  | zero => exact h
  | succ d => exact h.1
def FrmIn (O : Nat → Prop) (S : List Frm) : Prop := ∀ f ∈ S, ∀ q, f.src = some q → O q
theorem FrmIn.add {S : List Frm} {f : Frm} (h : FrmIn O S) (hf : ∀ q, f.src = some q → O q) : FrmIn O (S ++ [f]) := fun g hg q hq => by
  rcases List.mem_append.1 hg with hg | hg
  · exact h g hg q hq
  · rw [List.mem_singleton.1 hg] at hq; exact hf q hq
theorem gone_names {g : Nat} {r : Nat × Option AObj} {cells : List At} (h : gone g r = some (.blk cells)) : objNames r.2 = cells.flatMap atNames := by
  unfold gone at h
  split at h
  · rw [h]; rfl
  · cases h
theorem bnd_canL {f : CM → List Frm → At → (At → List Upd → List Frm → RM α) → RM α} {C : Nat → Prop} (hf : ∀ m S x k, FrmIn O S → (∀ n ∈ atNames x, C n) → (∀ x' us S', FrmIn O S' → Bnd σ U O (k x' us S')) → Bnd σ U O (f m S x k)) :
    ∀ {l : List At} {ms : List CM} {S : List Frm} {k : List At → List Upd → List Frm → RM α}, FrmIn O S → (∀ x ∈ l, ∀ n ∈ atNames x, C n) → (∀ l' us S', FrmIn O S' → Bnd σ U O (k l' us S')) → Bnd σ U O (canL f ms S l k)
  | [], ms, S, k, hS, hl, hk => hk _ _ _ hS
  | x :: l, ms, S, k, hS, hl, hk => hf _ _ _ _ hS (hl x (.head _)) fun x' us S1 h1 => bnd_canL hf h1 (fun y hy => hl y (.tail _ hy)) fun l' us' S2 h2 => hk _ _ _ h2
theorem bnd_canAt (N : Nms) : ∀ (d : Nat) (m : CM) (S : List Frm) (x : At) (k : At → List Upd → List Frm → RM α), FrmIn O S → (∀ n ∈ atNames x, Cl σ O d n) → (∀ x' us S', FrmIn O S' → Bnd σ U O (k x' us S')) → Bnd σ U O (canAt N d m S x k)
  | 0, m, S, x, k, hS, hx, hk => by
    unfold canAt
    split
    · exact hk _ _ _ hS
    · exact hk _ _ _ hS
    · exact hk _ _ _ hS
    · rename_i q g j
      split
      · exact hk _ _ _ hS
      · exact hk _ _ _ (hS.add fun q' hq => by cases hq; exact (hx q (.head _)).here)
    · split
      · exact hk _ _ _ (hS.add fun q hq => by cases hq)
      · exact hk _ _ _ hS
      · exact hk _ _ _ hS
    · rename_i q g
      split
      · exact bnd_atPV (fun n hn => (hx n hn).here) fun p us => hk _ _ _ hS
      · split
        · exact hk _ _ _ hS
        · exact hk _ _ _ (hS.add fun q' hq => by cases hq; exact (hx q (.head _)).here)
    · split
      · exact hk _ _ _ hS
      · exact bnd_fail
  | d + 1, m, S, x, k, hS, hx, hk => by
    unfold canAt
    split
    · exact hk _ _ _ hS
    · exact hk _ _ _ hS
    · exact hk _ _ _ hS
    · rename_i q g j
      split
      · exact hk _ _ _ hS
      · exact hk _ _ _ (hS.add fun q' hq => by cases hq; exact (hx q (.head _)).here)
    · split
      · exact hk _ _ _ (hS.add fun q hq => by cases hq)
      · exact hk _ _ _ hS
      · exact hk _ _ _ hS
    · rename_i q g
      split
      · exact bnd_atPV (fun n hn => (hx n hn).here) fun p us => hk _ _ _ hS
      · split
        · exact hk _ _ _ hS
        · exact hk _ _ _ (hS.add fun q' hq => by cases hq; exact (hx q (.head _)).here)
    · rename_i q g off
      split
      · exact hk _ _ _ hS
      · obtain ⟨hq, hin⟩ := hx q (.head _)
        refine bnd_obj hq ?_
        split
        · rename_i cells hc
          rw [gone_names hc] at hin
          exact bnd_canL (bnd_canAt N d) hS (fun y hy n hn => hin n (List.mem_flatMap.2 ⟨y, hy, hn⟩)) fun l' us S' h' => hk _ _ _ (h'.add fun q' hq' => by cases hq'; exact hq)
        · split
          · exact hk _ _ _ hS
          · exact bnd_fail
        · exact hk _ _ _ (hS.add fun q' hq' => by cases hq'; exact hq)
        · exact bnd_fail
theorem bnd_canV (N : Nms) {ms : List CM} {S : List Frm} {y : V1} {k : V1 → List Upd → List Frm → RM α} (hS : FrmIn O S) (hy : ∀ x ∈ v1cells y, ∀ n ∈ atNames x, Cl σ O 4 n) (hk : ∀ y' us S', FrmIn O S' → Bnd σ U O (k y' us S')) : Bnd σ U O (canV N ms S y k) := by
  unfold canV
  split
  · exact bnd_canAt N 4 _ _ _ _ hS (hy _ (.head _)) fun x' us S' h => hk _ _ _ h
  · exact bnd_canL (bnd_canAt N 4) hS hy fun l' us S' h => hk _ _ _ h
theorem bnd_canVs (N : Nms) : ∀ {l : List V1} {mss : List (List CM)} {S : List Frm} {k : List V1 → List Upd → List Frm → RM α}, FrmIn O S → (∀ y ∈ l, ∀ x ∈ v1cells y, ∀ n ∈ atNames x, Cl σ O 4 n) → (∀ l' us S', FrmIn O S' → Bnd σ U O (k l' us S')) → Bnd σ U O (canVs N mss S l k)
  | [], mss, S, k, hS, hl, hk => hk _ _ _ hS
  | y :: l, mss, S, k, hS, hl, hk => bnd_canV N hS (hl y (.head _)) fun y' us S1 h1 => bnd_canVs N h1 (fun z hz => hl z (.tail _ hz)) fun l' us' S2 h2 => hk _ _ _ h2
theorem bnd_collect {us : List Upd} : ∀ {L : List Frm} {k : List (Option AObj) → RM α}, FrmIn O L → (∀ os, Bnd σ U O (k os)) → Bnd σ U O (collect us L k)
  | [], k, hL, hk => hk _
  | .nil e :: l, k, hL, hk => bnd_collect (L := l) (fun f hf => hL f (.tail _ hf)) fun os => hk _
  | .obj q g :: l, k, hL, hk => bnd_obj (hL _ (.head _) q rfl) (bnd_collect (L := l) (fun f hf => hL f (.tail _ hf)) fun os => hk _)
  | .blk q g cells :: l, k, hL, hk => bnd_obj (hL _ (.head _) q rfl) (bnd_collect (L := l) (fun f hf => hL f (.tail _ hf)) fun os => hk _)
theorem bnd_bs {d : Nat} (hd : ∀ i, O (1000 * (i + 1) + d)) : ∀ {l : List (Option (Nat × Nat))} {i : Nat} {k : List (Nat × Nat) → RM α}, (∀ bs, Bnd σ U O (k bs)) → Bnd σ U O (bsRM d l i k)
  | [], i, k, hk => hk _
  | some x :: l, i, k, hk => bnd_bs (l := l) hd fun bs => hk _
  | none :: l, i, k, hk => bnd_obj (hd i) (bnd_bs (l := l) hd fun bs => hk _)
theorem bnd_opnds : ∀ {l : List Operand} {k : List V1 → RM α} {Q : V1 → Prop}, (∀ t ∈ opsT l, t ∈ U) → (∀ x ∈ l, ∀ y, absO σ x = .one y → Q y) → (∀ ys, (∀ y ∈ ys, Q y) → Bnd σ U O (k ys)) → Bnd σ U O (opnds l k)
  | [], k, Q, hu, hn, h => h _ (fun y hy => by cases hy)
  | x :: l, k, Q, hu, hn, h => by
    obtain ⟨h1, h2⟩ := opsT_head hu
    unfold opnds
    refine bnd_opnd h1 ?_
    have := hn x (.head _)
    split
    · rename_i y e
      exact bnd_opnds h2 (fun y hy => hn y (.tail _ hy)) fun ys hys => h _ fun z hz => by
        rcases List.mem_cons.1 hz with rfl | hz
        · exact this _ e
        · exact hys z hz
    · exact bnd_fail
theorem bnd_body {tab : Nat → Option Ty} {fns : FuncId → Bool} {M : Modes} {H : Hand} {dst : Option Nat} {args : List Operand} {tys : List Nat} {fid : FuncId} {extra : List V1} {caps : List PV} (h2 : ∀ t ∈ opsT args, t ∈ U)
    (hn : ∀ x ∈ args, ∀ n ∈ avNames (absO σ x), Cl σ O 4 n) (he : ∀ y ∈ extra, ∀ x ∈ v1cells y, ∀ n ∈ atNames x, Cl σ O 4 n) (hd : ∀ i, O (1000 * (i + 1) + dst.getD 999)) : Bnd σ U O (absBody tab fns M H dst args tys fid extra caps) := by
  unfold absBody
  split
  · refine bnd_opnds (Q := fun y => ∀ x ∈ v1cells y, ∀ n ∈ atNames x, Cl σ O 4 n) h2 (fun x hx y e z hz n hn' => hn x hx n (by rw [e]; exact List.mem_flatMap.2 ⟨z, hz, hn'⟩)) fun ys hys => ?_
    refine bnd_canVs _ (fun f hf => by cases hf) (fun y hy => ?_) fun ys' us L hL => bnd_collect hL fun os => ?_
    · rcases List.mem_append.1 hy with hy | hy
      · exact hys y hy
      · exact he y hy
    split
    · exact bnd_fail
    · split
      · exact bnd_fail
      · refine bnd_bs hd fun bs => ?_
        split
        · exact bnd_ret
        · exact bnd_fail
  · exact bnd_fail
theorem bnd_call {tab : Nat → Option Ty} {fns : FuncId → Bool} {M : Modes} {H : Hand} {dst : Option Nat} {f : Operand} {args : Array Operand} {tys : Array TypeId} (hu : ∀ t ∈ opsT (f :: args.toList), t ∈ U)
    (hn : ∀ x ∈ f :: args.toList, ∀ n ∈ avNames (absO σ x), Cl σ O 4 n) (hd : ∀ i, O (1000 * (i + 1) + dst.getD 999)) : Bnd σ U O (absCall tab fns M H dst f args tys) := by
  obtain ⟨h1, h2⟩ := opsT_head hu
  unfold absCall
  refine bnd_opnd h1 ?_
  have hf := hn f (.head _)
  generalize absO σ f = u at hf ⊢
  split
  · exact bnd_body h2 (fun x hx => hn x (.tail _ hx)) (fun y hy => by cases hy) hd
  · rename_i k g off
    have hk : Cl σ O 4 k := hf k (by simp [avNames, v1Names, v1cells, atNames])
    split
    · refine bnd_obj hk.here ?_
      split
      · refine bnd_body h2 (fun x hx => hn x (.tail _ hx)) (fun y hy x hx n hm => ?_) hd
        rw [List.mem_singleton.1 hy] at hx
        rw [List.mem_singleton.1 hx] at hm
        rw [List.mem_singleton.1 hm]
        exact hk
      · exact bnd_fail
    · exact bnd_fail
  · exact bnd_fail
theorem bnd_vars : ∀ {l : List Operand} {ess : List (List Nat)} {k : List PV → List Upd → List FV → RM α}, (∀ t ∈ opsT l, t ∈ U) → (∀ x ∈ l, ∀ n ∈ avNames (absO σ x), O n ∧ ∀ m ∈ objNames (σ.ob n).2, O m) → (∀ p us fs, Bnd σ U O (k p us fs)) → Bnd σ U O (varsRM ess l k)
  | [], ess, k, hu, hn, h => h _ _ _
  | x :: l, ess, k, hu, hn, h => by
    obtain ⟨h1, h2⟩ := opsT_head hu
    unfold varsRM
    refine bnd_opnd h1 ?_
    have := hn x (.head _)
    generalize absO σ x = u at this ⊢
    split
    · exact bnd_vars h2 (fun y hy => hn y (.tail _ hy)) fun ps us fs => h _ _ _
    · rename_i q g off
      obtain ⟨hq, hin⟩ := this q (by simp [avNames, v1Names, v1cells, atNames])
      split
      · refine bnd_obj hq ?_
        split
        · rename_i cells hc
          rw [gone_names hc] at hin
          exact bnd_atPVs (fun y hy n hm => hin n (List.mem_flatMap.2 ⟨y, hy, hm⟩)) fun pc us => bnd_vars h2 (fun y hy => hn y (.tail _ hy)) fun ps us' fs => h _ _ _
        · exact bnd_vars h2 (fun y hy => hn y (.tail _ hy)) fun ps us fs => h _ _ _
        · exact bnd_fail
      · exact bnd_fail
    · exact bnd_fail
end
theorem names_constAt (v : Value) : atNames (constAt v) = [] := by
  unfold constAt
  split <;> try rfl
  split <;> rfl
theorem names_constV (v : Value) : avNames (constV v) = [] := by
  unfold constV
  split
  · show ((_ : List At).flatMap atNames) = []
    rw [List.flatMap_eq_nil_iff]
    intro x hx
    obtain ⟨u, _, rfl⟩ := List.mem_map.1 hx
    exact names_constAt u
  · rfl
  · show atNames (constAt _) ++ [] = []
    rw [names_constAt]; rfl
def upUses (o : Oper) : Option (List Nat × Bool) := match o.op with
  | .store _ x y => some (opsT [x, y], false)
  | .alloc _ => some ([], false)
  | .box _ x => some (opsT [x], false)
  | .buildSlice _ _ parts => some (opsT (parts.toList.map (·.2)), false)
  | .build _ parts => some (opsT (parts.toList.map (·.2)), false)
  | .makeFunc _ _ captured => some (opsT captured.toList, true)
  | .makeMap _ none => some ([], false)
  | .mapUpdate _ x i y => some (opsT [x, i, y], false)
  | .makeSlice _ x y => some (opsT [x, y], false)
  | .call cl => match cl.callee with
    | .value f => some (opsT (f :: cl.args.toList), true)
    | .builtin .append => some (opsT cl.args.toList, false)
    | .builtin .clear => some (opsT cl.args.toList, false)
    | _ => (pureUses o).map (·, false)
  | _ => (pureUses o).map (·, false)
section
variable {U : List Nat} {O C : Nat → Prop}
theorem names_opnd (h : ∀ t ∈ U, ∀ n ∈ avNames (σ.slot t), C n) {x : Operand} (hx : ∀ t ∈ opT x, t ∈ U) : ∀ n ∈ avNames (absO σ x), C n := by
  cases x with
  | tmp t => exact h t (hx t (.head _))
  | const v => intro n hn; rw [show absO σ (.const v) = constV v from rfl, names_constV] at hn; cases hn
  | func f => intro n hn; cases hn
  | global g => intro n hn; cases hn
theorem names_opnds (h : ∀ t ∈ U, ∀ n ∈ avNames (σ.slot t), C n) {l : List Operand} (hl : ∀ t ∈ opsT l, t ∈ U) : ∀ x ∈ l, ∀ n ∈ avNames (absO σ x), C n := fun x hx => names_opnd h fun t ht => hl t (List.mem_flatMap.2 ⟨x, hx, ht⟩)
theorem hd_row {k g : Nat} (h : ∀ n ∈ avNames (.one (.at (.row k g))), O n) : O k := h k (by simp [avNames, v1Names, v1cells, atNames])
theorem hd_ptr {k g o : Nat} (h : ∀ n ∈ avNames (.one (.at (.ptr k g o))), O n) : O k := h k (by simp [avNames, v1Names, v1cells, atNames])
theorem hd_tail {k g j : Nat} (h : ∀ n ∈ avNames (.one (.at (.tail k g j))), O n) : O k := h k (by simp [avNames, v1Names, v1cells, atNames])
theorem hd_eptr {k g j o : Nat} (h : ∀ n ∈ avNames (.one (.at (.eptr k g j o))), O n) : O k := h k (by simp [avNames, v1Names, v1cells, atNames])
theorem bnd_move {x : Operand} (hx : ∀ t ∈ opT x, t ∈ U) : Bnd σ U O (absMove x) := bnd_opnd hx bnd_ret
theorem bnd_slice (tab : Nat → Option Ty) (t : Nat) (x : Operand) (lo hi : Option Operand) (hn : ∀ t ∈ opT x ++ (optT lo ++ optT hi), ∀ n ∈ avNames (σ.slot t), O n) : Bnd σ (opT x ++ (optT lo ++ optT hi)) O (absSlice tab t x lo hi) := by
  refine bnd_opnd (fun t h => by simp [h]) (bnd_opndInt (fun t h => by simp [h]) fun l => bnd_opndInt (fun t h => by simp [h]) fun h => ?_)
  have := names_opnd hn (x := x) (fun t h => by simp [h])
  generalize absO σ x = u at this ⊢
  split
  · exact bnd_fail
  · split
    · (repeat (first | exact bnd_ret | exact bnd_fail | exact bnd_retLoad _ _ | split))
    · split
      · exact bnd_fail
      · split
        · exact bnd_fail
        · split
          · refine bnd_atPV (fun n hn => this n (List.mem_flatMap.2 ⟨_, .head _, hn⟩)) fun p us => ?_
            (repeat (first | exact bnd_ret | exact bnd_fail | exact bnd_retLoad _ _ | split))
          · exact bnd_fail
theorem bnd_cut (tab : Nat → Option Ty) (t : Nat) (x : Operand) (lo hi : Option Operand) (hn : ∀ t ∈ opT x ++ (optT lo ++ optT hi), ∀ n ∈ avNames (σ.slot t), O n) : Bnd σ (opT x ++ (optT lo ++ optT hi)) O (absCut tab t x lo hi) := by
  refine bnd_opnd (fun t h => by simp [h]) (bnd_opndInt (fun t h => by simp [h]) fun l => bnd_opndInt (fun t h => by simp [h]) fun h => ?_)
  have := names_opnd hn (x := x) (fun t h => by simp [h])
  generalize absO σ x = u at this ⊢
  split
  · exact bnd_fail
  · split
    · exact bnd_fail
    · split
      · exact bnd_fail
      · split
        · split
          · exact bnd_fail
          · exact bnd_obj (hd_row this) (by (repeat (first | exact bnd_ret | exact bnd_fail | exact bnd_retLoad _ _ | split)))
        · split
          · exact bnd_fail
          · exact bnd_obj (hd_row this) (by (repeat (first | exact bnd_ret | exact bnd_fail | exact bnd_retLoad _ _ | split)))
        · exact bnd_fail
theorem bnd_pureOp (E : Env) (H : Hand) (o : Oper) (U : List Nat) (h : pureUses o = some U) (hn : ∀ t ∈ U, ∀ n ∈ avNames (σ.slot t), O n) : Bnd σ U O (absOp E H o) := by
  refine ⟨within_sees _ (wi_op E H o U h), ?_⟩
  refine (?_ : Bnd σ U O (absOp E H o)).2
  unfold pureUses at h
  unfold absOp
  split at h
  case h_1 x ho => cases h; rw [ho]; exact bnd_move fun _ h => h
  case h_2 x ho => cases h; rw [ho]; exact bnd_move fun _ h => h
  case h_3 x y z ho =>
    cases h; rw [ho]
    refine bnd_opnd (fun t h => by simp [h]) ?_
    split
    · split
      · exact bnd_move fun t h => by simp [h]
      · exact bnd_move fun t h => by simp [h]
    · exact bnd_fail
  case h_4 op t x y ty ho =>
    cases h
    rw [ho]
    refine bnd_opnd (fun t h => by simp [h]) ?_
    have a1 : ∀ t ∈ opT x, t ∈ opT x ++ opT y := fun t h => by simp [h]
    have a2 : ∀ t ∈ opT y, t ∈ opT x ++ opT y := fun t h => by simp [h]
    split
    · split
      · exact bnd_opnd a1 (bnd_opnd a2 (by (repeat (first | exact bnd_ret | exact bnd_fail | exact bnd_retLoad _ _ | split))))
      · exact bnd_opnd a1 (bnd_opnd a2 (by (repeat (first | exact bnd_ret | exact bnd_fail | exact bnd_retLoad _ _ | split))))
      · exact bnd_fail
    · split
      · refine bnd_opnd a1 (bnd_opnd a2 ?_)
        unfold eqS1 eqS2; (repeat (first | exact bnd_ret | exact bnd_fail | exact bnd_retLoad _ _ | split))
      · refine bnd_opnd a1 (bnd_opnd a2 ?_)
        unfold eqS1 eqS2; (repeat (first | exact bnd_ret | exact bnd_fail | exact bnd_retLoad _ _ | split))
      · exact bnd_fail
    · exact bnd_opnd a1 (bnd_opnd a2 (by (repeat (first | exact bnd_ret | exact bnd_fail | exact bnd_retLoad _ _ | split))))
  case h_5 op t x ho => cases h; rw [ho]; exact bnd_opnd (fun _ h => h) (by (repeat (first | exact bnd_ret | exact bnd_fail | exact bnd_retLoad _ _ | split)))
  case h_6 t x ho =>
    cases h; rw [ho]
    refine bnd_opnd (fun _ h => h) ?_
    have := names_opnd hn (x := x) (fun _ h => h)
    generalize absO σ x = u at this ⊢
    split
    · exact bnd_fail
    · split
      · split
        · exact bnd_obj (hd_ptr this) (by (repeat (first | exact bnd_ret | exact bnd_fail | exact bnd_retLoad _ _ | split)))
        · exact bnd_fail
      · (repeat (first | exact bnd_ret | exact bnd_fail | exact bnd_retLoad _ _ | split))
      · exact bnd_obj (hd_eptr this) (by (repeat (first | exact bnd_ret | exact bnd_fail | exact bnd_retLoad _ _ | split)))
      · exact bnd_fail
  case h_7 t x f ho =>
    cases h; rw [ho]
    refine bnd_opnd (fun _ h => h) ?_
    have := names_opnd hn (x := x) (fun _ h => h)
    generalize absO σ x = u at this ⊢
    split
    · exact bnd_fail
    · split
      · exact bnd_fail
      · split
        · exact bnd_fail
        · split
          · exact bnd_fail
          · split
            · split
              · exact bnd_obj (hd_ptr this) (by (repeat (first | exact bnd_ret | exact bnd_fail | exact bnd_retLoad _ _ | split)))
              · exact bnd_fail
            · exact bnd_obj (hd_eptr this) (by (repeat (first | exact bnd_ret | exact bnd_fail | exact bnd_retLoad _ _ | split)))
            · (repeat (first | exact bnd_ret | exact bnd_fail | exact bnd_retLoad _ _ | split))
            · exact bnd_fail
  case h_8 t x f ho => cases h; rw [ho]; exact bnd_opnd (fun _ h => h) (by (repeat (first | exact bnd_ret | exact bnd_fail | exact bnd_retLoad _ _ | split)))
  case h_9 t x i ho =>
    cases h; rw [ho]
    refine bnd_opnd (fun t h => by simp [h]) (bnd_opnd (fun t h => by simp [h]) ?_)
    have := names_opnd hn (x := x) (fun t h => by simp [h])
    generalize absO σ x = u at this ⊢
    split
    · exact bnd_fail
    · split
      · unfold absIndexArr
        split
        · split
          · exact bnd_fail
          · split
            · exact bnd_fail
            · split
              · exact bnd_fail
              · split
                · split
                  · exact bnd_obj (hd_ptr this) (by (repeat (first | exact bnd_ret | exact bnd_fail | exact bnd_retLoad _ _ | split)))
                  · exact bnd_fail
                · exact bnd_ret
                · exact bnd_fail
        · exact bnd_fail
      · split
        · exact bnd_fail
        · split
          · split
            · exact bnd_fail
            · split
              · (repeat (first | exact bnd_ret | exact bnd_fail | exact bnd_retLoad _ _ | split))
              · exact bnd_obj (hd_row this) (by (repeat (first | exact bnd_ret | exact bnd_fail | exact bnd_retLoad _ _ | split)))
              · exact bnd_obj (hd_tail this) (by (repeat (first | exact bnd_ret | exact bnd_fail | exact bnd_retLoad _ _ | split)))
              · exact bnd_fail
          · exact bnd_fail
  case h_10 t x i ho => cases h; rw [ho]; exact bnd_opnd (fun t h => by simp [h]) (bnd_opnd (fun t h => by simp [h]) (by (repeat (first | exact bnd_ret | exact bnd_fail | exact bnd_retLoad _ _ | split))))
  case h_11 s d x ho =>
    cases h; rw [ho]
    refine bnd_opnd (fun _ h => h) ?_
    split
    · exact bnd_opnd (fun _ h => h) (by (repeat (first | exact bnd_ret | exact bnd_fail | exact bnd_retLoad _ _ | split)))
    · exact bnd_opnd (fun _ h => h) (by (repeat (first | exact bnd_ret | exact bnd_fail | exact bnd_retLoad _ _ | split)))
    · exact bnd_opnd (fun _ h => h) (by (repeat (first | exact bnd_ret | exact bnd_fail | exact bnd_retLoad _ _ | split)))
  case h_12 x i ho => cases h; rw [ho]; exact bnd_opnd (fun _ h => h) (by (repeat (first | exact bnd_ret | exact bnd_fail | exact bnd_retLoad _ _ | split)))
  case h_13 cl ho =>
    rw [ho]
    dsimp only
    split at h
    case h_1 hc =>
      rw [hc]
      dsimp only
      split at h
      · rename_i x hx
        cases h
        try rw [hx]
        split
        · rename_i x' t he _
          cases he
          refine bnd_opnd (fun _ h => h) ?_
          have := names_opnd hn (x := x) (fun _ h => h)
          generalize absO σ x = u at this ⊢
          split
          · exact bnd_fail
          · split
            · (repeat (first | exact bnd_ret | exact bnd_fail | exact bnd_retLoad _ _ | split))
            · split
              · exact bnd_fail
              · split
                · exact bnd_ret
                · exact bnd_ret
                · exact bnd_obj (hd_row this) (by (repeat (first | exact bnd_ret | exact bnd_fail | exact bnd_retLoad _ _ | split)))
                · exact bnd_obj (hd_tail this) (by (repeat (first | exact bnd_ret | exact bnd_fail | exact bnd_retLoad _ _ | split)))
                · exact bnd_fail
        · exact bnd_fail
      · cases h
    case h_2 hc =>
      rw [hc]
      dsimp only
      split at h
      · rename_i x y hx
        cases h
        try rw [hx]
        exact bnd_opnd (fun t h => by simp [h]) (bnd_opnd (fun t h => by simp [h]) (by (repeat (first | exact bnd_ret | exact bnd_fail | exact bnd_retLoad _ _ | split))))
      · cases h
    case h_3 hc =>
      rw [hc]
      dsimp only
      split at h
      · rename_i x y hx
        cases h
        try rw [hx]
        exact bnd_opnd (fun t h => by simp [h]) (bnd_opnd (fun t h => by simp [h]) (by (repeat (first | exact bnd_ret | exact bnd_fail | exact bnd_retLoad _ _ | split))))
      · cases h
    case h_4 => cases h
  case h_14 t x lo hi ho =>
    cases h; rw [ho]
    refine bnd_opnd (fun t h => by simp [h]) ?_
    split
    · split
      · exact bnd_cut _ _ _ _ _ hn
      · exact bnd_slice _ _ _ _ _ hn
    · exact bnd_slice _ _ _ _ _ hn
  case h_15 t x i ho =>
    cases h; rw [ho]
    refine bnd_opnd (fun t h => by simp [h]) (bnd_opnd (fun t h => by simp [h]) ?_)
    have := names_opnd hn (x := x) (fun t h => by simp [h])
    generalize absO σ x = u at this ⊢
    split
    · split
      · split
        · exact bnd_obj (hd_ptr this) (by (repeat (first | exact bnd_ret | exact bnd_fail | exact bnd_retLoad _ _ | split)))
        · exact bnd_fail
      · exact bnd_fail
    · exact bnd_fail
  case h_16 x ho =>
    cases h; rw [ho]
    have := names_opnd hn (x := x) (fun t h => h)
    refine bnd_opnd (fun _ h => h) ?_
    generalize absO σ x = u at this ⊢
    split
    · exact bnd_ret
    · split
      · exact bnd_obj (hd_ptr this) (by (repeat (first | exact bnd_ret | exact bnd_fail | exact bnd_retLoad _ _ | split)))
      · exact bnd_fail
    · exact bnd_fail
  case h_17 => cases h
theorem bnd_up (E : Env) (H : Hand) (o : Oper) {b : Bool} (h : upUses o = some (U, b)) (hn : ∀ t ∈ U, ∀ n ∈ avNames (σ.slot t), O n ∧ (b = true → Cl σ O 4 n)) (hd : ∀ d, o.dst = some d → O d) (hb : b = true → ∀ i, O (1000 * (i + 1) + o.dst.getD 999)) : Bnd σ U O (absOp E H o) := by
  have hp : ∀ V, pureUses o = some V → V = U → Bnd σ U O (absOp E H o) := fun V h1 h2 => by
    subst h2; exact bnd_pureOp E H o V h1 fun t ht n hm => (hn t ht n hm).1
  have hn1 : ∀ t ∈ U, ∀ n ∈ avNames (σ.slot t), O n := fun t ht n hm => (hn t ht n hm).1
  unfold upUses at h
  split at h
  case h_1 t x y ho =>
    cases h
    unfold absOp; rw [ho]
    have n1 := names_opnds hn1 (l := [x, y]) (fun _ h => h) x (.head _)
    have n2 := names_opnds hn1 (l := [x, y]) (fun _ h => h) y (.tail _ (.head _))
    have n3 : NamesIn σ O [y] := fun z hz => by rw [List.mem_singleton.1 hz]; exact n2
    refine bnd_opnd (fun t h => by simp [opsT, h]) ?_
    split
    · refine bnd_opnd (fun t h => by simp [opsT, h]) ?_
      generalize absO σ x = u at n1 ⊢
      split
      · exact bnd_fail
      · split
        · refine bnd_parts (fun t h => by simp [opsT] at h ⊢; simp [h]) n3 fun xs us => ?_
          split
          · split
            · exact bnd_obj (hd_eptr n1) (by (repeat (first | exact bnd_ret | exact bnd_fail | exact bnd_retLoad _ _ | split)))
            · exact bnd_fail
          · exact bnd_fail
        · exact bnd_fail
    · refine bnd_opnd (fun t h => by simp [opsT, h]) (bnd_opnd (fun t h => by simp [opsT, h]) ?_)
      generalize absO σ x = u at n1 ⊢
      generalize absO σ y = v at n2 ⊢
      split
      · exact bnd_fail
      · split
        · split
          · exact bnd_sureAll (names_one n2) (bnd_obj (hd_ptr n1) (by (repeat (first | exact bnd_ret | exact bnd_fail | exact bnd_retLoad _ _ | split))))
          · exact bnd_fail
        · exact bnd_fail
  case h_2 t ho =>
    cases h
    unfold absOp; rw [ho]
    dsimp only
    unfold absAlloc
    split
    · rename_i d _ he _
      exact bnd_obj (hd _ he) bnd_ret
    · exact bnd_fail
  case h_3 t x ho =>
    cases h
    unfold absOp; rw [ho]
    refine bnd_opnd (fun t h => by simp [opsT, h]) ?_
    have n1 := names_opnds hn1 (l := [x]) (fun _ h => h) x (.head _)
    generalize absO σ x = u at n1 ⊢
    split
    · rename_i d _ he
      exact bnd_sureAll (names_one n1) (bnd_obj (hd _ he) bnd_ret)
    · exact bnd_fail
  case h_4 t n parts ho =>
    cases h
    unfold absOp; rw [ho]
    dsimp only
    unfold absBuildSlice
    split
    · rename_i d _ he _
      split
      · exact bnd_fail
      · split
        · exact bnd_fail
        · refine bnd_parts (fun _ h => h) (names_opnds hn1 (fun _ h => h)) fun xs us => ?_
          split
          · exact bnd_obj (hd _ he) bnd_ret
          · exact bnd_fail
    · exact bnd_fail
  case h_5 t parts ho =>
    cases h
    unfold absOp; rw [ho]
    dsimp only
    unfold absBuild
    split
    · split
      · refine bnd_vals (fun _ h => h) (names_opnds hn1 (fun _ h => h)) fun ys => ?_
        (repeat (first | exact bnd_ret | exact bnd_fail | exact bnd_retLoad _ _ | split))
      · unfold absBuildA
        split
        · refine bnd_vals (fun _ h => h) (names_opnds hn1 (fun _ h => h)) fun ys => ?_
          (repeat (first | exact bnd_ret | exact bnd_fail | exact bnd_retLoad _ _ | split))
        · exact bnd_fail
    · exact bnd_fail
  case h_6 fn first captured ho =>
    cases h
    unfold absOp; rw [ho]
    dsimp only
    have n2 : ∀ x ∈ captured.toList, ∀ n ∈ avNames (absO σ x), O n ∧ ∀ m ∈ objNames (σ.ob n).2, O m := fun x hx n hm => by
      obtain ⟨h1, h2⟩ := names_opnds (C := fun n => O n ∧ (true = true → Cl σ O 4 n)) hn (fun _ h => h) x hx n hm
      obtain ⟨_, h3⟩ := h2 rfl
      exact ⟨h1, fun m hm => (h3 m hm).here⟩
    split
    · split
      · unfold absMakeOwn
        split
        · rename_i x _ he1 he2
          rw [he2] at n2
          refine bnd_opnd (fun t h => by simp [opsT, he2, h]) ?_
          have n3 := n2 x (.head _)
          generalize absO σ x = u at n3 ⊢
          split
          · rename_i k g off
            split
            · exact bnd_obj (n3 k (by simp [avNames, v1Names, v1cells, atNames])).1 (by (repeat (first | exact bnd_ret | exact bnd_fail | exact bnd_retLoad _ _ | split)))
            · exact bnd_fail
          · exact bnd_fail
        · exact bnd_fail
      · unfold absMakeFrz
        split
        · refine bnd_vars (fun _ h => h) n2 fun ps us fs => ?_
          (repeat (first | exact bnd_ret | exact bnd_fail | exact bnd_retLoad _ _ | split))
        · exact bnd_fail
      · unfold absMakeFunc
        split
        · exact bnd_caps (fun _ h => h) (names_opnds hn1 (fun _ h => h)) fun ps us => bnd_ret
        · exact bnd_fail
    · exact bnd_fail
  case h_7 t ho =>
    cases h
    unfold absOp; rw [ho]
    dsimp only
    unfold absMakeMap
    split
    · rename_i d he
      split
      · exact bnd_obj (hd _ he) bnd_ret
      · exact bnd_fail
    · exact bnd_fail
  case h_8 t x i y ho =>
    cases h
    unfold absOp; rw [ho]
    refine bnd_opnd (fun t h => by simp [opsT, h]) (bnd_opnd (fun t h => by simp [opsT, h]) (bnd_opnd (fun t h => by simp [opsT, h]) ?_))
    have n1 := names_opnds hn1 (l := [x, i, y]) (fun _ h => h) x (.head _)
    generalize absO σ x = u at n1 ⊢
    split
    · split
      · split
        · exact bnd_obj (hd_ptr n1) (by (repeat (first | exact bnd_ret | exact bnd_fail | exact bnd_retLoad _ _ | split)))
        · exact bnd_fail
      · exact bnd_fail
    · exact bnd_fail
  case h_9 t x y ho =>
    cases h
    unfold absOp; rw [ho]
    refine bnd_opnd (fun t h => by simp [opsT, h]) (bnd_opnd (fun t h => by simp [opsT, h]) ?_)
    split
    · rename_i he _ _ _
      split
      · exact bnd_fail
      · split
        · exact bnd_fail
        · split
          · exact bnd_fail
          · split
            · exact bnd_obj (hd _ (by assumption)) bnd_ret
            · exact bnd_fail
    · exact bnd_fail
  case h_10 cl ho =>
    split at h
    case h_1 f hc =>
      cases h
      unfold absOp; rw [ho]
      dsimp only
      rw [hc]
      dsimp only
      exact bnd_call (fun _ h => h) (fun x hx n hm => (names_opnds (C := fun n => O n ∧ (true = true → Cl σ O 4 n)) hn (fun _ h => h) x hx n hm).2 rfl) (hb rfl)
    case h_2 hc =>
      cases h
      unfold absOp; rw [ho]
      dsimp only
      rw [hc]
      dsimp only
      split
      · rename_i x y t tx he1 he2
        rw [he1] at hn1
        have bndA : ∀ st, Bnd σ (opsT cl.args.toList) O (absAppend E.tab st t o.dst x y) := fun st => by
          refine bnd_opnd (fun t h => by rw [he1]; simp [opsT, h]) (bnd_opnd (fun t h => by rw [he1]; simp [opsT, h]) ?_)
          have n1 := names_opnds hn1 (l := [x, y]) (fun _ h => h) x (.head _)
          have n2 := names_opnds hn1 (l := [x, y]) (fun _ h => h) y (.tail _ (.head _))
          generalize absO σ x = u at n1 ⊢
          generalize absO σ y = v at n2 ⊢
          split
          · rename_i d _ he _
            split
            · exact bnd_fail
            · split
              · exact bnd_fail
              · refine bnd_srcB n2 fun ys => bnd_obj (hd _ he) ?_
                split
                · (repeat (first | exact bnd_ret | exact bnd_fail | exact bnd_retLoad _ _ | split))
                · exact bnd_obj (hd_row n1) (by (repeat (first | exact bnd_ret | exact bnd_fail | exact bnd_retLoad _ _ | split)))
                · exact bnd_fail
          · exact bnd_fail
        split
        · split
          · split
            · exact bndA true
            · exact bnd_fail
          · exact bndA false
        · exact bnd_fail
      · exact bnd_fail
    case h_3 hc =>
      cases h
      unfold absOp; rw [ho]
      dsimp only
      rw [hc]
      dsimp only
      split
      · rename_i x t he1 he2
        rw [he1] at hn1
        refine bnd_opnd (fun t h => by rw [he1]; simp [opsT, h]) ?_
        have n1 := names_opnds hn1 (l := [x]) (fun _ h => h) x (.head _)
        generalize absO σ x = u at n1 ⊢
        split
        · exact bnd_fail
        · split
          · exact bnd_fail
          · split
            · exact bnd_fail
            · split
              · exact bnd_obj (hd_tail n1) (by (repeat (first | exact bnd_ret | exact bnd_fail | exact bnd_retLoad _ _ | split)))
              · exact bnd_fail
      · exact bnd_fail
    case h_4 =>
      obtain ⟨V, h1, h2⟩ := Option.map_eq_some_iff.1 h
      cases h2
      exact hp _ h1 rfl
  case h_11 =>
    obtain ⟨V, h1, h2⟩ := Option.map_eq_some_iff.1 h
    cases h2
    exact hp _ h1 rfl
end
end Go.E2
namespace Go.E2
open Go.RowKit
set_option linter.unusedVariables false
set_option linter.unusedSimpArgs false
variable {σ σ' σ1 : St} {P : Program}
structure UFoot where
  slots : List Nat
  objs : List Nat
  cls : Option Nat
  lays : List Nat
def reach (σ : St) : Nat → List Nat → List Nat
  | 0, l => l
  | d + 1, l => l ++ reach σ d (l.flatMap fun q => objNames (σ.ob q).2)
theorem reach_nil (σ : St) : ∀ d, reach σ d [] = []
  | 0 => rfl
  | d + 1 => reach_nil σ d
theorem cl_mono {O Q : Nat → Prop} (h : ∀ q, O q → Q q) : ∀ {d q : Nat}, Cl σ O d q → Cl σ Q d q
  | 0, q, hc => h q hc
  | d + 1, q, hc => ⟨h q hc.1, fun n hn => cl_mono h (hc.2 n hn)⟩
theorem reach_cl : ∀ {d : Nat} {l : List Nat}, ∀ q ∈ l, Cl σ (· ∈ reach σ d l) d q
  | 0, l, q, hq => hq
  | d + 1, l, q, hq => ⟨List.mem_append_left _ hq, fun n hn => cl_mono (fun q hq => List.mem_append_right _ hq) (reach_cl n (List.mem_flatMap.2 ⟨q, hq, hn⟩))⟩
def namesOf (s : St) (U : List Nat) : List Nat := U.flatMap fun t => avNames (s.slot t)
def gslot (ops : Array Oper) (o : Oper) : List Nat := match o.guard with
  | none => []
  | some (j, _) => ((ops[j]?).bind (·.dst)).toList
def footB (s : St) (g d : List Nat) (c : Nat) (lays : List Nat) : Option (List Nat × Bool) → Option UFoot
  | some (U, true) => some ⟨g ++ U, d ++ reach s 4 (namesOf s U), some c, lays⟩
  | some (U, false) => some ⟨g ++ U, d ++ namesOf s U, none, lays⟩
  | none => none
def footU (ops : Array Oper) (o : Oper) (s : St) (lays : List Nat) : Option UFoot := match o.op with
  | .move x => some ⟨gslot ops o ++ opT x, o.dst.toList, none, lays⟩
  | .assign x => some ⟨gslot ops o ++ opT x, o.dst.toList, none, lays⟩
  | _ => footB s (gslot ops o) o.dst.toList (o.dst.getD 999) lays (upUses o)
def touch (f : UFoot) (q : Nat) : Bool := f.objs.contains q || f.cls.any fun d => q % 1000 == d % 1000
structure FLe (f : Foot) (g : UFoot) : Prop where
  slots : ∀ t ∈ f.slots, t ∈ g.slots
  objs : ∀ q ∈ f.objs, touch g q = true
  lays : f.lays = g.lays
theorem bnd_g (E : Env) (H : Hand) (ops : Array Oper) (o : Oper) {U : List Nat} {O : Nat → Prop} (h : Bnd σ U O (absOp E H o)) : Bnd σ (gslot ops o ++ U) O (absG E H ops o) := by
  have hm : Bnd σ (gslot ops o ++ U) O (absOp E H o) := h.mono (fun t ht => List.mem_append_right _ ht) fun _ hq => hq
  unfold absG
  split
  · exact hm
  · rename_i j want hg
    split
    · exact bnd_fail
    · rename_i s hs
      refine bnd_slot (List.mem_append_left _ (by unfold gslot; rw [hg]; dsimp only; rw [hs]; simp)) ?_
      split
      · split
        · exact hm
        · exact bnd_ret
      · exact bnd_ret
      · exact bnd_fail
theorem foot_le (E : Env) (H : Hand) (ops : Array Oper) (o : Oper) (s : St) (lays : List Nat) {g : UFoot} (h : footU ops o s lays = some g) : FLe ⟨((absG E H ops o).sees s).1, ((absG E H ops o).sees s).2, lays⟩ g := by
  unfold footU at h
  split at h
  case h_1 x ho =>
    cases h
    have hb : Bnd s (opT x) (fun q => touch ⟨gslot ops o ++ opT x, o.dst.toList, none, lays⟩ q = true) (absOp E H o) := by
      unfold absOp
      rw [ho]
      exact bnd_move fun _ h => h
    have := bnd_g E H ops o hb
    exact ⟨this.1, this.2, rfl⟩
  case h_2 x ho =>
    cases h
    have hb : Bnd s (opT x) (fun q => touch ⟨gslot ops o ++ opT x, o.dst.toList, none, lays⟩ q = true) (absOp E H o) := by
      unfold absOp
      rw [ho]
      exact bnd_move fun _ h => h
    have := bnd_g E H ops o hb
    exact ⟨this.1, this.2, rfl⟩
  unfold footB at h
  split at h
  case h_1 U hu =>
    cases h
    have hb := bnd_up (σ := s) (O := fun q => touch ⟨gslot ops o ++ U, o.dst.toList ++ reach s 4 (namesOf s U), some (o.dst.getD 999), lays⟩ q = true) E H o hu (fun t ht n hn => by
      have hc : Cl s (· ∈ reach s 4 (namesOf s U)) 4 n := reach_cl n (List.mem_flatMap.2 ⟨t, ht, hn⟩)
      have hm : ∀ q, q ∈ reach s 4 (namesOf s U) → touch ⟨gslot ops o ++ U, o.dst.toList ++ reach s 4 (namesOf s U), some (o.dst.getD 999), lays⟩ q = true := fun q hq => by
        unfold touch
        rw [Bool.or_eq_true]
        exact .inl (by simpa using Or.inr hq)
      exact ⟨hm n hc.here, fun _ => cl_mono hm hc⟩) (fun d hd => by simp [touch, hd]) (fun _ i => by
      unfold touch
      rw [Bool.or_eq_true]
      right
      simp [Nat.mul_add_mod])
    have := bnd_g E H ops o hb
    exact ⟨this.1, this.2, rfl⟩
  case h_2 U hu =>
    cases h
    have hb := bnd_up (σ := s) (O := fun q => touch ⟨gslot ops o ++ U, o.dst.toList ++ namesOf s U, none, lays⟩ q = true) E H o hu (fun t ht n hn => by
      refine ⟨?_, fun h => by cases h⟩
      unfold touch
      rw [Bool.or_eq_true]
      exact .inl (List.contains_iff_mem.2 (List.mem_append_right _ (List.mem_flatMap.2 ⟨t, ht, hn⟩)))) (fun d hd => by simp [touch, hd]) (fun h => by cases h)
    have := bnd_g E H ops o hb
    exact ⟨this.1, this.2, rfl⟩
  case h_3 => cases h
def runUp (E : Env) (H : Hand) (ops : Array Oper) : List Oper → St → List UFoot → Option (St × List UFoot)
  | [], s, acc => some (s, acc)
  | o :: l, s, acc => match (absG E H ops o).val s with
    | some e => match footU ops o s (e.upd.map (·.1)) with
      | some f => runUp E H ops l (s.app o.dst e) (acc ++ [f])
      | none => none
    | none => none
theorem runUp_RD {E : Env} {H : Hand} {ops : Array Oper} : ∀ {l : List Oper} {s s' : St} {acc gs : List UFoot}, runUp E H ops l s acc = some (s', gs) → ∃ fs hs, RD E H ops l s s' fs ∧ gs = acc ++ hs ∧ fs.length = hs.length ∧ ∀ (i : Nat) (f : Foot) (g : UFoot), fs[i]? = some f → hs[i]? = some g → FLe f g
  | [], s, s', acc, gs, h => by
    cases h
    exact ⟨[], [], .nil, by simp, rfl, fun i f g hf => by simp at hf⟩
  | o :: l, s, s', acc, gs, h => by
    simp only [runUp] at h
    split at h
    case h_2 => cases h
    case h_1 e he =>
      split at h
      case h_2 => cases h
      case h_1 g hg =>
        obtain ⟨fs, hs, h1, h2, h3, h4⟩ := runUp_RD h
        refine ⟨_, g :: hs, .cons he rfl rfl rfl h1, by rw [h2, List.append_assoc]; rfl, by simp [h3], fun i f g' hf hg' => ?_⟩
        cases i with
        | zero =>
          cases hf; cases hg'
          exact foot_le E H ops o s _ hg
        | succ i => exact h4 i f g' hf hg'
def ufootOf (fs : List UFoot) (i : Nat) : UFoot := fs.getD i ⟨[], [], none, []⟩
def clashU (ops : Array Oper) (fs : List UFoot) (j i : Nat) : Bool :=
  ((ops[j]?).bind (·.dst)).any (fun d => (ufootOf fs i).slots.contains d || wrS ops i d) || ((ops[i]?).bind (·.dst)).any (fun d => (ufootOf fs j).slots.contains d) ||
  (ufootOf fs j).lays.any (fun q => touch (ufootOf fs i) q || (ufootOf fs i).lays.contains q) || (ufootOf fs i).lays.any (fun q => touch (ufootOf fs j) q)
def okUp (ops : Array Oper) (fs : List UFoot) (A : List (List Nat)) : Bool := (List.range ops.size).all fun i =>
  (edgesOf ops i).all (fun e => decide (e < i)) && (A.getD i []).all (fun x => (edgesOf ops i).any fun e => e == x || (A.getD e []).contains x) && (List.range i).all fun j => !clashU ops fs j i || (A.getD i []).contains j
theorem okUp_le {ops : Array Oper} {fs : List Foot} {gs : List UFoot} {A : List (List Nat)} (hl : fs.length = gs.length) (h : ∀ (i : Nat) (f : Foot) (g : UFoot), fs[i]? = some f → gs[i]? = some g → FLe f g) (hok : okUp ops gs A = true) : okWith ops fs A = true := by
  have le : ∀ i, FLe (footOf fs i) (ufootOf gs i) := fun i => by
    unfold footOf ufootOf
    rw [List.getD_eq_getElem?_getD, List.getD_eq_getElem?_getD]
    by_cases hi : i < fs.length
    · rw [List.getElem?_eq_getElem hi, List.getElem?_eq_getElem (show i < gs.length by omega)]
      exact h i _ _ (List.getElem?_eq_getElem hi) (List.getElem?_eq_getElem (by omega))
    · rw [List.getElem?_eq_none (by omega), List.getElem?_eq_none (by omega)]
      exact ⟨fun t ht => ht, fun q hq => (by cases hq), rfl⟩
  have cl : ∀ j i, clash ops fs j i = true → clashU ops gs j i = true := fun j i hc => by
    obtain ⟨a1, a2, a3⟩ := le i
    obtain ⟨b1, b2, b3⟩ := le j
    unfold clash at hc
    unfold clashU
    rw [← a3, ← b3]
    simp only [Bool.or_eq_true, Option.any_eq_true, List.any_eq_true] at hc ⊢
    rcases hc with ((⟨d, h1, h2⟩ | ⟨d, h1, h2⟩) | ⟨q, h1, h2⟩) | ⟨q, h1, h2⟩
    · refine .inl (.inl (.inl ⟨d, h1, ?_⟩))
      rcases h2 with h2 | h2
      · exact .inl (by simpa using a1 d (by simpa using h2))
      · exact .inr h2
    · exact .inl (.inl (.inr ⟨d, h1, by simpa using b1 d (by simpa using h2)⟩))
    · refine .inl (.inr ⟨q, h1, ?_⟩)
      rcases h2 with h2 | h2
      · exact .inl (a2 q (by simpa using h2))
      · exact .inr h2
    · exact .inr ⟨q, h1, b2 q (by simpa using h2)⟩
  unfold okUp at hok
  unfold okWith
  rw [List.all_eq_true] at hok ⊢
  intro i hi
  have h1 := hok i hi
  simp only [Bool.and_eq_true, List.all_eq_true] at h1 ⊢
  refine ⟨h1.1, fun j hj => ?_⟩
  have h2 := h1.2 j hj
  simp only [Bool.or_eq_true, Bool.not_eq_true'] at h2 ⊢
  rcases h2 with h2 | h2
  · left
    cases hc : clash ops fs j i with
    | false => rfl
    | true => rw [cl j i hc] at h2; cases h2
  · exact .inr h2
def exUp (E : Env) (H : Hand) (ops : Array Oper) (s : St) : Option St := match runUp E H ops ops.toList s [] with
  | some (s', fs) => if okUp ops fs (ancs ops) = true then some s' else none
  | none => none
theorem exUp_RD {E : Env} {H : Hand} {ops : Array Oper} {s s' : St} (h : exUp E H ops s = some s') : ∃ fs, RD E H ops ops.toList s s' fs ∧ okWith ops fs (ancs ops) = true := by
  unfold exUp at h
  split at h
  case h_2 => cases h
  case h_1 s1 gs hr =>
    split at h
    case isFalse => cases h
    case isTrue hok =>
      cases h
      obtain ⟨fs, hs, h1, h2, h3, h4⟩ := runUp_RD hr
      rw [List.nil_append] at h2
      subst h2
      exact ⟨fs, h1, okUp_le h3 h4 hok⟩
end Go.E2
