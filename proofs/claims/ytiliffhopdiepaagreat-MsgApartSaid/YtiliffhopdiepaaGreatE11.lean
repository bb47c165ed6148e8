/- The engine, part 11: VLib, VTypes. -/
import Derived.Test.YtiliffhopdiepaaGreatE10
namespace Go.E2
open Go.RowKit
set_option linter.unusedVariables false
set_option linter.unusedSimpArgs false
variable {P : Program}
theorem row_in {w : World} {c0 : Con} {e : Nat} {xs : List (List PV)} (h : InOk w c0 [.row true e xs]) :
    (c0.ρ pinN = none ∧ xs = [] ∧ c0.cp pinN = 0) ∨ ∃ b cs ty, c0.ρ pinN = some b ∧ w.heap[b]? = some (.cells cs ty (0, 0)) ∧ (xs.length ≤ c0.cp pinN ∧ c0.cp pinN ≤ 9223372036854775807) ∧ cs.size = c0.cp pinN * e ∧ Wide e xs ∧
      (∀ (j : Nat) (x : List PV) (i : Nat) (y : PV), xs[j]? = some x → x[i]? = some y → Rep c0.G y (cs.getD (j * e + i) undef)) ∧ ∀ o, c0.G b o = none := by
  rcases h.obs 0 _ rfl with h | ⟨b, cs, ty, h1, h2, h3, h4, h5, h6, h7⟩
  · exact .inl h
  · exact .inr ⟨b, cs, ty, h1, h2, h3, h4, h5, h6, by simpa using h7⟩
theorem row_val {c0 : Con} {e : Nat} {xs : List (List PV)} {v : Value} (h : RepV1 (obsL [.row true e xs]) c0 (.at (.row pinN 0)) v) : v = rowVal (c0.ρ pinN) xs.length (c0.cp pinN) := by
  have h : RepAt (obsL [.row true e xs]) c0 (.row pinN 0) v := h
  refine h.2 _ ?_
  unfold alive
  rw [show obsL [.row true e xs] pinN = (0, some (.row true e xs)) from obsL_at _ 0]
  rfl
structure Wrote (w w' : World) (b : Nat) : Prop where
  os : w'.os = w.os
  tape : w'.tape = w.tape
  output : w'.output = w.output
  size : w.heap.size ≤ w'.heap.size
  block : ∀ k, k < w.heap.size → k ≠ b → w'.heap[k]? = w.heap[k]?
  drawn : w.drawn ≤ w'.drawn
theorem Wrote.imm {w w' : World} {b : Nat} {G : Gh} (h : Wrote w w' b) (hG : ∀ o, G b o = none) (himm : ∀ b o v, G b o = some v → w.cell? ⟨b, o, none⟩ = some v) : ∀ b o v, G b o = some v → w'.cell? ⟨b, o, none⟩ = some v := fun b' o v hv => by
  have h1 := himm b' o v hv
  have hlt : b' < w.heap.size := by
    unfold World.cell? at h1
    split at h1
    · rename_i hh; exact (Array.getElem?_eq_some_iff.1 hh).1
    · cases h1
  have hne : b' ≠ b := fun e => by rw [e, hG] at hv; cases hv
  unfold World.cell? at h1 ⊢
  dsimp only at h1 ⊢
  rw [h.block b' hlt hne]
  exact h1
theorem out_inplace {w w' : World} {c0 : Con} {e : Nat} {xs ys : List (List PV)} {b : Nat} {cs' : Array Value} {ty : TypeId} {v : Value} (h : InOk w c0 [.row true e xs]) (hb : c0.ρ pinN = some b) (hG : ∀ o, c0.G b o = none) (hw : Wrote w w' b)
    (hh : w'.heap[b]? = some (.cells cs' ty (0, 0))) (hsz : cs'.size = c0.cp pinN * e) (hl : ys.length = xs.length) (hcap : xs.length ≤ c0.cp pinN ∧ c0.cp pinN ≤ 9223372036854775807) (hwd : Wide e ys)
    (hr : ∀ (j : Nat) (x : List PV) (i : Nat) (y : PV), ys[j]? = some x → x[i]? = some y → Rep c0.G y (cs'.getD (j * e + i) undef)) (hv : v = .tuple #[]) : OutOk w c0 [.row true e xs] (.tup []) [some (.row true e ys)] v c0 w' := by
  have only : ∀ (i : Nat) (o : AObj), ([some (AObj.row true e ys)] : List (Option AObj))[i]? = some (some o) → i = 0 ∧ o = .row true e ys := fun i o h => by
    cases i with
    | zero => cases h; exact ⟨rfl, rfl⟩
    | succ i => simp at h
  have inb : blks [.row true e xs] c0 b := ⟨0, _, rfl, rfl, hb⟩
  refine ⟨Gh.le_refl _, hw.imm hG h.imm, fun b o hne => absurd rfl hne, ⟨hw.os, hw.tape, hw.output, hw.size, fun k hk hn => hw.block k hk fun e => hn (e ▸ inb), hw.drawn⟩, ?_, fun i o ho => ?_, fun i i' o o' b' h1 h2 _ _ _ _ => ?_, fun i o b' h1 h2 h3 => ?_, fun i hi => ?_, Nat.le_refl _⟩
  · exact ⟨#[], hv, rfl, fun i x hx => by simp at hx⟩
  · obtain ⟨rfl, rfl⟩ := only i o ho
    exact .inr ⟨b, cs', ty, hb, hh, by rw [hl]; exact hcap, hsz, hwd, hr, by simpa using hG⟩
  · rw [(only i o h1).1, (only i' o' h2).1]
  · obtain ⟨rfl, rfl⟩ := only i o h1
    rw [show pinN + 0 = pinN from rfl, hb] at h3
    cases h3
    exact .inr inb
  · have hi : i = 0 := by simpa using hi
    subst hi
    unfold Keeps
    rw [obsL_at, obsF_at]
    right
    refine ⟨rfl, fun n hn => ⟨?_, rfl, rfl⟩, fun e' he => ⟨he, rfl⟩, fun hv => by simp [isVar] at hv⟩
    simp only [List.getElem?_cons_zero, Option.join_some, rowLen, Option.some.injEq] at hn ⊢
    omega
theorem out_moved {w w' : World} {c0 : Con} {e : Nat} {xs ys : List (List PV)} {b : Nat} {cs' : Array Value} {ty : TypeId} {v : Value} (h : InOk w c0 [.row true e xs]) (hb : c0.ρ pinN = some b) (hG : ∀ o, c0.G b o = none) (hw : Wrote w w' b)
    (hh : w'.heap[b]? = some (.cells cs' ty (0, 0))) (hsz : cs'.size = c0.cp pinN * e) (hcap : ys.length ≤ c0.cp pinN ∧ c0.cp pinN ≤ 9223372036854775807) (hwd : Wide e ys)
    (hr : ∀ (j : Nat) (x : List PV) (i : Nat) (y : PV), ys[j]? = some x → x[i]? = some y → Rep c0.G y (cs'.getD (j * e + i) undef)) (hv : v = .slice (some ⟨b, 0, none⟩) ys.length (c0.cp pinN)) :
    ∃ c, OutOk w c0 [.row true e xs] (.one (.at (.row (pinN + 1) 0))) [none, some (.row true e ys)] v c w' := by
  have only : ∀ (i : Nat) (o : AObj), ([none, some (AObj.row true e ys)] : List (Option AObj))[i]? = some (some o) → i = 1 ∧ o = .row true e ys := fun i o h => by
    match i, h with
    | 0, h => cases h
    | 1, h => cases h; exact ⟨rfl, rfl⟩
    | i + 2, h => simp at h
  have inb : blks [.row true e xs] c0 b := ⟨0, _, rfl, rfl, hb⟩
  have a1 : alive (obsF [none, some (.row true e ys)]) (pinN + 1) 0 = some (.row true e ys) := by
    unfold alive
    rw [obsF_at]
    rfl
  refine ⟨⟨fun _ => some b, fun _ => c0.cp pinN, c0.G⟩, Gh.le_refl _, hw.imm hG h.imm, fun b o hne => absurd rfl hne, ⟨hw.os, hw.tape, hw.output, hw.size, fun k hk hn => hw.block k hk fun e => hn (e ▸ inb), hw.drawn⟩, ?_, fun i o ho => ?_, fun i i' o o' b' h1 h2 _ _ _ _ => ?_, fun i o b' h1 h2 h3 => ?_, fun i hi => ?_, by simp⟩
  · refine ⟨Nat.zero_le _, fun n hn => ?_⟩
    rw [a1] at hn
    simp only [rowLen, Option.some.injEq] at hn
    subst hn
    exact hv
  · obtain ⟨rfl, rfl⟩ := only i o ho
    exact .inr ⟨b, cs', ty, rfl, hh, hcap, hsz, hwd, hr, by simpa using hG⟩
  · rw [(only i o h1).1, (only i' o' h2).1]
  · cases h3
    exact .inr inb
  · have hi : i = 0 := by simpa using hi
    subst hi
    unfold Keeps
    rw [obsL_at, obsF_at]
    right
    exact ⟨rfl, fun n hn => by simp [rowLen] at hn, fun e' he => by simp [rowE] at he, fun hv => by simp [isVar] at hv⟩
theorem out_same {w : World} {c0 : Con} {e : Nat} {v : Value} (h : InOk w c0 [.row true e []]) (hv : v = .tuple #[]) : OutOk w c0 [.row true e []] (.tup []) [some (.row true e [])] v c0 w := by
  have only : ∀ (i : Nat) (o : AObj), ([some (AObj.row true e [])] : List (Option AObj))[i]? = some (some o) → i = 0 ∧ o = .row true e [] := fun i o h => by
    cases i with
    | zero => cases h; exact ⟨rfl, rfl⟩
    | succ i => simp at h
  have eob : obsF [some (.row true e [])] = obsL [.row true e []] := by
    funext n
    unfold obsF obsL
    by_cases hn : pinN ≤ n
    · rw [if_pos hn, if_pos hn]
      generalize n - pinN = k
      cases k with
      | zero => rfl
      | succ k => rfl
    · rw [if_neg hn, if_neg hn]
  refine ⟨Gh.le_refl _, h.imm, fun b o hne => absurd rfl hne, Fr.refl _ _, ?_, fun i o ho => ?_, fun i i' o o' b' h1 h2 _ _ _ _ => ?_, fun i o b' h1 h2 h3 => ?_, fun i hi => ?_, Nat.le_refl _⟩
  · exact ⟨#[], hv, rfl, fun i x hx => by simp at hx⟩
  · obtain ⟨rfl, rfl⟩ := only i o ho
    rw [eob]
    exact h.obs 0 _ rfl
  · rw [(only i o h1).1, (only i' o' h2).1]
  · obtain ⟨rfl, rfl⟩ := only i o h1
    exact .inr ⟨0, _, rfl, rfl, h3⟩
  · rw [eob]
    exact Keeps.same rfl rfl rfl
theorem out_back {w : World} {c0 : Con} {e : Nat} {xs : List (List PV)} {v : Value} (h : InOk w c0 [.row true e xs]) (hv : v = rowVal (c0.ρ pinN) xs.length (c0.cp pinN)) :
    ∃ c, OutOk w c0 [.row true e xs] (.one (.at (.row (pinN + 1) 0))) [none, some (.row true e xs)] v c w := by
  have only : ∀ (i : Nat) (o : AObj), ([none, some (AObj.row true e xs)] : List (Option AObj))[i]? = some (some o) → i = 1 ∧ o = .row true e xs := fun i o h => by
    match i, h with
    | 0, h => cases h
    | 1, h => cases h; exact ⟨rfl, rfl⟩
    | i + 2, h => simp at h
  have a1 : alive (obsF [none, some (.row true e xs)]) (pinN + 1) 0 = some (.row true e xs) := by
    unfold alive
    rw [obsF_at]
    rfl
  refine ⟨⟨fun _ => c0.ρ pinN, fun _ => c0.cp pinN, c0.G⟩, Gh.le_refl _, h.imm, fun b o hne => absurd rfl hne, Fr.refl _ _, ?_, fun i o ho => ?_, fun i i' o o' b' h1 h2 _ _ _ _ => ?_, fun i o b' h1 h2 h3 => ?_, fun i hi => ?_, by simp⟩
  · refine ⟨Nat.zero_le _, fun n hn => ?_⟩
    rw [a1] at hn
    simp only [rowLen, Option.some.injEq] at hn
    subst hn
    exact hv
  · obtain ⟨rfl, rfl⟩ := only i o ho
    rcases row_in h with ⟨a1, a2, a3⟩ | ⟨b, cs, ty, a1, a2, a3, a4, a5, a6, a7⟩
    · exact .inl ⟨a1, a2, a3⟩
    · exact .inr ⟨b, cs, ty, a1, a2, a3, a4, a5, a6, by simpa using a7⟩
  · rw [(only i o h1).1, (only i' o' h2).1]
  · exact .inr ⟨0, _, rfl, rfl, h3⟩
  · have hi : i = 0 := by simpa using hi
    subst hi
    unfold Keeps
    rw [obsL_at, obsF_at]
    right
    exact ⟨rfl, fun n hn => by simp [rowLen] at hn, fun e' he => by simp [rowE] at he, fun hv => by simp [isVar] at hv⟩
open Classical in
noncomputable def given {ι : Type} (ok : ι → Prop) (args : ι → List V1) (ins : ι → List AObj) (res : ι → Res) : List V1 → List AObj → Option Res := fun a s => if h : ∃ i, ok i ∧ args i = a ∧ ins i = s then some (res h.choose) else none
theorem given_at {ι : Type} {ok : ι → Prop} {args : ι → List V1} {ins : ι → List AObj} {res : ι → Res} (hinj : ∀ i j, args i = args j → ins i = ins j → res i = res j) {i : ι} (hi : ok i) : given ok args ins res (args i) (ins i) = some (res i) := by
  have h : ∃ j, ok j ∧ args j = args i ∧ ins j = ins i := ⟨i, hi, rfl, rfl⟩
  unfold given
  rw [dif_pos h]
  exact congrArg some (hinj _ _ h.choose_spec.2.1 h.choose_spec.2.2)
theorem given_spec {ι : Type} {ok : ι → Prop} {args : ι → List V1} {ins : ι → List AObj} {res : ι → Res} {f : FuncId} (hs : ∀ i, ok i → Spec P f (args i) (ins i) (res i).1 (res i).2) {a : List V1} {s : List AObj} {r : AV} {fin : List (Option AObj)}
    (h : given ok args ins res a s = some (r, fin)) : Spec P f a s r fin := by
  unfold given at h
  split at h
  · rename_i hex
    have h := Option.some.inj h
    obtain ⟨h1, h2, h3⟩ := hex.choose_spec
    have := hs _ h1
    rw [h2, h3, h] at this
    exact this
  · cases h
abbrev LibFn := Hand → List V1 → List AObj → Option Res
structure LibGood (P : Program) (f : FuncId) (h : LibFn) : Prop where
  fs : ∀ args ins, FS fun A => h A.fn args ins
  snd : ∀ H, HandOk P H → ∀ args ins res fin, h H args ins = some (res, fin) → Spec P f args ins res fin
def lookL (f : FuncId) : List (FuncId × LibFn) → Option LibFn
  | [] => none
  | u :: l => if u.1 = f then some u.2 else lookL f l
theorem lookL_mem {f : FuncId} {h : LibFn} : ∀ {l : List (FuncId × LibFn)}, lookL f l = some h → (f, h) ∈ l
  | [], e => by cases e
  | u :: l, e => by
    unfold lookL at e
    split at e
    · rename_i q
      cases e
      rw [← q]
      exact .head _
    · exact .tail _ (lookL_mem e)
theorem libOk_of {libs : List (FuncId × LibFn)} {tab : Nat → Option Ty} {fns : FuncId → Bool} {tg : Nat → Option (List Tag)} {M : Modes} {R : FuncId → List (List CM)} {hi : FuncId → Nat → Option Hint} {mv : Nat → Nat → Bool} {cl : FuncId → Option ClM} {mps : Nat → Bool} (h : ∀ e ∈ libs, LibGood P e.1 e.2) : LibOk P ⟨tab, fns, tg, M, R, hi, plainOf P, fun f => lookL f libs, mv, cl, mps⟩ :=
  ⟨fun f id h => h, fun f g hl => (h _ (lookL_mem hl)).fs, fun f g hl => (h _ (lookL_mem hl)).snd⟩
theorem libGood_given {ι : Type} {ok : ι → Prop} {args : ι → List V1} {ins : ι → List AObj} {res : ι → Res} {f : FuncId} (hs : ∀ i, ok i → Spec P f (args i) (ins i) (res i).1 (res i).2) : LibGood P f fun _ => given ok args ins res :=
  ⟨fun _ _ => FS.const _, fun H _ a s r fin h => given_spec hs h⟩
theorem lib_run {E : Env} (hL : LibOk P E) {f : FuncId} {h : LibFn} (hl : E.lib f = some h) (args : List V1) (ins : List AObj) : (ans P E).fn f args ins = h (ans P E).fn args ins := by
  rw [ans_fn hL]
  simp only [stepO, hl]
end Go.E2
namespace Go.E2
open Go.RowKit
set_option linter.unusedVariables false
set_option linter.unusedSimpArgs false
structure Dot where
  f0 : Int
  f1 : Int
  f2 : Int
  deriving DecidableEq
structure Item where
  f0 : ByteArray
  f1 : ByteArray
  f2 : Int
  f3 : ByteArray
  f4 : Int
  f5 : Dot
  deriving DecidableEq
structure Val where
  f0 : List ByteArray
  f1 : List ByteArray
  f2 : Int
  f3 : Bool
  deriving DecidableEq
abbrev encS (x : ByteArray) : List PV := [.str x]
abbrev encZ (x : Int) : List PV := [.int .i64 x]
abbrev encD (x : Dot) : List PV := [.int .i64 x.f0, .int .i64 x.f1, .int .i64 x.f2]
abbrev encI (x : Item) : List PV := [.str x.f0, .str x.f1, .int .i64 x.f2, .str x.f3, .int .i64 x.f4, .int .i64 x.f5.f0, .int .i64 x.f5.f1, .int .i64 x.f5.f2]
abbrev lS (l : List ByteArray) : PV := .list 1 (l.map encS)
abbrev lZ (l : List Int) : PV := .list 1 (l.map encZ)
abbrev lD (l : List Dot) : PV := .list 3 (l.map encD)
abbrev lI (l : List Item) : PV := .list 8 (l.map encI)
abbrev encV (v : Val) : List PV := [lS v.f0, lS v.f1, .int .i64 v.f2, .bool v.f3]
abbrev pv (p : PV) : V1 := .at (.pv p)
abbrev ag (ps : List PV) : V1 := .agg (ps.map .pv)
abbrev iv (n : Int) : V1 := .at (.pv (.int .i64 n))
abbrev bv (b : Bool) : V1 := .at (.pv (.bool b))
abbrev sv (s : ByteArray) : V1 := .at (.pv (.str s))
abbrev nov : V1 := .at .any
theorem wr (n : Int) (h0 : -9223372036854775808 ≤ n) (h1 : n < 9223372036854775808) : IntKind.i64.wrap n = n := by
  rw [IntKind.wrap_i64]
  omega
end Go.E2
