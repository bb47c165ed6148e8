import Derived.Below
import Derived.Calls
import Derived.Tactics
import Derived.Orders
import Derived.Deep.MidRow
import Derived.Deep.AppendSrc
import Derived.Laws.StructEq
import Derived.Deep.Upon
import Derived.Deep.LoopGhost
import Derived.WalkKit
import Derived.ProofKit
import Derived.OpenShut
import Derived.ShutString
import Derived.ChangeOld
import Derived.SizedLaws
import Derived.Carry
/- ViewMore, part 1: EBase. -/
namespace Go.Eng
open Go.RowKit
set_option linter.unusedVariables false
set_option linter.unusedSimpArgs false
inductive PV where
  | int (k : IntKind) (n : Int)
  | bool (b : Bool)
  | str (s : ByteArray)
  | list (e : Nat) (xs : List (List PV))
  | fn (f : FuncId) (caps : List PV)
  | ref (cells : List PV)
  deriving Inhabited
abbrev Gh := Nat → Nat → Option Value
def Gh.le (G G' : Gh) : Prop := ∀ b o v, G b o = some v → G' b o = some v
theorem Gh.le_refl (G : Gh) : Gh.le G G := fun _ _ _ h => h
theorem Gh.le_trans {G G' G'' : Gh} (h : Gh.le G G') (h' : Gh.le G' G'') : Gh.le G G'' := fun b o v hv => h' b o v (h b o v hv)
inductive Rep (G : Gh) : PV → Value → Prop where
  | int (k n) : Rep G (.int k n) (.int k n)
  | bool (b) : Rep G (.bool b) (.bool b)
  | str (s) : Rep G (.str s) (.string s)
  | nil (e A cap) : Rep G (.list e []) (.slice A 0 cap)
  | list (e : Nat) (xs : List (List PV)) (g o cap : Nat) (f : Nat → Nat → Value) (hc : xs.length ≤ cap)
      (hw : ∀ (j : Nat) (x : List PV), xs[j]? = some x → x.length = e)
      (hg : ∀ (j : Nat) (x : List PV) (i : Nat) (y : PV), xs[j]? = some x → x[i]? = some y → G g (o + j * e + i) = some (f j i))
      (hr : ∀ (j : Nat) (x : List PV) (i : Nat) (y : PV), xs[j]? = some x → x[i]? = some y → Rep G y (f j i)) : Rep G (.list e xs) (.slice (some ⟨g, o, none⟩) xs.length cap)
  | fn (f : FuncId) (caps : List PV) (vs : Array Value) (hl : vs.size = caps.length)
      (hr : ∀ (i : Nat) (c : PV), caps[i]? = some c → Rep G c (vs.getD i undef)) : Rep G (.fn f caps) (.func (.func f) #[] vs)
  | ref (cells : List PV) (g o : Nat) (f : Nat → Value) (hg : ∀ (i : Nat) (c : PV), cells[i]? = some c → G g (o + i) = some (f i))
      (hr : ∀ (i : Nat) (c : PV), cells[i]? = some c → Rep G c (f i)) : Rep G (.ref cells) (.pointer (some ⟨g, o, none⟩))
theorem Rep.mono {G G' : Gh} (h : Gh.le G G') {p : PV} {v : Value} (r : Rep G p v) : Rep G' p v := by
  induction r with
  | int k n => exact .int k n
  | bool b => exact .bool b
  | str s => exact .str s
  | nil e A cap => exact .nil e A cap
  | list e xs g o cap f hc hw hg hr ih => exact .list e xs g o cap f hc hw (fun j x i y hx hy => h _ _ _ (hg j x i y hx hy)) ih
  | fn f caps vs hl hr ih => exact .fn f caps vs hl ih
  | ref cells g o f hg hr ih => exact .ref cells g o f (fun i c hc => h _ _ _ (hg i c hc)) ih
inductive At where
  | pv (p : PV)
  | row (k g : Nat)
  | ptr (k g off : Nat)
  | eptr (k g j off : Nat)
  | nil
  | any
  deriving Inhabited
inductive V1 where
  | at (a : At)
  | agg (l : List At)
  deriving Inhabited
inductive AV where
  | one (x : V1)
  | tup (l : List V1)
  deriving Inhabited
inductive AObj where
  | blk (cells : List At)
  | fro (cells : List PV)
  | row (own : Bool) (e : Nat) (xs : List (List PV))
  | view (e : Nat) (xs : List (List PV))
structure St where
  slots : List AV
  obs : List (Nat × Nat × Option AObj)
def AV.any : AV := .one (.at .any)
def St.slot (σ : St) (t : Nat) : AV := σ.slots.getD t .any
def look : List (Nat × Nat × Option AObj) → Nat → Nat × Option AObj
  | [], _ => (0, none)
  | (k', g, o) :: l, k => if k' = k then (g, o) else look l k
def lay : List (Nat × Nat × Option AObj) → Nat → Nat × Option AObj → List (Nat × Nat × Option AObj)
  | [], k, x => [(k, x.1, x.2)]
  | (k', g, o) :: l, k, x => if k' = k then (k', x.1, x.2) :: l else (k', g, o) :: lay l k x
theorem look_lay : ∀ (l : List (Nat × Nat × Option AObj)) (k : Nat) (x : Nat × Option AObj) (q : Nat), look (lay l k x) q = if k = q then x else look l q
  | [], k, x, q => by simp only [lay, look]
  | (k', g, o) :: l, k, x, q => by
    simp only [lay]
    by_cases c : k' = k
    · subst c
      rw [if_pos rfl]
      simp only [look]
      split <;> simp_all
    · rw [if_neg c]
      simp only [look, look_lay l k x q]
      by_cases c2 : k' = q
      · subst c2
        rw [if_pos rfl, if_pos rfl, if_neg (fun e => c e.symm)]
      · rw [if_neg c2, if_neg c2]
def St.ob (σ : St) (k : Nat) : Nat × Option AObj := look σ.obs k
abbrev Obs := Nat → Nat × Option AObj
def alive (ob : Obs) (k g : Nat) : Option AObj := if (ob k).1 = g then (ob k).2 else none
def rowLen : Option AObj → Option Nat
  | some (.row _ _ xs) => some xs.length
  | some (.view _ xs) => some xs.length
  | _ => none
def rowE : Option AObj → Option Nat
  | some (.row _ e _) => some e
  | some (.view e _) => some e
  | _ => none
def isVar : Option AObj → Bool
  | some (.blk _) => true
  | some (.fro _) => true
  | _ => false
def owned : AObj → Bool
  | .blk _ => true
  | .row _ _ _ => true
  | _ => false
structure Con where
  ρ : Nat → Option Nat
  cp : Nat → Nat
  G : Gh
def rowVal (b : Option Nat) (n cap : Nat) : Value :=
  match b with
  | some b => .slice (some ⟨b, 0, none⟩) n cap
  | none => .slice none 0 0
def RepAt (ob : Obs) (c : Con) : At → Value → Prop
  | .pv p, v => Rep c.G p v
  | .nil, v => v = .slice none 0 0
  | .any, _ => True
  | .row k g, v => g ≤ (ob k).1 ∧ ∀ n, rowLen (alive ob k g) = some n → v = rowVal (c.ρ k) n (c.cp k)
  | .ptr k g off, v => g ≤ (ob k).1 ∧ (isVar (alive ob k g) = true → ∃ b, c.ρ k = some b ∧ v = .pointer (some ⟨b, off, none⟩))
  | .eptr k g j off, v => g ≤ (ob k).1 ∧ ∀ e, rowE (alive ob k g) = some e → ∃ b, c.ρ k = some b ∧ v = .pointer (some ⟨b, j * e + off, none⟩)
def RepV1 (ob : Obs) (c : Con) : V1 → Value → Prop
  | .at a, v => RepAt ob c a v
  | .agg l, v => ∃ cs : Array Value, v = .agg cs ∧ cs.size = l.length ∧ ∀ i x, l[i]? = some x → RepAt ob c x (cs.getD i undef)
def RepAV (ob : Obs) (c : Con) : AV → Value → Prop
  | .one x, v => RepV1 ob c x v
  | .tup l, v => ∃ vs : Array Value, v = .tuple vs ∧ vs.size = l.length ∧ ∀ i x, l[i]? = some x → RepV1 ob c x (vs.getD i undef)
def Wide (e : Nat) (xs : List (List PV)) : Prop := ∀ (j : Nat) (x : List PV), xs[j]? = some x → x.length = e
def ObOk (ob : Obs) (c : Con) (w : World) (k : Nat) : AObj → Prop
  | .blk cells => ∃ b cs ty, c.ρ k = some b ∧ w.heap[b]? = some (.cells cs ty (0, 0)) ∧ cs.size = cells.length ∧ (∀ i x, cells[i]? = some x → RepAt ob c x (cs.getD i undef)) ∧ ∀ o, c.G b o = none
  | .fro cells => ∃ b, c.ρ k = some b ∧ ∀ i p, cells[i]? = some p → ∃ v, c.G b i = some v ∧ Rep c.G p v
  | .row own e xs => (c.ρ k = none ∧ xs = [] ∧ c.cp k = 0) ∨ ∃ b cs ty, c.ρ k = some b ∧ w.heap[b]? = some (.cells cs ty (0, 0)) ∧ xs.length ≤ c.cp k ∧ cs.size = c.cp k * e ∧ Wide e xs ∧
      (∀ (j : Nat) (x : List PV) (i : Nat) (y : PV), xs[j]? = some x → x[i]? = some y → Rep c.G y (cs.getD (j * e + i) undef)) ∧
      (if own = true then ∀ o, c.G b o = none else (∀ o, o < xs.length * e → c.G b o = cs[o]?) ∧ ∀ o, xs.length * e ≤ o → c.G b o = none)
  | .view e xs => (c.ρ k = none ∧ xs = []) ∨ ∃ b, c.ρ k = some b ∧ xs.length ≤ c.cp k ∧ Wide e xs ∧ ∀ (j : Nat) (x : List PV) (i : Nat) (y : PV), xs[j]? = some x → x[i]? = some y → ∃ v, c.G b (j * e + i) = some v ∧ Rep c.G y v
structure Fr (S : Nat → Prop) (w w' : World) : Prop where
  os : w'.os = w.os
  tape : w'.tape = w.tape
  output : w'.output = w.output
  size : w.heap.size ≤ w'.heap.size
  block : ∀ k, k < w.heap.size → ¬ S k → w'.heap[k]? = w.heap[k]?
theorem Fr.refl (S : Nat → Prop) (w : World) : Fr S w w := ⟨rfl, rfl, rfl, Nat.le_refl _, fun _ _ _ => rfl⟩
theorem Fr.trans {S T : Nat → Prop} {a b c : World} (h : Fr S a b) (h' : Fr T b c) (hT : ∀ k, k < a.heap.size → T k → S k) : Fr S a c :=
  ⟨h'.os.trans h.os, h'.tape.trans h.tape, h'.output.trans h.output, Nat.le_trans h.size h'.size, fun k hk hs =>
    (h'.block k (Nat.lt_of_lt_of_le hk h.size) (fun ht => hs (hT k hk ht))).trans (h.block k hk hs)⟩
theorem Fr.below {w w' : World} (h : Fr (fun _ => False) w w') : Below w.heap.size w w' := ⟨h.os, h.tape, h.output, h.size, fun k hk => h.block k hk (fun h => h)⟩
theorem Fr.of_below {S : Nat → Prop} {w w' : World} (h : Below w.heap.size w w') : Fr S w w' := ⟨h.os, h.tape, h.output, h.size, fun k hk _ => h.block k hk⟩
structure Rel (w0 : World) (S0 : Nat → Prop) (G0 : Gh) (σ : St) (c : Con) (a : Act) (w : World) : Prop where
  le : Gh.le G0 c.G
  imm : ∀ b o v, c.G b o = some v → w.cell? ⟨b, o, none⟩ = some v
  sz : σ.slots.length ≤ a.tmps.size
  slots : ∀ t, RepAV σ.ob c (σ.slot t) (a.tmps.getD t undef)
  df : a.defers = []
  obs : ∀ k g o, σ.ob k = (g, some o) → ObOk σ.ob c w k o
  sep : ∀ k k' g g' o o' b, σ.ob k = (g, some o) → σ.ob k' = (g', some o') → owned o = true → owned o' = true → c.ρ k = some b → c.ρ k' = some b → k = k'
  new : ∀ k g o b, σ.ob k = (g, some o) → owned o = true → c.ρ k = some b → w0.heap.size ≤ b ∨ S0 b
  fr : Fr S0 w0 w
  fresh : ∀ b o, c.G b o ≠ G0 b o → w0.heap.size ≤ b ∨ S0 b
end Go.Eng
/- ViewMore, part 2: EStep. -/
namespace Go.Eng
open Go.RowKit
set_option linter.unusedVariables false
set_option linter.unusedSimpArgs false
variable {ob ob' : Obs} {c c' : Con} {w w' w0 : World} {S0 : Nat → Prop} {G0 : Gh} {σ σ' : St} {a a' : Act}
def Keeps (ob ob' : Obs) (c c' : Con) (k : Nat) : Prop :=
  (ob k).1 < (ob' k).1 ∨ ((ob' k).1 = (ob k).1 ∧ (∀ n, rowLen (ob' k).2 = some n → rowLen (ob k).2 = some n ∧ c'.ρ k = c.ρ k ∧ c'.cp k = c.cp k) ∧
    (∀ e, rowE (ob' k).2 = some e → rowE (ob k).2 = some e ∧ c'.ρ k = c.ρ k) ∧ (isVar (ob' k).2 = true → isVar (ob k).2 = true ∧ c'.ρ k = c.ρ k))
theorem Keeps.same {k : Nat} (h : ob' k = ob k) (h1 : c'.ρ k = c.ρ k) (h2 : c'.cp k = c.cp k) : Keeps ob ob' c c' k := by
  refine .inr ⟨by rw [h], fun n hn => ⟨by rw [← h]; exact hn, h1, h2⟩, fun e he => ⟨by rw [← h]; exact he, h1⟩, fun hv => ⟨by rw [← h]; exact hv, h1⟩⟩
theorem RepAt.keep {x : At} {v : Value} (hG : Gh.le c.G c'.G) (hk : ∀ k, Keeps ob ob' c c' k) (h : RepAt ob c x v) : RepAt ob' c' x v := by
  cases x with
  | pv p => exact Rep.mono hG h
  | nil => exact h
  | any => trivial
  | row k g =>
    obtain ⟨hg, h⟩ := h
    rcases hk k with hb | ⟨he, h1, _, _⟩
    · refine ⟨by omega, fun n hn => ?_⟩
      unfold alive at hn
      rw [if_neg (by omega)] at hn
      simp [rowLen] at hn
    · refine ⟨by omega, fun n hn => ?_⟩
      unfold alive at hn h
      rw [he] at hn
      by_cases c1 : (ob k).1 = g
      · rw [if_pos c1] at hn h
        obtain ⟨a1, a2, a3⟩ := h1 n hn
        rw [h n a1, a2, a3]
      · rw [if_neg c1] at hn; simp [rowLen] at hn
  | ptr k g off =>
    obtain ⟨hg, h⟩ := h
    rcases hk k with hb | ⟨he, _, _, h3⟩
    · refine ⟨by omega, fun hv => ?_⟩
      unfold alive at hv
      rw [if_neg (by omega)] at hv
      simp [isVar] at hv
    · refine ⟨by omega, fun hv => ?_⟩
      unfold alive at hv h
      rw [he] at hv
      by_cases c1 : (ob k).1 = g
      · rw [if_pos c1] at hv h
        obtain ⟨a1, a2⟩ := h3 hv
        rw [a2]
        exact h a1
      · rw [if_neg c1] at hv; simp [isVar] at hv
  | eptr k g j off =>
    obtain ⟨hg, h⟩ := h
    rcases hk k with hb | ⟨he, _, h2, _⟩
    · refine ⟨by omega, fun n hn => ?_⟩
      unfold alive at hn
      rw [if_neg (by omega)] at hn
      simp [rowE] at hn
    · refine ⟨by omega, fun n hn => ?_⟩
      unfold alive at hn h
      rw [he] at hn
      by_cases c1 : (ob k).1 = g
      · rw [if_pos c1] at hn h
        obtain ⟨a1, a2⟩ := h2 n hn
        rw [a2]
        exact h n a1
      · rw [if_neg c1] at hn; simp [rowE] at hn
theorem RepV1.keep {x : V1} {v : Value} (hG : Gh.le c.G c'.G) (hk : ∀ k, Keeps ob ob' c c' k) (h : RepV1 ob c x v) : RepV1 ob' c' x v := by
  cases x with
  | «at» a => exact RepAt.keep hG hk h
  | agg l => obtain ⟨cs, e, hl, hr⟩ := h; exact ⟨cs, e, hl, fun i x hx => RepAt.keep hG hk (hr i x hx)⟩
theorem RepAV.keep {x : AV} {v : Value} (hG : Gh.le c.G c'.G) (hk : ∀ k, Keeps ob ob' c c' k) (h : RepAV ob c x v) : RepAV ob' c' x v := by
  cases x with
  | one a => exact RepV1.keep hG hk h
  | tup l => obtain ⟨cs, e, hl, hr⟩ := h; exact ⟨cs, e, hl, fun i x hx => RepV1.keep hG hk (hr i x hx)⟩
theorem ObOk.keep {k : Nat} {o : AObj} (hG : Gh.le c.G c'.G) (hk : ∀ k, Keeps ob ob' c c' k) (h1 : c'.ρ k = c.ρ k) (h2 : c'.cp k = c.cp k)
    (hw : owned o = true → ∀ b, c.ρ k = some b → w'.heap[b]? = w.heap[b]? ∧ ∀ i, c'.G b i = c.G b i) (h : ObOk ob c w k o) : ObOk ob' c' w' k o := by
  cases o with
  | blk cells =>
    obtain ⟨b, cs, ty, hb, hh, hl, hr, hg⟩ := h
    obtain ⟨q1, q2⟩ := hw rfl b hb
    exact ⟨b, cs, ty, by rw [h1, hb], by rw [q1, hh], hl, fun i x hx => RepAt.keep hG hk (hr i x hx), fun o => by rw [q2, hg]⟩
  | fro cells =>
    obtain ⟨b, hb, hr⟩ := h
    exact ⟨b, by rw [h1, hb], fun i p hp => let ⟨v, a1, a2⟩ := hr i p hp; ⟨v, hG _ _ _ a1, a2.mono hG⟩⟩
  | row own e xs =>
    rcases h with ⟨e1, e2, e3⟩ | ⟨b, cs, ty, hb, hh, hl, hc, hwd, hr, hg⟩
    · exact .inl ⟨by rw [h1, e1], e2, by rw [h2, e3]⟩
    · obtain ⟨q1, q2⟩ := hw rfl b hb
      refine .inr ⟨b, cs, ty, by rw [h1, hb], by rw [q1, hh], by rw [h2]; exact hl, by rw [h2]; exact hc, hwd, fun j x i y hx hy => (hr j x i y hx hy).mono hG, ?_⟩
      cases own with
      | true => exact fun o => by rw [q2]; exact hg o
      | false => exact ⟨fun o ho => by rw [q2]; exact hg.1 o ho, fun o ho => by rw [q2]; exact hg.2 o ho⟩
  | view e xs =>
    rcases h with ⟨e1, e2⟩ | ⟨b, hb, hl, hwd, hr⟩
    · exact .inl ⟨by rw [h1, e1], e2⟩
    · exact .inr ⟨b, by rw [h1, hb], by rw [h2]; exact hl, hwd, fun j x i y hx hy => let ⟨v, a1, a2⟩ := hr j x i y hx hy; ⟨v, hG _ _ _ a1, a2.mono hG⟩⟩
theorem Rel.step (h : Rel w0 S0 G0 σ c a w) (hG : Gh.le c.G c'.G) (hk : ∀ k, Keeps σ.ob σ'.ob c c' k)
    (himm : ∀ b o v, c'.G b o = some v → w'.cell? ⟨b, o, none⟩ = some v) (hsz : σ'.slots.length ≤ a'.tmps.size)
    (hslots : ∀ t, (σ'.slot t = σ.slot t ∧ a'.tmps.getD t undef = a.tmps.getD t undef) ∨ RepAV σ'.ob c' (σ'.slot t) (a'.tmps.getD t undef))
    (hdf : a'.defers = [])
    (hobs : ∀ k g o, σ'.ob k = (g, some o) → (σ.ob k = (g, some o) ∧ c'.ρ k = c.ρ k ∧ c'.cp k = c.cp k ∧ (owned o = true → ∀ b, c.ρ k = some b → w'.heap[b]? = w.heap[b]? ∧ ∀ i, c'.G b i = c.G b i)) ∨ ObOk σ'.ob c' w' k o)
    (hsep : ∀ k k' g g' o o' b, σ'.ob k = (g, some o) → σ'.ob k' = (g', some o') → owned o = true → owned o' = true → c'.ρ k = some b → c'.ρ k' = some b → k = k')
    (hnew : ∀ k g o b, σ'.ob k = (g, some o) → owned o = true → c'.ρ k = some b → w0.heap.size ≤ b ∨ S0 b)
    (hfr : Fr S0 w0 w') (hfresh : ∀ b o, c'.G b o ≠ G0 b o → w0.heap.size ≤ b ∨ S0 b) : Rel w0 S0 G0 σ' c' a' w' where
  le := Gh.le_trans h.le hG
  imm := himm
  sz := hsz
  slots t := by
    rcases hslots t with ⟨e1, e2⟩ | h'
    · rw [e1, e2]; exact RepAV.keep hG hk (h.slots t)
    · exact h'
  df := hdf
  obs k g o ho := by
    rcases hobs k g o ho with ⟨e, e1, e2, hw⟩ | h'
    · exact ObOk.keep hG hk e1 e2 hw (h.obs k g o e)
    · exact h'
  sep := hsep
  new := hnew
  fr := hfr
  fresh := hfresh
def St.put (σ : St) (d : Option Nat) (v : AV) : St := match d with | some d => { σ with slots := σ.slots.set d v } | none => σ
theorem St.ob_put (σ : St) (d : Option Nat) (v : AV) : (σ.put d v).ob = σ.ob := by cases d <;> rfl
theorem St.len_put (σ : St) (d : Option Nat) (v : AV) : (σ.put d v).slots.length = σ.slots.length := by cases d <;> simp [St.put]
theorem Act.size_put (a : Act) (d : Option Nat) (v : Value) : (a.put d v).tmps.size = a.tmps.size := by cases d <;> simp [Act.put]
theorem Act.defers_put (a : Act) (d : Option Nat) (v : Value) : (a.put d v).defers = a.defers := by cases d <;> simp [Act.put]
theorem slot_put (hsz : σ.slots.length ≤ a.tmps.size) (d : Option Nat) (x : AV) (v : Value) (t : Nat) :
    ((σ.put d x).slot t = σ.slot t ∧ (a.put d v).tmps.getD t undef = a.tmps.getD t undef) ∨ ((σ.put d x).slot t = x ∧ (a.put d v).tmps.getD t undef = v) ∨ (σ.put d x).slot t = .any := by
  cases d with
  | none => exact .inl ⟨rfl, rfl⟩
  | some d =>
    by_cases e : d = t
    · subst e
      by_cases hl : d < σ.slots.length
      · refine .inr (.inl ⟨?_, ?_⟩)
        · simp [St.put, St.slot, List.getD_eq_getElem?_getD, hl]
        · have : d < a.tmps.size := by omega
          simp [Act.put, Array.getD_eq_getD_getElem?, this]
      · refine .inr (.inr ?_)
        simp [St.put, St.slot, List.getD_eq_getElem?_getD, hl]
    · refine .inl ⟨?_, ?_⟩
      · simp [St.put, St.slot, List.getD_eq_getElem?_getD, e]
      · simp [Act.put, Array.getD_eq_getD_getElem?, e]
theorem slot_put' {P : St → Prop} (hsz : σ.slots.length ≤ a.tmps.size) (d : Option Nat) (x : AV) (v : Value) (hx : RepAV ob c x v) (t : Nat) :
    ((σ.put d x).slot t = σ.slot t ∧ (a.put d v).tmps.getD t undef = a.tmps.getD t undef) ∨ RepAV ob c ((σ.put d x).slot t) ((a.put d v).tmps.getD t undef) := by
  rcases slot_put hsz d x v t with h | ⟨h1, h2⟩ | h
  · exact .inl h
  · right; rw [h1, h2]; exact hx
  · right; rw [h]; trivial
theorem Rel.setSlot (h : Rel w0 S0 G0 σ c a w) (d : Option Nat) (x : AV) (v : Value) (hx : RepAV σ.ob c x v) : Rel w0 S0 G0 (σ.put d x) c (a.put d v) w :=
  h.step (Gh.le_refl _) (fun k => Keeps.same (by rw [St.ob_put]) rfl rfl) h.imm (by rw [St.len_put, Act.size_put]; exact h.sz)
    (fun t => by rw [St.ob_put]; exact slot_put' (P := fun _ => True) h.sz d x v hx t) (by rw [Act.defers_put]; exact h.df)
    (fun k g o ho => by rw [St.ob_put] at ho; exact .inl ⟨ho, rfl, rfl, fun _ b hb => ⟨rfl, fun _ => rfl⟩⟩)
    (by rw [St.ob_put]; exact h.sep) (by rw [St.ob_put]; exact h.new) h.fr h.fresh
theorem Fr.drew {S : Nat → Prop} (h : Fr S w0 w) (hd : w' = { w with drawn := w'.drawn }) : Fr S w0 w' := by
  rw [hd]; exact ⟨h.os, h.tape, h.output, h.size, h.block⟩
theorem Rel.drew (h : Rel w0 S0 G0 σ c a w) (n : Nat) : Rel w0 S0 G0 σ c a { w with drawn := n } :=
  h.step (Gh.le_refl _) (fun k => Keeps.same rfl rfl rfl) h.imm h.sz (fun t => .inl ⟨rfl, rfl⟩) h.df
    (fun k g o ho => .inl ⟨ho, rfl, rfl, fun _ b hb => ⟨rfl, fun _ => rfl⟩⟩) h.sep h.new ⟨h.fr.os, h.fr.tape, h.fr.output, h.fr.size, h.fr.block⟩ h.fresh
theorem Rel.blk_lt (h : Rel w0 S0 G0 σ c a w) {k g : Nat} {o : AObj} {b : Nat} (ho : σ.ob k = (g, some o)) (hw : owned o = true) (hb : c.ρ k = some b) : b < w.heap.size := by
  have hk := h.obs k g o ho
  cases o with
  | blk cells =>
    obtain ⟨b', cs, ty, hb', hh, _⟩ := hk
    rw [hb] at hb'; cases hb'
    exact (Array.getElem?_eq_some_iff.1 hh).1
  | fro cells => simp [owned] at hw
  | view e xs => simp [owned] at hw
  | row own e xs =>
    rcases hk with ⟨e1, _⟩ | ⟨b', cs, ty, hb', hh, _⟩
    · rw [hb] at e1; cases e1
    · rw [hb] at hb'; cases hb'
      exact (Array.getElem?_eq_some_iff.1 hh).1
theorem Rel.gh_lt (h : Rel w0 S0 G0 σ c a w) {b o : Nat} {v : Value} (hg : c.G b o = some v) : b < w.heap.size := by
  have := h.imm b o v hg
  unfold World.cell? at this
  cases e : w.heap[b]? with
  | none => rw [e] at this; simp at this
  | some x => exact (Array.getElem?_eq_some_iff.1 e).1
end Go.Eng
/- ViewMore, part 3: EOps. -/
namespace Go.Eng
open Go.RowKit
set_option linter.unusedVariables false
set_option linter.unusedSimpArgs false
inductive RM (α : Type) where
  | ret (a : α)
  | fail
  | slot (t : Nat) (k : AV → RM α)
  | obj (q : Nat) (k : Nat × Option AObj → RM α)
def RM.val {α : Type} (σ : St) : RM α → Option α
  | .ret a => some a
  | .fail => none
  | .slot t k => (k (σ.slot t)).val σ
  | .obj q k => (k (σ.ob q)).val σ
def RM.sees {α : Type} (σ : St) : RM α → List Nat × List Nat
  | .ret _ => ([], [])
  | .fail => ([], [])
  | .slot t k => let r := (k (σ.slot t)).sees σ; (t :: r.1, r.2)
  | .obj q k => let r := (k (σ.ob q)).sees σ; (r.1, q :: r.2)
theorem RM.agree {α : Type} {σ σ' : St} : ∀ (m : RM α), (∀ t ∈ (m.sees σ).1, σ'.slot t = σ.slot t) → (∀ q ∈ (m.sees σ).2, σ'.ob q = σ.ob q) → m.val σ' = m.val σ
  | .ret _, _, _ => rfl
  | .fail, _, _ => rfl
  | .slot t k, h1, h2 => by
    simp only [RM.val, RM.sees] at *
    rw [h1 t (.head _)]
    exact RM.agree _ (fun u hu => h1 u (.tail _ hu)) h2
  | .obj q k, h1, h2 => by
    simp only [RM.val, RM.sees] at *
    rw [h2 q (.head _)]
    exact RM.agree _ h1 (fun u hu => h2 u (.tail _ hu))
structure Eff where
  val : AV
  upd : List (Nat × Nat × Option AObj)
def St.lays (σ : St) (us : List (Nat × Nat × Option AObj)) : St := { σ with obs := us.foldl (fun l u => lay l u.1 u.2) σ.obs }
def St.app (σ : St) (d : Option Nat) (e : Eff) : St := (σ.lays e.upd).put d e.val
structure Ty where
  agg : Bool
  size : Nat
  bytes : Nat
  elem : Nat
  fields : List (Nat × Nat)
  zero : List At
  es : List Nat
  str : Bool
  bool : Bool
  int : Option IntKind
  deriving Inhabited
def constAt : Value → At
  | .int k n => .pv (.int k n)
  | .bool b => .pv (.bool b)
  | .string s => .pv (.str s)
  | .slice A n m => if A = none ∧ n = 0 ∧ m = 0 then .nil else .any
  | _ => .any
def constV : Value → AV
  | .agg cs => .one (.agg (cs.toList.map constAt))
  | .tuple _ => .any
  | v => .one (.at (constAt v))
structure TyOk (P : Program) (t : Nat) (ty : Ty) : Prop where
  info : ∃ i z, P.info? t = some i ∧ i.size = ty.size ∧ i.bytes = ty.bytes ∧ i.zero = some z ∧ z.cells.toList.map constAt = ty.zero ∧ z.cells.size = ty.size ∧ (z.cells.all (·.oneCell') = true)
  isAgg : ∃ d, P.underlying t = some d ∧ (d.isRow = ty.agg)
  slice : ty.elem ≠ 0 → P.underlying t = some (.slice ty.elem)
  str : ty.str = true → P.underlying t = some .string
  bool : ty.bool = true → P.underlying t = some .bool
  int : ∀ k, ty.int = some k → P.underlying t = some (.int k)
  fields : ty.fields ≠ [] → ∃ F : Array Field, P.underlying t = some (.struct F) ∧ ∀ (i : Nat) (q : Nat × Nat), ty.fields[i]? = some q → ∃ f : Field, F[i]? = some f ∧ f.offset = q.1 ∧ f.type = q.2
def opnd {α : Type} (x : Operand) (k : AV → RM α) : RM α :=
  match x with
  | .tmp t => .slot t k
  | .const v => k (constV v)
  | .func f => k (.one (.at (.pv (.fn f []))))
  | .global _ => .fail
def absO (σ : St) : Operand → AV
  | .tmp t => σ.slot t
  | .const v => constV v
  | .func f => .one (.at (.pv (.fn f [])))
  | .global _ => .any
theorem val_opnd {α : Type} {σ : St} {x : Operand} {k : AV → RM α} {r : α} (h : (opnd x k).val σ = some r) : (k (absO σ x)).val σ = some r := by
  cases x with
  | tmp t => exact h
  | const v => exact h
  | func f => exact h
  | global g => simp [opnd, RM.val] at h
variable {ob : Obs} {c : Con} {w w' w0 : World} {S0 : Nat → Prop} {G0 : Gh} {σ σ' : St} {a a' : Act} {P : Program}
theorem rep_constAt (v : Value) : RepAt ob c (constAt v) v := by
  cases v <;> try trivial
  case int k n => exact .int _ _
  case bool b => exact .bool _
  case string s => exact .str _
  case slice A n m =>
    unfold constAt
    dsimp only
    split
    · rename_i h
      obtain ⟨rfl, rfl, rfl⟩ := h
      rfl
    · trivial
theorem rep_constV (v : Value) : RepAV ob c (constV v) v := by
  unfold constV
  split
  · rename_i cs
    refine ⟨cs, rfl, by simp, fun i x hx => ?_⟩
    rw [List.getElem?_map] at hx
    obtain ⟨u, hu, rfl⟩ := Option.map_eq_some_iff.1 hx
    rw [Array.getElem?_toList] at hu
    rw [Array.getD_eq_getD_getElem?, hu]
    exact rep_constAt u
  · trivial
  · exact rep_constAt _
theorem Rel.opnd (h : Rel w0 S0 G0 σ c a w) (x : Operand) : RepAV σ.ob c (absO σ x) (a.eval x) := by
  cases x with
  | tmp t => exact h.slots t
  | const v => exact rep_constV v
  | func f => exact Rep.fn f [] #[] rfl (by simp)
  | global g => trivial
def Done (P : Program) (w0 : World) (S0 : Nat → Prop) (G0 : Gh) (σ : St) (o : Oper) (e : Eff) : Prop :=
  ∀ c a w, Rel w0 S0 G0 σ c a w → ∃ v w', ((execOp a.eval o).run P w = .ok (.value v) w' ∨ ((execOp a.eval o).run P w = .ok .skip w' ∧ v = undef)) ∧ ∃ c', Rel w0 S0 G0 (σ.app o.dst e) c' (a.put o.dst v) w'
theorem Done.pure {o : Oper} {x : AV} (h : ∀ c a w, Rel w0 S0 G0 σ c a w → ∃ v, (execOp a.eval o).run P w = .ok (.value v) w ∧ RepAV σ.ob c x v) : Done P w0 S0 G0 σ o ⟨x, []⟩ := by
  intro c a w hr
  obtain ⟨v, h1, h2⟩ := h c a w hr
  exact ⟨v, w, .inl h1, c, hr.setSlot o.dst x v h2⟩
def absMove (x : Operand) : RM Eff := opnd x fun v => .ret ⟨v, []⟩
theorem done_move {o : Oper} {x : Operand} {e : Eff} (ho : o.op = .move x ∨ o.op = .assign x) (h : (absMove x).val σ = some e) : Done P w0 S0 G0 σ o e := by
  replace h := val_opnd h
  simp only [RM.val, Option.some.injEq] at h
  subst h
  refine Done.pure fun c a w hr => ⟨a.eval x, ?_, hr.opnd x⟩
  rcases ho with ho | ho <;> simp [execOp, ho]
def absPick (x y z : Operand) : RM Eff := opnd x fun v => match v with
  | .one (.at (.pv (.bool b))) => if b then absMove y else absMove z
  | _ => .fail
theorem done_pick {o : Oper} {x y z : Operand} {e : Eff} (ho : o.op = .pick x y z) (h : (absPick x y z).val σ = some e) : Done P w0 S0 G0 σ o e := by
  replace h := val_opnd h
  generalize hv : absO σ x = v at h
  split at h
  case h_1 b =>
    have key : ∃ q, (absMove q).val σ = some e ∧ (if b then y else z) = q := by
      cases b
      · exact ⟨z, h, rfl⟩
      · exact ⟨y, h, rfl⟩
    obtain ⟨q, hq, eq⟩ := key
    have hq := val_opnd hq
    simp only [RM.val, Option.some.injEq] at hq
    subst hq
    refine Done.pure fun c a w hr => ⟨a.eval q, ?_, hr.opnd q⟩
    have hx := hr.opnd x
    rw [hv] at hx
    have hx : a.eval x = .bool b := by
      generalize a.eval x = u at hx
      cases hx
      rfl
    cases b <;> simp [execOp, ho, hx, asBool, ← eq]
  case h_2 => simp [RM.val] at h
def absBin (op : BinOp) (x y : PV) : Option PV :=
  match x, y with
  | .int k a, .int k' b =>
    match op with
    | .shl => if b < 0 then none else some (.int k (k.wrap (a * 2 ^ (min b.toNat k.bits))))
    | .shr => if b < 0 then none else some (.int k (a.fdiv (2 ^ (min b.toNat k.bits))))
    | _ => if k ≠ k' then none else
      match op with
      | .add => some (.int k (k.wrap (a + b)))
      | .sub => some (.int k (k.wrap (a - b)))
      | .mul => some (.int k (k.wrap (a * b)))
      | .quo => if b = 0 then none else some (.int k (k.wrap (a.tdiv b)))
      | .rem => if b = 0 then none else some (.int k (a.tmod b))
      | .and => some (.int k (k.wrap ((BitVec.ofInt k.bits a &&& BitVec.ofInt k.bits b).toNat : Int)))
      | .or => some (.int k (k.wrap ((BitVec.ofInt k.bits a ||| BitVec.ofInt k.bits b).toNat : Int)))
      | .eql => some (.bool (a == b))
      | .neq => some (.bool (a != b))
      | .lss => some (.bool (decide (a < b)))
      | .leq => some (.bool (decide (a ≤ b)))
      | .gtr => some (.bool (decide (a > b)))
      | .geq => some (.bool (decide (a ≥ b)))
      | _ => none
  | .str a, .str b =>
    match op with
    | .add => if ((a.size + b.size : Nat) : Int) > IntKind.i64.max then none else some (.str (a ++ b))
    | .eql => some (.bool (a.toList == b.toList))
    | .neq => some (.bool (!(a.toList == b.toList)))
    | .lss => some (.bool (Op.bytesLess a.toList b.toList))
    | .leq => some (.bool (Op.bytesLess a.toList b.toList || a.toList == b.toList))
    | .gtr => some (.bool (!(Op.bytesLess a.toList b.toList || a.toList == b.toList)))
    | .geq => some (.bool (!(Op.bytesLess a.toList b.toList)))
    | _ => none
  | _, _ => none
def toV : PV → Value
  | .int k n => .int k n
  | .bool b => .bool b
  | .str s => .string s
  | _ => undef
theorem run_absBin {op : BinOp} {x y r : PV} (t : TypeId) (h : absBin op x y = some r) (w : World) : (binOp op t (toV x) (toV y)).run P w = .ok (toV r) w := by
  unfold absBin at h
  split at h
  case h_1 k a k' b =>
    cases op <;> simp only at h <;> (try (split at h)) <;> (try (split at h)) <;> first
      | (cases h; done)
      | (rename_i c; simp only [Option.some.injEq] at h; subst h; simp [toV, binOp, Op.shift, c]; done)
      | (simp_all [toV, binOp, Op.intArith, Op.intCmp, Op.intDiv, Op.intBits, Op.shift] <;> (subst h; simp [toV]); done)
      | (simp_all [toV, binOp, Op.intArith, Op.intCmp, Op.intDiv, Op.intBits, Op.shift]; done)
  case h_2 a b =>
    cases op <;> simp only at h <;> (try (split at h)) <;> first
      | (cases h; done)
      | (rename_i c; simp only [Option.some.injEq] at h; subst h; simp only [toV, binOp, Op.stringOp]; rw [if_neg c]; rfl)
      | (simp only [Option.some.injEq] at h; subst h; rfl)
  case h_3 => cases h
end Go.Eng
/- ViewMore, part 4: EOps2. -/
namespace Go.Eng
open Go.RowKit
set_option linter.unusedVariables false
set_option linter.unusedSimpArgs false
variable {ob : Obs} {c : Con} {w w' w0 : World} {S0 : Nat → Prop} {G0 G : Gh} {σ σ' : St} {a a' : Act} {P : Program}
theorem rep_int {k : IntKind} {n : Int} {v : Value} (h : Rep G (.int k n) v) : v = .int k n := by cases h; rfl
theorem rep_bool {b : Bool} {v : Value} (h : Rep G (.bool b) v) : v = .bool b := by cases h; rfl
theorem rep_str {s : ByteArray} {v : Value} (h : Rep G (.str s) v) : v = .string s := by cases h; rfl
theorem rep_bin {op : BinOp} {x y r : PV} {u v : Value} (h : absBin op x y = some r) (hx : Rep G x u) (hy : Rep G y v) : u = toV x ∧ v = toV y := by
  unfold absBin at h
  split at h
  case h_1 => exact ⟨rep_int hx, rep_int hy⟩
  case h_2 => exact ⟨rep_str hx, rep_str hy⟩
  case h_3 => cases h
theorem absBin_rep {op : BinOp} {x y r : PV} (h : absBin op x y = some r) : Rep G r (toV r) := by
  have : (∃ k n, r = .int k n) ∨ (∃ b, r = .bool b) ∨ ∃ s, r = .str s := by
    unfold absBin at h
    split at h
    case h_1 => cases op <;> simp only at h <;> (try (split at h)) <;> (try (split at h)) <;> first | (cases h; done) | (simp only [Option.some.injEq] at h; subst h; first | exact .inl ⟨_, _, rfl⟩ | exact .inr (.inl ⟨_, rfl⟩) | exact .inr (.inr ⟨_, rfl⟩))
    case h_2 => cases op <;> simp only at h <;> (try (split at h)) <;> first | (cases h; done) | (simp only [Option.some.injEq] at h; subst h; first | exact .inl ⟨_, _, rfl⟩ | exact .inr (.inl ⟨_, rfl⟩) | exact .inr (.inr ⟨_, rfl⟩))
    case h_3 => cases h
  rcases this with ⟨k, n, rfl⟩ | ⟨b, rfl⟩ | ⟨s, rfl⟩
  · exact .int _ _
  · exact .bool _
  · exact .str _
def absBinO (op : BinOp) (x y : Operand) : RM Eff := opnd x fun u => opnd y fun v => match u, v with
  | .one (.at (.pv p)), .one (.at (.pv q)) => match absBin op p q with
    | some r => .ret ⟨.one (.at (.pv r)), []⟩
    | none => .fail
  | _, _ => .fail
theorem eqGuard_plain (op : BinOp) (t : TypeId) (x y : Operand) {p q r : PV} (h : absBin op p q = some r) (w : World) : (eqGuard op t x y (toV p) (toV q)).run P w = .ok () w := by
  unfold absBin at h
  split at h
  case h_1 => cases op <;> simp [eqGuard, toV]
  case h_2 => cases op <;> simp [eqGuard, toV]
  case h_3 => cases h
theorem done_bin {o : Oper} {op : BinOp} {t ty : TypeId} {x y : Operand} {e : Eff} (ho : o.op = .binOp op t x y ty) (h : (absBinO op x y).val σ = some e) : Done P w0 S0 G0 σ o e := by
  replace h := val_opnd h
  replace h := val_opnd h
  generalize hu : absO σ x = u at h
  generalize hv : absO σ y = v at h
  split at h
  case h_2 => simp [RM.val] at h
  case h_1 p q =>
    split at h
    case h_2 => simp [RM.val] at h
    case h_1 r hr =>
      simp only [RM.val, Option.some.injEq] at h
      subst h
      refine Done.pure fun c a w hR => ⟨toV r, ?_, absBin_rep hr⟩
      have h1 := hR.opnd x
      have h2 := hR.opnd y
      rw [hu] at h1
      rw [hv] at h2
      obtain ⟨e1, e2⟩ := rep_bin hr h1 h2
      simp [execOp, ho, e1, e2, eqGuard_plain op t x y hr, run_absBin t hr]
def absUn (op : UnOp) (x : Operand) : RM Eff := opnd x fun u => match op, u with
  | .not, .one (.at (.pv (.bool b))) => .ret ⟨.one (.at (.pv (.bool (!b)))), []⟩
  | .neg, .one (.at (.pv (.int k n))) => .ret ⟨.one (.at (.pv (.int k (k.wrap (0 - n))))), []⟩
  | _, _ => .fail
theorem done_un {o : Oper} {op : UnOp} {t : TypeId} {x : Operand} {e : Eff} (ho : o.op = .unOp op t x) (h : (absUn op x).val σ = some e) : Done P w0 S0 G0 σ o e := by
  replace h := val_opnd h
  generalize hu : absO σ x = u at h
  split at h
  case h_1 =>
    rename_i b
    simp only [RM.val, Option.some.injEq] at h
    subst h
    refine Done.pure fun c a w hR => ⟨.bool (!b), ?_, Rep.bool _⟩
    have h1 := hR.opnd x
    rw [hu] at h1
    simp [execOp, ho, rep_bool h1, Op.unary]
  case h_2 =>
    rename_i k n
    simp only [RM.val, Option.some.injEq] at h
    subst h
    refine Done.pure fun c a w hR => ⟨.int k (k.wrap (0 - n)), ?_, Rep.int _ _⟩
    have h1 := hR.opnd x
    rw [hu] at h1
    simp [execOp, ho, rep_int h1, Op.unary, Op.intArith]
  case h_3 => simp [RM.val] at h
def retLoad (ty : Ty) (l : List At) : RM Eff :=
  if l.length = ty.size then (if ty.agg then .ret ⟨.one (.agg l), []⟩ else match l with | [x] => .ret ⟨.one (.at x), []⟩ | _ => .fail) else .fail
def gone (g : Nat) (x : Nat × Option AObj) : Option AObj := if x.1 = g then x.2 else none
def absLoad (tab : Nat → Option Ty) (t : Nat) (x : Operand) : RM Eff := opnd x fun v => match tab t with
  | none => .fail
  | some ty => match v with
    | .one (.at (.ptr k g off)) => .obj k fun q => match gone g q with
      | some (.blk cells) => retLoad ty ((cells.drop off).take ty.size)
      | some (.fro cells) => retLoad ty (((cells.drop off).take ty.size).map .pv)
      | _ => .fail
    | .one (.at (.pv (.ref cells))) => retLoad ty ((cells.take ty.size).map .pv)
    | .one (.at (.eptr k g j off)) => .obj k fun q => match gone g q with
      | some (.row _ _ xs) => match xs[j]? with
        | some x => retLoad ty (((x.drop off).take ty.size).map .pv)
        | none => .fail
      | some (.view _ xs) => match xs[j]? with
        | some x => retLoad ty (((x.drop off).take ty.size).map .pv)
        | none => .fail
      | _ => .fail
    | _ => .fail
theorem run_load_word {t : Nat} {d : TypeDesc} (hu : P.underlying t = some d) (hd : d.isRow = false) {b o : Nat} {v : Value} (hc : w.cell? ⟨b, o, none⟩ = some v) :
    (Instr.loadAt t (.pointer (some ⟨b, o, none⟩))).run P w = .ok v w := by
  have hagg : (isAgg t).run P w = .ok false w := by
    unfold isAgg
    rw [Sem.run_bind, run_underlying hu w]
    cases d <;> simp_all
  simp [Instr.loadAt, Instr.sureAddr, loadVar, hagg, load, Sem.run, hc]
theorem load_cells {ty : Ty} {t : Nat} {l : List At} {e : Eff} (ht : TyOk P t ty) (h : (retLoad ty l).val σ = some e) (b o : Nat)
    (hc : ∀ i x, l[i]? = some x → ∃ v, w.cell? ⟨b, o + i, none⟩ = some v ∧ RepAt ob c x v) :
    e.upd = [] ∧ ∃ v, (Instr.loadAt t (.pointer (some ⟨b, o, none⟩))).run P w = .ok v w ∧ RepAV ob c e.val v := by
  obtain ⟨d, hu, hd⟩ := ht.isAgg
  unfold retLoad at h
  split at h
  case isFalse => simp [RM.val] at h
  case isTrue hl =>
    split at h
    case isTrue ha =>
      simp only [RM.val, Option.some.injEq] at h
      subst h
      refine ⟨rfl, ?_⟩
      let vs : List Value := (List.range l.length).map fun i => (w.cell? ⟨b, o + i, none⟩).getD undef
      have hv : ∀ i x, l[i]? = some x → w.cell? ⟨b, o + i, none⟩ = some (vs.getD i undef) ∧ RepAt ob c x (vs.getD i undef) := fun i x hx => by
        obtain ⟨v, h1, h2⟩ := hc i x hx
        have hi := (List.getElem?_eq_some_iff.1 hx).1
        have e : vs.getD i undef = v := by simp [vs, List.getD_eq_getElem?_getD, hi, h1]
        rw [e]
        exact ⟨h1, h2⟩
      obtain ⟨i, z, hi, hsz, _⟩ := ht.info
      have hlen : vs.length = l.length := by simp [vs]
      refine ⟨.agg vs.toArray, run_loadAt_mid w b o t vs d (fun j v hj => ?_) hu (by rw [hd, ha]) (by rw [hi, Option.map_some, hlen, hl, hsz]), vs.toArray, rfl, by simp [hlen], fun i x hx => ?_⟩
      · have hj' := (List.getElem?_eq_some_iff.1 hj).1
        obtain ⟨x, hx⟩ : ∃ x, l[j]? = some x := ⟨l[j]'(by omega), List.getElem?_eq_getElem (by omega)⟩
        rw [(hv j x hx).1, List.getD_eq_getElem?_getD, hj]
        rfl
      · have := (hv i x hx).2
        rw [Array.getD_eq_getD_getElem?, List.getElem?_toArray]
        rw [List.getD_eq_getElem?_getD] at this
        exact this
    case isFalse ha =>
      split at h
      case h_2 => simp [RM.val] at h
      case h_1 x =>
        simp only [RM.val, Option.some.injEq] at h
        subst h
        obtain ⟨v, h1, h2⟩ := hc 0 x rfl
        refine ⟨rfl, v, run_load_word hu (by rw [hd]; simpa using ha) h1, h2⟩
theorem drop_take_get {α : Type} {l : List α} {off n i : Nat} {x : α} (h : ((l.drop off).take n)[i]? = some x) : l[off + i]? = some x := by
  rw [List.getElem?_take] at h
  split at h
  · rw [List.getElem?_drop] at h; exact h
  · cases h
theorem map_get {α β : Type} {f : α → β} {l : List α} {i : Nat} {x : β} (h : (l.map f)[i]? = some x) : ∃ y, l[i]? = some y ∧ f y = x := by
  rw [List.getElem?_map] at h
  exact Option.map_eq_some_iff.1 h
theorem gone_some {g : Nat} {x : Nat × Option AObj} {o : AObj} (h : gone g x = some o) : x = (g, some o) := by
  unfold gone at h
  split at h
  · rename_i e
    obtain ⟨x1, x2⟩ := x
    simp only at e h
    rw [e, h]
  · cases h
theorem alive_of {ob : Obs} {k g : Nat} {o : AObj} (h : ob k = (g, some o)) : alive ob k g = some o := by unfold alive; rw [h, if_pos rfl]
theorem cell_of_blk {w : World} {b : Nat} {cs : Array Value} {ty : TypeId} (h : w.heap[b]? = some (.cells cs ty (0, 0))) (i : Nat) : w.cell? ⟨b, i, none⟩ = cs[i]? := by
  simp [World.cell?, h]
theorem get_of_getD {cs : Array Value} {i : Nat} (h : i < cs.size) : cs[i]? = some (cs.getD i undef) := by
  rw [Array.getD_eq_getD_getElem?, Array.getElem?_eq_getElem h]
  rfl
theorem Rel.row_elem (h : Rel w0 S0 G0 σ c a w) {k g e : Nat} {o : AObj} {xs : List (List PV)} (ho : σ.ob k = (g, some o)) (hx : o = .row true e xs ∨ o = .row false e xs ∨ o = .view e xs) {j : Nat} {x : List PV} (hj : xs[j]? = some x) :
    ∃ b, c.ρ k = some b ∧ xs.length ≤ c.cp k ∧ x.length = e ∧ ∀ i y, x[i]? = some y → ∃ v, w.cell? ⟨b, j * e + i, none⟩ = some v ∧ Rep c.G y v := by
  have hk := h.obs k g o ho
  have hjl := (List.getElem?_eq_some_iff.1 hj).1
  have rowcase : ∀ own, ObOk σ.ob c w k (.row own e xs) → ∃ b, c.ρ k = some b ∧ xs.length ≤ c.cp k ∧ x.length = e ∧ ∀ i y, x[i]? = some y → ∃ v, w.cell? ⟨b, j * e + i, none⟩ = some v ∧ Rep c.G y v := by
    intro own hk
    rcases hk with ⟨_, e2, _⟩ | ⟨b, cs, ty, hb, hh, hl, hc, hw, hr, _⟩
    · subst e2; simp at hj
    · have hxe := hw j x hj
      refine ⟨b, hb, hl, hxe, fun i y hy => ?_⟩
      have hil := (List.getElem?_eq_some_iff.1 hy).1
      have : j * e + i < cs.size := by
        rw [hc]
        have h1 : (j + 1) * e ≤ c.cp k * e := Nat.mul_le_mul_right e (by omega)
        rw [Nat.succ_mul] at h1
        omega
      exact ⟨_, by rw [cell_of_blk hh]; exact get_of_getD this, hr j x i y hj hy⟩
  rcases hx with rfl | rfl | rfl
  · exact rowcase true hk
  · exact rowcase false hk
  · rcases hk with ⟨_, e2⟩ | ⟨b, hb, hl, hw, hr⟩
    · subst e2; simp at hj
    · exact ⟨b, hb, hl, hw j x hj, fun i y hy => let ⟨v, h1, h2⟩ := hr j x i y hj hy; ⟨v, h.imm _ _ _ h1, h2⟩⟩
theorem load_run {tab : Nat → Option Ty} {t : Nat} {x : Operand} {e : Eff} (htab : ∀ t ty, tab t = some ty → TyOk P t ty) (h : (absLoad tab t x).val σ = some e) {c : Con} {a : Act} {w : World} (hR : Rel w0 S0 G0 σ c a w) :
    e.upd = [] ∧ ∃ v, (Instr.loadAt t (a.eval x)).run P w = .ok v w ∧ RepAV σ.ob c e.val v := by
  replace h := val_opnd h
  cases hty : tab t with
  | none => rw [hty] at h; simp [RM.val] at h
  | some ty =>
    rw [hty] at h
    have ht := htab t ty hty
    have hx := hR.opnd x
    generalize absO σ x = u at h hx
    dsimp only at h
    split at h
    case h_1 k g off =>
      simp only [RM.val] at h
      obtain ⟨hg, hp⟩ := hx
      cases hq : gone g (σ.ob k) with
      | none => rw [hq] at h; simp [RM.val] at h
      | some ob1 =>
        have hob := gone_some hq
        have hal := alive_of hob
        have hk := hR.obs k g ob1 hob
        rw [hq] at h
        cases ob1 with
        | row own e xs => simp [RM.val] at h
        | view e xs => simp [RM.val] at h
        | blk cells =>
          obtain ⟨b, hb, hv⟩ := hp (by rw [hal]; rfl)
          obtain ⟨b', cs, ty', hb', hh, hl, hr, _⟩ := hk
          rw [hb] at hb'; cases hb'
          rw [hv]
          refine load_cells ht h b off fun i x hx => ?_
          have hx := drop_take_get hx
          have hi := (List.getElem?_eq_some_iff.1 hx).1
          exact ⟨_, by rw [cell_of_blk hh]; exact get_of_getD (by omega), hr _ _ hx⟩
        | fro cells =>
          obtain ⟨b, hb, hv⟩ := hp (by rw [hal]; rfl)
          obtain ⟨b', hb', hr⟩ := hk
          rw [hb] at hb'; cases hb'
          rw [hv]
          refine load_cells ht h b off fun i x hx => ?_
          obtain ⟨y, hy, rfl⟩ := map_get hx
          obtain ⟨v, h1, h2⟩ := hr _ _ (drop_take_get hy)
          exact ⟨v, hR.imm _ _ _ h1, h2⟩
    case h_2 cells =>
      have hx : Rep c.G (.ref cells) (a.eval x) := hx
      generalize a.eval x = u at hx
      cases hx with
      | ref _ g o f hg hr =>
        refine load_cells ht h g o fun i x hx => ?_
        obtain ⟨y, hy, rfl⟩ := map_get hx
        rw [List.getElem?_take] at hy
        split at hy
        · exact ⟨_, hR.imm _ _ _ (hg i y hy), hr i y hy⟩
        · cases hy
    case h_3 k g j off =>
      simp only [RM.val] at h
      obtain ⟨hg, hp⟩ := hx
      cases hq : gone g (σ.ob k) with
      | none => rw [hq] at h; simp [RM.val] at h
      | some ob1 =>
        have hob := gone_some hq
        have hal := alive_of hob
        rw [hq] at h
        have rest : ∀ e1 xs, (ob1 = .row true e1 xs ∨ ob1 = .row false e1 xs ∨ ob1 = .view e1 xs) → (match xs[j]? with | some x => retLoad ty (((x.drop off).take ty.size).map .pv) | none => RM.fail).val σ = some e →
            e.upd = [] ∧ ∃ v, (Instr.loadAt t (a.eval x)).run P w = .ok v w ∧ RepAV σ.ob c e.val v := by
          intro e1 xs hxs h
          cases hj : xs[j]? with
          | none => rw [hj] at h; simp [RM.val] at h
          | some x1 =>
            rw [hj] at h
            obtain ⟨b, hb, _, _, hr⟩ := hR.row_elem hob hxs hj
            obtain ⟨b', hb', hv⟩ := hp e1 (by rw [hal]; rcases hxs with rfl | rfl | rfl <;> rfl)
            rw [hb] at hb'; cases hb'
            rw [hv]
            refine load_cells ht h b _ fun i y hy => ?_
            obtain ⟨z, hz, rfl⟩ := map_get hy
            obtain ⟨v, h1, h2⟩ := hr _ _ (drop_take_get hz)
            exact ⟨v, by rw [Nat.add_assoc]; exact h1, h2⟩
        cases ob1 with
        | blk cells => simp [RM.val] at h
        | fro cells => simp [RM.val] at h
        | row own e1 xs => exact rest e1 xs (by cases own <;> simp) h
        | view e1 xs => exact rest e1 xs (by simp) h
    case h_4 => simp [RM.val] at h
theorem done_load {o : Oper} {tab : Nat → Option Ty} {t : Nat} {x : Operand} {e : Eff} (htab : ∀ t ty, tab t = some ty → TyOk P t ty) (ho : o.op = .load t x) (h : (absLoad tab t x).val σ = some e) : Done P w0 S0 G0 σ o e := by
  intro c a w hR
  obtain ⟨h0, v, h1, h2⟩ := load_run htab h hR
  refine ⟨v, w, .inl (by simp [execOp, ho, h1]), c, ?_⟩
  have := hR.setSlot o.dst e.val v h2
  unfold St.app St.lays
  rw [h0]
  exact this
def absFieldAddr (tab : Nat → Option Ty) (t : Nat) (x : Operand) (f : Nat) : RM Eff := opnd x fun v => match tab t with
  | none => .fail
  | some ty => match ty.fields[f]? with
    | none => .fail
    | some (off, ft) => match tab ft with
      | none => .fail
      | some fty => if fty.size = 0 then .fail else match v with
        | .one (.at (.ptr k g o)) => .obj k fun q => match gone g q with
          | some (.blk _) => .ret ⟨.one (.at (.ptr k g (o + off))), []⟩
          | some (.fro _) => .ret ⟨.one (.at (.ptr k g (o + off))), []⟩
          | _ => .fail
        | .one (.at (.eptr k g j o)) => .obj k fun q => match gone g q with
          | some (.row _ _ _) => .ret ⟨.one (.at (.eptr k g j (o + off))), []⟩
          | some (.view _ _) => .ret ⟨.one (.at (.eptr k g j (o + off))), []⟩
          | _ => .fail
        | .one (.at (.pv (.ref cells))) => .ret ⟨.one (.at (.pv (.ref (cells.drop off)))), []⟩
        | _ => .fail
theorem run_fieldAt {t f b o : Nat} {ty fty : Ty} {off ft : Nat} (ht : TyOk P t ty) (hf : TyOk P ft fty) (hq : ty.fields[f]? = some (off, ft)) (hs : ¬ fty.size = 0) :
    (Instr.fieldAt t (.pointer (some ⟨b, o, none⟩)) f).run P w = .ok (.pointer (some ⟨b, o + off, none⟩)) w := by
  obtain ⟨F, hF, hr⟩ := ht.fields (fun e => by rw [e] at hq; simp at hq)
  obtain ⟨fl, h1, h2, h3⟩ := hr f _ hq
  obtain ⟨i, z, hi, hsz, _⟩ := hf.info
  simp only at h2 h3
  have hi' : P.info? fl.type = some i := by rw [h3, hi]
  have hs' : ¬ i.size = 0 := by rw [hsz]; exact hs
  simp [Instr.fieldAt, Instr.sureAddr, run_underlying hF, h1, fieldPlace, sizeOf, typeInfo, hi', hs', Addr.add_mid, h2]
theorem done_fieldAddr {o : Oper} {tab : Nat → Option Ty} {t f : Nat} {x : Operand} {e : Eff} (htab : ∀ t ty, tab t = some ty → TyOk P t ty) (ho : o.op = .fieldAddr t x f) (h : (absFieldAddr tab t x f).val σ = some e) : Done P w0 S0 G0 σ o e := by
  replace h := val_opnd h
  cases hty : tab t with
  | none => rw [hty] at h; simp [RM.val] at h
  | some ty =>
    rw [hty] at h
    cases hq : ty.fields[f]? with
    | none => simp [hq, RM.val] at h
    | some q =>
      obtain ⟨off, ft⟩ := q
      cases hft : tab ft with
      | none => simp [hq, hft, RM.val] at h
      | some fty =>
        simp only [hq, hft] at h
        split at h
        case isTrue => simp [RM.val] at h
        case isFalse hs =>
          have R := fun (w : World) (b o : Nat) => run_fieldAt (w := w) (b := b) (o := o) (htab t ty hty) (htab ft fty hft) hq hs
          generalize hu : absO σ x = u at h
          split at h
          case h_1 k g off0 =>
            simp only [RM.val] at h
            have key : (match gone g (σ.ob k) with
                | some (.blk _) => RM.ret (α := Eff) ⟨.one (.at (.ptr k g (off0 + off))), []⟩
                | some (.fro _) => .ret ⟨.one (.at (.ptr k g (off0 + off))), []⟩
                | _ => .fail).val σ = some e → isVar (gone g (σ.ob k)) = true ∧ e = ⟨.one (.at (.ptr k g (off0 + off))), []⟩ := by
              intro h
              split at h
              · rename_i q; rw [q]; simp only [RM.val, Option.some.injEq] at h; exact ⟨rfl, h.symm⟩
              · rename_i q; rw [q]; simp only [RM.val, Option.some.injEq] at h; exact ⟨rfl, h.symm⟩
              · simp [RM.val] at h
            obtain ⟨hv, he⟩ := key h
            subst he
            refine Done.pure fun c a w hR => ?_
            have hx := hR.opnd x
            rw [hu] at hx
            obtain ⟨hg, hp⟩ := hx
            obtain ⟨b, hb, hv'⟩ := hp hv
            exact ⟨.pointer (some ⟨b, off0 + off, none⟩), by simp [execOp, ho, hv', R], hg, fun _ => ⟨b, hb, rfl⟩⟩
          case h_2 k g j off0 =>
            simp only [RM.val] at h
            have key : (match gone g (σ.ob k) with
                | some (.row _ _ _) => RM.ret (α := Eff) ⟨.one (.at (.eptr k g j (off0 + off))), []⟩
                | some (.view _ _) => .ret ⟨.one (.at (.eptr k g j (off0 + off))), []⟩
                | _ => .fail).val σ = some e → (∃ e1, rowE (gone g (σ.ob k)) = some e1) ∧ e = ⟨.one (.at (.eptr k g j (off0 + off))), []⟩ := by
              intro h
              split at h
              · rename_i q; rw [q]; simp only [RM.val, Option.some.injEq] at h; exact ⟨⟨_, rfl⟩, h.symm⟩
              · rename_i q; rw [q]; simp only [RM.val, Option.some.injEq] at h; exact ⟨⟨_, rfl⟩, h.symm⟩
              · simp [RM.val] at h
            obtain ⟨⟨e1, hv⟩, he⟩ := key h
            subst he
            refine Done.pure fun c a w hR => ?_
            have hx := hR.opnd x
            rw [hu] at hx
            obtain ⟨hg, hp⟩ := hx
            obtain ⟨b, hb, hv'⟩ := hp e1 hv
            refine ⟨.pointer (some ⟨b, j * e1 + off0 + off, none⟩), by simp [execOp, ho, hv', R], hg, fun e2 h2 => ⟨b, hb, ?_⟩⟩
            have : some e1 = some e2 := hv.symm.trans h2
            cases this
            rw [Nat.add_assoc]
          case h_3 cells =>
            simp only [RM.val, Option.some.injEq] at h
            subst h
            refine Done.pure fun c a w hR => ?_
            have hx := hR.opnd x
            rw [hu] at hx
            have hx : Rep c.G (.ref cells) (a.eval x) := hx
            generalize hz : a.eval x = z at hx
            cases hx with
            | ref _ g o f hg hr =>
              refine ⟨.pointer (some ⟨g, o + off, none⟩), by simp [execOp, ho, hz, R], ?_⟩
              refine Rep.ref (cells.drop off) g (o + off) (fun i => f (off + i)) (fun i c hc => ?_) (fun i c hc => ?_)
              · rw [List.getElem?_drop] at hc; rw [Nat.add_assoc]; exact hg _ _ hc
              · rw [List.getElem?_drop] at hc; exact hr _ _ hc
          case h_4 => simp [RM.val] at h
end Go.Eng
/- ViewMore, part 5: EOps3. -/
namespace Go.Eng
open Go.RowKit
set_option linter.unusedVariables false
set_option linter.unusedSimpArgs false
variable {ob : Obs} {c : Con} {w w' w0 : World} {S0 : Nat → Prop} {G0 G : Gh} {σ σ' : St} {a a' : Act} {P : Program}
theorem St.ob_app1 (σ : St) (d : Option Nat) (x : AV) (k : Nat) (y : Nat × Option AObj) (q : Nat) : (σ.app d ⟨x, [(k, y)]⟩).ob q = if k = q then y else σ.ob q := by
  unfold St.app
  rw [St.ob_put]
  exact look_lay σ.obs k y q
theorem St.len_app (σ : St) (d : Option Nat) (e : Eff) : (σ.app d e).slots.length = σ.slots.length := by
  unfold St.app
  rw [St.len_put]
  rfl
theorem slot_app (hsz : σ.slots.length ≤ a.tmps.size) (d : Option Nat) (e : Eff) (v : Value) (hx : RepAV ob c e.val v) (t : Nat) :
    ((σ.app d e).slot t = σ.slot t ∧ (a.put d v).tmps.getD t undef = a.tmps.getD t undef) ∨ RepAV ob c ((σ.app d e).slot t) ((a.put d v).tmps.getD t undef) :=
  slot_put' (P := fun _ => True) (σ := σ.lays e.upd) hsz d e.val v hx t
theorem Rel.fresh_ (h : Rel w0 S0 G0 σ c a w) (k : Nat) (o : AObj) (cap : Nat) (cs : Array Value) (ty : TypeId) (n : Nat) (d : Option Nat) (x : AV) (v : Value)
    (hob : ∀ (ob' : Obs) (c' : Con), ob' k = ((σ.ob k).1 + 1, some o) → (∀ q, Keeps σ.ob ob' c c' q) → Gh.le c.G c'.G → c'.ρ k = some w.heap.size → c'.cp k = cap → (∀ i, c'.G w.heap.size i = none) →
      ObOk ob' c' { w with heap := w.heap.push (.cells cs ty (0, 0)), drawn := n } k o ∧ RepAV ob' c' x v) :
    ∃ c', Rel w0 S0 G0 (σ.app d ⟨x, [(k, (σ.ob k).1 + 1, some o)]⟩) c' (a.put d v) { w with heap := w.heap.push (.cells cs ty (0, 0)), drawn := n } := by
  let c' : Con := { ρ := fun q => if q = k then some w.heap.size else c.ρ q, cp := fun q => if q = k then cap else c.cp q, G := c.G }
  have eob := St.ob_app1 σ d x k ((σ.ob k).1 + 1, some o)
  have hkk : (σ.app d ⟨x, [(k, (σ.ob k).1 + 1, some o)]⟩).ob k = ((σ.ob k).1 + 1, some o) := by rw [eob, if_pos rfl]
  have hko : ∀ q, q ≠ k → (σ.app d ⟨x, [(k, (σ.ob k).1 + 1, some o)]⟩).ob q = σ.ob q := fun q hq => by rw [eob, if_neg (fun e => hq e.symm)]
  have hρ : ∀ q, q ≠ k → c'.ρ q = c.ρ q := fun q hq => by simp [c', hq]
  have hcp : ∀ q, q ≠ k → c'.cp q = c.cp q := fun q hq => by simp [c', hq]
  have hK : ∀ q, Keeps σ.ob (σ.app d ⟨x, [(k, (σ.ob k).1 + 1, some o)]⟩).ob c c' q := fun q => by
    by_cases e : q = k
    · subst e; left; rw [hkk]; exact Nat.lt_succ_self _
    · exact Keeps.same (hko q e) (hρ q e) (hcp q e)
  have hGn : ∀ i, c'.G w.heap.size i = none := fun i => by
    show c.G w.heap.size i = none
    cases e : c.G w.heap.size i with
    | none => rfl
    | some v => exact absurd (h.gh_lt e) (Nat.lt_irrefl _)
  obtain ⟨h1, h2⟩ := hob _ c' hkk hK (Gh.le_refl _) (by simp [c']) (by simp [c']) hGn
  refine ⟨c', h.step (Gh.le_refl _) hK (fun b i v hv => ?_) (by rw [St.len_app, Act.size_put]; exact h.sz) (slot_app h.sz d _ v h2) (by rw [Act.defers_put]; exact h.df) (fun q g o' hq => ?_) ?_ ?_ ?_ h.fresh⟩
  · have := h.imm b i v hv
    have hb := h.gh_lt hv
    simpa [World.cell?, Array.getElem?_push, Nat.ne_of_lt hb] using this
  · by_cases e : q = k
    · subst e
      rw [hkk] at hq
      cases hq
      exact .inr h1
    · rw [hko q e] at hq
      refine .inl ⟨hq, hρ q e, hcp q e, fun ho b hb => ⟨?_, fun _ => rfl⟩⟩
      have := h.blk_lt hq ho hb
      simp [Array.getElem?_push, Nat.ne_of_lt this]
  · intro q q' g g' o1 o2 b hq hq' ho1 ho2 hb hb'
    by_cases e : q = k
    · by_cases e' : q' = k
      · rw [e, e']
      · subst e
        rw [hko q' e'] at hq'
        rw [hρ q' e'] at hb'
        have := h.blk_lt hq' ho2 hb'
        simp [c'] at hb
        omega
    · by_cases e' : q' = k
      · subst e'
        rw [hko q e] at hq
        rw [hρ q e] at hb
        have := h.blk_lt hq ho1 hb
        simp [c'] at hb'
        omega
      · rw [hko q e] at hq
        rw [hko q' e'] at hq'
        rw [hρ q e] at hb
        rw [hρ q' e'] at hb'
        exact h.sep q q' g g' o1 o2 b hq hq' ho1 ho2 hb hb'
  · intro q g o1 b hq ho1 hb
    by_cases e : q = k
    · subst e
      simp [c'] at hb
      have := h.fr.size
      left; omega
    · rw [hko q e] at hq
      rw [hρ q e] at hb
      exact h.new q g o1 b hq ho1 hb
  · refine ⟨h.fr.os, h.fr.tape, h.fr.output, by simp; have := h.fr.size; omega, fun q hq hs => ?_⟩
    have := h.fr.block q hq hs
    have hlt := h.fr.size
    simp only [Array.getElem?_push]
    rw [if_neg (by omega)]
    exact this
def v1cells : V1 → List At
  | .at x => [x]
  | .agg l => l
def sureAt {α : Type} (x : At) (k : RM α) : RM α := match x with
  | .pv _ => k
  | .nil => k
  | .any => .fail
  | .row q g => .obj q fun r => match rowLen (gone g r) with
    | some _ => k
    | none => .fail
  | .ptr q g _ => .obj q fun r => if isVar (gone g r) = true then k else .fail
  | .eptr q g _ _ => .obj q fun r => match rowE (gone g r) with
    | some _ => k
    | none => .fail
theorem val_sureAt {α : Type} {x : At} {k : RM α} {r : α} (h : (sureAt x k).val σ = some r) : k.val σ = some r ∧ ∀ c v, RepAt σ.ob c x v → v.oneCell' = true := by
  cases x with
  | pv p => exact ⟨h, fun c v hv => by have hv : Rep c.G p v := hv; cases hv <;> rfl⟩
  | nil => exact ⟨h, fun c v hv => by have hv : v = .slice none 0 0 := hv; rw [hv]; rfl⟩
  | any => simp [sureAt, RM.val] at h
  | row q g =>
    simp only [sureAt, RM.val] at h
    cases e : rowLen (gone g (σ.ob q)) with
    | none => rw [e] at h; simp [RM.val] at h
    | some n =>
      rw [e] at h
      exact ⟨h, fun c v hv => by rw [hv.2 n e]; unfold rowVal; split <;> rfl⟩
  | ptr q g off =>
    simp only [sureAt, RM.val] at h
    split at h
    · rename_i e
      exact ⟨h, fun c v hv => by obtain ⟨b, _, e⟩ := hv.2 e; rw [e]; rfl⟩
    · simp [RM.val] at h
  | eptr q g j off =>
    simp only [sureAt, RM.val] at h
    cases e : rowE (gone g (σ.ob q)) with
    | none => rw [e] at h; simp [RM.val] at h
    | some n =>
      rw [e] at h
      exact ⟨h, fun c v hv => by obtain ⟨b, _, e⟩ := hv.2 n e; rw [e]; rfl⟩
def sureAll {α : Type} : List At → RM α → RM α
  | [], k => k
  | x :: l, k => sureAt x (sureAll l k)
theorem val_sureAll {α : Type} {k : RM α} {r : α} : ∀ {l : List At}, (sureAll l k).val σ = some r → k.val σ = some r ∧ ∀ x ∈ l, ∀ c v, RepAt σ.ob c x v → v.oneCell' = true
  | [], h => ⟨h, by simp⟩
  | x :: l, h => by
    obtain ⟨h1, h2⟩ := val_sureAt h
    obtain ⟨h3, h4⟩ := val_sureAll h1
    refine ⟨h3, fun y hy => ?_⟩
    rcases List.mem_cons.1 hy with rfl | hy
    · exact h2
    · exact h4 y hy
def absAlloc (tab : Nat → Option Ty) (t : Nat) (d : Option Nat) : RM Eff := match d, tab t with
  | some d, some ty => .obj d fun q => .ret ⟨.one (.at (.ptr d (q.1 + 1) 0)), [(d, q.1 + 1, some (.blk ty.zero))]⟩
  | _, _ => .fail
theorem done_alloc {o : Oper} {tab : Nat → Option Ty} {t : Nat} {e : Eff} (htab : ∀ t ty, tab t = some ty → TyOk P t ty) (ho : o.op = .alloc t) (h : (absAlloc tab t o.dst).val σ = some e) : Done P w0 S0 G0 σ o e := by
  unfold absAlloc at h
  split at h
  case h_2 => simp [RM.val] at h
  case h_1 d ty hd hty =>
    simp only [RM.val, Option.some.injEq] at h
    subst h
    intro c a w hR
    obtain ⟨i, z, hi, hsz, hby, hz, hzc, hzs, hz1⟩ := (htab t ty hty).info
    refine ⟨.pointer (some ⟨w.heap.size, 0, none⟩), { w with heap := w.heap.push (.cells z.cells t (0, 0)), drawn := w.drawn }, .inl ?_, ?_⟩
    · simp [execOp, ho, Instr.alloc, zeroValue, typeInfo, hi, hz, newVar, newRow, newObj, Sem.run, noResult]
    · rw [hd]
      refine hR.fresh_ d (.blk ty.zero) 0 z.cells t w.drawn (some d) _ _ fun ob' c' h1 hK hG h2 h3 h4 => ⟨⟨w.heap.size, z.cells, t, h2, by simp, by rw [← hzc]; simp, fun i x hx => ?_, h4⟩, ?_⟩
      · rw [← hzc] at hx
        obtain ⟨u, hu, rfl⟩ := map_get hx
        rw [Array.getElem?_toList] at hu
        rw [Array.getD_eq_getD_getElem?, hu]
        exact rep_constAt u
      · exact ⟨by rw [h1]; exact Nat.le_refl _, fun _ => ⟨_, h2, rfl⟩⟩
theorem cells_of_V1 {x : V1} {v : Value} (h : RepV1 ob c x v) (h1 : ∀ y ∈ v1cells x, ∀ v, RepAt ob c y v → v.oneCell' = true) : v.cells.size = (v1cells x).length ∧ (∀ i y, (v1cells x)[i]? = some y → RepAt ob c y (v.cells.getD i undef)) ∧ v.cells.all (·.oneCell') = true := by
  cases x with
  | agg l =>
    obtain ⟨cs, rfl, hl, hr⟩ := h
    refine ⟨hl, hr, Array.all_eq_true.2 fun i hi => ?_⟩
    have hi' : i < l.length := by rw [← hl]; exact hi
    have := h1 l[i] (List.getElem_mem hi') _ (hr i _ (List.getElem?_eq_getElem hi'))
    rw [Array.getD_eq_getD_getElem?, Array.getElem?_eq_getElem (show i < cs.size from hi)] at this
    exact this
  | «at» y =>
    have hv := h1 y (by simp [v1cells]) v h
    have hc : v.cells = #[v] := by
      cases v <;> first | rfl | (simp [Value.oneCell'] at hv)
    rw [hc]
    refine ⟨rfl, fun i z hz => ?_, by simp [hv]⟩
    match i, hz with
    | 0, hz => simp [v1cells] at hz; subst hz; exact h
def absBox (x : Operand) (d : Option Nat) : RM Eff := opnd x fun v => match d, v with
  | some d, .one y => sureAll (v1cells y) (.obj d fun q => .ret ⟨.one (.at (.ptr d (q.1 + 1) 0)), [(d, q.1 + 1, some (.blk (v1cells y)))]⟩)
  | _, _ => .fail
theorem done_box {o : Oper} {t : Nat} {x : Operand} {e : Eff} (ho : o.op = .box t x) (h : (absBox x o.dst).val σ = some e) : Done P w0 S0 G0 σ o e := by
  replace h := val_opnd h
  generalize hu : absO σ x = u at h
  split at h
  case h_2 => simp [RM.val] at h
  case h_1 d y hd =>
    obtain ⟨h, h1⟩ := val_sureAll h
    simp only [RM.val, Option.some.injEq] at h
    subst h
    intro c a w hR
    have hx := hR.opnd x
    rw [hu] at hx
    obtain ⟨e1, e2, e3⟩ := cells_of_V1 (x := y) hx (fun z hz v hv => h1 z hz c v hv)
    refine ⟨.pointer (some ⟨w.heap.size, 0, none⟩), { w with heap := w.heap.push (.cells (a.eval x).cells t (0, 0)), drawn := w.drawn }, .inl ?_, ?_⟩
    · simp [execOp, ho, Instr.box, newVar, newRow, newObj, Sem.run]
    · rw [hd]
      refine hR.fresh_ d (.blk (v1cells y)) 0 _ t w.drawn (some d) _ _ fun ob' c' h1 hK hG h2 h3 h4 => ⟨⟨w.heap.size, _, t, h2, by simp, e1, fun i x hx => RepAt.keep hG hK (e2 i x hx), h4⟩, ?_⟩
      exact ⟨by rw [h1]; exact Nat.le_refl _, fun _ => ⟨_, h2, rfl⟩⟩
end Go.Eng
/- ViewMore, part 6: EOps4. -/
namespace Go.Eng
open Go.RowKit
set_option linter.unusedVariables false
set_option linter.unusedSimpArgs false
variable {ob : Obs} {c c' : Con} {w w' w0 : World} {S0 : Nat → Prop} {G0 G : Gh} {σ σ' : St} {a a' : Act} {P : Program}
def setMany (cs : Array Value) : Nat → List Value → Array Value
  | _, [] => cs
  | o, v :: r => setMany (cs.setIfInBounds o v) (o + 1) r
theorem setMany_size : ∀ (vs : List Value) (cs : Array Value) (o : Nat), (setMany cs o vs).size = cs.size
  | [], _, _ => rfl
  | v :: r, cs, o => by simp [setMany, setMany_size r]
theorem setMany_get : ∀ (vs : List Value) (cs : Array Value) (o i : Nat), o + vs.length ≤ cs.size → (setMany cs o vs)[i]? = if o ≤ i ∧ i < o + vs.length then vs[i - o]? else cs[i]?
  | [], cs, o, i, h => by simp [setMany]; intro h1 h2; omega
  | v :: r, cs, o, i, h => by
    simp only [List.length_cons] at h
    rw [setMany, setMany_get r _ _ _ (by simp; omega)]
    by_cases e : i = o
    · subst e
      rw [if_neg (by omega), if_pos (by simp), Nat.sub_self, Array.getElem?_setIfInBounds_self_of_lt (by omega)]
      rfl
    · by_cases h2 : o + 1 ≤ i ∧ i < o + 1 + r.length
      · rw [if_pos h2, if_pos (by simp; omega)]
        obtain ⟨m, rfl⟩ : ∃ m, i = o + 1 + m := ⟨i - (o + 1), by omega⟩
        rw [show o + 1 + m - (o + 1) = m by omega, show o + 1 + m - o = m + 1 by omega]
        rfl
      · rw [if_neg h2, if_neg (by simp; omega)]
        rw [Array.getElem?_setIfInBounds_ne (fun h => e h.symm)]
theorem setCell_os (w : World) (x : Addr) (v : Value) : (w.setCell x v).os = w.os ∧ (w.setCell x v).tape = w.tape ∧ (w.setCell x v).output = w.output ∧ (w.setCell x v).heap.size = w.heap.size := by
  simp [World.setCell]
theorem setCells_os : ∀ (vs : List Value) (w : World) (b o : Nat), (w.setCells b o vs).os = w.os ∧ (w.setCells b o vs).tape = w.tape ∧ (w.setCells b o vs).output = w.output ∧ (w.setCells b o vs).heap.size = w.heap.size
  | [], _, _, _ => ⟨rfl, rfl, rfl, rfl⟩
  | v :: r, w, b, o => by
    obtain ⟨h1, h2, h3, h4⟩ := setCells_os r (w.setCell ⟨b, o, none⟩ v) b (o + 1)
    obtain ⟨g1, g2, g3, g4⟩ := setCell_os w ⟨b, o, none⟩ v
    exact ⟨h1.trans g1, h2.trans g2, h3.trans g3, h4.trans g4⟩
theorem setCells_other : ∀ (vs : List Value) (w : World) (b o k : Nat), k ≠ b → (w.setCells b o vs).heap[k]? = w.heap[k]?
  | [], _, _, _, _, _ => rfl
  | v :: r, w, b, o, k, h => by
    rw [World.setCells, setCells_other r _ b (o + 1) k h]
    exact Below.heap_setCell w ⟨b, o, none⟩ v k h
theorem setCells_self : ∀ (vs : List Value) (w : World) (b o : Nat) (cs : Array Value) (ty : TypeId), w.heap[b]? = some (.cells cs ty (0, 0)) → (w.setCells b o vs).heap[b]? = some (.cells (setMany cs o vs) ty (0, 0))
  | [], _, _, _, _, _, h => h
  | v :: r, w, b, o, cs, ty, h => by
    rw [World.setCells, setMany]
    refine setCells_self r _ b (o + 1) _ ty ?_
    have hb := (Array.getElem?_eq_some_iff.1 h).1
    simp only [World.setCell, Array.getElem?_modify, if_pos rfl, h, Option.map_some]
    simp
theorem frozen_blk {b i : Nat} {cs : Array Value} {ty : TypeId} (h : w.heap[b]? = some (.cells cs ty (0, 0))) : w.frozen? ⟨b, i, none⟩ = false := by simp [World.frozen?, h]
theorem run_store_gen {t b o : Nat} {ty : Ty} {v : Value} {cs : Array Value} {et : TypeId} (ht : TyOk P t ty) (hs : v.cells.size = ty.size) (h1 : v.cells.all (·.oneCell') = true) (hh : w.heap[b]? = some (.cells cs et (0, 0))) (hl : o + ty.size ≤ cs.size) :
    (Instr.storeAt t (.pointer (some ⟨b, o, none⟩)) v).run P w = .ok () (w.setCells b o v.cells.toList) := by
  obtain ⟨i, z, hi, hsz, _⟩ := ht.info
  have hst := run_storeCells_cells (P := P) b o v.cells.toList 0 w (fun j hj => by
      rw [cell_of_blk hh]
      have hj : j < v.cells.size := by simpa using hj
      rw [Array.getElem?_eq_getElem (by omega)]
      rfl) (fun j hj => frozen_blk hh) (fun u hu => by
      obtain ⟨i, hi, rfl⟩ := List.getElem_of_mem hu
      have := Array.all_eq_true.1 h1 i (by simpa using hi)
      simpa using this)
  simp only [Nat.add_zero] at hst
  have e : ¬ (v.cells.size ≠ i.size) := by rw [hs, hsz]; simp
  simp [Instr.storeAt, Instr.sureAddr, storeVar, sizeOf, typeInfo, hi, hst, hs, hsz]
theorem Rel.inplace (h : Rel w0 S0 G0 σ c a w) (k g : Nat) (o o' : AObj) (b : Nat) (hk : σ.ob k = (g, some o)) (ho : owned o = true) (ho' : owned o' = true) (hb : c.ρ k = some b) (d : Option Nat) (x : AV) (v : Value) (b' : Nat) (o1 : Nat) (vs : List Value) (hbb : b' = b)
    (hshape : (∀ n, rowLen (some o') = some n → rowLen (some o) = some n) ∧ (∀ e, rowE (some o') = some e → rowE (some o) = some e) ∧ (isVar (some o') = true → isVar (some o) = true))
    (hfree : ∀ i, o1 ≤ i → c.G b i = none)
    (hob : ∀ (ob' : Obs), ob' k = (g, some o') → (∀ q, Keeps σ.ob ob' c c q) → ObOk ob' c (w.setCells b' o1 vs) k o' ∧ RepAV ob' c x v) :
    Rel w0 S0 G0 (σ.app d ⟨x, [(k, g, some o')]⟩) c (a.put d v) (w.setCells b' o1 vs) := by
  subst hbb
  have eob := St.ob_app1 σ d x k (g, some o')
  have hkk : (σ.app d ⟨x, [(k, g, some o')]⟩).ob k = (g, some o') := by rw [eob, if_pos rfl]
  have hko : ∀ q, q ≠ k → (σ.app d ⟨x, [(k, g, some o')]⟩).ob q = σ.ob q := fun q hq => by rw [eob, if_neg (fun e => hq e.symm)]
  have hK : ∀ q, Keeps σ.ob (σ.app d ⟨x, [(k, g, some o')]⟩).ob c c q := fun q => by
    by_cases e : q = k
    · subst e
      right
      rw [hkk, hk]
      exact ⟨rfl, fun n hn => ⟨hshape.1 n hn, rfl, rfl⟩, fun e he => ⟨hshape.2.1 e he, rfl⟩, fun hv => ⟨hshape.2.2 hv, rfl⟩⟩
    · exact Keeps.same (hko q e) rfl rfl
  obtain ⟨h1, h2⟩ := hob _ hkk hK
  obtain ⟨s1, s2, s3, s4⟩ := setCells_os vs w b' o1
  have hbl := h.blk_lt hk ho hb
  refine h.step (Gh.le_refl _) hK (fun q i u hu => ?_) (by rw [St.len_app, Act.size_put]; exact h.sz) (slot_app h.sz d _ v h2) (by rw [Act.defers_put]; exact h.df) (fun q g' o2 hq => ?_) ?_ ?_ ?_ h.fresh
  · rw [World.cell?_setCells_out b' vs o1 w ⟨q, i, none⟩ (fun e _ => ?_)]
    · exact h.imm q i u hu
    · left
      have e : q = b' := e
      subst e
      rcases Nat.lt_or_ge i o1 with h | h
      · exact h
      · rw [hfree i h] at hu; cases hu
  · by_cases e : q = k
    · subst e
      rw [hkk] at hq
      cases hq
      exact .inr h1
    · rw [hko q e] at hq
      refine .inl ⟨hq, rfl, rfl, fun ho2 b2 hb2 => ⟨setCells_other vs w b' o1 b2 (fun e2 => ?_), fun _ => rfl⟩⟩
      subst e2
      exact e (h.sep q k g' g o2 o b2 hq hk ho2 ho hb2 hb)
  · intro q q' g1 g2 o2 o3 b2 hq hq' ho2 ho3 hb2 hb3
    by_cases e : q = k
    · by_cases e' : q' = k
      · rw [e, e']
      · subst e
        rw [hko q' e'] at hq'
        exact h.sep q q' g g2 o o3 b2 hk hq' ho ho3 hb2 hb3
    · by_cases e' : q' = k
      · subst e'
        rw [hko q e] at hq
        exact h.sep q q' g1 g o2 o b2 hq hk ho2 ho hb2 hb3
      · rw [hko q e] at hq
        rw [hko q' e'] at hq'
        exact h.sep q q' g1 g2 o2 o3 b2 hq hq' ho2 ho3 hb2 hb3
  · intro q g1 o2 b2 hq ho2 hb2
    by_cases e : q = k
    · subst e
      exact h.new q g o b2 hk ho hb2
    · rw [hko q e] at hq
      exact h.new q g1 o2 b2 hq ho2 hb2
  · refine ⟨s1.trans h.fr.os, s2.trans h.fr.tape, s3.trans h.fr.output, by rw [s4]; exact h.fr.size, fun q hq hs => ?_⟩
    have hne : q ≠ b' := fun e => by
      subst e
      rcases h.new k g o q hk ho hb with h3 | h3
      · omega
      · exact hs h3
    rw [setCells_other vs w b' o1 q hne]
    exact h.fr.block q hq hs
def absStore (tab : Nat → Option Ty) (t : Nat) (x y : Operand) : RM Eff := opnd x fun u => opnd y fun v => match tab t with
  | none => .fail
  | some ty => match u, v with
    | .one (.at (.ptr k g off)), .one z => if (v1cells z).length = ty.size then sureAll (v1cells z) (.obj k fun q => match gone g q with
        | some (.blk cells) => if off + ty.size ≤ cells.length then .ret ⟨.any, [(k, g, some (.blk (cells.take off ++ v1cells z ++ cells.drop (off + ty.size))))]⟩ else .fail
        | _ => .fail) else .fail
    | _, _ => .fail
theorem splice_get {α : Type} {cells l : List α} {off n i : Nat} {x : α} (hl : l.length = n) (h : off + n ≤ cells.length) (hx : (cells.take off ++ l ++ cells.drop (off + n))[i]? = some x) :
    (off ≤ i ∧ i < off + n ∧ l[i - off]? = some x) ∨ (¬ (off ≤ i ∧ i < off + n) ∧ cells[i]? = some x) := by
  have ht : (cells.take off).length = off := by rw [List.length_take]; omega
  by_cases h1 : i < off
  · right
    refine ⟨by omega, ?_⟩
    rw [List.append_assoc, List.getElem?_append_left (by omega), List.getElem?_take_of_lt h1] at hx
    exact hx
  · by_cases h2 : i < off + n
    · left
      refine ⟨by omega, h2, ?_⟩
      rw [List.append_assoc, List.getElem?_append_right (by omega), ht, List.getElem?_append_left (by omega)] at hx
      exact hx
    · right
      refine ⟨by omega, ?_⟩
      rw [List.append_assoc, List.getElem?_append_right (by omega), ht, List.getElem?_append_right (by omega), List.getElem?_drop, hl] at hx
      rw [show off + n + (i - off - n) = i by omega] at hx
      exact hx
theorem done_store {o : Oper} {tab : Nat → Option Ty} {t : Nat} {x y : Operand} {e : Eff} (htab : ∀ t ty, tab t = some ty → TyOk P t ty) (ho : o.op = .store t x y) (h : (absStore tab t x y).val σ = some e) : Done P w0 S0 G0 σ o e := by
  replace h := val_opnd h
  replace h := val_opnd h
  cases hty : tab t with
  | none => rw [hty] at h; simp [RM.val] at h
  | some ty =>
    rw [hty] at h
    have ht := htab t ty hty
    generalize hu : absO σ x = u at h
    generalize hv : absO σ y = v at h
    dsimp only at h
    split at h
    case h_2 => simp [RM.val] at h
    case h_1 k g off z =>
      split at h
      case isFalse => simp [RM.val] at h
      case isTrue hsz =>
        obtain ⟨h, h1⟩ := val_sureAll h
        simp only [RM.val] at h
        cases hq : gone g (σ.ob k) with
        | none => rw [hq] at h; simp [RM.val] at h
        | some ob1 =>
          have hob := gone_some hq
          rw [hq] at h
          cases ob1 with
          | row own e1 xs => simp [RM.val] at h
          | view e1 xs => simp [RM.val] at h
          | fro cells => simp [RM.val] at h
          | blk cells =>
            dsimp only at h
            split at h
            case isFalse => simp [RM.val] at h
            case isTrue hle =>
              simp only [RM.val, Option.some.injEq] at h
              subst h
              intro c a w hR
              have hx := hR.opnd x
              have hy := hR.opnd y
              rw [hu] at hx
              rw [hv] at hy
              obtain ⟨hg, hp⟩ := hx
              obtain ⟨b, hb, hva⟩ := hp (by rw [alive_of hob]; rfl)
              obtain ⟨b', cs, et, hb', hh, hl, hr, hgn⟩ := hR.obs k g _ hob
              rw [hb] at hb'; cases hb'
              obtain ⟨e1, e2, e3⟩ := cells_of_V1 (x := z) hy (fun z' hz v hv => h1 z' hz c v hv)
              refine ⟨undef, w.setCells b off (a.eval y).cells.toList, .inr ⟨?_, rfl⟩, c, ?_⟩
              · have := run_store_gen (P := P) (w := w) (o := off) ht (e1.trans hsz) e3 hh (by omega)
                simp [execOp, ho, hva, this]
              · refine hR.inplace k g (.blk cells) _ b hob rfl rfl hb o.dst .any undef b off _ rfl ⟨fun _ h => h, fun _ h => h, fun h => h⟩ (fun i _ => hgn i) fun ob' hob' hK => ⟨⟨b, _, et, hb, setCells_self _ w b off cs et hh, ?_, fun i x1 hx1 => ?_, hgn⟩, trivial⟩
                · rw [setMany_size, hl]; simp; omega
                · have hvl : (a.eval y).cells.toList.length = ty.size := by simp; omega
                  rw [Array.getD_eq_getD_getElem?, setMany_get _ cs off i (by omega)]
                  rcases splice_get hsz hle hx1 with ⟨q1, q2, q3⟩ | ⟨q1, q2⟩
                  · rw [if_pos (by omega)]
                    have := RepAt.keep (Gh.le_refl _) hK (e2 (i - off) x1 q3)
                    rw [Array.getD_eq_getD_getElem?] at this
                    simpa using this
                  · rw [if_neg (by omega)]
                    have := RepAt.keep (Gh.le_refl _) hK (hr i x1 q2)
                    rw [Array.getD_eq_getD_getElem?] at this
                    exact this
end Go.Eng
/- ViewMore, part 7: EOps5. -/
namespace Go.Eng
open Go.RowKit
set_option linter.unusedVariables false
set_option linter.unusedSimpArgs false
variable {ob : Obs} {c c' : Con} {w w' w0 : World} {S0 : Nat → Prop} {G0 G : Gh} {σ σ' σ1 : St} {a a' : Act} {P : Program}
theorem Rel.congr (h : Rel w0 S0 G0 σ c a w) (h1 : σ'.slots = σ.slots) (h2 : ∀ k, σ'.ob k = σ.ob k) : Rel w0 S0 G0 σ' c a w := by
  have e : σ'.ob = σ.ob := funext h2
  exact ⟨h.le, h.imm, by rw [h1]; exact h.sz, fun t => by rw [e, show σ'.slot t = σ.slot t by unfold St.slot; rw [h1]]; exact h.slots t, h.df, by rw [e]; exact h.obs, by rw [e]; exact h.sep, by rw [e]; exact h.new, h.fr, h.fresh⟩
theorem ob_lays1 (σ : St) (k : Nat) (y : Nat × Option AObj) (q : Nat) : (σ.lays [(k, y)]).ob q = if k = q then y else σ.ob q := look_lay σ.obs k y q
theorem Rel.freeze (h : Rel w0 S0 G0 σ c a w) {k g e : Nat} {xs : List (List PV)} (hk : σ.ob k = (g, some (.row true e xs))) :
    ∃ c', Rel w0 S0 G0 (σ.lays [(k, g, some (.row false e xs))]) c' a w ∧ Gh.le c.G c'.G ∧ c'.ρ = c.ρ ∧ c'.cp = c.cp := by
  have hob := h.obs k g _ hk
  have hkk : (σ.lays [(k, g, some (.row false e xs))]).ob k = (g, some (.row false e xs)) := by rw [ob_lays1, if_pos rfl]
  have hko : ∀ q, q ≠ k → (σ.lays [(k, g, some (.row false e xs))]).ob q = σ.ob q := fun q hq => by rw [ob_lays1, if_neg (fun e => hq e.symm)]
  have mk : ∀ c' : Con, c'.ρ = c.ρ → c'.cp = c.cp → Gh.le c.G c'.G → (∀ b o v, c'.G b o = some v → w.cell? ⟨b, o, none⟩ = some v) → (∀ b, c.ρ k ≠ some b → ∀ i, c'.G b i = c.G b i) →
      (∀ b o, c'.G b o ≠ G0 b o → w0.heap.size ≤ b ∨ S0 b) →
      ObOk σ.ob c' w k (.row false e xs) → Rel w0 S0 G0 (σ.lays [(k, g, some (.row false e xs))]) c' a w := by
    intro c' e1 e2 hG himm hoth hfresh hnew
    have hK : ∀ q, Keeps σ.ob (σ.lays [(k, g, some (.row false e xs))]).ob c c' q := fun q => by
      by_cases eq : q = k
      · subst eq
        right
        rw [hkk, hk, e1, e2]
        exact ⟨rfl, fun n hn => ⟨hn, rfl, rfl⟩, fun e he => ⟨he, rfl⟩, fun hv => by simp [isVar] at hv⟩
      · exact Keeps.same (hko q eq) (by rw [e1]) (by rw [e2])
    refine h.step hG hK himm h.sz (fun t => .inl ⟨rfl, rfl⟩) h.df (fun q g' o hq => ?_) ?_ ?_ h.fr hfresh
    · by_cases eq : q = k
      · subst eq
        rw [hkk] at hq
        cases hq
        right
        rcases hnew with hn | ⟨b, cs, ty, h1, h2, h3, h4, h5, h6, h7⟩
        · exact .inl hn
        · exact .inr ⟨b, cs, ty, h1, h2, h3, h4, h5, h6, h7⟩
      · rw [hko q eq] at hq
        refine .inl ⟨hq, by rw [e1], by rw [e2], fun ho b hb => ⟨rfl, hoth b (fun hb' => eq ?_)⟩⟩
        exact h.sep q k g' g o _ b hq hk ho rfl hb hb'
    · intro q q' g1 g2 o1 o2 b hq hq' ho1 ho2 hb hb'
      rw [e1] at hb hb'
      by_cases eq : q = k
      · by_cases eq' : q' = k
        · rw [eq, eq']
        · subst eq
          rw [hko q' eq'] at hq'
          exact h.sep q q' g g2 _ o2 b hk hq' rfl ho2 hb hb'
      · by_cases eq' : q' = k
        · subst eq'
          rw [hko q eq] at hq
          exact h.sep q q' g1 g o1 _ b hq hk ho1 rfl hb hb'
        · rw [hko q eq] at hq
          rw [hko q' eq'] at hq'
          exact h.sep q q' g1 g2 o1 o2 b hq hq' ho1 ho2 hb hb'
    · intro q g1 o1 b hq ho1 hb
      rw [e1] at hb
      by_cases eq : q = k
      · subst eq
        exact h.new q g _ b hk rfl hb
      · rw [hko q eq] at hq
        exact h.new q g1 o1 b hq ho1 hb
  rcases hob with ⟨h1, h2, h3⟩ | ⟨b, cs, ty, hb, hh, hl, hc, hwd, hr, hg⟩
  · exact ⟨c, mk c rfl rfl (Gh.le_refl _) h.imm (fun _ _ _ => rfl) h.fresh (.inl ⟨h1, h2, h3⟩), Gh.le_refl _, rfl, rfl⟩
  · have hg : ∀ o, c.G b o = none := by simpa using hg
    let c' : Con := { ρ := c.ρ, cp := c.cp, G := fun b' o => if b' = b ∧ o < xs.length * e then cs[o]? else c.G b' o }
    have hG : Gh.le c.G c'.G := fun b' o v hv => by
      show (if b' = b ∧ o < xs.length * e then cs[o]? else c.G b' o) = some v
      rw [if_neg (fun hh' => by rw [hh'.1, hg] at hv; cases hv)]
      exact hv
    refine ⟨c', mk c' rfl rfl hG (fun b' o v hv => ?_) (fun b' hb' i => ?_) (fun b' o hne => ?_) (.inr ⟨b, cs, ty, hb, hh, hl, hc, hwd, fun j x i y hx hy => (hr j x i y hx hy).mono hG, ?_⟩), hG, rfl, rfl⟩
    · have hv : (if b' = b ∧ o < xs.length * e then cs[o]? else c.G b' o) = some v := hv
      split at hv
      · rename_i q
        rw [q.1, cell_of_blk hh]
        exact hv
      · exact h.imm b' o v hv
    · show (if b' = b ∧ i < xs.length * e then cs[i]? else c.G b' i) = c.G b' i
      rw [if_neg]
      exact fun q => hb' (by rw [q.1]; exact hb)
    · by_cases q : b' = b
      · subst q
        exact h.new k g _ b' hk rfl hb
      · refine h.fresh b' o fun e2 => hne ?_
        show (if b' = b ∧ o < xs.length * e then cs[o]? else c.G b' o) = G0 b' o
        rw [if_neg (fun q2 => q q2.1)]
        exact e2
    · rw [if_neg (by simp)]
      refine ⟨fun o ho => ?_, fun o ho => ?_⟩
      · show (if b = b ∧ o < xs.length * e then cs[o]? else c.G b o) = cs[o]?
        rw [if_pos ⟨rfl, ho⟩]
      · show (if b = b ∧ o < xs.length * e then cs[o]? else c.G b o) = none
        rw [if_neg (by omega), hg]
theorem Rel.read_row (h : Rel w0 S0 G0 σ c a w) {k g e : Nat} {o : AObj} {xs : List (List PV)} (hk : σ.ob k = (g, some o)) (hx : o = .row false e xs ∨ o = .view e xs) : Rep c.G (.list e xs) (rowVal (c.ρ k) xs.length (c.cp k)) := by
  have main : ∀ b, c.ρ k = some b → xs.length ≤ c.cp k → Wide e xs → (∀ (j : Nat) (x : List PV) (i : Nat) (y : PV), xs[j]? = some x → x[i]? = some y → ∃ v, c.G b (j * e + i) = some v ∧ Rep c.G y v) → Rep c.G (.list e xs) (rowVal (c.ρ k) xs.length (c.cp k)) := by
    intro b hb hl hw hr
    rw [hb]
    refine Rep.list e xs b 0 (c.cp k) (fun j i => (c.G b (j * e + i)).getD undef) hl hw (fun j x i y hx hy => ?_) (fun j x i y hx hy => ?_)
    · obtain ⟨v, h1, _⟩ := hr j x i y hx hy
      rw [Nat.zero_add, h1]
      rfl
    · obtain ⟨v, h1, h2⟩ := hr j x i y hx hy
      rw [h1]
      exact h2
  have hob := h.obs k g o hk
  rcases hx with rfl | rfl
  · rcases hob with ⟨h1, h2, h3⟩ | ⟨b, cs, ty, hb, hh, hl, hc, hwd, hr, hg⟩
    · subst h2
      rw [h1]
      exact .nil e none 0
    · rw [if_neg (by simp)] at hg
      refine main b hb hl hwd fun j x i y hx hy => ?_
      have hj := (List.getElem?_eq_some_iff.1 hx).1
      have hi := (List.getElem?_eq_some_iff.1 hy).1
      rw [hwd j x hx] at hi
      have h1 : (j + 1) * e ≤ xs.length * e := Nat.mul_le_mul_right e (by omega)
      have h2 : xs.length * e ≤ c.cp k * e := Nat.mul_le_mul_right e hl
      rw [Nat.succ_mul] at h1
      exact ⟨_, by rw [hg.1 _ (by omega)]; exact get_of_getD (by omega), hr j x i y hx hy⟩
  · rcases hob with ⟨h1, h2⟩ | ⟨b, hb, hl, hwd, hr⟩
    · subst h2
      rw [h1]
      exact .nil e none 0
    · exact main b hb hl hwd hr
theorem Rel.read_view (h : Rel w0 S0 G0 σ c a w) {k g e : Nat} {xs : List (List PV)} (hk : σ.ob k = (g, some (.row false e xs))) : ObOk σ.ob c w k (.view e xs) := by
  rcases h.obs k g _ hk with ⟨h1, h2, h3⟩ | ⟨b, cs, ty, hb, hh, hl, hc, hwd, hr, hg⟩
  · exact .inl ⟨h1, h2⟩
  · rw [if_neg (by simp)] at hg
    refine .inr ⟨b, hb, hl, hwd, fun j x i y hx hy => ?_⟩
    have hj := (List.getElem?_eq_some_iff.1 hx).1
    have hi := (List.getElem?_eq_some_iff.1 hy).1
    rw [hwd j x hx] at hi
    have h1 : (j + 1) * e ≤ xs.length * e := Nat.mul_le_mul_right e (by omega)
    have h2 : xs.length * e ≤ c.cp k * e := Nat.mul_le_mul_right e hl
    rw [Nat.succ_mul] at h1
    exact ⟨_, by rw [hg.1 _ (by omega)]; exact get_of_getD (by omega), hr j x i y hx hy⟩
def Frz (σ σ' : St) : Prop := σ'.slots = σ.slots ∧ ∀ q, σ'.ob q = σ.ob q ∨ ∃ g e xs, σ.ob q = (g, some (.row true e xs)) ∧ σ'.ob q = (g, some (.row false e xs))
theorem Frz.refl (σ : St) : Frz σ σ := ⟨rfl, fun _ => .inl rfl⟩
def atPV {α : Type} (e : Nat) (x : At) (k : PV → List (Nat × Nat × Option AObj) → RM α) : RM α := match x with
  | .pv p => k p []
  | .nil => k (.list e []) []
  | .row q g => .obj q fun r => match gone g r with
    | some (.row own e' xs) => if own = true then k (.list e' xs) [(q, g, some (.row false e' xs))] else k (.list e' xs) []
    | some (.view e' xs) => k (.list e' xs) []
    | _ => .fail
  | .ptr q g off => .obj q fun r => match gone g r with
    | some (.fro cells) => k (.ref (cells.drop off)) []
    | _ => .fail
  | _ => .fail
theorem Frz.look (h : Frz σ σ1) {q g : Nat} {o : AObj} (hq : σ.ob q = (g, some o)) : σ1.ob q = (g, some o) ∨ ∃ e xs, o = .row true e xs ∧ σ1.ob q = (g, some (.row false e xs)) := by
  rcases h.2 q with h1 | ⟨g', e, xs, h1, h2⟩
  · exact .inl (h1.trans hq)
  · rw [hq] at h1
    cases h1
    exact .inr ⟨e, xs, rfl, h2⟩
theorem val_atPV {α : Type} {e : Nat} {x : At} {k : PV → List (Nat × Nat × Option AObj) → RM α} {r : α} (h : (atPV e x k).val σ = some r) :
    ∃ p us, (k p us).val σ = some r ∧ ∀ σ1, Frz σ σ1 → Frz σ (σ1.lays us) ∧ ∀ w0 S0 G0 c a w, Rel w0 S0 G0 σ1 c a w → ∃ c', Rel w0 S0 G0 (σ1.lays us) c' a w ∧ Gh.le c.G c'.G ∧ c'.ρ = c.ρ ∧ c'.cp = c.cp ∧ ∀ v, RepAt σ1.ob c x v → Rep c'.G p v := by
  have still : ∀ p, (k p []).val σ = some r → (∀ σ1, Frz σ σ1 → ∀ w0 S0 G0 c a w, Rel w0 S0 G0 σ1 c a w → ∀ v, RepAt σ1.ob c x v → Rep c.G p v) →
      ∃ p us, (k p us).val σ = some r ∧ ∀ σ1, Frz σ σ1 → Frz σ (σ1.lays us) ∧ ∀ w0 S0 G0 c a w, Rel w0 S0 G0 σ1 c a w → ∃ c', Rel w0 S0 G0 (σ1.lays us) c' a w ∧ Gh.le c.G c'.G ∧ c'.ρ = c.ρ ∧ c'.cp = c.cp ∧ ∀ v, RepAt σ1.ob c x v → Rep c'.G p v :=
    fun p h1 h2 => ⟨p, [], h1, fun σ1 hf => ⟨hf, fun w0 S0 G0 c a w hR => ⟨c, hR, Gh.le_refl _, rfl, rfl, h2 σ1 hf w0 S0 G0 c a w hR⟩⟩⟩
  cases x with
  | pv p => exact still p h fun σ1 _ w0 S0 G0 c a w _ v hv => hv
  | nil => exact still _ h fun σ1 _ w0 S0 G0 c a w _ v hv => by have hv : v = .slice none 0 0 := hv; rw [hv]; exact .nil _ _ _
  | any => simp [atPV, RM.val] at h
  | eptr q g j off => simp [atPV, RM.val] at h
  | ptr q g off =>
    simp only [atPV, RM.val] at h
    cases hq : gone g (σ.ob q) with
    | none => rw [hq] at h; simp [RM.val] at h
    | some o =>
      rw [hq] at h
      have hob := gone_some hq
      cases o with
      | fro cells =>
        refine still _ h fun σ1 hf w0 S0 G0 c a w hR v hv => ?_
        rcases hf.look hob with h1 | ⟨_, _, h1, _⟩
        · obtain ⟨b, hb, e1⟩ := hv.2 (by rw [alive_of h1]; rfl)
          obtain ⟨b', hb', hr⟩ := hR.obs q g _ h1
          rw [hb] at hb'; cases hb'
          rw [e1]
          refine Rep.ref (cells.drop off) b off (fun i => (c.G b (off + i)).getD undef) (fun i p hp => ?_) (fun i p hp => ?_)
          · rw [List.getElem?_drop] at hp
            obtain ⟨v, h2, _⟩ := hr _ _ hp
            rw [h2]; rfl
          · rw [List.getElem?_drop] at hp
            obtain ⟨v, h2, h3⟩ := hr _ _ hp
            rw [h2]; exact h3
        · cases h1
      | blk cells => simp [RM.val] at h
      | row own e1 xs => simp [RM.val] at h
      | view e1 xs => simp [RM.val] at h
  | row q g =>
    simp only [atPV, RM.val] at h
    cases hq : gone g (σ.ob q) with
    | none => rw [hq] at h; simp [RM.val] at h
    | some o =>
      rw [hq] at h
      have hob := gone_some hq
      cases o with
      | fro cells => simp [RM.val] at h
      | blk cells => simp [RM.val] at h
      | view e1 xs =>
        refine still _ h fun σ1 hf w0 S0 G0 c a w hR v hv => ?_
        rcases hf.look hob with h1 | ⟨_, _, h1, _⟩
        · rw [hv.2 xs.length (by rw [alive_of h1]; rfl)]
          exact hR.read_row h1 (.inr rfl)
        · cases h1
      | row own e1 xs =>
        dsimp only at h
        split at h
        case isFalse ho =>
          have ho : own = false := by simpa using ho
          subst ho
          refine still _ h fun σ1 hf w0 S0 G0 c a w hR v hv => ?_
          rcases hf.look hob with h1 | ⟨_, _, h1, _⟩
          · rw [hv.2 xs.length (by rw [alive_of h1]; rfl)]
            exact hR.read_row h1 (.inl rfl)
          · cases h1
        case isTrue ho =>
          subst ho
          refine ⟨_, _, h, fun σ1 hf => ⟨⟨hf.1, fun q' => ?_⟩, fun w0 S0 G0 c a w hR => ?_⟩⟩
          · rw [ob_lays1]
            split
            · rename_i e2; subst e2; exact .inr ⟨g, e1, xs, hob, rfl⟩
            · exact hf.2 q'
          · rcases hf.look hob with h1 | ⟨e2, xs2, h1, h2⟩
            · obtain ⟨c', hR', hG, e3, e4⟩ := hR.freeze h1
              refine ⟨c', hR', hG, e3, e4, fun v hv => ?_⟩
              rw [hv.2 xs.length (by rw [alive_of h1]; rfl), ← e3, ← e4]
              exact hR'.read_row (by rw [ob_lays1, if_pos rfl]) (.inl rfl)
            · cases h1
              refine ⟨c, hR.congr rfl (fun q' => ?_), Gh.le_refl _, rfl, rfl, fun v hv => ?_⟩
              · rw [ob_lays1]
                split
                · rename_i e2; subst e2; exact h2.symm
                · rfl
              · rw [hv.2 xs.length (by rw [alive_of h2]; rfl)]
                exact hR.read_row h2 (.inl rfl)
end Go.Eng
/- ViewMore, part 8: EOps6. -/
namespace Go.Eng
open Go.RowKit
set_option linter.unusedVariables false
set_option linter.unusedSimpArgs false
variable {ob : Obs} {c c' : Con} {w w' w0 : World} {S0 : Nat → Prop} {G0 G : Gh} {σ σ' σ1 : St} {a a' : Act} {P : Program}
theorem lays_append (σ : St) (u v : List (Nat × Nat × Option AObj)) : σ.lays (u ++ v) = (σ.lays u).lays v := by
  unfold St.lays
  rw [List.foldl_append]
theorem Frz.keeps {σ2 : St} (h1 : Frz σ σ1) (h2 : Frz σ σ2) (e1 : c'.ρ = c.ρ) (e2 : c'.cp = c.cp) (q : Nat) : Keeps σ1.ob σ2.ob c c' q := by
  have gen : ∀ {σ' : St}, Frz σ σ' → (σ'.ob q).1 = (σ.ob q).1 ∧ rowLen (σ'.ob q).2 = rowLen (σ.ob q).2 ∧ rowE (σ'.ob q).2 = rowE (σ.ob q).2 ∧ isVar (σ'.ob q).2 = isVar (σ.ob q).2 := fun h => by
    rcases h.2 q with h | ⟨g, e, xs, a, b⟩
    · rw [h]; exact ⟨rfl, rfl, rfl, rfl⟩
    · rw [a, b]; exact ⟨rfl, rfl, rfl, rfl⟩
  obtain ⟨a1, a2, a3, a4⟩ := gen h1
  obtain ⟨b1, b2, b3, b4⟩ := gen h2
  exact .inr ⟨by rw [b1, a1], fun n hn => ⟨by rw [a2, ← b2]; exact hn, by rw [e1], by rw [e2]⟩, fun n hn => ⟨by rw [a3, ← b3]; exact hn, by rw [e1]⟩, fun hv => ⟨by rw [a4, ← b4]; exact hv, by rw [e1]⟩⟩
def atPVs {α : Type} : List Nat → List At → (List PV → List (Nat × Nat × Option AObj) → RM α) → RM α
  | _, [], k => k [] []
  | es, x :: l, k => atPV (es.headD 0) x fun p us => atPVs es.tail l fun ps us' => k (p :: ps) (us ++ us')
theorem val_atPVs {α : Type} {r : α} : ∀ {l : List At} {es : List Nat} {k : List PV → List (Nat × Nat × Option AObj) → RM α}, (atPVs es l k).val σ = some r →
    ∃ ps us, (k ps us).val σ = some r ∧ ps.length = l.length ∧ ∀ σ1, Frz σ σ1 → Frz σ (σ1.lays us) ∧ ∀ w0 S0 G0 c a w, Rel w0 S0 G0 σ1 c a w → ∃ c', Rel w0 S0 G0 (σ1.lays us) c' a w ∧ Gh.le c.G c'.G ∧ c'.ρ = c.ρ ∧ c'.cp = c.cp ∧
      ∀ (i : Nat) (x : At) (v : Value), l[i]? = some x → RepAt σ1.ob c x v → ∃ p : PV, ps[i]? = some p ∧ Rep c'.G p v
  | [], es, k, h => ⟨[], [], h, rfl, fun σ1 hf => ⟨hf, fun w0 S0 G0 c a w hR => ⟨c, hR, Gh.le_refl _, rfl, rfl, fun i x v hx => by simp at hx⟩⟩⟩
  | x :: l, es, k, h => by
    obtain ⟨p, us, h1, H1⟩ := val_atPV h
    obtain ⟨ps, us', h2, hl, H2⟩ := val_atPVs h1
    refine ⟨p :: ps, us ++ us', h2, by simp [hl], fun σ1 hf => ?_⟩
    obtain ⟨f1, R1⟩ := H1 σ1 hf
    obtain ⟨f2, R2⟩ := H2 _ f1
    rw [lays_append]
    refine ⟨f2, fun w0 S0 G0 c a w hR => ?_⟩
    obtain ⟨c1, hR1, g1, e1, e2, v1⟩ := R1 w0 S0 G0 c a w hR
    obtain ⟨c2, hR2, g2, e3, e4, v2⟩ := R2 w0 S0 G0 c1 a w hR1
    refine ⟨c2, hR2, Gh.le_trans g1 g2, e3.trans e1, e4.trans e2, fun i y v hy hv => ?_⟩
    cases i with
    | zero => simp at hy; subst hy; exact ⟨p, rfl, (v1 v hv).mono g2⟩
    | succ i =>
      simp only [List.getElem?_cons_succ] at hy ⊢
      exact v2 i y v hy (RepAt.keep g1 (Frz.keeps hf f1 e1 e2) hv)
inductive PA where
  | at (p : PV)
  | agg (ps : List PV)
def RepPA (G : Gh) : PA → Value → Prop
  | .at p, v => Rep G p v
  | .agg ps, v => ∃ cs : Array Value, v = .agg cs ∧ cs.size = ps.length ∧ ∀ i p, ps[i]? = some p → Rep G p (cs.getD i undef)
theorem RepPA.mono {G' : Gh} (h : Gh.le G G') {x : PA} {v : Value} (r : RepPA G x v) : RepPA G' x v := by
  cases x with
  | «at» p => exact Rep.mono h r
  | agg ps => obtain ⟨cs, e, hl, hr⟩ := r; exact ⟨cs, e, hl, fun i p hp => (hr i p hp).mono h⟩
def argPA {α : Type} (es : List Nat) (y : V1) (k : PA → List (Nat × Nat × Option AObj) → RM α) : RM α := match y with
  | .at x => atPV (es.headD 0) x fun p us => k (.at p) us
  | .agg l => atPVs es l fun ps us => k (.agg ps) us
theorem val_argPA {α : Type} {es : List Nat} {y : V1} {k : PA → List (Nat × Nat × Option AObj) → RM α} {r : α} (h : (argPA es y k).val σ = some r) :
    ∃ p us, (k p us).val σ = some r ∧ ∀ σ1, Frz σ σ1 → Frz σ (σ1.lays us) ∧ ∀ w0 S0 G0 c a w, Rel w0 S0 G0 σ1 c a w → ∃ c', Rel w0 S0 G0 (σ1.lays us) c' a w ∧ Gh.le c.G c'.G ∧ c'.ρ = c.ρ ∧ c'.cp = c.cp ∧ ∀ v, RepV1 σ1.ob c y v → RepPA c'.G p v := by
  cases y with
  | «at» x =>
    obtain ⟨p, us, h1, H⟩ := val_atPV h
    exact ⟨.at p, us, h1, H⟩
  | agg l =>
    obtain ⟨ps, us, h1, hl, H⟩ := val_atPVs h
    refine ⟨.agg ps, us, h1, fun σ1 hf => ?_⟩
    obtain ⟨f1, R1⟩ := H σ1 hf
    refine ⟨f1, fun w0 S0 G0 c a w hR => ?_⟩
    obtain ⟨c1, hR1, g1, e1, e2, v1⟩ := R1 w0 S0 G0 c a w hR
    refine ⟨c1, hR1, g1, e1, e2, fun v hv => ?_⟩
    obtain ⟨cs, e, hs, hr⟩ := hv
    refine ⟨cs, e, by rw [hs, hl], fun i p hp => ?_⟩
    have hi := (List.getElem?_eq_some_iff.1 hp).1
    obtain ⟨x, hx⟩ : ∃ x, l[i]? = some x := ⟨l[i]'(by omega), List.getElem?_eq_getElem (by omega)⟩
    obtain ⟨p', hp', hrep⟩ := v1 i x _ hx (hr i x hx)
    rw [hp] at hp'
    cases hp'
    exact hrep
inductive RA where
  | pv (p : PV)
  | row (key e : Nat) (xs : List (List PV))
inductive R1 where
  | at (x : RA)
  | agg (l : List RA)
inductive RT where
  | one (x : R1)
  | tup (l : List R1)
def R1.atoms : R1 → List RA
  | .at x => [x]
  | .agg l => l
def RT.atoms : RT → List RA
  | .one x => x.atoms
  | .tup l => l.flatMap R1.atoms
def RepRA (c : Con) : RA → Value → Prop
  | .pv p, v => Rep c.G p v
  | .row key e xs, v => v = rowVal (c.ρ key) xs.length (c.cp key)
def RepR1 (c : Con) : R1 → Value → Prop
  | .at x, v => RepRA c x v
  | .agg l, v => ∃ cs : Array Value, v = .agg cs ∧ cs.size = l.length ∧ ∀ i x, l[i]? = some x → RepRA c x (cs.getD i undef)
def RepRT (c : Con) : RT → Value → Prop
  | .one x, v => RepR1 c x v
  | .tup l, v => ∃ vs : Array Value, v = .tuple vs ∧ vs.size = l.length ∧ ∀ i x, l[i]? = some x → RepR1 c x (vs.getD i undef)
def obs0 : Obs := fun _ => (0, none)
structure Ends (w : World) (G : Gh) (res : RT) (v : Value) (c : Con) (w' : World) : Prop where
  le : Gh.le G c.G
  imm : ∀ b o v, c.G b o = some v → w'.cell? ⟨b, o, none⟩ = some v
  fresh : ∀ b o, c.G b o ≠ G b o → w.heap.size ≤ b
  below : Below w.heap.size w w'
  rep : RepRT c res v
  row : ∀ key e xs, RA.row key e xs ∈ res.atoms → ObOk obs0 c w' key (.row true e xs) ∧ ∀ b, c.ρ key = some b → w.heap.size ≤ b
  uniq : ∀ key e xs e' xs', RA.row key e xs ∈ res.atoms → RA.row key e' xs' ∈ res.atoms → e = e' ∧ xs = xs'
  sep : ∀ key e xs key' e' xs' b, RA.row key e xs ∈ res.atoms → RA.row key' e' xs' ∈ res.atoms → c.ρ key = some b → c.ρ key' = some b → key = key'
def Spec (P : Program) (f : FuncId) (args : List PA) (res : RT) : Prop :=
  ∀ (w : World) (G : Gh) (vs : Array Value), (∀ b o v, G b o = some v → w.cell? ⟨b, o, none⟩ = some v) → vs.size = args.length → (∀ i x, args[i]? = some x → RepPA G x (vs.getD i undef)) →
    Calls P f vs w fun e w' => ∃ v c, e = .returned v ∧ Ends w G res v c w'
def raAt (g : Nat → Nat) : RA → At
  | .pv p => .pv p
  | .row key e xs => .row key (g key + 1)
def r1V (g : Nat → Nat) : R1 → V1
  | .at x => .at (raAt g x)
  | .agg l => .agg (l.map (raAt g))
def rtAV (g : Nat → Nat) : RT → AV
  | .one x => .one (r1V g x)
  | .tup l => .tup (l.map (r1V g))
def raUpd (g : Nat → Nat) : List RA → List (Nat × Nat × Option AObj)
  | [] => []
  | .pv _ :: l => raUpd g l
  | .row key e xs :: l => (key, g key + 1, some (.row true e xs)) :: raUpd g l
theorem raUpd_mem {g : Nat → Nat} : ∀ {l : List RA} {u : Nat × Nat × Option AObj}, u ∈ raUpd g l → ∃ key e xs, RA.row key e xs ∈ l ∧ u = (key, g key + 1, some (.row true e xs))
  | .pv p :: l, u, h => by
    obtain ⟨key, e, xs, h1, h2⟩ := raUpd_mem (l := l) h
    exact ⟨key, e, xs, .tail _ h1, h2⟩
  | .row key e xs :: l, u, h => by
    rcases List.mem_cons.1 h with h | h
    · exact ⟨key, e, xs, .head _, h⟩
    · obtain ⟨key, e, xs, h1, h2⟩ := raUpd_mem (l := l) h
      exact ⟨key, e, xs, .tail _ h1, h2⟩
theorem raUpd_row {g : Nat → Nat} : ∀ {l : List RA} {key e : Nat} {xs : List (List PV)}, RA.row key e xs ∈ l → (key, g key + 1, some (.row true e xs)) ∈ raUpd g l
  | .pv p :: l, key, e, xs, h => by
    rcases List.mem_cons.1 h with h | h
    · cases h
    · exact raUpd_row (l := l) h
  | .row k' e' xs' :: l, key, e, xs, h => by
    rcases List.mem_cons.1 h with h | h
    · cases h; exact .head _
    · exact .tail _ (raUpd_row (l := l) h)
theorem ob_lays : ∀ (us : List (Nat × Nat × Option AObj)) (σ : St) (q : Nat), (∃ u ∈ us, u.1 = q ∧ (σ.lays us).ob q = u.2) ∨ ((∀ u ∈ us, u.1 ≠ q) ∧ (σ.lays us).ob q = σ.ob q)
  | [], σ, q => .inr ⟨by simp, rfl⟩
  | u :: us, σ, q => by
    have e : σ.lays (u :: us) = (σ.lays [u]).lays us := rfl
    rw [e]
    rcases ob_lays us (σ.lays [u]) q with ⟨u', h1, h2, h3⟩ | ⟨h1, h2⟩
    · exact .inl ⟨u', .tail _ h1, h2, h3⟩
    · rw [h2]
      have e2 := ob_lays1 σ u.1 u.2 q
      by_cases h : u.1 = q
      · left
        exact ⟨u, .head _, h, by rw [show (σ.lays [u]).ob q = _ from e2, if_pos h]⟩
      · right
        refine ⟨fun u' hu => ?_, by rw [show (σ.lays [u]).ob q = _ from e2, if_neg h]⟩
        rcases List.mem_cons.1 hu with rfl | hu
        · exact h
        · exact h1 u' hu
theorem Rel.call (h : Rel w0 S0 G0 σ c a w) {res : RT} {v : Value} {c1 : Con} (he : Ends w c.G res v c1 w') (d : Option Nat) :
    ∃ c', Rel w0 S0 G0 ((σ.lays (raUpd (fun q => (σ.ob q).1) res.atoms)).put d (rtAV (fun q => (σ.ob q).1) res)) c' (a.put d v) w' := by
  let isR : Nat → Prop := fun q => ∃ e xs, RA.row q e xs ∈ res.atoms
  let g : Nat → Nat := fun q => (σ.ob q).1
  have dec : ∀ q, Decidable (isR q) := fun q => Classical.propDecidable _
  let c' : Con := { ρ := fun q => if isR q then c1.ρ q else c.ρ q, cp := fun q => if isR q then c1.cp q else c.cp q, G := c1.G }
  let σ2 := (σ.lays (raUpd g res.atoms)).put d (rtAV g res)
  have hin : ∀ q, isR q → ∃ e xs, RA.row q e xs ∈ res.atoms ∧ σ2.ob q = (g q + 1, some (.row true e xs)) := fun q hq => by
    obtain ⟨e, xs, hm⟩ := hq
    have hm' := raUpd_row (g := g) hm
    rcases ob_lays (raUpd g res.atoms) σ q with ⟨u, h1, h2, h3⟩ | ⟨h1, h2⟩
    · obtain ⟨key, e', xs', h4, rfl⟩ := raUpd_mem h1
      simp only at h2
      subst h2
      exact ⟨e', xs', h4, by rw [St.ob_put]; exact h3⟩
    · exact absurd rfl (h1 _ hm')
  have hout : ∀ q, ¬ isR q → σ2.ob q = σ.ob q := fun q hq => by
    rw [St.ob_put]
    rcases ob_lays (raUpd g res.atoms) σ q with ⟨u, h1, h2, h3⟩ | ⟨h1, h2⟩
    · obtain ⟨key, e', xs', h4, rfl⟩ := raUpd_mem h1
      simp only at h2
      subst h2
      exact absurd ⟨e', xs', h4⟩ hq
    · exact h2
  have ρin : ∀ q, isR q → c'.ρ q = c1.ρ q := fun q hq => if_pos hq
  have ρout : ∀ q, ¬ isR q → c'.ρ q = c.ρ q := fun q hq => if_neg hq
  have cpin : ∀ q, isR q → c'.cp q = c1.cp q := fun q hq => if_pos hq
  have cpout : ∀ q, ¬ isR q → c'.cp q = c.cp q := fun q hq => if_neg hq
  have hK : ∀ q, Keeps σ.ob σ2.ob c c' q := fun q => by
    by_cases hq : isR q
    · obtain ⟨e, xs, _, h2⟩ := hin q hq
      left; rw [h2]; exact Nat.lt_succ_self _
    · exact Keeps.same (hout q hq) (ρout q hq) (cpout q hq)
  have hRA : ∀ x ∈ res.atoms, ∀ u, RepRA c1 x u → RepAt σ2.ob c' (raAt g x) u := fun x hx u hu => by
    cases x with
    | pv p => exact hu
    | row key e xs =>
      have hr : isR key := ⟨e, xs, hx⟩
      obtain ⟨e2, xs2, hm, h2⟩ := hin key hr
      refine ⟨by rw [h2]; exact Nat.le_refl _, fun n hn => ?_⟩
      obtain ⟨rfl, rfl⟩ := he.uniq key e xs e2 xs2 hx hm
      rw [alive_of h2] at hn
      simp only [rowLen, Option.some.injEq] at hn
      have hu : u = rowVal (c1.ρ key) xs.length (c1.cp key) := hu
      rw [ρin key hr, cpin key hr, hu, ← hn]
  have hsub : ∀ {x : R1}, (∀ y ∈ x.atoms, y ∈ res.atoms) → ∀ u, RepR1 c1 x u → RepV1 σ2.ob c' (r1V g x) u := fun {x} hx u hu => by
    cases x with
    | «at» y => exact hRA y (hx y (by simp [R1.atoms])) u hu
    | agg l =>
      obtain ⟨cs, e, hl, hr⟩ := hu
      refine ⟨cs, e, by simp [hl], fun i y hy => ?_⟩
      obtain ⟨z, hz, rfl⟩ := map_get hy
      exact hRA z (hx z (List.mem_of_getElem? hz)) _ (hr i z hz)
  have hval : RepAV σ2.ob c' (rtAV g res) v := by
    have hrep := he.rep
    cases hres : res with
    | one x =>
      rw [hres] at hrep
      exact hsub (x := x) (by rw [hres]; exact fun y hy => hy) v hrep
    | tup l =>
      rw [hres] at hrep
      obtain ⟨vs, e, hl, hr⟩ := hrep
      refine ⟨vs, e, by simp [hl], fun i y hy => ?_⟩
      obtain ⟨z, hz, rfl⟩ := map_get hy
      refine hsub (x := z) (fun y hy => ?_) _ (hr i z hz)
      rw [hres]
      exact List.mem_flatMap.2 ⟨z, List.mem_of_getElem? hz, hy⟩
  have hblock : ∀ b, b < w.heap.size → w'.heap[b]? = w.heap[b]? := he.below.block
  have hGold : ∀ b i, b < w.heap.size → c'.G b i = c.G b i := fun b i hb => by
    by_cases e : c1.G b i = c.G b i
    · exact e
    · exact absurd (he.fresh b i e) (by omega)
  refine ⟨c', h.step (σ' := σ2) he.le hK he.imm (by rw [St.len_put, Act.size_put]; exact h.sz) ?_ (by rw [Act.defers_put]; exact h.df) (fun q g1 o hq => ?_) ?_ ?_ ?_ ?_⟩
  · exact slot_put' (P := fun _ => True) (σ := σ.lays (raUpd g res.atoms)) h.sz d _ v hval
  · by_cases hr : isR q
    · obtain ⟨e, xs, hm, h2⟩ := hin q hr
      rw [h2] at hq
      cases hq
      right
      have := (he.row q e xs hm).1
      rcases this with ⟨q1, q2, q3⟩ | ⟨b, cs, ty, r1, r2, r3, r4, r5, r6, r7⟩
      · exact .inl ⟨by rw [ρin q hr, q1], q2, by rw [cpin q hr, q3]⟩
      · exact .inr ⟨b, cs, ty, by rw [ρin q hr, r1], r2, by rw [cpin q hr]; exact r3, by rw [cpin q hr]; exact r4, r5, r6, r7⟩
    · rw [hout q hr] at hq
      refine .inl ⟨hq, ρout q hr, cpout q hr, fun ho b hb => ?_⟩
      have := h.blk_lt hq ho hb
      exact ⟨hblock b this, fun i => hGold b i this⟩
  · intro q q' g1 g2 o1 o2 b hq hq' ho1 ho2 hb hb'
    by_cases hr : isR q
    · obtain ⟨e, xs, hm, h2⟩ := hin q hr
      rw [ρin q hr] at hb
      by_cases hr' : isR q'
      · obtain ⟨e', xs', hm', h2'⟩ := hin q' hr'
        rw [ρin q' hr'] at hb'
        exact he.sep q e xs q' e' xs' b hm hm' hb hb'
      · rw [hout q' hr'] at hq'
        rw [ρout q' hr'] at hb'
        have := h.blk_lt hq' ho2 hb'
        have := (he.row q e xs hm).2 b hb
        omega
    · rw [hout q hr] at hq
      rw [ρout q hr] at hb
      have l1 := h.blk_lt hq ho1 hb
      by_cases hr' : isR q'
      · obtain ⟨e', xs', hm', h2'⟩ := hin q' hr'
        rw [ρin q' hr'] at hb'
        have := (he.row q' e' xs' hm').2 b hb'
        omega
      · rw [hout q' hr'] at hq'
        rw [ρout q' hr'] at hb'
        exact h.sep q q' g1 g2 o1 o2 b hq hq' ho1 ho2 hb hb'
  · intro q g1 o1 b hq ho1 hb
    by_cases hr : isR q
    · obtain ⟨e, xs, hm, h2⟩ := hin q hr
      rw [ρin q hr] at hb
      have := (he.row q e xs hm).2 b hb
      have := h.fr.size
      left; omega
    · rw [hout q hr] at hq
      rw [ρout q hr] at hb
      exact h.new q g1 o1 b hq ho1 hb
  · exact h.fr.trans (Fr.of_below (S := fun _ => False) he.below) (fun _ _ h => h.elim)
  · intro b o hne
    by_cases e : c1.G b o = c.G b o
    · exact h.fresh b o (by rw [← e]; exact hne)
    · have := he.fresh b o e
      have := h.fr.size
      left; omega
def argPAs {α : Type} : List (List Nat) → List Operand → (List PA → List (Nat × Nat × Option AObj) → RM α) → RM α
  | _, [], k => k [] []
  | ess, x :: l, k => opnd x fun u => match u with
    | .one y => argPA (ess.headD []) y fun p us => argPAs ess.tail l fun ps us' => k (p :: ps) (us ++ us')
    | .tup _ => .fail
theorem val_argPAs {α : Type} {r : α} : ∀ {l : List Operand} {ess : List (List Nat)} {k : List PA → List (Nat × Nat × Option AObj) → RM α}, (argPAs ess l k).val σ = some r →
    ∃ ps us, (k ps us).val σ = some r ∧ ps.length = l.length ∧ ∀ σ1, Frz σ σ1 → Frz σ (σ1.lays us) ∧ ∀ w0 S0 G0 c a w, Rel w0 S0 G0 σ1 c a w → ∃ c', Rel w0 S0 G0 (σ1.lays us) c' a w ∧ Gh.le c.G c'.G ∧ c'.ρ = c.ρ ∧ c'.cp = c.cp ∧
      ∀ (i : Nat) (x : Operand), l[i]? = some x → ∃ p : PA, ps[i]? = some p ∧ RepPA c'.G p (a.eval x)
  | [], es, k, h => ⟨[], [], h, rfl, fun σ1 hf => ⟨hf, fun w0 S0 G0 c a w hR => ⟨c, hR, Gh.le_refl _, rfl, rfl, fun i x hx => by simp at hx⟩⟩⟩
  | x :: l, es, k, h => by
    replace h := val_opnd h
    cases hu : absO σ x with
    | tup q => rw [hu] at h; simp [RM.val] at h
    | one y =>
      rw [hu] at h
      obtain ⟨p, us, h1, H1⟩ := val_argPA h
      obtain ⟨ps, us', h2, hl, H2⟩ := val_argPAs h1
      refine ⟨p :: ps, us ++ us', h2, by simp [hl], fun σ1 hf => ?_⟩
      obtain ⟨f1, R1⟩ := H1 σ1 hf
      obtain ⟨f2, R2⟩ := H2 _ f1
      rw [lays_append]
      refine ⟨f2, fun w0 S0 G0 c a w hR => ?_⟩
      obtain ⟨c1, hR1, g1, e1, e2, v1⟩ := R1 w0 S0 G0 c a w hR
      obtain ⟨c2, hR2, g2, e3, e4, v2⟩ := R2 w0 S0 G0 c1 a w hR1
      refine ⟨c2, hR2, Gh.le_trans g1 g2, e3.trans e1, e4.trans e2, fun i z hz => ?_⟩
      cases i with
      | zero =>
        simp at hz
        subst hz
        have hx := hR.opnd x
        have e5 : absO σ1 x = absO σ x := by
          cases x <;> first | rfl | (simp only [absO, St.slot]; rw [hf.1])
        rw [e5, hu] at hx
        exact ⟨p, rfl, (v1 _ hx).mono g2⟩
      | succ i =>
        simp only [List.getElem?_cons_succ] at hz ⊢
        exact v2 i z hz
end Go.Eng
/- ViewMore, part 9: EOps7. -/
namespace Go.Eng
open Go.RowKit
set_option linter.unusedVariables false
set_option linter.unusedSimpArgs false
variable {ob : Obs} {c c' : Con} {w w' w0 : World} {S0 : Nat → Prop} {G0 G : Gh} {σ σ' σ1 : St} {a a' : Act} {P : Program}
def DoneW (P : Program) (w0 : World) (S0 : Nat → Prop) (G0 : Gh) (σ : St) (o : Oper) (e : Eff) : Prop :=
  ∀ c a w, Rel w0 S0 G0 σ c a w → ∀ (K : Act → World → Prop) (Q : Exit → Act → World → Prop), (∀ c' a' w', Rel w0 S0 G0 (σ.app o.dst e) c' a' w' → a'.tmps.size = a.tmps.size → K a' w') → o.wp P a w K Q
theorem Done.toW {o : Oper} {e : Eff} (h : Done P w0 S0 G0 σ o e) : DoneW P w0 S0 G0 σ o e := by
  intro c a w hR K Q hK
  obtain ⟨v, w', h1, c', h2⟩ := h c a w hR
  unfold Oper.wp
  rcases h1 with h1 | ⟨h1, h3⟩
  · rw [h1]
    exact hK c' _ _ h2 (Act.size_put _ _ _)
  · rw [h1]
    rw [h3] at h2
    exact hK c' _ _ h2 (Act.size_put _ _ _)
def raRM {α : Type} (x : RA) (k : At → List (Nat × Nat × Option AObj) → RM α) : RM α := match x with
  | .pv p => k (.pv p) []
  | .row key e xs => .obj key fun q => k (.row key (q.1 + 1)) [(key, q.1 + 1, some (.row true e xs))]
def rasRM {α : Type} : List RA → (List At → List (Nat × Nat × Option AObj) → RM α) → RM α
  | [], k => k [] []
  | x :: l, k => raRM x fun y us => rasRM l fun ys us' => k (y :: ys) (us ++ us')
def r1RM {α : Type} (x : R1) (k : V1 → List (Nat × Nat × Option AObj) → RM α) : RM α := match x with
  | .at x => raRM x fun y us => k (.at y) us
  | .agg l => rasRM l fun ys us => k (.agg ys) us
def r1sRM {α : Type} : List R1 → (List V1 → List (Nat × Nat × Option AObj) → RM α) → RM α
  | [], k => k [] []
  | x :: l, k => r1RM x fun y us => r1sRM l fun ys us' => k (y :: ys) (us ++ us')
def rtRM {α : Type} (x : RT) (k : AV → List (Nat × Nat × Option AObj) → RM α) : RM α := match x with
  | .one x => r1RM x fun y us => k (.one y) us
  | .tup l => r1sRM l fun ys us => k (.tup ys) us
theorem raUpd_append (g : Nat → Nat) : ∀ l m : List RA, raUpd g (l ++ m) = raUpd g l ++ raUpd g m
  | [], m => rfl
  | .pv p :: l, m => raUpd_append g l m
  | .row k e xs :: l, m => by simp only [List.cons_append, raUpd, raUpd_append g l m]
def gens (σ : St) : Nat → Nat := fun q => (σ.ob q).1
theorem val_raRM {α : Type} (x : RA) (k : At → List (Nat × Nat × Option AObj) → RM α) : (raRM x k).val σ = (k (raAt (gens σ) x) (raUpd (gens σ) [x])).val σ := by cases x <;> rfl
theorem val_rasRM {α : Type} : ∀ (l : List RA) (k : List At → List (Nat × Nat × Option AObj) → RM α), (rasRM l k).val σ = (k (l.map (raAt (gens σ))) (raUpd (gens σ) l)).val σ
  | [], k => rfl
  | x :: l, k => by
    rw [rasRM, val_raRM, val_rasRM l, show x :: l = [x] ++ l from rfl, raUpd_append]
    rfl
theorem val_r1RM {α : Type} (x : R1) (k : V1 → List (Nat × Nat × Option AObj) → RM α) : (r1RM x k).val σ = (k (r1V (gens σ) x) (raUpd (gens σ) x.atoms)).val σ := by
  cases x with
  | «at» y => unfold r1RM; dsimp only; rw [val_raRM]; rfl
  | agg l => unfold r1RM; dsimp only; rw [val_rasRM]; rfl
theorem val_r1sRM {α : Type} : ∀ (l : List R1) (k : List V1 → List (Nat × Nat × Option AObj) → RM α), (r1sRM l k).val σ = (k (l.map (r1V (gens σ))) (raUpd (gens σ) (l.flatMap R1.atoms))).val σ
  | [], k => rfl
  | x :: l, k => by
    rw [r1sRM, val_r1RM, val_r1sRM l, List.flatMap_cons, raUpd_append]
    rfl
theorem val_rtRM {α : Type} (x : RT) (k : AV → List (Nat × Nat × Option AObj) → RM α) : (rtRM x k).val σ = (k (rtAV (gens σ) x) (raUpd (gens σ) x.atoms)).val σ := by
  cases x with
  | one y => unfold rtRM; dsimp only; rw [val_r1RM]; rfl
  | tup l => unfold rtRM; dsimp only; rw [val_r1sRM]; rfl
structure Dem where
  f : FuncId
  args : List PA
  res : RT
def Dem.ok (P : Program) (d : Dem) : Prop := Spec P d.f d.args d.res
def FnOk (P : Program) (f : FuncId) : Prop := ∃ fn, P.funcs[f]? = some fn ∧ (fn.name == "runtime.NumGoroutine") = false ∧ fn.body.isNone = false
def absCall (tab : Nat → Option Ty) (fns : FuncId → Bool) (res : RT) (f : Operand) (args : Array Operand) (tys : Array TypeId) : RM (Eff × Dem) := opnd f fun u => match u with
  | .one (.at (.pv (.fn f caps))) => if fns f = true then argPAs (tys.toList.map fun t => ((tab t).map (·.es)).getD []) args.toList fun ps us =>
      rtRM res fun v us' => .ret (⟨v, us ++ us'⟩, ⟨f, ps ++ caps.map .at, res⟩) else .fail
  | _ => .fail
theorem done_call {o : Oper} {tab : Nat → Option Ty} {fns : FuncId → Bool} {cl : Call} {f : Operand} {res : RT} {e : Eff} {dm : Dem} (hf : ∀ f, fns f = true → FnOk P f) (ho : o.op = .call cl) (hc : cl.callee = .value f)
    (h : (absCall tab fns res f cl.args cl.argTypes).val σ = some (e, dm)) (hd : dm.ok P) : DoneW P w0 S0 G0 σ o e := by
  replace h := val_opnd h
  generalize hu : absO σ f = u at h
  split at h
  case h_2 => simp [RM.val] at h
  case h_1 fid caps =>
    split at h
    case isFalse => simp [RM.val] at h
    case isTrue hfn =>
      obtain ⟨ps, us, h, hl, H⟩ := val_argPAs h
      rw [val_rtRM] at h
      simp only [RM.val, Option.some.injEq, Prod.mk.injEq] at h
      obtain ⟨he, hdm⟩ := h
      subst he hdm
      obtain ⟨hF, HR⟩ := H σ (Frz.refl σ)
      intro c a w hR K Q hK
      obtain ⟨c1, hR1, g1, e1, e2, hv⟩ := HR w0 S0 G0 c a w hR
      have hx := hR.opnd f
      rw [hu] at hx
      have hx : Rep c.G (.fn fid caps) (a.eval f) := hx
      obtain ⟨fn, hfn1, hfn2, hfn3⟩ := hf fid hfn
      have hfn2 : ¬ fn.name = "runtime.NumGoroutine" := by simpa using hfn2
      have hfn3 : ¬ fn.body = none := fun e => by rw [e] at hfn3; simp at hfn3
      generalize hz : a.eval f = z at hx
      cases hx with
      | fn _ _ vs hl2 hr2 =>
        have hrun : (execOp a.eval o).run P w = .ok (.enter fid (cl.args.map a.eval ++ vs)) w := by
          simp [execOp, ho, resolve, hc, hz, Deferred.ofValue, invoke, callFunc, program, Sem.run, hfn1, hfn2, hfn3]
        unfold Oper.wp
        rw [hrun, Oper.upon_enter]
        have hgens : ∀ q, ((σ.lays us).ob q).1 = (σ.ob q).1 := fun q => by
          rcases hF.2 q with h | ⟨g, e, xs, h1, h2⟩
          · rw [h]
          · rw [h1, h2]
        have hg : gens (σ.lays us) = gens σ := funext hgens
        refine Calls.mono (hd w c1.G (cl.args.map a.eval ++ vs) hR1.imm (by simp [hl, hl2]) fun i x hx => ?_) fun e w' ⟨v, c2, he, hends⟩ => ?_
        · by_cases hi : i < ps.length
          · rw [List.getElem?_append_left hi] at hx
            obtain ⟨y, hy⟩ : ∃ y, cl.args.toList[i]? = some y := ⟨_, List.getElem?_eq_getElem (by omega)⟩
            obtain ⟨p, hp, hrep⟩ := hv i y hy
            rw [hx] at hp
            cases hp
            have hi2 : i < (cl.args.map a.eval).size := by simp; have : cl.args.toList.length = cl.args.size := Array.length_toList; omega
            rw [Array.getD_eq_getD_getElem?, Array.getElem?_append_left hi2, Array.getElem?_map]
            rw [Array.getElem?_toList] at hy
            rw [hy]
            exact hrep
          · rw [List.getElem?_append_right (by omega)] at hx
            obtain ⟨p, hp, rfl⟩ := map_get hx
            have hsz : (cl.args.map a.eval).size = ps.length := by simp [hl]
            rw [Array.getD_eq_getD_getElem?, Array.getElem?_append_right (by omega), hsz]
            have := hr2 _ p hp
            rw [Array.getD_eq_getD_getElem?] at this
            exact Rep.mono g1 this
        · subst he
          obtain ⟨c3, hR3⟩ := hR1.call hends o.dst
          refine hK c3 _ _ ?_ (Act.size_put _ _ _)
          have : (fun q => ((σ.lays us).ob q).1) = gens σ := hg
          rw [this] at hR3
          unfold St.app
          rw [lays_append]
          exact hR3
def absLen (tab : Nat → Option Ty) (t : Nat) (x : Operand) : RM Eff := opnd x fun u => match tab t with
  | none => .fail
  | some ty => if ty.str = true then match u with
      | .one (.at (.pv (.str s))) => .ret ⟨.one (.at (.pv (.int .i64 s.size))), []⟩
      | _ => .fail
    else if ty.elem = 0 then .fail else match u with
      | .one (.at (.pv (.list _ xs))) => .ret ⟨.one (.at (.pv (.int .i64 xs.length))), []⟩
      | .one (.at .nil) => .ret ⟨.one (.at (.pv (.int .i64 0))), []⟩
      | .one (.at (.row k g)) => .obj k fun q => match rowLen (gone g q) with
        | some n => .ret ⟨.one (.at (.pv (.int .i64 n))), []⟩
        | none => .fail
      | _ => .fail
theorem rep_list_val {e : Nat} {xs : List (List PV)} {v : Value} (h : Rep G (.list e xs) v) : ∃ A cap, v = .slice A xs.length cap := by
  cases h with
  | nil _ A cap => exact ⟨A, cap, rfl⟩
  | list _ _ g o cap f hc hw hg hr => exact ⟨_, cap, rfl⟩
theorem rowVal_slice (b : Option Nat) (n cap : Nat) (h : b = none → n = 0) : ∃ A cap', rowVal b n cap = .slice A n cap' := by
  cases b with
  | none => rw [h rfl]; exact ⟨_, _, rfl⟩
  | some b => exact ⟨_, _, rfl⟩
theorem Rel.row_slice (h : Rel w0 S0 G0 σ c a w) {k g n : Nat} (hn : rowLen (gone g (σ.ob k)) = some n) : ∃ A cap, rowVal (c.ρ k) n (c.cp k) = .slice A n cap := by
  refine rowVal_slice _ _ _ fun e => ?_
  cases hq : gone g (σ.ob k) with
  | none => rw [hq] at hn; simp [rowLen] at hn
  | some o =>
    have hob := h.obs k g o (gone_some hq)
    rw [hq] at hn
    cases o with
    | blk cells => simp [rowLen] at hn
    | fro cells => simp [rowLen] at hn
    | row own e1 xs =>
      simp only [rowLen, Option.some.injEq] at hn
      rcases hob with ⟨h1, h2, h3⟩ | ⟨b, cs, ty, hb, _⟩
      · rw [h2] at hn; exact hn.symm
      · rw [e] at hb; cases hb
    | view e1 xs =>
      simp only [rowLen, Option.some.injEq] at hn
      rcases hob with ⟨h1, h2⟩ | ⟨b, hb, _⟩
      · rw [h2] at hn; exact hn.symm
      · rw [e] at hb; cases hb
theorem done_len {o : Oper} {tab : Nat → Option Ty} {cl : Call} {t : Nat} {x : Operand} {e : Eff} (htab : ∀ t ty, tab t = some ty → TyOk P t ty) (ho : o.op = .call cl) (hc : cl.callee = .builtin .len) (ha : cl.args = #[x]) (ht : cl.argTypes = #[t])
    (h : (absLen tab t x).val σ = some e) : Done P w0 S0 G0 σ o e := by
  replace h := val_opnd h
  cases hty : tab t with
  | none => rw [hty] at h; simp [RM.val] at h
  | some ty =>
    rw [hty] at h
    have hT := htab t ty hty
    have hx := fun c a w (hR : Rel w0 S0 G0 σ c a w) => hR.opnd x
    generalize absO σ x = u at h hx
    dsimp only at h
    split at h
    case isTrue hs =>
      split at h
      case h_2 => simp [RM.val] at h
      case h_1 s =>
        simp only [RM.val, Option.some.injEq] at h
        subst h
        refine Done.pure fun c a w hR => ⟨.int .i64 s.size, ?_, Rep.int _ _⟩
        have e1 := rep_str (hx c a w hR)
        simp [execOp, ho, resolve, hc, ha, ht, invoke, builtin, Builtin.len_, run_underlying (hT.str hs), e1, goInt]
    case isFalse hs =>
      split at h
      case isTrue => simp [RM.val] at h
      case isFalse he =>
        have R : ∀ (a : Act) (w : World) (A : Option Addr) (n cap : Nat), a.eval x = .slice A n cap → (execOp a.eval o).run P w = .ok (.value (.int .i64 n)) w := fun a w A n cap e1 => by
          simp [execOp, ho, resolve, hc, ha, ht, invoke, builtin, Builtin.len_, run_underlying (hT.slice he), e1, goInt]
        split at h
        case h_1 e1 xs =>
          simp only [RM.val, Option.some.injEq] at h
          subst h
          refine Done.pure fun c a w hR => ⟨.int .i64 xs.length, ?_, Rep.int _ _⟩
          obtain ⟨A, cap, e1⟩ := rep_list_val (hx c a w hR)
          exact R a w A _ cap e1
        case h_2 =>
          simp only [RM.val, Option.some.injEq] at h
          subst h
          refine Done.pure fun c a w hR => ⟨.int .i64 (0 : Nat), R a w none 0 0 (hx c a w hR), Rep.int _ _⟩
        case h_3 k g =>
          simp only [RM.val] at h
          split at h
          case h_2 => simp [RM.val] at h
          case h_1 n hn =>
            simp only [RM.val, Option.some.injEq] at h
            subst h
            refine Done.pure fun c a w hR => ⟨.int .i64 n, ?_, Rep.int _ _⟩
            obtain ⟨A, cap, e1⟩ := hR.row_slice hn
            exact R a w A _ cap ((((hx c a w hR).2 n hn)).trans e1)
        case h_4 => simp [RM.val] at h
def absIndexAddr (tab : Nat → Option Ty) (t : Nat) (x i : Operand) : RM Eff := opnd x fun u => opnd i fun v => match tab t with
  | none => .fail
  | some ty => if ty.elem = 0 then .fail else match tab ty.elem with
    | none => .fail
    | some ety => match v with
      | .one (.at (.pv (.int _ n))) => if n < 0 then .fail else match u with
        | .one (.at (.pv (.list e xs))) => if e = ety.size then match xs[n.toNat]? with
            | some cells => .ret ⟨.one (.at (.pv (.ref cells))), []⟩
            | none => .fail
          else .fail
        | .one (.at (.row k g)) => .obj k fun q => if rowE (gone g q) = some ety.size then match rowLen (gone g q) with
            | some m => if n < m then .ret ⟨.one (.at (.eptr k g n.toNat 0)), []⟩ else .fail
            | none => .fail
          else .fail
        | _ => .fail
      | _ => .fail
theorem run_indexAt {t : Nat} {ty ety : Ty} (hT : TyOk P t ty) (hE : TyOk P ty.elem ety) (he : ¬ ty.elem = 0) (b o len cap : Nat) (k : IntKind) (n : Int) (h0 : ¬ n < 0) (h1 : n < len) :
    (Instr.indexAt t (.slice (some ⟨b, o, none⟩) len cap) (.int k n)).run P w = .ok (.pointer (some ⟨b, o + n.toNat * ety.size, none⟩)) w := by
  obtain ⟨i, z, hi, hsz, _⟩ := hE.info
  have h2 : 0 ≤ n ∧ n < (len : Int) := ⟨by omega, h1⟩
  simp [Instr.indexAt, asIntOf, run_underlying (hT.slice he), h2, sizeOf, typeInfo, hi, hsz, Addr.add_mid]
theorem done_indexAddr {o : Oper} {tab : Nat → Option Ty} {t : Nat} {x i : Operand} {e : Eff} (htab : ∀ t ty, tab t = some ty → TyOk P t ty) (ho : o.op = .indexAddr t x i) (h : (absIndexAddr tab t x i).val σ = some e) : Done P w0 S0 G0 σ o e := by
  replace h := val_opnd h
  replace h := val_opnd h
  cases hty : tab t with
  | none => rw [hty] at h; simp [RM.val] at h
  | some ty =>
    rw [hty] at h
    have hT := htab t ty hty
    have hx := fun c a w (hR : Rel w0 S0 G0 σ c a w) => hR.opnd x
    have hi := fun c a w (hR : Rel w0 S0 G0 σ c a w) => hR.opnd i
    generalize absO σ x = u at h hx
    generalize absO σ i = v at h hi
    dsimp only at h
    split at h
    case isTrue => simp [RM.val] at h
    case isFalse he =>
      cases hety : tab ty.elem with
      | none => rw [hety] at h; simp [RM.val] at h
      | some ety =>
        rw [hety] at h
        have hE := htab _ ety hety
        dsimp only at h
        split at h
        case h_2 => simp [RM.val] at h
        case h_1 kk n =>
          split at h
          case isTrue => simp [RM.val] at h
          case isFalse h0 =>
            split at h
            case h_1 e1 xs =>
              split at h
              case isFalse => simp [RM.val] at h
              case isTrue hes =>
                split at h
                case h_2 => simp [RM.val] at h
                case h_1 cells hcell =>
                  simp only [RM.val, Option.some.injEq] at h
                  subst h
                  refine Done.pure fun c a w hR => ?_
                  have q1 := hx c a w hR
                  have q2 := rep_int (hi c a w hR)
                  have q1 : Rep c.G (.list e1 xs) (a.eval x) := q1
                  have hlt := (List.getElem?_eq_some_iff.1 hcell).1
                  generalize hz : a.eval x = z at q1
                  cases q1 with
                  | nil _ A cap => simp at hlt
                  | list _ _ g o1 cap f hc hw hg hr =>
                    refine ⟨.pointer (some ⟨g, o1 + n.toNat * ety.size, none⟩), by simp [execOp, ho, hz, q2, run_indexAt hT hE he g o1 xs.length cap kk n h0 (by omega)], ?_⟩
                    refine Rep.ref cells g _ (fun i => f n.toNat i) (fun i p hp => ?_) (fun i p hp => hr _ _ _ _ hcell hp)
                    rw [← hes]
                    exact hg _ _ _ _ hcell hp
            case h_2 k g =>
              simp only [RM.val] at h
              split at h
              case isFalse => simp [RM.val] at h
              case isTrue hes =>
                split at h
                case h_2 => simp [RM.val] at h
                case h_1 m hm =>
                  split at h
                  case isFalse => simp [RM.val] at h
                  case isTrue hlt =>
                    simp only [RM.val, Option.some.injEq] at h
                    subst h
                    refine Done.pure fun c a w hR => ?_
                    obtain ⟨q0, q1⟩ := hx c a w hR
                    have q2 := rep_int (hi c a w hR)
                    have q1 := q1 m hm
                    cases hb : c.ρ k with
                    | none =>
                      exfalso
                      cases hq : gone g (σ.ob k) with
                      | none => rw [hq] at hm; simp [rowLen] at hm
                      | some ob1 =>
                        have hob := hR.obs k g ob1 (gone_some hq)
                        rw [hq] at hm
                        cases ob1 with
                        | blk cells => simp [rowLen] at hm
                        | fro cells => simp [rowLen] at hm
                        | row own e1 xs =>
                          simp only [rowLen, Option.some.injEq] at hm
                          rcases hob with ⟨_, h2, _⟩ | ⟨b, cs, ty, hb', _⟩
                          · rw [h2] at hm; simp at hm; omega
                          · rw [hb] at hb'; cases hb'
                        | view e1 xs =>
                          simp only [rowLen, Option.some.injEq] at hm
                          rcases hob with ⟨_, h2⟩ | ⟨b, hb', _⟩
                          · rw [h2] at hm; simp at hm; omega
                          · rw [hb] at hb'; cases hb'
                    | some b =>
                      rw [hb] at q1
                      have q1 : a.eval x = .slice (some ⟨b, 0, none⟩) m (c.cp k) := q1
                      refine ⟨.pointer (some ⟨b, 0 + n.toNat * ety.size, none⟩), by simp [execOp, ho, q1, q2, run_indexAt hT hE he b 0 m (c.cp k) kk n h0 hlt], q0, fun e2 he2 => ⟨b, hb, ?_⟩⟩
                      have he2 : rowE (gone g (σ.ob k)) = some e2 := he2
                      rw [hes] at he2
                      cases he2
                      simp
            case h_3 => simp [RM.val] at h
end Go.Eng
/- ViewMore, part 10: EOps8. -/
namespace Go.Eng
open Go.RowKit
set_option linter.unusedVariables false
set_option linter.unusedSimpArgs false
variable {ob : Obs} {c c' : Con} {w w' w0 : World} {S0 : Nat → Prop} {G0 G : Gh} {σ σ' σ1 : St} {a a' : Act} {P : Program}
def Says (G : Gh) (e : Nat) (ys : List (List PV)) (news : List Value) : Prop :=
  news.length = ys.length * e ∧ Wide e ys ∧ ∀ (j : Nat) (x : List PV) (i : Nat) (y : PV), ys[j]? = some x → x[i]? = some y → Rep G y (news.getD (j * e + i) undef)
theorem Says.mono {G' : Gh} {e : Nat} {ys : List (List PV)} {news : List Value} (hG : Gh.le G G') (h : Says G e ys news) : Says G' e ys news := ⟨h.1, h.2.1, fun j x i y hx hy => (h.2.2 j x i y hx hy).mono hG⟩
theorem rep_one {p : PV} {v : Value} (h : Rep G p v) : v.oneCell' = true := by cases h <;> rfl
theorem Says.one {e : Nat} {ys : List (List PV)} {news : List Value} (h : Says G e ys news) : ∀ u ∈ news, u.oneCell' = true := by
  intro u hu
  obtain ⟨q, hq, rfl⟩ := List.getElem_of_mem hu
  have hl := h.1
  have he : 0 < e := by
    rcases Nat.eq_zero_or_pos e with h0 | h0
    · subst h0; rw [Nat.mul_zero] at hl; omega
    · exact h0
  have hj : q / e < ys.length := (Nat.div_lt_iff_lt_mul he).2 (by omega)
  have hx := h.2.1 (q / e) ys[q / e] (List.getElem?_eq_getElem hj)
  have hi : q % e < ys[q / e].length := by rw [hx]; exact Nat.mod_lt _ he
  have := h.2.2 (q / e) _ (q % e) _ (List.getElem?_eq_getElem hj) (List.getElem?_eq_getElem hi)
  rw [show q / e * e + q % e = q by rw [Nat.mul_comm]; exact Nat.div_add_mod q e] at this
  rw [List.getD_eq_getElem?_getD, List.getElem?_eq_getElem hq] at this
  exact rep_one this
theorem wide_append {e : Nat} {xs ys : List (List PV)} (h1 : Wide e xs) (h2 : Wide e ys) : Wide e (xs ++ ys) := by
  intro j x hx
  by_cases hj : j < xs.length
  · rw [List.getElem?_append_left hj] at hx; exact h1 j x hx
  · rw [List.getElem?_append_right (by omega)] at hx; exact h2 _ x hx
theorem Rel.extend (h : Rel w0 S0 G0 σ c a w) {k g e b d : Nat} {own : Bool} {xs ys : List (List PV)} {news : List Value} (hk : σ.ob k = (g, some (.row own e xs))) (hb : c.ρ k = some b) (hs : Says c.G e ys news) (hroom : xs.length + ys.length ≤ c.cp k) (dst : Option Nat) :
    ∃ c', Rel w0 S0 G0 (σ.app dst ⟨.one (.at (.row d ((σ.ob d).1 + 1))), [(k, g, if own = true then none else some (.view e xs)), (d, (σ.ob d).1 + 1, some (.row own e (xs ++ ys)))]⟩) c' (a.put dst (.slice (some ⟨b, 0, none⟩) (xs.length + ys.length) (c.cp k))) (w.setCells b (xs.length * e) news) := by
  rcases h.obs k g _ hk with ⟨q1, _⟩ | ⟨b', cs, ty, hb', hh, hl, hc, hwd, hr, hg⟩
  · rw [hb] at q1; cases q1
  rw [hb] at hb'; cases hb'
  obtain ⟨hs1, hs2, hs3⟩ := hs
  have hfit : xs.length * e + news.length ≤ cs.size := by
    rw [hs1, hc, ← Nat.add_mul]
    exact Nat.mul_le_mul_right e hroom
  let G' : Gh := fun b' o => if own = false ∧ b' = b ∧ xs.length * e ≤ o ∧ o < xs.length * e + news.length then news[o - xs.length * e]? else c.G b' o
  have hGend : ∀ o, xs.length * e ≤ o → c.G b o = none := by
    cases own with
    | true => exact fun o _ => (by simpa using hg : ∀ o, c.G b o = none) o
    | false => exact fun o ho => (by simpa using hg : _ ∧ ∀ o, xs.length * e ≤ o → c.G b o = none).2 o ho
  have hG : Gh.le c.G G' := fun b' o v hv => by
    show (if own = false ∧ b' = b ∧ xs.length * e ≤ o ∧ o < xs.length * e + news.length then news[o - xs.length * e]? else c.G b' o) = some v
    rw [if_neg (fun q => by rw [q.2.1, hGend o q.2.2.1] at hv; cases hv)]
    exact hv
  have hGo : ∀ b' i, b' ≠ b → G' b' i = c.G b' i := fun b' i hne => if_neg (fun q => hne q.2.1)
  let c' : Con := { ρ := fun q => if q = d then some b else c.ρ q, cp := fun q => if q = d then c.cp k else c.cp q, G := G' }
  have hGv : ∀ b' o, c'.G b' o = if own = false ∧ b' = b ∧ xs.length * e ≤ o ∧ o < xs.length * e + news.length then news[o - xs.length * e]? else c.G b' o := fun _ _ => rfl
  let ko : Option AObj := if own = true then none else some (.view e xs)
  let σ' := σ.app dst ⟨.one (.at (.row d ((σ.ob d).1 + 1))), [(k, g, ko), (d, (σ.ob d).1 + 1, some (.row own e (xs ++ ys)))]⟩
  have eob : ∀ q, σ'.ob q = if d = q then ((σ.ob d).1 + 1, some (.row own e (xs ++ ys))) else if k = q then (g, ko) else σ.ob q := fun q => by
    show (St.put _ _ _).ob q = _
    rw [St.ob_put]
    show look (lay (lay σ.obs k (g, ko)) d _) q = _
    rw [look_lay, look_lay]
    rfl
  have hdd : σ'.ob d = ((σ.ob d).1 + 1, some (.row own e (xs ++ ys))) := by rw [eob, if_pos rfl]
  have hkk : k ≠ d → σ'.ob k = (g, ko) := fun hne => by rw [eob, if_neg (fun e => hne e.symm), if_pos rfl]
  have hqq : ∀ q, q ≠ d → q ≠ k → σ'.ob q = σ.ob q := fun q h1 h2 => by rw [eob, if_neg (fun e => h1 e.symm), if_neg (fun e => h2 e.symm)]
  have hρ : ∀ q, q ≠ d → c'.ρ q = c.ρ q := fun q hq => by simp [c', hq]
  have hcp : ∀ q, q ≠ d → c'.cp q = c.cp q := fun q hq => by simp [c', hq]
  have hρd : c'.ρ d = some b := by simp [c']
  have hcpd : c'.cp d = c.cp k := by simp [c']
  have hK : ∀ q, Keeps σ.ob σ'.ob c c' q := fun q => by
    by_cases e1 : q = d
    · subst e1; left; rw [hdd]; exact Nat.lt_succ_self _
    · by_cases e2 : q = k
      · subst e2
        right
        rw [hkk e1, hk]
        refine ⟨rfl, fun n hn => ?_, fun n hn => ?_, fun hv => ?_⟩
        · cases own with
          | true => simp [ko, rowLen] at hn
          | false => exact ⟨by simpa [ko, rowLen] using hn, hρ q e1, hcp q e1⟩
        · cases own with
          | true => simp [ko, rowE] at hn
          | false => exact ⟨by simpa [ko, rowE] using hn, hρ q e1⟩
        · cases own <;> simp [ko, isVar] at hv
      · exact Keeps.same (hqq q e1 e2) (hρ q e1) (hcp q e1)
  obtain ⟨s1, s2, s3, s4⟩ := setCells_os news w b (xs.length * e)
  have hbl := h.blk_lt hk rfl hb
  have hnget : ∀ j, j < news.length → (w.setCells b (xs.length * e) news).cell? ⟨b, xs.length * e + j, none⟩ = news[j]? := fun j hj => by
    rw [World.cell?_setCells_in b news _ w (fun j hj => by rw [cell_of_blk hh, Array.getElem?_eq_getElem (by omega)]; rfl) j hj, List.getElem?_eq_getElem hj]
  have hblk := setCells_self news w b (xs.length * e) cs ty hh
  have notk : ∀ q g' o', q ≠ d → σ'.ob q = (g', some o') → owned o' = true → q ≠ k ∧ σ.ob q = (g', some o') := fun q g' o' hq ho hw => by
    by_cases e2 : q = k
    · subst e2
      rw [hkk hq] at ho
      exfalso
      cases own with
      | true => simp [ko] at ho
      | false =>
        simp only [ko] at ho
        cases ho
        simp [owned] at hw
    · exact ⟨e2, by rw [hqq q hq e2] at ho; exact ho⟩
  refine ⟨c', h.step (σ' := σ') (c' := c') hG hK (fun b' o v hv => ?_) (by rw [St.len_app, Act.size_put]; exact h.sz) ?_ (by rw [Act.defers_put]; exact h.df) (fun q g' o' ho => ?_) ?_ ?_ ?_ ?_⟩
  · rw [hGv] at hv
    split at hv
    · rename_i q
      obtain ⟨_, rfl, q3, q4⟩ := q
      obtain ⟨m, rfl⟩ : ∃ m, o = xs.length * e + m := ⟨o - xs.length * e, by omega⟩
      rw [hnget m (by omega)]
      rw [show xs.length * e + m - xs.length * e = m by omega] at hv
      exact hv
    · rw [World.cell?_setCells_out b news _ w _ (fun e1 _ => ?_)]
      · exact h.imm b' o v hv
      · left
        have e1 : b' = b := e1
        subst e1
        rcases Nat.lt_or_ge o (xs.length * e) with hlt | hge
        · exact hlt
        · rw [hGend o hge] at hv; cases hv
  · refine slot_app (σ := σ) h.sz dst _ _ ⟨by rw [hdd]; exact Nat.le_refl _, fun n hn => ?_⟩
    rw [alive_of hdd] at hn
    simp only [rowLen, Option.some.injEq] at hn
    rw [hρd, hcpd, ← hn, List.length_append]
    rfl
  · by_cases e1 : q = d
    · subst e1
      rw [hdd] at ho
      cases ho
      right
      refine .inr ⟨b, setMany cs (xs.length * e) news, ty, hρd, hblk, by rw [hcpd, List.length_append]; exact hroom, by rw [setMany_size, hcpd, hc], wide_append hwd hs2, fun j x i y hx hy => ?_, ?_⟩
      · have hi := (List.getElem?_eq_some_iff.1 hy).1
        by_cases hj : j < xs.length
        · rw [List.getElem?_append_left hj] at hx
          have hwj := hwd j x hx
          have hlt : j * e + i < xs.length * e := by
            have : (j + 1) * e ≤ xs.length * e := Nat.mul_le_mul_right e (by omega)
            rw [Nat.succ_mul] at this
            omega
          have := hr j x i y hx hy
          rw [Array.getD_eq_getD_getElem?, setMany_get news cs _ _ hfit, if_neg (by omega)]
          rw [Array.getD_eq_getD_getElem?] at this
          exact this.mono hG
        · rw [List.getElem?_append_right (by omega)] at hx
          have hwj := hs2 _ x hx
          have hjl := (List.getElem?_eq_some_iff.1 hx).1
          obtain ⟨m, rfl⟩ : ∃ m, j = xs.length + m := ⟨j - xs.length, by omega⟩
          rw [show xs.length + m - xs.length = m by omega] at hx hjl
          have hlt : m * e + i < news.length := by
            have : (m + 1) * e ≤ ys.length * e := Nat.mul_le_mul_right e (by omega)
            rw [Nat.succ_mul] at this
            omega
          have h3 := hs3 m x i y hx hy
          have e3 : (xs.length + m) * e + i = xs.length * e + (m * e + i) := by rw [Nat.add_mul]; omega
          rw [Array.getD_eq_getD_getElem?, e3, setMany_get news cs _ _ hfit, if_pos (by omega), show xs.length * e + (m * e + i) - xs.length * e = m * e + i by omega]
          rw [List.getD_eq_getElem?_getD] at h3
          exact h3.mono hG
      · cases own with
        | true =>
          rw [if_pos rfl]
          intro o
          rw [hGv, if_neg (by simp)]
          exact (by simpa using hg : ∀ o, c.G b o = none) o
        | false =>
          rw [if_neg (by simp)]
          obtain ⟨g1, g2⟩ := (by simpa using hg : (∀ o, o < xs.length * e → c.G b o = cs[o]?) ∧ ∀ o, xs.length * e ≤ o → c.G b o = none)
          have elen : (xs ++ ys).length * e = xs.length * e + news.length := by rw [List.length_append, Nat.add_mul, hs1]
          rw [elen]
          refine ⟨fun o ho' => ?_, fun o ho' => ?_⟩
          · rw [hGv, setMany_get news cs _ _ hfit]
            by_cases hlt : o < xs.length * e
            · rw [if_neg (by omega), if_neg (by omega), g1 o hlt]
            · rw [if_pos ⟨rfl, rfl, by omega, ho'⟩, if_pos (by omega)]
          · rw [hGv, if_neg (by omega)]
            exact g2 o (by omega)
    · by_cases e2 : q = k
      · subst e2
        rw [hkk e1] at ho
        cases own with
        | true => simp [ko] at ho
        | false =>
          simp only [ko] at ho
          cases ho
          right
          have hv := h.read_view hk
          exact ObOk.keep hG hK (hρ q e1) (hcp q e1) (fun h => by simp [owned] at h) hv
      · rw [hqq q e1 e2] at ho
        refine .inl ⟨ho, hρ q e1, hcp q e1, fun hw b2 hb2 => ?_⟩
        have hne : b2 ≠ b := fun e3 => by
          subst e3
          exact e2 (h.sep q k g' g o' _ b2 ho hk hw rfl hb2 hb)
        exact ⟨setCells_other news w b _ b2 hne, fun i => hGo b2 i hne⟩
  · intro q q' g1 g2 o1 o2 b2 hq hq' ho1 ho2 hb1 hb2
    by_cases e1 : q = d
    · by_cases e2 : q' = d
      · rw [e1, e2]
      · obtain ⟨n1, n2⟩ := notk q' g2 o2 e2 hq' ho2
        rw [hρ q' e2] at hb2
        rw [e1, hρd] at hb1
        cases hb1
        exact absurd (h.sep q' k g2 g o2 _ b n2 hk ho2 rfl hb2 hb) n1
    · obtain ⟨n1, n2⟩ := notk q g1 o1 e1 hq ho1
      rw [hρ q e1] at hb1
      by_cases e2 : q' = d
      · rw [e2, hρd] at hb2
        cases hb2
        exact absurd (h.sep q k g1 g o1 _ b n2 hk ho1 rfl hb1 hb) n1
      · obtain ⟨m1, m2⟩ := notk q' g2 o2 e2 hq' ho2
        rw [hρ q' e2] at hb2
        exact h.sep q q' g1 g2 o1 o2 b2 n2 m2 ho1 ho2 hb1 hb2
  · intro q g1 o1 b2 hq ho1 hb2
    by_cases e1 : q = d
    · rw [e1, hρd] at hb2
      cases hb2
      exact h.new k g _ b hk rfl hb
    · obtain ⟨n1, n2⟩ := notk q g1 o1 e1 hq ho1
      rw [hρ q e1] at hb2
      exact h.new q g1 o1 b2 n2 ho1 hb2
  · refine ⟨s1.trans h.fr.os, s2.trans h.fr.tape, s3.trans h.fr.output, by rw [s4]; exact h.fr.size, fun q hq hs => ?_⟩
    have hne : q ≠ b := fun e => by
      subst e
      rcases h.new k g _ q hk rfl hb with h3 | h3
      · omega
      · exact hs h3
    rw [setCells_other news w b _ q hne]
    exact h.fr.block q hq hs
  · intro b' o hne
    by_cases e1 : b' = b
    · subst e1
      exact h.new k g _ b' hk rfl hb
    · refine h.fresh b' o ?_
      rw [← hGo b' o e1]
      exact hne
end Go.Eng
/- ViewMore, part 11: EOps9. -/
namespace Go.Eng
open Go.RowKit
set_option linter.unusedVariables false
set_option linter.unusedSimpArgs false
variable {ob : Obs} {c c' : Con} {w w' w0 : World} {S0 : Nat → Prop} {G0 G : Gh} {σ σ' σ1 : St} {a a' : Act} {P : Program}
theorem Rel.forget (h : Rel w0 S0 G0 σ c a w) {k g : Nat} {o : AObj} (hk : σ.ob k = (g, some o)) (ko : Option AObj) (hko : ko = none ∨ ∃ e xs, o = .row false e xs ∧ ko = some (.view e xs)) : Rel w0 S0 G0 (σ.lays [(k, g, ko)]) c a w := by
  have hkk : (σ.lays [(k, g, ko)]).ob k = (g, ko) := by rw [ob_lays1, if_pos rfl]
  have hqq : ∀ q, q ≠ k → (σ.lays [(k, g, ko)]).ob q = σ.ob q := fun q hq => by rw [ob_lays1, if_neg (fun e => hq e.symm)]
  have own' : ∀ q g' o', (σ.lays [(k, g, ko)]).ob q = (g', some o') → owned o' = true → σ.ob q = (g', some o') := fun q g' o' hq ho => by
    by_cases e : q = k
    · subst e
      rw [hkk] at hq
      rcases hko with rfl | ⟨e, xs, _, rfl⟩
      · cases hq
      · cases hq; simp [owned] at ho
    · rw [hqq q e] at hq; exact hq
  have hK : ∀ q, Keeps σ.ob (σ.lays [(k, g, ko)]).ob c c q := fun q => by
    by_cases e : q = k
    · subst e
      right
      rw [hkk, hk]
      rcases hko with rfl | ⟨e, xs, rfl, rfl⟩
      · exact ⟨rfl, fun n hn => by simp [rowLen] at hn, fun n hn => by simp [rowE] at hn, fun hv => by simp [isVar] at hv⟩
      · exact ⟨rfl, fun n hn => ⟨hn, rfl, rfl⟩, fun n hn => ⟨hn, rfl⟩, fun hv => by simp [isVar] at hv⟩
    · exact Keeps.same (hqq q e) rfl rfl
  refine h.step (Gh.le_refl _) hK h.imm h.sz (fun t => .inl ⟨rfl, rfl⟩) h.df (fun q g' o' hq => ?_) (fun q q' g1 g2 o1 o2 b h1 h2 h3 h4 h5 h6 => h.sep q q' g1 g2 o1 o2 b (own' q g1 o1 h1 h3) (own' q' g2 o2 h2 h4) h3 h4 h5 h6) (fun q g1 o1 b h1 h2 h3 => h.new q g1 o1 b (own' q g1 o1 h1 h2) h2 h3) h.fr h.fresh
  by_cases e : q = k
  · subst e
    rw [hkk] at hq
    rcases hko with rfl | ⟨e, xs, rfl, rfl⟩
    · cases hq
    · cases hq
      right
      exact ObOk.keep (Gh.le_refl _) hK rfl rfl (fun h => by simp [owned] at h) (h.read_view hk)
  · rw [hqq q e] at hq
    exact .inl ⟨hq, rfl, rfl, fun _ b _ => ⟨rfl, fun _ => rfl⟩⟩
theorem says_at {g o e : Nat} {ys : List (List PV)} (hw : Wide e ys) (hc : ∀ (j : Nat) (x : List PV) (i : Nat) (y : PV), ys[j]? = some x → x[i]? = some y → ∃ u, w.cell? ⟨g, o + j * e + i, none⟩ = some u ∧ Rep G y u) :
    ∃ news : List Value, (∀ j u, news[j]? = some u → w.cell? ((⟨g, o, none⟩ : Addr).add j) = some u) ∧ Says G e ys news := by
  have key : ∀ j x i y, ys[j]? = some x → x[i]? = some y → j * e + i < ys.length * e := fun j x i y hx hy => by
    have hj := (List.getElem?_eq_some_iff.1 hx).1
    have hi := (List.getElem?_eq_some_iff.1 hy).1
    rw [hw j x hx] at hi
    have : (j + 1) * e ≤ ys.length * e := Nat.mul_le_mul_right e (by omega)
    rw [Nat.succ_mul] at this
    omega
  refine ⟨(List.range (ys.length * e)).map fun j => (w.cell? ⟨g, o + j, none⟩).getD undef, fun j u hu => ?_, by simp, hw, fun j x i y hx hy => ?_⟩
  · obtain ⟨q, hq, rfl⟩ := map_get hu
    have hjl := (List.getElem?_eq_some_iff.1 hq).1
    simp at hjl
    rw [List.getElem?_range hjl] at hq
    cases hq
    rw [Addr.add_mid]
    have he : 0 < e := by
      rcases Nat.eq_zero_or_pos e with h0 | h0
      · subst h0; omega
      · exact h0
    have hj : j / e < ys.length := (Nat.div_lt_iff_lt_mul he).2 hjl
    have hx := List.getElem?_eq_getElem hj
    have hi : j % e < ys[j / e].length := by rw [hw _ _ hx]; exact Nat.mod_lt _ he
    obtain ⟨u, h1, _⟩ := hc _ _ _ _ hx (List.getElem?_eq_getElem hi)
    have e1 : o + j / e * e + j % e = o + j := by rw [Nat.add_assoc, Nat.mul_comm, Nat.div_add_mod]
    rw [e1] at h1
    rw [h1]
    rfl
  · obtain ⟨u, h1, h2⟩ := hc j x i y hx hy
    have := key j x i y hx hy
    rw [List.getD_eq_getElem?_getD, List.getElem?_map, List.getElem?_range this]
    simp only [Option.map_some, Option.getD_some]
    rw [show o + (j * e + i) = o + j * e + i by omega, h1]
    exact h2
def srcRM {α : Type} (esz : Nat) (y : AV) (k : List (List PV) → RM α) : RM α := match y with
  | .one (.at .nil) => k []
  | .one (.at (.pv (.list e ys))) => if e = esz then k ys else .fail
  | .one (.at (.row q g)) => .obj q fun r => match gone g r with
    | some (.row _ e ys) => if e = esz then k ys else .fail
    | some (.view e ys) => if e = esz then k ys else .fail
    | _ => .fail
  | _ => .fail
theorem val_srcRM {α : Type} {esz : Nat} {y : AV} {k : List (List PV) → RM α} {r : α} {tx e' : Nat} (hk : P.underlying tx = some (.slice e')) (h : (srcRM esz y k).val σ = some r) :
    ∃ ys, (k ys).val σ = some r ∧ ∀ w0 S0 G0 c a w v, Rel w0 S0 G0 σ c a w → RepAV σ.ob c y v → ∃ news, Src P esz tx v ys.length news w ∧ Says c.G esz ys news := by
  have nilCase : ∀ (w : World) (G : Gh) (A : Option Addr) (cap : Nat), ∃ news, Src P esz tx (.slice A 0 cap) ([] : List (List PV)).length news w ∧ Says G esz [] news := fun w G A cap => by
    refine ⟨[], ?_, by simp, fun j x hx => by simp at hx, fun j x i y hx => by simp at hx⟩
    cases A with
    | none => exact Src.ofNil w hk cap
    | some A => exact Src.ofSlice w hk A 0 cap [] (by simp) (fun j u hu => by simp at hu) (by simp)
  have rowCase : ∀ (w0 : World) (S0 : Nat → Prop) (G0 : Gh) (c : Con) (a : Act) (w : World) (q g : Nat) (o : AObj) (ys : List (List PV)) (v : Value), Rel w0 S0 G0 σ c a w → σ.ob q = (g, some o) → (o = .row true esz ys ∨ o = .row false esz ys ∨ o = .view esz ys) → v = rowVal (c.ρ q) ys.length (c.cp q) →
      ∃ news, Src P esz tx v ys.length news w ∧ Says c.G esz ys news := fun w0 S0 G0 c a w q g o ys v hR hob ho hv => by
    cases hb : c.ρ q with
    | none =>
      have hnil : ys = [] := by
        have := hR.obs q g o hob
        rcases ho with rfl | rfl | rfl
        · rcases this with ⟨_, h2, _⟩ | ⟨b, cs, ty, hb', _⟩
          · exact h2
          · rw [hb] at hb'; cases hb'
        · rcases this with ⟨_, h2, _⟩ | ⟨b, cs, ty, hb', _⟩
          · exact h2
          · rw [hb] at hb'; cases hb'
        · rcases this with ⟨_, h2⟩ | ⟨b, hb', _⟩
          · exact h2
          · rw [hb] at hb'; cases hb'
      subst hnil
      rw [hv, hb]
      exact nilCase w c.G none 0
    | some b =>
      have hw : Wide esz ys := fun j x hx => by
        obtain ⟨_, _, _, h3, _⟩ := hR.row_elem hob ho hx
        exact h3
      obtain ⟨news, h1, h2⟩ := says_at (w := w) (g := b) (o := 0) (G := c.G) hw fun j x i y hx hy => by
        obtain ⟨b', hb', _, _, h4⟩ := hR.row_elem hob ho hx
        rw [hb] at hb'
        cases hb'
        rw [Nat.zero_add]
        exact h4 i y hy
      refine ⟨news, ?_, h2⟩
      rw [hv, hb]
      exact Src.ofSlice w hk ⟨b, 0, none⟩ ys.length (c.cp q) news h2.1 h1 h2.one
  unfold srcRM at h
  split at h
  case h_1 => exact ⟨[], h, fun w0 S0 G0 c a w v hR hv => by have hv : v = .slice none 0 0 := hv; rw [hv]; exact nilCase w c.G none 0⟩
  case h_2 e ys =>
    split at h
    case isFalse => simp [RM.val] at h
    case isTrue he =>
      subst he
      refine ⟨ys, h, fun w0 S0 G0 c a w v hR hv => ?_⟩
      have hv : Rep c.G (.list e ys) v := hv
      cases hv with
      | nil _ A cap => exact nilCase w c.G A cap
      | list _ _ g o cap f hc hw hg hr =>
        obtain ⟨news, h1, h2⟩ := says_at (w := w) (g := g) (o := o) (G := c.G) hw fun j x i y hx hy => ⟨_, hR.imm _ _ _ (hg j x i y hx hy), hr j x i y hx hy⟩
        exact ⟨news, Src.ofSlice w hk ⟨g, o, none⟩ ys.length cap news h2.1 h1 h2.one, h2⟩
  case h_3 q g =>
    simp only [RM.val] at h
    split at h
    case h_1 own e ys hq =>
      split at h
      case isFalse => simp [RM.val] at h
      case isTrue he =>
        subst he
        have hob := gone_some hq
        refine ⟨ys, h, fun w0 S0 G0 c a w v hR hv => rowCase w0 S0 G0 c a w q g _ ys v hR hob (by cases own <;> simp) (hv.2 _ (by rw [alive_of hob]; rfl))⟩
    case h_2 e ys hq =>
      split at h
      case isFalse => simp [RM.val] at h
      case isTrue he =>
        subst he
        have hob := gone_some hq
        refine ⟨ys, h, fun w0 S0 G0 c a w v hR hv => rowCase w0 S0 G0 c a w q g _ ys v hR hob (by simp) (hv.2 _ (by rw [alive_of hob]; rfl))⟩
    case h_3 => simp [RM.val] at h
  case h_4 => simp [RM.val] at h
end Go.Eng
/- ViewMore, part 12: EOps10. -/
namespace Go.Eng
open Go.RowKit
set_option linter.unusedVariables false
set_option linter.unusedSimpArgs false
variable {ob : Obs} {c c' : Con} {w w' w0 : World} {S0 : Nat → Prop} {G0 G : Gh} {σ σ' σ1 : St} {a a' : Act} {P : Program}
theorem Says.append {e : Nat} {xs ys : List (List PV)} {olds news : List Value} (h1 : Says G e xs olds) (h2 : Says G e ys news) : Says G e (xs ++ ys) (olds ++ news) := by
  refine ⟨by rw [List.length_append, List.length_append, h1.1, h2.1, Nat.add_mul], wide_append h1.2.1 h2.2.1, fun j x i y hx hy => ?_⟩
  have hi := (List.getElem?_eq_some_iff.1 hy).1
  by_cases hj : j < xs.length
  · rw [List.getElem?_append_left hj] at hx
    have hwj := h1.2.1 j x hx
    have hlt : j * e + i < olds.length := by
      have : (j + 1) * e ≤ xs.length * e := Nat.mul_le_mul_right e (by omega)
      rw [Nat.succ_mul] at this
      rw [h1.1]
      omega
    have := h1.2.2 j x i y hx hy
    rw [List.getD_eq_getElem?_getD, List.getElem?_append_left hlt]
    rw [List.getD_eq_getElem?_getD] at this
    exact this
  · rw [List.getElem?_append_right (by omega)] at hx
    obtain ⟨m, rfl⟩ : ∃ m, j = xs.length + m := ⟨j - xs.length, by omega⟩
    rw [show xs.length + m - xs.length = m by omega] at hx
    have := h2.2.2 m x i y hx hy
    have e3 : (xs.length + m) * e + i = olds.length + (m * e + i) := by rw [Nat.add_mul, h1.1]; omega
    rw [List.getD_eq_getElem?_getD, e3, List.getElem?_append_right (by omega), show olds.length + (m * e + i) - olds.length = m * e + i by omega]
    rw [List.getD_eq_getElem?_getD] at this
    exact this
theorem row_of_says {b e cap k : Nat} {xs : List (List PV)} {news : List Value} {zs : Array Value} {ty : TypeId} (h : Says c.G e xs news) (hb : c.ρ k = some b) (hcp : c.cp k = cap) (hh : w.heap[b]? = some (.cells (news.toArray ++ zs) ty (0, 0))) (hl : xs.length ≤ cap)
    (hz : zs.size = (cap - xs.length) * e) (hg : ∀ o, c.G b o = none) : ObOk ob c w k (.row true e xs) := by
  refine .inr ⟨b, _, ty, hb, hh, by rw [hcp]; exact hl, ?_, h.2.1, fun j x i y hx hy => ?_, by rw [if_pos rfl]; exact hg⟩
  · rw [Array.size_append, List.size_toArray, h.1, hz, hcp, ← Nat.add_mul, Nat.add_sub_cancel' hl]
  · have hj := (List.getElem?_eq_some_iff.1 hx).1
    have hi := (List.getElem?_eq_some_iff.1 hy).1
    rw [h.2.1 j x hx] at hi
    have hlt : j * e + i < news.length := by
      have : (j + 1) * e ≤ xs.length * e := Nat.mul_le_mul_right e (by omega)
      rw [Nat.succ_mul] at this
      rw [h.1]
      omega
    have := h.2.2 j x i y hx hy
    rw [Array.getD_eq_getD_getElem?, Array.getElem?_append_left (by simpa using hlt), List.getElem?_toArray]
    rw [List.getD_eq_getElem?_getD] at this
    exact this
theorem zeroCells_size (z : Array Value) (n : Nat) : (Builtin.zeroCells z n).size = n * z.size := by simp [Builtin.zeroCells]
theorem Rel.nilrow (h : Rel w0 S0 G0 σ c a w) (d e : Nat) (own : Bool) (dst : Option Nat) :
    ∃ c', Rel w0 S0 G0 (σ.app dst ⟨.one (.at (.row d ((σ.ob d).1 + 1))), [(d, (σ.ob d).1 + 1, some (.row own e []))]⟩) c' (a.put dst (.slice none 0 0)) w := by
  let c' : Con := { ρ := fun q => if q = d then none else c.ρ q, cp := fun q => if q = d then 0 else c.cp q, G := c.G }
  have eob := St.ob_app1 σ dst (.one (.at (.row d ((σ.ob d).1 + 1)))) d ((σ.ob d).1 + 1, some (.row own e []))
  generalize hσ : σ.app dst ⟨.one (.at (.row d ((σ.ob d).1 + 1))), [(d, (σ.ob d).1 + 1, some (.row own e []))]⟩ = σ' at eob ⊢
  have hdd : σ'.ob d = ((σ.ob d).1 + 1, some (.row own e [])) := by rw [eob, if_pos rfl]
  have hqq : ∀ q, q ≠ d → σ'.ob q = σ.ob q := fun q hq => by rw [eob, if_neg (fun e => hq e.symm)]
  have hρ : ∀ q, q ≠ d → c'.ρ q = c.ρ q := fun q hq => by simp [c', hq]
  have hcp : ∀ q, q ≠ d → c'.cp q = c.cp q := fun q hq => by simp [c', hq]
  have hρd : c'.ρ d = none := by simp [c']
  have hcpd : c'.cp d = 0 := by simp [c']
  have hK : ∀ q, Keeps σ.ob σ'.ob c c' q := fun q => by
    by_cases e : q = d
    · subst e; left; rw [hdd]; exact Nat.lt_succ_self _
    · exact Keeps.same (hqq q e) (hρ q e) (hcp q e)
  have ne : ∀ q b, c'.ρ q = some b → q ≠ d := fun q b hb e => by rw [e, hρd] at hb; cases hb
  refine ⟨c', h.step (Gh.le_refl _) hK h.imm (by rw [← hσ, St.len_app, Act.size_put]; exact h.sz) ?_ (by rw [Act.defers_put]; exact h.df) (fun q g o hq => ?_) (fun q q' g1 g2 o1 o2 b h1 h2 h3 h4 h5 h6 => ?_) (fun q g1 o1 b h1 h2 h3 => ?_) h.fr h.fresh⟩
  · rw [← hσ]
    refine slot_app (σ := σ) h.sz dst _ _ ?_
    rw [hσ]
    refine ⟨by rw [hdd]; exact Nat.le_refl _, fun n hn => ?_⟩
    rw [alive_of hdd] at hn
    simp only [rowLen, Option.some.injEq] at hn
    rw [hρd]
    rfl
  · by_cases e1 : q = d
    · subst e1
      rw [hdd] at hq
      cases hq
      exact .inr (.inl ⟨hρd, rfl, hcpd⟩)
    · rw [hqq q e1] at hq
      exact .inl ⟨hq, hρ q e1, hcp q e1, fun _ b _ => ⟨rfl, fun _ => rfl⟩⟩
  · have n1 := ne q b h5
    have n2 := ne q' b h6
    rw [hqq q n1] at h1
    rw [hqq q' n2] at h2
    rw [hρ q n1] at h5
    rw [hρ q' n2] at h6
    exact h.sep q q' g1 g2 o1 o2 b h1 h2 h3 h4 h5 h6
  · have n1 := ne q b h3
    rw [hqq q n1] at h1
    rw [hρ q n1] at h3
    exact h.new q g1 o1 b h1 h2 h3
theorem Rel.newrow (h : Rel w0 S0 G0 σ c a w) (d e cap : Nat) (own : Bool) (dst : Option Nat) {xs : List (List PV)} {news : List Value} {zs : Array Value} (ty : TypeId) (n : Nat) (hs : Says c.G e xs news) (hl : xs.length ≤ cap) (hz : zs.size = (cap - xs.length) * e) :
    ∃ c', Rel w0 S0 G0 (σ.app dst ⟨.one (.at (.row d ((σ.ob d).1 + 1))), [(d, (σ.ob d).1 + 1, some (.row own e xs))]⟩) c' (a.put dst (.slice (some ⟨w.heap.size, 0, none⟩) xs.length cap)) { w with heap := w.heap.push (.cells (news.toArray ++ zs) ty (0, 0)), drawn := n } := by
  obtain ⟨c1, h1⟩ := h.fresh_ d (.row true e xs) cap (news.toArray ++ zs) ty n dst (.one (.at (.row d ((σ.ob d).1 + 1)))) (.slice (some ⟨w.heap.size, 0, none⟩) xs.length cap) (fun ob' c' e1 hK hG e2 e3 e4 => ⟨row_of_says (ty := ty) (hs.mono hG) e2 e3 (by simp) hl hz e4, by rw [e1]; exact Nat.le_refl _, fun m hm => by
    rw [alive_of e1] at hm
    simp only [rowLen, Option.some.injEq] at hm
    rw [e2, e3, ← hm]
    rfl⟩)
  cases own with
  | true => exact ⟨c1, h1⟩
  | false =>
    have hd : (σ.app dst ⟨.one (.at (.row d ((σ.ob d).1 + 1))), [(d, (σ.ob d).1 + 1, some (.row true e xs))]⟩).ob d = ((σ.ob d).1 + 1, some (.row true e xs)) := by rw [St.ob_app1, if_pos rfl]
    obtain ⟨c2, h2, _⟩ := h1.freeze hd
    refine ⟨c2, h2.congr ?_ fun q => ?_⟩
    · unfold St.app St.put St.lays
      cases dst <;> rfl
    · rw [ob_lays1, St.ob_app1, St.ob_app1]
      split <;> rfl
def appLim : Nat := 70368744177664
def absAppend (tab : Nat → Option Ty) (t : Nat) (d : Option Nat) (x y : Operand) : RM Eff := opnd x fun u => opnd y fun v => match d, tab t with
  | some d, some ty => if ty.elem = 0 then .fail else match tab ty.elem with
    | none => .fail
    | some ety => srcRM ety.size v fun ys => .obj d fun qd => match u with
      | .one (.at .nil) => if ys.length * (ety.bytes + 1) ≤ appLim then .ret ⟨.one (.at (.row d (qd.1 + 1))), [(d, qd.1 + 1, some (.row true ety.size ys))]⟩ else .fail
      | .one (.at (.row k g)) => .obj k fun qk => match gone g qk with
        | some (.row own e xs) => if e = ety.size ∧ (xs.length + ys.length) * (ety.bytes + 1) ≤ appLim then
            .ret ⟨.one (.at (.row d (qd.1 + 1))), [(k, g, if own = true then none else some (.view e xs)), (d, qd.1 + 1, some (.row own e (xs ++ ys)))]⟩ else .fail
        | _ => .fail
      | _ => .fail
  | _, _ => .fail
theorem done_append {o : Oper} {tab : Nat → Option Ty} {cl : Call} {t tx e' : Nat} {x y : Operand} {e : Eff} (htab : ∀ t ty, tab t = some ty → TyOk P t ty) (hk : P.underlying tx = some (.slice e')) (ho : o.op = .call cl) (hc : cl.callee = .builtin .append) (ha : cl.args = #[x, y]) (ht : cl.argTypes = #[t, tx])
    (h : (absAppend tab t o.dst x y).val σ = some e) : Done P w0 S0 G0 σ o e := by
  replace h := val_opnd h
  replace h := val_opnd h
  have hx := fun c a w (hR : Rel w0 S0 G0 σ c a w) => hR.opnd x
  have hy := fun c a w (hR : Rel w0 S0 G0 σ c a w) => hR.opnd y
  generalize absO σ x = u at h hx
  generalize absO σ y = v at h hy
  split at h
  case h_2 => simp [RM.val] at h
  case h_1 d ty hd hty =>
    have hT := htab t ty hty
    split at h
    case isTrue => simp [RM.val] at h
    case isFalse he =>
      cases hety : tab ty.elem with
      | none => rw [hety] at h; simp [RM.val] at h
      | some ety =>
        rw [hety] at h
        have hE := htab _ ety hety
        obtain ⟨ys, h2, H⟩ := val_srcRM hk h
        replace h := h2
        clear h2
        simp only [RM.val] at h
        obtain ⟨i, z, hi, hsz, hby, hz, _, hzs, _⟩ := hE.info
        have hsl := hT.slice he
        have exec : ∀ (a : Act) (w : World) (r : Value) (w' : World), (Builtin.append_ #[t, tx] o.type #[a.eval x, a.eval y]).run P w = .ok r w' → (execOp a.eval o).run P w = .ok (.value r) w' := fun a w r w' hr => by
          simp [execOp, ho, resolve, hc, ha, ht, invoke, builtin, hr]
        have fits : ∀ need cap : Nat, need * (ety.bytes + 1) ≤ appLim → cap < need → ((need : Nat) : Int) ≤ 9223372036854775807 ∧ Builtin.nextslicecap need cap * i.bytes ≤ 281474976710656 := fun need cap h1 h2 => by
          unfold appLim at h1
          have h3 : need * 1 ≤ need * (ety.bytes + 1) := Nat.mul_le_mul_left need (by omega)
          have h4 : need * ety.bytes ≤ need * (ety.bytes + 1) := Nat.mul_le_mul_left need (by omega)
          have h5 : Builtin.nextslicecap need cap * i.bytes ≤ 2 * need * i.bytes := Nat.mul_le_mul_right _ (nextslicecap_le h2)
          rw [hby] at h5 ⊢
          rw [Nat.mul_assoc] at h5
          omega
        have fromNone : ∀ (own : Bool) (σ1 : St) (c : Con) (a : Act) (w : World), Rel w0 S0 G0 σ c a w → Rel w0 S0 G0 σ1 c a w → (σ1.ob d).1 = (σ.ob d).1 → a.eval x = .slice none 0 0 → ys.length * (ety.bytes + 1) ≤ appLim →
            ∃ v w', ((execOp a.eval o).run P w = .ok (.value v) w' ∨ ((execOp a.eval o).run P w = .ok .skip w' ∧ v = undef)) ∧ ∃ c', Rel w0 S0 G0 (σ1.app o.dst ⟨.one (.at (.row d ((σ.ob d).1 + 1))), [(d, (σ.ob d).1 + 1, some (.row own ety.size ys))]⟩) c' (a.put o.dst v) w' := by
          intro own σ1 c a w hR hR1 hgen hv hlim
          obtain ⟨news, hs1, hs2⟩ := H w0 S0 G0 c a w _ hR (hy c a w hR)
          by_cases hn : ys.length = 0
          · have hnil : ys = [] := List.length_eq_zero_iff.1 hn
            subst hnil
            have hnews : news = [] := List.length_eq_zero_iff.1 (by rw [hs2.1]; simp)
            subst hnews
            rw [← hsz] at hs1
            have hrun := run_append_nothing (P := P) w t tx o.type ty.elem i hsl hi none 0 0 (Nat.le_refl _) (a.eval y) hs1
            obtain ⟨c', hR'⟩ := hR1.nilrow d ety.size own o.dst
            rw [hgen] at hR'
            exact ⟨_, w, .inl (exec a w _ _ (by rw [hv]; exact hrun)), c', hR'⟩
          · rw [← hsz] at hs1
            obtain ⟨f1, f2⟩ := fits (0 + ys.length) 0 (by rw [Nat.zero_add]; exact hlim) (by omega)
            have hrun := run_append_grow_src (P := P) w t tx o.type ty.elem i z hsl hi hz none 0 0 [] (run_firstCells_none w.drew i.size 0 0 0) (a.eval y) ys.length news hs1 (by omega) f1 f2
            have hge := grownCap_ge w (0 + ys.length) 0 ty.elem
            obtain ⟨c', hR'⟩ := hR1.newrow d ety.size (grownCap w (0 + ys.length) 0 ty.elem) own o.dst (zs := Builtin.zeroCells z.cells (grownCap w (0 + ys.length) 0 ty.elem - (0 + ys.length))) ty.elem (w.drawn + 1) hs2 (by omega) (by rw [zeroCells_size, hzs, Nat.zero_add])
            rw [hgen] at hR'
            rw [Nat.zero_add] at hrun hR'
            exact ⟨_, _, .inl (exec a w _ _ (by rw [hv]; exact hrun)), c', hR'⟩
        split at h
        case h_1 =>
          split at h
          case isFalse => simp [RM.val] at h
          case isTrue hlim =>
            simp only [RM.val, Option.some.injEq] at h
            subst h
            intro c a w hR
            exact fromNone true σ c a w hR hR rfl (hx c a w hR) hlim
        case h_2 k g =>
          simp only [RM.val] at h
          split at h
          case h_2 => simp [RM.val] at h
          case h_1 own e1 xs hq =>
            split at h
            case isFalse => simp [RM.val] at h
            case isTrue hcond =>
              obtain ⟨rfl, hlim⟩ := hcond
              simp only [RM.val, Option.some.injEq] at h
              subst h
              have hob := gone_some hq
              intro c a w hR
              have hxv := (hx c a w hR).2 xs.length (by rw [alive_of hob]; rfl)
              have hforget := hR.forget hob (if own = true then none else some (.view ety.size xs)) (by
                cases own with
                | true => exact .inl rfl
                | false => exact .inr ⟨_, _, rfl, rfl⟩)
              have hgen : ((σ.lays [(k, g, if own = true then none else some (.view ety.size xs))]).ob d).1 = (σ.ob d).1 := by
                rw [ob_lays1]
                split
                · rename_i e2; subst e2; rw [hob]
                · rfl
              have appEq : ∀ (s : List (Nat × Nat × Option AObj)) (v : AV), (σ.lays [(k, g, if own = true then none else some (.view ety.size xs))]).app o.dst ⟨v, s⟩ = σ.app o.dst ⟨v, (k, g, if own = true then none else some (.view ety.size xs)) :: s⟩ := fun s v => rfl
              cases hb : c.ρ k with
              | none =>
                have hnil : xs = [] ∧ c.cp k = 0 := by
                  rcases hR.obs k g _ hob with ⟨_, h2, h3⟩ | ⟨b, cs, ty, hb', _⟩
                  · exact ⟨h2, h3⟩
                  · rw [hb] at hb'; cases hb'
                obtain ⟨rfl, _⟩ := hnil
                rw [hb] at hxv
                have := fromNone own _ c a w hR hforget hgen hxv (by simpa using hlim)
                rw [appEq] at this
                exact this
              | some b =>
                rw [hb] at hxv
                have hxv : a.eval x = .slice (some ⟨b, 0, none⟩) xs.length (c.cp k) := hxv
                obtain ⟨news, hs1, hs2⟩ := H w0 S0 G0 c a w _ hR (hy c a w hR)
                have hrow : own = true ∨ own = false := by cases own <;> simp
                have hmem : (AObj.row own ety.size xs = .row true ety.size xs ∨ AObj.row own ety.size xs = .row false ety.size xs ∨ AObj.row own ety.size xs = .view ety.size xs) := by cases own <;> simp
                rcases hR.obs k g _ hob with ⟨q1, _⟩ | ⟨b', cs, cty, hb', hh, hl, hcs, hwd, hr, hg⟩
                · rw [hb] at q1; cases q1
                rw [hb] at hb'; cases hb'
                by_cases hroom : xs.length + ys.length ≤ c.cp k
                · have hs1' := hs1
                  rw [← hsz] at hs1
                  have hfit : xs.length * ety.size + news.length ≤ cs.size := by
                    rw [hs2.1, hcs, ← Nat.add_mul]
                    exact Nat.mul_le_mul_right _ hroom
                  have hrun := run_append_room_src (P := P) w t tx o.type ty.elem i hsl hi b 0 xs.length (c.cp k) (a.eval y) ys.length news hs1 hroom (fun j hj => by
                    rw [cell_of_blk hh, hsz, Nat.zero_add, Array.getElem?_eq_getElem (by omega)]; rfl) (fun j hj => frozen_blk hh)
                  rw [hsz, Nat.zero_add] at hrun
                  obtain ⟨c', hR'⟩ := hR.extend (d := d) hob hb hs2 hroom o.dst
                  exact ⟨_, _, .inl (exec a w _ _ (by rw [hxv]; exact hrun)), c', hR'⟩
                · obtain ⟨olds, ho1, ho2⟩ := says_at (w := w) (g := b) (o := 0) (G := c.G) (e := ety.size) (ys := xs) hwd fun j x i y hx hy => by
                    obtain ⟨b', hb', _, _, h4⟩ := hR.row_elem hob hmem hx
                    rw [hb] at hb'
                    cases hb'
                    rw [Nat.zero_add]
                    exact h4 i y hy
                  have hold : (Builtin.firstCells i.size xs.length (.slice (some ⟨b, 0, none⟩) xs.length (c.cp k))).run P w.drew = .ok olds.toArray w.drew :=
                    run_firstCells_some w.drew i.size xs.length ⟨b, 0, none⟩ xs.length (c.cp k) olds (by rw [ho2.1, hsz]) (by simpa using ho1)
                  rw [← hsz] at hs1
                  obtain ⟨f1, f2⟩ := fits (xs.length + ys.length) (c.cp k) hlim (by omega)
                  have hrun := run_append_grow_src (P := P) w t tx o.type ty.elem i z hsl hi hz (some ⟨b, 0, none⟩) xs.length (c.cp k) olds hold (a.eval y) ys.length news hs1 (by omega) f1 f2
                  have hge := grownCap_ge w (xs.length + ys.length) (c.cp k) ty.elem
                  obtain ⟨c', hR'⟩ := hforget.newrow d ety.size (grownCap w (xs.length + ys.length) (c.cp k) ty.elem) own o.dst (zs := Builtin.zeroCells z.cells (grownCap w (xs.length + ys.length) (c.cp k) ty.elem - (xs.length + ys.length))) ty.elem (w.drawn + 1) (ho2.append hs2) (by rw [List.length_append]; omega) (by rw [zeroCells_size, hzs, List.length_append])
                  rw [hgen, appEq, List.length_append] at hR'
                  exact ⟨_, _, .inl (exec a w _ _ (by rw [hxv]; exact hrun)), c', hR'⟩
        case h_3 => simp [RM.val] at h
end Go.Eng
/- ViewMore, part 13: EOps11. -/
namespace Go.Eng
open Go.RowKit
set_option linter.unusedVariables false
set_option linter.unusedSimpArgs false
variable {ob : Obs} {c c' : Con} {w w' w0 : World} {S0 : Nat → Prop} {G0 G : Gh} {σ σ' σ1 : St} {a a' : Act} {P : Program}
def absConv (tab : Nat → Option Ty) (src dst : Nat) (x : Operand) : RM Eff := opnd x fun u => match tab src, tab dst with
  | some s, some d => match s.int, d.int with
    | some _, some k => match u with
      | .one (.at (.pv (.int k0 n))) => .ret ⟨.one (.at (.pv (.int k (k.wrap n)))), []⟩
      | _ => .fail
    | _, _ => .fail
  | _, _ => .fail
theorem done_conv {o : Oper} {tab : Nat → Option Ty} {src dst : Nat} {x : Operand} {e : Eff} (htab : ∀ t ty, tab t = some ty → TyOk P t ty) (ho : o.op = .convert src dst x) (h : (absConv tab src dst x).val σ = some e) : Done P w0 S0 G0 σ o e := by
  replace h := val_opnd h
  generalize hu : absO σ x = u at h
  split at h
  case h_2 => simp [RM.val] at h
  case h_1 s d hs hd =>
    split at h
    case h_2 => simp [RM.val] at h
    case h_1 k1 k hk1 hk =>
      split at h
      case h_2 => simp [RM.val] at h
      case h_1 k0 n =>
        simp only [RM.val, Option.some.injEq] at h
        subst h
        refine Done.pure fun c a w hR => ⟨.int k (k.wrap n), ?_, Rep.int _ _⟩
        have hx := hR.opnd x
        rw [hu] at hx
        have hx := rep_int hx
        simp [execOp, ho, convert, run_underlying ((htab _ _ hs).int _ hk1), run_underlying ((htab _ _ hd).int _ hk), hx, Conv.intToInt]
def absIndex (tab : Nat → Option Ty) (t : Nat) (x i : Operand) : RM Eff := opnd x fun u => opnd i fun v => match tab t with
  | none => .fail
  | some ty => if ty.str = true then match u, v with
      | .one (.at (.pv (.str s))), .one (.at (.pv (.int _ n))) => if n < 0 then .fail else match s[n.toNat]? with
        | some b => .ret ⟨.one (.at (.pv (.int .u8 b.toNat))), []⟩
        | none => .fail
      | _, _ => .fail
    else .fail
theorem done_index {o : Oper} {tab : Nat → Option Ty} {t : Nat} {x i : Operand} {e : Eff} (htab : ∀ t ty, tab t = some ty → TyOk P t ty) (ho : o.op = .index t x i) (h : (absIndex tab t x i).val σ = some e) : Done P w0 S0 G0 σ o e := by
  replace h := val_opnd h
  replace h := val_opnd h
  generalize hu : absO σ x = u at h
  generalize hv : absO σ i = v at h
  cases hty : tab t with
  | none => rw [hty] at h; simp [RM.val] at h
  | some ty =>
    rw [hty] at h
    dsimp only at h
    split at h
    case isFalse => simp [RM.val] at h
    case isTrue hs =>
      split at h
      case h_2 => simp [RM.val] at h
      case h_1 s k n =>
        split at h
        case isTrue => simp [RM.val] at h
        case isFalse hn =>
          split at h
          case h_2 => simp [RM.val] at h
          case h_1 b hb =>
            simp only [RM.val, Option.some.injEq] at h
            subst h
            refine Done.pure fun c a w hR => ⟨.int .u8 b.toNat, ?_, Rep.int _ _⟩
            have hx := hR.opnd x
            have hi := hR.opnd i
            rw [hu] at hx
            rw [hv] at hi
            have hx := rep_str hx
            have hi := rep_int hi
            have h0 : 0 ≤ n := by omega
            simp [execOp, ho, Instr.index, asIntOf, hx, hi, run_underlying ((htab _ _ hty).str hs), h0, hb]
def optInt (σ : St) : Option Operand → Option (Option Int)
  | none => some none
  | some x => match absO σ x with
    | .one (.at (.pv (.int _ n))) => some (some n)
    | _ => none
def IntOf (a : Act) : Option Operand → Option Int → Prop
  | none, none => True
  | some x, some n => ∃ kk, a.eval x = .int kk n
  | _, _ => False
def opndInt {α : Type} (x : Option Operand) (k : Option Int → RM α) : RM α := match x with
  | none => k none
  | some x => opnd x fun u => match u with
    | .one (.at (.pv (.int _ n))) => k (some n)
    | _ => .fail
theorem val_opndInt {α : Type} {x : Option Operand} {k : Option Int → RM α} {r : α} (h : (opndInt x k).val σ = some r) : ∃ n, (k n).val σ = some r ∧ ∀ w0 S0 G0 c a w, Rel w0 S0 G0 σ c a w → IntOf a x n := by
  cases x with
  | none => exact ⟨none, h, fun _ _ _ _ _ _ _ => trivial⟩
  | some x =>
    simp only [opndInt] at h
    replace h := val_opnd h
    generalize hu : absO σ x = u at h
    split at h
    case h_2 => simp [RM.val] at h
    case h_1 kk n =>
      refine ⟨some n, h, fun _ _ _ c a w hR => ⟨kk, ?_⟩⟩
      have hx := hR.opnd x
      rw [hu] at hx
      exact rep_int hx
def absSlice (tab : Nat → Option Ty) (t : Nat) (x : Operand) (lo hi : Option Operand) : RM Eff := opnd x fun u => opndInt lo fun l => opndInt hi fun h => match tab t with
  | none => .fail
  | some ty => if ty.str = true then match u with
      | .one (.at (.pv (.str s))) => if 0 ≤ l.getD 0 ∧ l.getD 0 ≤ h.getD s.size ∧ h.getD s.size ≤ s.size then .ret ⟨.one (.at (.pv (.str (s.extract (l.getD 0).toNat (h.getD s.size).toNat)))), []⟩ else .fail
      | _ => .fail
    else if ty.elem = 0 then .fail else match tab ty.elem with
      | none => .fail
      | some ety => match u with
        | .one (.at y) => atPV ety.size y fun p us => match p with
          | .list e xs => if (e = ety.size ∨ xs = []) ∧ 0 ≤ l.getD 0 ∧ l.getD 0 ≤ h.getD xs.length ∧ h.getD xs.length ≤ xs.length then
              .ret ⟨.one (.at (.pv (.list e ((xs.drop (l.getD 0).toNat).take ((h.getD xs.length).toNat - (l.getD 0).toNat))))), us⟩ else .fail
          | _ => .fail
        | _ => .fail
theorem run_bounds (isS : Bool) (len cap : Nat) (hlc : len ≤ cap) {lo hi : Option Operand} {l h : Option Int} (a : Act) (w : World)
    (hl : IntOf a lo l) (hh : IntOf a hi h)
    (h0 : 0 ≤ l.getD 0) (h1 : l.getD 0 ≤ h.getD len) (h2 : h.getD len ≤ len) :
    (Instr.sliceBounds isS len cap (lo.map a.eval) (hi.map a.eval) none).run P w = .ok ((l.getD 0).toNat, (h.getD (len : Int)).toNat, cap) w := by
  cases lo with
  | none => cases l with
    | some n => exact hl.elim
    | none => cases hi with
      | none => cases h with
        | some n => exact hh.elim
        | none => simp [Instr.sliceBounds]
      | some x => cases h with
        | none => exact hh.elim
        | some n =>
          obtain ⟨kk, e⟩ := hh
          have g1 : 0 ≤ n := h1
          have g2 : n ≤ (len : Int) := h2
          have g3 : 0 ≤ n ∧ n ≤ (cap : Int) := ⟨by omega, by omega⟩
          cases isS <;> simp [Instr.sliceBounds, Instr.sliceBound, e, asIntOf, g3]
  | some y => cases l with
    | none => exact hl.elim
    | some m =>
      obtain ⟨kk, e⟩ := hl
      have g0 : 0 ≤ m := h0
      cases hi with
      | none => cases h with
        | some n => exact hh.elim
        | none =>
          have g1 : m ≤ (len : Int) := h1
          have g2 : 0 ≤ m ∧ m ≤ (len : Int) := ⟨g0, g1⟩
          simp [Instr.sliceBounds, Instr.sliceBound, e, asIntOf, g2]
      | some x => cases h with
        | none => exact hh.elim
        | some n =>
          obtain ⟨kk', e'⟩ := hh
          have g1 : m ≤ n := h1
          have g2 : n ≤ (len : Int) := h2
          have g3 : 0 ≤ n ∧ n ≤ (cap : Int) := ⟨by omega, by omega⟩
          have g4 : 0 ≤ m ∧ m ≤ (n.toNat : Int) := ⟨g0, by omega⟩
          have g5 : 0 ≤ m ∧ m ≤ max n 0 := ⟨g0, by omega⟩
          cases isS <;> simp [Instr.sliceBounds, Instr.sliceBound, e, e', asIntOf, g3, g5]
theorem rep_sub {e esz : Nat} {xs : List (List PV)} {A : Option Addr} {n cap : Nat} (h : Rep G (.list e xs) (.slice A n cap)) {l h' : Nat} (h1 : l ≤ h') (h2 : h' ≤ xs.length) (he : e = esz ∨ xs = []) :
    Rep G (.list e ((xs.drop l).take (h' - l))) (.slice (if cap = l then A else A.map (·.add (l * esz))) (h' - l) (cap - l)) := by
  by_cases hz : h' - l = 0
  · rw [hz, List.take_zero]
    exact .nil _ _ _
  · generalize hv : Value.slice A n cap = v at h
    cases h with
    | nil _ A' cap' => simp at h2; omega
    | list _ _ g o cap' f hc hw hg hr =>
      cases hv
      have he : e = esz := by
        rcases he with h | h
        · exact h
        · rw [h] at h2; simp at h2; omega
      subst he
      rw [if_neg (by omega)]
      have hadd : ((⟨g, o, none⟩ : Addr).add (l * e)) = ⟨g, o + l * e, none⟩ := Addr.add_mid g o _
      simp only [Option.map_some, hadd]
      have hlen : ((xs.drop l).take (h' - l)).length = h' - l := by rw [List.length_take, List.length_drop]; omega
      have hget : ∀ (j : Nat) (x : List PV), ((xs.drop l).take (h' - l))[j]? = some x → xs[l + j]? = some x := fun j x hx => drop_take_get hx
      have := Rep.list (G := G) e ((xs.drop l).take (h' - l)) g (o + l * e) (cap - l) (fun j i => f (l + j) i) (by omega) (fun j x hx => hw _ x (hget j x hx)) (fun j x i y hx hy => by
        have := hg _ x i y (hget j x hx) hy
        rw [Nat.add_mul] at this
        rw [show o + l * e + j * e + i = o + (l * e + j * e) + i by omega]
        exact this) (fun j x i y hx hy => hr _ x i y (hget j x hx) hy)
      rw [hlen] at this
      exact this
theorem done_slice {o : Oper} {tab : Nat → Option Ty} {t : Nat} {x : Operand} {lo hi : Option Operand} {e : Eff} (htab : ∀ t ty, tab t = some ty → TyOk P t ty) (ho : o.op = .slice t x lo hi none) (h : (absSlice tab t x lo hi).val σ = some e) : Done P w0 S0 G0 σ o e := by
  replace h := val_opnd h
  have hx := fun c a w (hR : Rel w0 S0 G0 σ c a w) => hR.opnd x
  generalize absO σ x = u at h hx
  obtain ⟨l, h2, hl⟩ := val_opndInt h
  replace h := h2
  clear h2
  obtain ⟨hh, h2, hh2⟩ := val_opndInt h
  replace h := h2
  clear h2
  cases hty : tab t with
  | none => rw [hty] at h; simp [RM.val] at h
  | some ty =>
    rw [hty] at h
    have hT := htab t ty hty
    dsimp only at h
    split at h
    case isTrue hs =>
      split at h
      case h_2 => simp [RM.val] at h
      case h_1 s =>
        split at h
        case isFalse => simp [RM.val] at h
        case isTrue hc =>
          simp only [RM.val, Option.some.injEq] at h
          subst h
          refine Done.pure fun c a w hR => ⟨.string (s.extract (l.getD 0).toNat (hh.getD s.size).toNat), ?_, Rep.str _⟩
          have hv := rep_str (hx c a w hR)
          have hb := run_bounds (P := P) false s.size s.size (Nat.le_refl _) a w (hl _ _ _ c a w hR) (hh2 _ _ _ c a w hR) hc.1 hc.2.1 hc.2.2
          simp [execOp, ho, Instr.sliceAt, run_underlying (hT.str hs), Instr.slice, hv, hb]
    case isFalse hs =>
      split at h
      case isTrue => simp [RM.val] at h
      case isFalse he =>
        cases hety : tab ty.elem with
        | none => rw [hety] at h; simp [RM.val] at h
        | some ety =>
          rw [hety] at h
          have hE := htab _ ety hety
          dsimp only at h
          split at h
          case h_2 => simp [RM.val] at h
          case h_1 y =>
            obtain ⟨p, us, h2, H⟩ := val_atPV h
            replace h := h2
            clear h2
            split at h
            case h_2 => simp [RM.val] at h
            case h_1 e1 xs =>
              split at h
              case isFalse => simp [RM.val] at h
              case isTrue hc =>
                obtain ⟨hc0, hc1, hc2, hc3⟩ := hc
                simp only [RM.val, Option.some.injEq] at h
                subst h
                intro c a w hR
                obtain ⟨hF, HR⟩ := H σ (Frz.refl σ)
                obtain ⟨c', hR', hG, e1', e2', hv⟩ := HR w0 S0 G0 c a w hR
                have hrep := hv _ (hx c a w hR)
                obtain ⟨i, z, hinf, hsz, _⟩ := hE.info
                obtain ⟨A, cap, hA⟩ := rep_list_val hrep
                have hcap : xs.length ≤ cap ∨ xs = [] := by
                  rw [hA] at hrep
                  generalize hq : Value.slice A xs.length cap = q at hrep
                  cases hrep with
                  | nil _ A' cap' => right; rfl
                  | list _ _ g o cap' f hc hw hg hr => cases hq; left; exact hc
                have hcap : xs.length ≤ cap := by
                  rcases hcap with h | h
                  · exact h
                  · rw [h]; exact Nat.zero_le _
                have hb := run_bounds (P := P) true xs.length cap hcap a w (hl _ _ _ c a w hR) (hh2 _ _ _ c a w hR) hc1 hc2 hc3
                rw [hA] at hrep
                have hsub := rep_sub (esz := ety.size) hrep (l := (l.getD 0).toNat) (h' := (hh.getD (xs.length : Int)).toNat) (by omega) (by omega) hc0
                refine ⟨.slice (if cap = (l.getD 0).toNat then A else A.map (·.add ((l.getD 0).toNat * ety.size))) ((hh.getD (xs.length : Int)).toNat - (l.getD 0).toNat) (cap - (l.getD 0).toNat), w, .inl ?_, c', ?_⟩
                · simp [execOp, ho, Instr.sliceAt, run_underlying (hT.slice he), Instr.slice, hA, hb, sizeOf, typeInfo, hinf, hsz]
                · exact hR'.setSlot o.dst _ _ hsub
def absMin (isMax : Bool) (x y : Operand) : RM Eff := opnd x fun u => opnd y fun v => match u, v with
  | .one (.at (.pv (.int k a))), .one (.at (.pv (.int _ b))) => .ret ⟨.one (.at (.pv (.int k (if isMax = true then (if a < b then b else a) else (if b < a then b else a))))), []⟩
  | _, _ => .fail
theorem done_min {o : Oper} {cl : Call} {x y : Operand} {e : Eff} (ho : o.op = .call cl) (hc : cl.callee = .builtin .min) (ha : cl.args = #[x, y]) (h : (absMin false x y).val σ = some e) : Done P w0 S0 G0 σ o e := by
  replace h := val_opnd h
  replace h := val_opnd h
  generalize hu : absO σ x = u at h
  generalize hv : absO σ y = v at h
  split at h
  case h_2 => simp [RM.val] at h
  case h_1 k n k2 m =>
    simp only [RM.val, Option.some.injEq] at h
    subst h
    refine Done.pure fun c a w hR => ⟨.int k (if m < n then m else n), ?_, Rep.int _ _⟩
    have hx := hR.opnd x
    have hy := hR.opnd y
    rw [hu] at hx
    rw [hv] at hy
    have hx := rep_int hx
    have hy := rep_int hy
    simp [execOp, ho, resolve, hc, ha, invoke, builtin, Builtin.min_, hx, hy, Builtin.min2]
def absExtract (x : Operand) (i : Nat) : RM Eff := opnd x fun u => match u with
  | .tup l => match l[i]? with
    | some y => .ret ⟨.one y, []⟩
    | none => .fail
  | _ => .fail
theorem done_extract {o : Oper} {x : Operand} {i : Nat} {e : Eff} (ho : o.op = .extract x i) (h : (absExtract x i).val σ = some e) : Done P w0 S0 G0 σ o e := by
  replace h := val_opnd h
  generalize hu : absO σ x = u at h
  split at h
  case h_2 => simp [RM.val] at h
  case h_1 l =>
    split at h
    case h_2 => simp [RM.val] at h
    case h_1 y hy =>
      simp only [RM.val, Option.some.injEq] at h
      subst h
      refine Done.pure fun c a w hR => ?_
      have hx := hR.opnd x
      rw [hu] at hx
      obtain ⟨vs, e1, hl, hr⟩ := hx
      have hi := (List.getElem?_eq_some_iff.1 hy).1
      have hget : vs[i]? = some (vs.getD i undef) := get_of_getD (by omega)
      have hrep := hr i y hy
      generalize vs.getD i undef = z at hget hrep
      exact ⟨z, by simp [execOp, ho, e1, Instr.extract, hget], hrep⟩
def absEqB (tab : Nat → Option Ty) (neq : Bool) (t : Nat) (x y : Operand) : RM Eff := opnd x fun u => opnd y fun v => match tab t with
  | none => .fail
  | some ty => if ty.bool = true then match u, v with
      | .one (.at (.pv (.bool a))), .one (.at (.pv (.bool b))) => .ret ⟨.one (.at (.pv (.bool (if neq = true then !(a == b) else a == b)))), []⟩
      | _, _ => .fail
    else .fail
theorem done_eqB {o : Oper} {tab : Nat → Option Ty} {op : BinOp} {t ty : TypeId} {x y : Operand} {e : Eff} (htab : ∀ t ty, tab t = some ty → TyOk P t ty) (hop : op = .eql ∨ op = .neq) (ho : o.op = .binOp op t x y ty) (h : (absEqB tab (match op with | .neq => true | _ => false) t x y).val σ = some e) : Done P w0 S0 G0 σ o e := by
  replace h := val_opnd h
  replace h := val_opnd h
  generalize hu : absO σ x = u at h
  generalize hv : absO σ y = v at h
  cases hty : tab t with
  | none => rw [hty] at h; simp [RM.val] at h
  | some tyy =>
    rw [hty] at h
    dsimp only at h
    split at h
    case isFalse => simp [RM.val] at h
    case isTrue hb =>
      split at h
      case h_2 => simp [RM.val] at h
      case h_1 p q =>
        simp only [RM.val, Option.some.injEq] at h
        subst h
        have hund := (htab _ _ hty).bool hb
        have hrun : ∀ w, (Op.equal t (.bool p) (.bool q)).run P w = .ok (p == q) w := fun w => run_equalIn_bool' (P := P) w 9999 t p q hund
        have hguard : ∀ (op : BinOp) (w : World), (eqGuard op t x y (.bool p) (.bool q)).run P w = .ok () w := fun op w => by cases op <;> rfl
        have hbe : ∀ w, (binOp .eql t (.bool p) (.bool q)).run P w = .ok (.bool (p == q)) w := fun w => by
          show ((Op.equal t (.bool p) (.bool q)) >>= fun b => pure (Value.bool b) : Sem Value).run P w = _
          rw [Sem.run_bind, hrun]
          rfl
        have hbn : ∀ w, (binOp .neq t (.bool p) (.bool q)).run P w = .ok (.bool (!(p == q))) w := fun w => by
          show ((Op.equal t (.bool p) (.bool q)) >>= fun b => pure (Value.bool (!b)) : Sem Value).run P w = _
          rw [Sem.run_bind, hrun]
          rfl
        rcases hop with rfl | rfl
        · refine Done.pure fun c a w hR => ⟨.bool (p == q), ?_, Rep.bool _⟩
          have hx := hR.opnd x
          have hy := hR.opnd y
          rw [hu] at hx
          rw [hv] at hy
          have hx := rep_bool hx
          have hy := rep_bool hy
          simp only [execOp, ho, hx, hy, Sem.run_bind, hguard, hbe, Sem.run_pure, Result.andThen_ok]
        · refine Done.pure fun c a w hR => ⟨.bool (!(p == q)), ?_, Rep.bool _⟩
          have hx := hR.opnd x
          have hy := hR.opnd y
          rw [hu] at hx
          rw [hv] at hy
          have hx := rep_bool hx
          have hy := rep_bool hy
          simp only [execOp, ho, hx, hy, Sem.run_bind, hguard, hbn, Sem.run_pure, Result.andThen_ok]
end Go.Eng
/- ViewMore, part 14: EOps12. -/
namespace Go.Eng
open Go.RowKit
set_option linter.unusedVariables false
set_option linter.unusedSimpArgs false
variable {ob : Obs} {c c' : Con} {w w' w0 : World} {S0 : Nat → Prop} {G0 G : Gh} {σ σ' σ1 : St} {a a' : Act} {P : Program}
theorem fold_setMany (off : Nat) : ∀ (l : List Value) (k : Nat) (cells : Array Value), (l.zipIdx k).foldl (fun cs p => cs.setIfInBounds (off + p.2) p.1) cells = setMany cells (off + k) l
  | [], _, _ => rfl
  | v :: l, k, cells => by
    rw [List.zipIdx_cons, List.foldl_cons, fold_setMany off l (k + 1), setMany]
    rfl
theorem fill_step (off : Nat) (v : Value) (cells : Array Value) : v.cells.zipIdx.foldl (fun cs (p : Value × Nat) => cs.setIfInBounds (off + p.2) p.1) cells = setMany cells off v.cells.toList := by
  rw [← Array.foldl_toList, Array.toList_zipIdx, fold_setMany, Nat.add_zero]
theorem setMany_append : ∀ (l m : List Value) (cells : Array Value) (o : Nat), setMany cells o (l ++ m) = setMany (setMany cells o l) (o + l.length) m
  | [], m, cells, o => rfl
  | v :: l, m, cells, o => by
    rw [List.cons_append, setMany, setMany, setMany_append l m]
    congr 1
    simp only [List.length_cons]
    omega
theorem fill_row (sz : Nat) : ∀ (vals : List Value) (s : Nat) (cells : Array Value), (∀ v ∈ vals, v.cells.size = sz) → (s + vals.length) * sz ≤ cells.size →
    Instr.fill (fun i => some (i * sz, sz)) cells ((List.range' s vals.length).zip vals) = some (setMany cells (s * sz) (vals.flatMap fun v => v.cells.toList))
  | [], s, cells, _, _ => rfl
  | v :: vals, s, cells, hv, hl => by
    have h1 := hv v (.head _)
    have e : (s + (vals.length + 1)) * sz = s * sz + sz + vals.length * sz := by rw [Nat.add_mul, Nat.add_mul, Nat.one_mul]; omega
    simp only [List.length_cons] at hl
    rw [e] at hl
    simp only [List.length_cons, List.range'_succ, List.zip_cons_cons, Instr.fill, List.flatMap_cons]
    rw [if_neg (by simp only [h1, ne_eq, not_true_eq_false, decide_false, Bool.false_or, decide_eq_true_eq]; omega)]
    rw [fill_step, fill_row sz vals (s + 1) _ (fun u hu => hv u (.tail _ hu)) (by rw [setMany_size, Nat.add_mul, Nat.add_mul, Nat.one_mul]; omega), setMany_append]
    congr 2
    rw [Nat.add_mul, Nat.one_mul, Array.length_toList, h1]
theorem setMany_all (l : List Value) (cells : Array Value) (h : cells.size = l.length) : setMany cells 0 l = l.toArray := by
  apply Array.ext_getElem?
  intro i
  rw [setMany_get l cells 0 i (by omega)]
  by_cases hi : i < l.length
  · rw [if_pos (by omega)]
    simp
  · have h1 : cells.size ≤ i := by omega
    have h2 : l.length ≤ i := by omega
    rw [if_neg (by omega), Array.getElem?_eq_none h1, Array.getElem?_eq_none (by simpa using h2)]
def partsRM {α : Type} (es : List Nat) : List (Nat × Operand) → Nat → (List (List PV) → List (Nat × Nat × Option AObj) → RM α) → RM α
  | [], _, k => k [] []
  | (i, x) :: l, s, k => if i = s then opnd x fun u => match u with
      | .one y => atPVs es (v1cells y) fun ps us => partsRM es l (s + 1) fun xs us' => k (ps :: xs) (us ++ us')
      | .tup _ => .fail
    else .fail
theorem val_partsRM {α : Type} {r : α} {es : List Nat} : ∀ {l : List (Nat × Operand)} {s : Nat} {k : List (List PV) → List (Nat × Nat × Option AObj) → RM α}, (partsRM es l s k).val σ = some r →
    ∃ xs us, (k xs us).val σ = some r ∧ xs.length = l.length ∧ l.map (·.1) = List.range' s l.length ∧ ∀ σ1, Frz σ σ1 → Frz σ (σ1.lays us) ∧ ∀ w0 S0 G0 c a w, Rel w0 S0 G0 σ1 c a w → ∃ c', Rel w0 S0 G0 (σ1.lays us) c' a w ∧ Gh.le c.G c'.G ∧ c'.ρ = c.ρ ∧ c'.cp = c.cp ∧
      ∀ (j : Nat) (x : Nat × Operand), l[j]? = some x → ∃ ps : List PV, xs[j]? = some ps ∧ (a.eval x.2).cells.size = ps.length ∧ ∀ (i : Nat) (p : PV), ps[i]? = some p → Rep c'.G p ((a.eval x.2).cells.getD i undef)
  | [], s, k, h => ⟨[], [], h, rfl, rfl, fun σ1 hf => ⟨hf, fun w0 S0 G0 c a w hR => ⟨c, hR, Gh.le_refl _, rfl, rfl, fun j x hx => by simp at hx⟩⟩⟩
  | (i, x) :: l, s, k, h => by
    simp only [partsRM] at h
    split at h
    case isFalse => simp [RM.val] at h
    case isTrue hi =>
      subst hi
      replace h := val_opnd h
      cases hu : absO σ x with
      | tup q => rw [hu] at h; simp [RM.val] at h
      | one y =>
        rw [hu] at h
        obtain ⟨ps, us, h1, hl1, H1⟩ := val_atPVs h
        obtain ⟨xs, us', h2, hl2, hm, H2⟩ := val_partsRM h1
        refine ⟨ps :: xs, us ++ us', h2, by simp [hl2], by simp [hm, List.range'_succ], fun σ1 hf => ?_⟩
        obtain ⟨f1, R1⟩ := H1 σ1 hf
        obtain ⟨f2, R2⟩ := H2 _ f1
        rw [lays_append]
        refine ⟨f2, fun w0 S0 G0 c a w hR => ?_⟩
        obtain ⟨c1, hR1, g1, e1, e2, v1⟩ := R1 w0 S0 G0 c a w hR
        obtain ⟨c2, hR2, g2, e3, e4, v2⟩ := R2 w0 S0 G0 c1 a w hR1
        refine ⟨c2, hR2, Gh.le_trans g1 g2, e3.trans e1, e4.trans e2, fun j z hz => ?_⟩
        cases j with
        | succ j =>
          simp only [List.getElem?_cons_succ] at hz ⊢
          exact v2 j z hz
        | zero =>
          simp at hz
          subst hz
          refine ⟨ps, rfl, ?_⟩
          have hx := hR.opnd x
          have e5 : absO σ1 x = absO σ x := by
            cases x <;> first | rfl | (simp only [absO, St.slot]; rw [hf.1])
          rw [e5, hu] at hx
          have hx : RepV1 σ1.ob c y (a.eval x) := hx
          cases y with
          | agg q =>
            obtain ⟨cs, ecs, hsz, hr⟩ := hx
            have hsz' : cs.size = ps.length := by rw [hsz]; exact hl1.symm
            rw [ecs]
            refine ⟨hsz', fun i p hp => ?_⟩
            have hi := (List.getElem?_eq_some_iff.1 hp).1
            obtain ⟨z, hz⟩ : ∃ z, q[i]? = some z := ⟨_, List.getElem?_eq_getElem (by omega)⟩
            obtain ⟨p', hp', hrep⟩ := v1 i z _ hz (hr i z hz)
            rw [hp] at hp'
            cases hp'
            exact hrep.mono g2
          | «at» q =>
            obtain ⟨p, hp, hrep⟩ := v1 0 q (a.eval x) rfl hx
            have hlen : ps.length = 1 := hl1
            match ps, hlen, hp with
            | [p'], _, hp =>
              simp at hp
              subst hp
              have hone := rep_one hrep
              have hcells : (a.eval x).cells = #[a.eval x] := by
                revert hone
                cases a.eval x <;> intro hone <;> first | rfl | (simp [Value.oneCell'] at hone)
              rw [hcells]
              refine ⟨rfl, fun i p hp => ?_⟩
              cases i with
              | zero => simp at hp; subst hp; exact hrep.mono g2
              | succ i => simp at hp
def absBuildSlice (tab : Nat → Option Ty) (t n : Nat) (parts : Array (Nat × Operand)) (d : Option Nat) : RM Eff := match d, tab t with
  | some d, some ty => if ty.elem = 0 then .fail else match tab ty.elem with
    | none => .fail
    | some ety => partsRM ety.es parts.toList 0 fun xs us => if xs.length = n ∧ (xs.all fun x => x.length == ety.size) = true ∧ n * ety.size ≤ 16777216 then
        .obj d fun q => .ret ⟨.one (.at (.row d (q.1 + 1))), us ++ [(d, q.1 + 1, some (.row true ety.size xs))]⟩ else .fail
  | _, _ => .fail
theorem flat_says {e : Nat} {xs : List (List PV)} {vals : List Value} (hl : xs.length = vals.length) (hw : ∀ x ∈ xs, x.length = e)
    (h : ∀ (j : Nat) (ps : List PV) (v : Value), xs[j]? = some ps → vals[j]? = some v → v.cells.size = ps.length ∧ ∀ (i : Nat) (p : PV), ps[i]? = some p → Rep G p (v.cells.getD i undef)) :
    Says G e xs (vals.flatMap fun v => v.cells.toList) := by
  induction xs generalizing vals with
  | nil =>
    match vals, hl with
    | [], _ => exact ⟨by simp, fun j x hx => by simp at hx, fun j x i y hx => by simp at hx⟩
  | cons x xs ih =>
    match vals, hl with
    | v :: vals, hl =>
      have h0 := h 0 x v rfl rfl
      have hx := hw x (.head _)
      have ih := ih (vals := vals) (by simpa using hl) (fun y hy => hw y (.tail _ hy)) (fun j ps u h1 h2 => h (j + 1) ps u h1 h2)
      have one : Says G e [x] v.cells.toList := by
        refine ⟨by simp [h0.1, hx], fun j y hy => ?_, fun j y i z hy hz => ?_⟩
        · match j, hy with
          | 0, hy => simp at hy; subst hy; exact hx
        · match j, hy with
          | 0, hy =>
            simp at hy
            subst hy
            have := h0.2 i z hz
            rw [Nat.zero_mul, Nat.zero_add, List.getD_eq_getElem?_getD, Array.getElem?_toList]
            rw [Array.getD_eq_getD_getElem?] at this
            exact this
      have := one.append ih
      simpa using this
theorem done_buildSlice {o : Oper} {tab : Nat → Option Ty} {t n : Nat} {parts : Array (Nat × Operand)} {e : Eff} (htab : ∀ t ty, tab t = some ty → TyOk P t ty) (ho : o.op = .buildSlice t n parts) (h : (absBuildSlice tab t n parts o.dst).val σ = some e) : Done P w0 S0 G0 σ o e := by
  unfold absBuildSlice at h
  split at h
  case h_2 => simp [RM.val] at h
  case h_1 d ty hd hty =>
    have hT := htab t ty hty
    split at h
    case isTrue => simp [RM.val] at h
    case isFalse he =>
      cases hety : tab ty.elem with
      | none => rw [hety] at h; simp [RM.val] at h
      | some ety =>
        rw [hety] at h
        have hE := htab _ ety hety
        obtain ⟨xs, us, h2, hl, hm, H⟩ := val_partsRM h
        replace h := h2
        clear h2
        split at h
        case isFalse => simp [RM.val] at h
        case isTrue hc =>
          obtain ⟨hn, hall, hbig⟩ := hc
          simp only [RM.val, Option.some.injEq] at h
          subst h
          intro c a w hR
          obtain ⟨hF, HR⟩ := H σ (Frz.refl σ)
          obtain ⟨c1, hR1, g1, e1, e2, hv⟩ := HR w0 S0 G0 c a w hR
          obtain ⟨i, z, hi, hsz, _, hz, _, hzs, _⟩ := hE.info
          let vals : List Value := parts.toList.map fun x => a.eval x.2
          have hvl : vals.length = n := by simp only [vals, List.length_map]; omega
          have hwide : ∀ x ∈ xs, x.length = ety.size := fun x hx => by simpa using List.all_eq_true.1 hall x hx
          have hval : ∀ (j : Nat) (ps : List PV) (v : Value), xs[j]? = some ps → vals[j]? = some v → v.cells.size = ps.length ∧ ∀ (i : Nat) (p : PV), ps[i]? = some p → Rep c1.G p (v.cells.getD i undef) := fun j ps v h1 h2 => by
            obtain ⟨x, hx, rfl⟩ := map_get h2
            obtain ⟨ps', q1, q2, q3⟩ := hv j x hx
            rw [h1] at q1
            cases q1
            exact ⟨q2, q3⟩
          have hsays := flat_says (G := c1.G) (e := ety.size) (xs := xs) (vals := vals) (by omega) hwide hval
          have hcells : ∀ v ∈ vals, v.cells.size = ety.size := fun v hv' => by
            obtain ⟨j, hj, rfl⟩ := List.getElem_of_mem hv'
            obtain ⟨ps, hps⟩ : ∃ ps, xs[j]? = some ps := ⟨_, List.getElem?_eq_getElem (by omega)⟩
            rw [(hval j ps _ hps (List.getElem?_eq_getElem hj)).1]
            exact hwide ps (List.mem_of_getElem? hps)
          have hparts : (parts.map fun x => (x.1, a.eval x.2)).toList = (List.range' 0 vals.length).zip vals := by
            have e3 : vals.length = parts.toList.length := by simp [vals]
            rw [e3, ← hm, Array.toList_map]
            simp only [vals]
            rw [List.zip_map']
          have hfill : ∀ z0 : Array Value, z0.size = n * ety.size → Instr.fill (fun i => some (i * ety.size, ety.size)) z0 ((parts.map fun x => (x.1, a.eval x.2)).toList) = some (vals.flatMap fun v => v.cells.toList).toArray := fun z0 hz0 => by
            rw [hparts, fill_row ety.size vals 0 z0 hcells (by rw [Nat.zero_add, hvl, hz0]; exact Nat.le_refl _), Nat.zero_mul, setMany_all _ _ (by rw [hz0, hsays.1, hn])]
          obtain ⟨c2, hR2⟩ := hR1.newrow d ety.size n true o.dst (zs := #[]) ty.elem w.drawn hsays (by omega) (by rw [hn]; simp)
          rw [hn] at hR2
          have hgen : ((σ.lays us).ob d).1 = (σ.ob d).1 := by
            rcases hF.2 d with h | ⟨g, e5, xs5, h1, h2⟩
            · rw [h]
            · rw [h1, h2]
          rw [hgen] at hR2
          refine ⟨.slice (some ⟨w.heap.size, 0, none⟩) n n, { w with heap := w.heap.push (.cells ((vals.flatMap fun v => v.cells.toList).toArray ++ #[]) ty.elem (0, 0)), drawn := w.drawn }, .inl ?_, c2, ?_⟩
          · have hbig' : ¬ (16777216 < n * ety.size) := by omega
            have hmap : (parts.map fun (x : Nat × Operand) => (x.1, a.eval x.2)).toList = (parts.map fun x => (x.1, a.eval x.2)).toList := rfl
            by_cases hz0 : n * ety.size = 0
            · have := hfill ((Array.range (n * ety.size)).map (#[][· % (#[] : Array Value).size]!)) (by simp)
              simp [execOp, ho, Instr.buildSlice, run_underlying (hT.slice he), sizeOf, typeInfo, hi, hsz, hbig', hz0] at this ⊢
              rw [this]
              simp [newRow, newObj, Sem.run]
            · have := hfill ((Array.range (n * ety.size)).map (z.cells[· % z.cells.size]!)) (by simp)
              simp [execOp, ho, Instr.buildSlice, run_underlying (hT.slice he), sizeOf, typeInfo, hi, hsz, hbig', hz0, zeroValue, hz] at this ⊢
              rw [this]
              simp [newRow, newObj, Sem.run]
          · unfold St.app at hR2 ⊢
            rw [lays_append]
            exact hR2
end Go.Eng
/- ViewMore, part 15: ECode. -/
namespace Go.Eng
open Go.RowKit
set_option linter.unusedVariables false
set_option linter.unusedSimpArgs false
variable {ob : Obs} {c c' : Con} {w w' w0 : World} {S0 : Nat → Prop} {G0 G : Gh} {σ σ' σ1 : St} {a a' : Act} {P : Program}
structure Env where
  tab : Nat → Option Ty
  fns : FuncId → Bool
structure EnvOk (P : Program) (E : Env) : Prop where
  tab : ∀ t ty, E.tab t = some ty → TyOk P t ty
  fns : ∀ f, E.fns f = true → FnOk P f
  mixed : P.follows .mixedOrders = true
def RM.map {α β : Type} (f : α → β) : RM α → RM β
  | .ret a => .ret (f a)
  | .fail => .fail
  | .slot t k => .slot t fun v => (k v).map f
  | .obj q k => .obj q fun v => (k v).map f
theorem RM.val_map {α β : Type} (f : α → β) : ∀ m : RM α, (m.map f).val σ = (m.val σ).map f
  | .ret a => rfl
  | .fail => rfl
  | .slot t k => RM.val_map f (k (σ.slot t))
  | .obj q k => RM.val_map f (k (σ.ob q))
abbrev EffD := Eff × Option Dem
def pureE (m : RM Eff) : RM EffD := m.map fun e => (e, none)
def absOp (E : Env) (r : Option RT) (o : Oper) : RM EffD := match o.op with
  | .move x => pureE (absMove x)
  | .assign x => pureE (absMove x)
  | .pick x y z => pureE (absPick x y z)
  | .binOp op t x y ty => opnd x fun u => match u with
    | .one (.at (.pv (.bool _))) => match op with
      | .eql => pureE (absEqB E.tab false t x y)
      | .neq => pureE (absEqB E.tab true t x y)
      | _ => .fail
    | _ => pureE (absBinO op x y)
  | .unOp op t x => pureE (absUn op x)
  | .load t x => pureE (absLoad E.tab t x)
  | .store t x y => pureE (absStore E.tab t x y)
  | .alloc t => pureE (absAlloc E.tab t o.dst)
  | .box t x => pureE (absBox x o.dst)
  | .fieldAddr t x f => pureE (absFieldAddr E.tab t x f)
  | .indexAddr t x i => pureE (absIndexAddr E.tab t x i)
  | .convert src dst x => pureE (absConv E.tab src dst x)
  | .index t x i => pureE (absIndex E.tab t x i)
  | .slice t x lo hi none => pureE (absSlice E.tab t x lo hi)
  | .buildSlice t n parts => pureE (absBuildSlice E.tab t n parts o.dst)
  | .extract x i => pureE (absExtract x i)
  | .call cl => match cl.callee with
    | .value f => match r with
      | some r => (absCall E.tab E.fns r f cl.args cl.argTypes).map fun x => (x.1, some x.2)
      | none => .fail
    | .builtin .len => match cl.args.toList, cl.argTypes.toList with
      | [x], [t] => pureE (absLen E.tab t x)
      | _, _ => .fail
    | .builtin .append => match cl.args.toList, cl.argTypes.toList with
      | [x, y], [t, tx] => match E.tab tx with
        | some ty => if ty.elem = 0 then .fail else pureE (absAppend E.tab t o.dst x y)
        | none => .fail
      | _, _ => .fail
    | .builtin .min => match cl.args.toList with
      | [x, y] => pureE (absMin false x y)
      | _ => .fail
    | _ => .fail
  | _ => .fail
theorem val_pureE {m : RM Eff} {e : Eff} {dm : Option Dem} (h : (pureE m).val σ = some (e, dm)) : m.val σ = some e := by
  unfold pureE at h
  rw [RM.val_map] at h
  obtain ⟨x, h1, h2⟩ := Option.map_eq_some_iff.1 h
  cases h2
  exact h1
theorem done_op {E : Env} (hE : EnvOk P E) {r : Option RT} {o : Oper} {e : Eff} {dm : Option Dem} (h : (absOp E r o).val σ = some (e, dm)) (hd : ∀ d ∈ dm, d.ok P) : DoneW P w0 S0 G0 σ o e := by
  unfold absOp at h
  split at h
  case h_1 x ho => exact (done_move (.inl ho) (val_pureE h)).toW
  case h_2 x ho => exact (done_move (.inr ho) (val_pureE h)).toW
  case h_3 x y z ho => exact (done_pick ho (val_pureE h)).toW
  case h_4 op t x y ty ho =>
    replace h := val_opnd h
    split at h
    case h_1 =>
      split at h
      case h_1 => exact (done_eqB hE.tab (.inl rfl) ho (val_pureE h)).toW
      case h_2 => exact (done_eqB hE.tab (.inr rfl) ho (val_pureE h)).toW
      case h_3 => simp [RM.val] at h
    case h_2 => exact (done_bin ho (val_pureE h)).toW
  case h_5 op t x ho => exact (done_un ho (val_pureE h)).toW
  case h_6 t x ho => exact (done_load hE.tab ho (val_pureE h)).toW
  case h_7 t x y ho => exact (done_store hE.tab ho (val_pureE h)).toW
  case h_8 t ho => exact (done_alloc hE.tab ho (val_pureE h)).toW
  case h_9 t x ho => exact (done_box ho (val_pureE h)).toW
  case h_10 t x f ho => exact (done_fieldAddr hE.tab ho (val_pureE h)).toW
  case h_11 t x i ho => exact (done_indexAddr hE.tab ho (val_pureE h)).toW
  case h_12 src dst x ho => exact (done_conv hE.tab ho (val_pureE h)).toW
  case h_13 t x i ho => exact (done_index hE.tab ho (val_pureE h)).toW
  case h_14 t x lo hi ho => exact (done_slice hE.tab ho (val_pureE h)).toW
  case h_15 t n parts ho => exact (done_buildSlice hE.tab ho (val_pureE h)).toW
  case h_16 x i ho => exact (done_extract ho (val_pureE h)).toW
  case h_17 cl ho =>
    split at h
    case h_1 f hc =>
      cases r with
      | none => simp [RM.val] at h
      | some r =>
        dsimp only at h
        rw [RM.val_map] at h
        obtain ⟨x, h1, h2⟩ := Option.map_eq_some_iff.1 h
        cases h2
        exact done_call hE.fns ho hc (dm := x.2) h1 (hd x.2 rfl)
    case h_2 hc =>
      split at h
      case h_1 x t hx ht => exact (done_len hE.tab ho hc (Array.toList_inj.1 (by simpa using hx)) (Array.toList_inj.1 (by simpa using ht)) (val_pureE h)).toW
      case h_2 => simp [RM.val] at h
    case h_3 hc =>
      split at h
      case h_2 => simp [RM.val] at h
      case h_1 x y t tx hx ht =>
        split at h
        case h_2 => simp [RM.val] at h
        case h_1 ty hty =>
          split at h
          case isTrue => simp [RM.val] at h
          case isFalse he =>
            exact (done_append hE.tab ((hE.tab _ _ hty).slice he) ho hc (Array.toList_inj.1 (by simpa using hx)) (Array.toList_inj.1 (by simpa using ht)) (val_pureE h)).toW
    case h_4 hc =>
      split at h
      case h_1 x y hx => exact (done_min ho hc (Array.toList_inj.1 (by simpa using hx)) (val_pureE h)).toW
      case h_2 => simp [RM.val] at h
    case h_5 => simp [RM.val] at h
  case h_18 => simp [RM.val] at h
def absG (E : Env) (ops : Array Oper) (r : Option RT) (o : Oper) : RM EffD := match o.guard with
  | none => absOp E r o
  | some (j, want) => match (ops[j]?).bind (·.dst) with
    | none => .fail
    | some s => .slot s fun v => match v with
      | .one (.at (.pv (.bool b))) => if b = want then absOp E r o else .ret (⟨.tup [], []⟩, none)
      | .tup [] => .ret (⟨.tup [], []⟩, none)
      | _ => .fail
theorem done_g {E : Env} (hE : EnvOk P E) {ops : Array Oper} {r : Option RT} {o : Oper} {e : Eff} {dm : Option Dem} (h : (absG E ops r o).val σ = some (e, dm)) (hd : ∀ d ∈ dm, d.ok P) (hR : Rel w0 S0 G0 σ c a w)
    {K : Act → World → Prop} {Q : Exit → Act → World → Prop} (hK : ∀ c' a' w', Rel w0 S0 G0 (σ.app o.dst e) c' a' w' → a'.tmps.size = a.tmps.size → K a' w') :
    if Region.wanted o (yielded ops a.tmps) then o.wp P a w K Q else K (a.put o.dst undef) w := by
  unfold absG at h
  cases hg : o.guard with
  | none =>
    rw [hg] at h
    rw [if_pos (by simp [Region.wanted, hg])]
    exact done_op hE h hd c a w hR K Q hK
  | some q =>
    obtain ⟨j, want⟩ := q
    rw [hg] at h
    dsimp only at h
    cases hs : (ops[j]?).bind (·.dst) with
    | none => rw [hs] at h; simp [RM.val] at h
    | some s =>
      rw [hs] at h
      simp only [RM.val] at h
      have hu : RepAV σ.ob c (.tup []) undef := ⟨#[], rfl, rfl, fun i x hx => by simp at hx⟩
      split at h
      case h_3 => simp [RM.val] at h
      case h_2 hb =>
        have hv := hR.slots s
        rw [hb] at hv
        obtain ⟨vs, hv, hsz, _⟩ := hv
        have hvs : vs = #[] := by simpa using hsz
        subst hvs
        have hy : yielded ops a.tmps j = none := by
          unfold yielded
          rw [hs]
          simp only [Option.bind_some]
          rcases Nat.lt_or_ge s a.tmps.size with h | h
          · rw [Array.getElem?_eq_getElem h]
            rw [Array.getD_eq_getD_getElem?, Array.getElem?_eq_getElem h] at hv
            simp only [Option.getD_some] at hv
            rw [hv]
          · rw [Array.getElem?_eq_none h]
        rw [if_neg (by simp [Region.wanted, hg, hy])]
        simp only [RM.val, Option.some.injEq, Prod.mk.injEq] at h
        obtain ⟨rfl, rfl⟩ := h
        exact hK c _ w (hR.setSlot o.dst (.tup []) undef hu) (Act.size_put _ _ _)
      case h_1 b hb =>
        have hv := hR.slots s
        rw [hb] at hv
        have hv := rep_bool hv
        have hlt : s < a.tmps.size := by
          rcases Nat.lt_or_ge s a.tmps.size with h | h
          · exact h
          · rw [Array.getD_eq_getD_getElem?, Array.getElem?_eq_none h] at hv
            simp [undef] at hv
        have hy : yielded ops a.tmps j = some b := by
          unfold yielded
          rw [hs]
          simp only [Option.bind_some, Array.getElem?_eq_getElem hlt]
          rw [Array.getD_eq_getD_getElem?, Array.getElem?_eq_getElem hlt] at hv
          simp only [Option.getD_some] at hv
          rw [hv]
        split at h
        case isTrue hw =>
          rw [if_pos (by simp [Region.wanted, hg, hy, hw])]
          exact done_op hE h hd c a w hR K Q hK
        case isFalse hw =>
          rw [if_neg (by simp [Region.wanted, hg, hy, hw])]
          simp only [RM.val, Option.some.injEq, Prod.mk.injEq] at h
          obtain ⟨rfl, rfl⟩ := h
          exact hK c _ w (hR.setSlot o.dst (.tup []) undef hu) (Act.size_put _ _ _)
inductive RO (P : Program) (E : Env) (ops : Array Oper) : List Oper → St → St → Prop where
  | nil {s} : RO P E ops [] s s
  | cons {o l s s1 s' e dm} (r : Option RT) : (absG E ops r o).val s = some (e, dm) → (∀ d ∈ dm, d.ok P) → s.app o.dst e = s1 → RO P E ops l s1 s' → RO P E ops (o :: l) s s'
theorem RO.wp {E : Env} (hE : EnvOk P E) {ops : Array Oper} {Q : Exit → Act → World → Prop} {n : Nat} {l : List Oper} (h : RO P E ops l σ σ') : ∀ {c : Con} {a : Act} {w : World}, Rel w0 S0 G0 σ c a w → a.tmps.size = n →
    (∀ c' a' w', Rel w0 S0 G0 σ' c' a' w' → a'.tmps.size = n → Q .normal a' w') → wpList P ops Q l a w := by
  induction h with
  | nil => intro c a w hR hn hQ; exact hQ c a w hR hn
  | cons r h1 h2 h3 h4 ih =>
    intro c a w hR hn hQ
    subst h3
    refine wpList_step fun K hK => done_g hE h1 h2 hR fun c' a' w' hR' hn' => hK _ _ ?_
    exact ih hR' (hn'.trans hn) hQ
def Weak (σ σ' : St) : Prop := ∀ w0 S0 G0 c a w, Rel w0 S0 G0 σ c a w → ∃ c', Rel w0 S0 G0 σ' c' a w
def outOf (id : Nat) : Exit → Exit
  | .exit id' => if id' = id then .normal else .exit id'
  | e => e
def Snd (P : Program) (w0 : World) (S0 : Nat → Prop) (G0 : Gh) (x : Code) (σ : St) (e : Exit) (σ' : St) : Prop :=
  ∀ c a w, Rel w0 S0 G0 σ c a w → x.wp P (fun e' a' w' => e' = e ∧ ∃ c', Rel w0 S0 G0 σ' c' a' w') a w
inductive ARun (P : Program) (E : Env) : Code → St → Exit → St → Prop where
  | skip {s0} : ARun P E .skip s0 .normal s0
  | region {id ops s0 s'} : RO P E ops ops.toList s0 s' → ARun P E (.region id ops false) s0 .normal s'
  | drawn {id ops s0 s'} : (∀ w0 S0 G0, Snd P w0 S0 G0 (.region id ops true) s0 .normal s') → ARun P E (.region id ops true) s0 .normal s'
  | seq {x y s0 s1 s2 e} : ARun P E x s0 .normal s1 → ARun P E y s1 e s2 → ARun P E (.seq x y) s0 e s2
  | seqx {x y s0 s1 e} : ARun P E x s0 e s1 → e ≠ .normal → ARun P E (.seq x y) s0 e s1
  | cond {q x y s0 s' e} (b : Bool) : absO s0 q = .one (.at (.pv (.bool b))) → ARun P E (if b then x else y) s0 e s' → ARun P E (.cond q x y) s0 e s'
  | block {id x s0 s' e} : ARun P E x s0 e s' → ARun P E (.block id x) s0 (outOf id e) s'
  | loop {x s0 s1 s2 e} : ARun P E x s0 .normal s1 → ARun P E (.loop x) s1 e s2 → ARun P E (.loop x) s0 e s2
  | loopx {x s0 s1 e} : ARun P E x s0 e s1 → e ≠ .normal → ARun P E (.loop x) s0 e s1
  | exit {id s0} : ARun P E (.exit id) s0 (.exit id) s0
  | ret {s0} : ARun P E .ret s0 .ret s0
  | weak {x s0 s1 s2 e} : Weak s0 s1 → ARun P E x s1 e s2 → ARun P E x s0 e s2
  | post {x s0 s1 s2 e} : ARun P E x s0 e s1 → Weak s1 s2 → ARun P E x s0 e s2
inductive LChain (P : Program) (w0 : World) (S0 : Nat → Prop) (G0 : Gh) (x : Code) (e : Exit) (σ' : St) : Nat → St → Prop where
  | done {s} : Snd P w0 S0 G0 x s e σ' → e ≠ .normal → LChain P w0 S0 G0 x e σ' 0 s
  | more {n s s1} : Snd P w0 S0 G0 x s .normal s1 → LChain P w0 S0 G0 x e σ' n s1 → LChain P w0 S0 G0 x e σ' (n + 1) s
  | weak {n s s1} : Weak s s1 → LChain P w0 S0 G0 x e σ' n s1 → LChain P w0 S0 G0 x e σ' n s
theorem LChain.round {x : Code} {e : Exit} {n : Nat} (h : LChain P w0 S0 G0 x e σ' n σ) (hR : Rel w0 S0 G0 σ c a w) :
    x.wp P (Exit.then (fun a' w' => ∃ n', n' < n ∧ ∃ σ1 c1, LChain P w0 S0 G0 x e σ' n' σ1 ∧ Rel w0 S0 G0 σ1 c1 a' w') (fun e' a' w' => e' = e ∧ ∃ c', Rel w0 S0 G0 σ' c' a' w')) a w := by
  induction h generalizing c with
  | done hs hne =>
    refine Code.wp_mono ?_ (hs c a w hR)
    rintro e' a' w' ⟨rfl, hR'⟩
    cases e' <;> first | exact absurd rfl hne | exact ⟨rfl, hR'⟩
  | more hs hl _ =>
    refine Code.wp_mono ?_ (hs c a w hR)
    rintro e' a' w' ⟨rfl, c', hR'⟩
    exact ⟨_, Nat.lt_succ_self _, _, c', hl, hR'⟩
  | weak hw hl ih =>
    obtain ⟨c', hR'⟩ := hw _ _ _ _ _ _ hR
    exact ih hR'
theorem LChain.snd {x : Code} {e : Exit} {n : Nat} (h : LChain P w0 S0 G0 x e σ' n σ) : Snd P w0 S0 G0 (.loop x) σ e σ' := by
  intro c a w hR
  refine wp_loop_ghost (fun n a w => ∃ σ1 c1, LChain P w0 S0 G0 x e σ' n σ1 ∧ Rel w0 S0 G0 σ1 c1 a w) n ⟨σ, c, h, hR⟩ ?_
  rintro n a w ⟨σ1, c1, hl, hR⟩
  exact hl.round hR
theorem Snd.post {x : Code} {e : Exit} {σ2 : St} (h : Snd P w0 S0 G0 x σ e σ') (hw : Weak σ' σ2) : Snd P w0 S0 G0 x σ e σ2 := by
  intro c a w hR
  refine Code.wp_mono ?_ (h c a w hR)
  rintro e' a' w' ⟨rfl, c', hR'⟩
  exact ⟨rfl, hw _ _ _ _ _ _ hR'⟩
theorem LChain.post {x : Code} {e : Exit} {n : Nat} {σ2 : St} (h : LChain P w0 S0 G0 x e σ' n σ) (hw : Weak σ' σ2) : LChain P w0 S0 G0 x e σ2 n σ := by
  induction h with
  | done hs hne => exact .done (hs.post hw) hne
  | more hs hl ih => exact .more hs ih
  | weak h1 hl ih => exact .weak h1 ih
theorem ARun.snd {E : Env} (hE : EnvOk P E) {x : Code} {e : Exit} (h : ARun P E x σ e σ') : Snd P w0 S0 G0 x σ e σ' ∧ ∀ y, x = .loop y → ∃ n, LChain P w0 S0 G0 y e σ' n σ := by
  induction h with
  | skip => exact ⟨fun c a w hR => wp_skip ⟨rfl, c, hR⟩, by simp⟩
  | region h1 => exact ⟨fun c a w hR => wp_region_list (h1.wp hE hR rfl fun c' a' w' hR' _ => ⟨rfl, c', hR'⟩), by simp⟩
  | drawn h1 => exact ⟨h1 _ _ _, by simp⟩
  | seq h1 h2 ih1 ih2 =>
    refine ⟨fun c a w hR => wp_seq (Code.wp_mono ?_ (ih1.1 c a w hR)), by simp⟩
    rintro e' a' w' ⟨rfl, c', hR'⟩
    exact ih2.1 c' a' w' hR'
  | seqx h1 hne ih1 =>
    refine ⟨fun c a w hR => wp_seq (Code.wp_mono ?_ (ih1.1 c a w hR)), by simp⟩
    rintro e' a' w' ⟨rfl, hR'⟩
    cases e' <;> first | exact absurd rfl hne | exact ⟨rfl, hR'⟩
  | @cond q x y s2 s3 e2 b hb h1 ih =>
    refine ⟨fun c a w hR => ?_, by simp⟩
    have hx := hR.opnd q
    rw [hb] at hx
    exact wp_cond (rep_bool hx) (by cases b <;> exact ih.1 c a w hR)
  | block h1 ih =>
    refine ⟨fun c a w hR => wp_block (Code.wp_mono ?_ (ih.1 c a w hR)), by simp⟩
    rintro e' a' w' ⟨rfl, hR'⟩
    cases e' <;> first | exact ⟨rfl, hR'⟩ | skip
    rename_i id'
    show if id' = _ then _ else _
    split
    · rename_i q; subst q; exact ⟨by simp [outOf], hR'⟩
    · rename_i q; exact ⟨by simp [outOf, q], hR'⟩
  | loop h1 h2 ih1 ih2 =>
    obtain ⟨n, hl⟩ := ih2.2 _ rfl
    have L := LChain.more ih1.1 hl
    exact ⟨L.snd, fun y hy => by cases hy; exact ⟨_, L⟩⟩
  | loopx h1 hne ih1 =>
    have L := LChain.done ih1.1 hne
    exact ⟨L.snd, fun y hy => by cases hy; exact ⟨_, L⟩⟩
  | exit => exact ⟨fun c a w hR => wp_exit ⟨rfl, c, hR⟩, by simp⟩
  | ret => exact ⟨fun c a w hR => wp_ret ⟨rfl, c, hR⟩, by simp⟩
  | weak hw h1 ih =>
    refine ⟨fun c a w hR => ?_, fun y hy => ?_⟩
    · obtain ⟨c', hR'⟩ := hw _ _ _ _ _ _ hR
      exact ih.1 c' a w hR'
    · obtain ⟨n, hl⟩ := ih.2 y hy
      exact ⟨n, .weak hw hl⟩
  | post h1 hw ih => exact ⟨ih.1.post hw, fun y hy => let ⟨n, hl⟩ := ih.2 y hy; ⟨n, hl.post hw⟩⟩
end Go.Eng
/- ViewMore, part 16: ESpec. -/
namespace Go.Eng
open Go.RowKit
set_option linter.unusedVariables false
set_option linter.unusedSimpArgs false
variable {ob : Obs} {c c' : Con} {w w' w0 : World} {S0 : Nat → Prop} {G0 G : Gh} {σ σ' σ1 : St} {a a' : Act} {P : Program}
def paAV : PA → AV
  | .at p => .one (.at (.pv p))
  | .agg ps => .one (.agg (ps.map .pv))
def entry (args : List PA) (n : Nat) : St := { slots := args.map paAV ++ List.replicate (n - args.length) .any, obs := [] }
def RM.bind {α β : Type} : RM α → (α → RM β) → RM β
  | .ret a, f => f a
  | .fail, _ => .fail
  | .slot t k, f => .slot t fun v => (k v).bind f
  | .obj q k, f => .obj q fun v => (k v).bind f
theorem RM.val_bind {α β : Type} (f : α → RM β) : ∀ m : RM α, (m.bind f).val σ = (m.val σ).bind fun x => (f x).val σ
  | .ret a => rfl
  | .fail => rfl
  | .slot t k => RM.val_bind f (k (σ.slot t))
  | .obj q k => RM.val_bind f (k (σ.ob q))
def resVal (E : Env) : ResultVar → RM V1
  | .tmp t => .slot t fun v => match v with
    | .one y => .ret y
    | _ => .fail
  | .cell q t => (absLoad E.tab t (.tmp q)).bind fun e => match e.val with
    | .one y => .ret y
    | _ => .fail
def readRes (tmps : Array Value) : ResultVar → Sem Value
  | .tmp t => pure (tmps.getD t undef)
  | .cell q t => do loadVar t (← asAddr (tmps.getD q undef))
theorem res_val {E : Env} (hE : EnvOk P E) {r : ResultVar} {y : V1} (h : (resVal E r).val σ = some y) (hR : Rel w0 S0 G0 σ c a w) : ∃ v, (readRes a.tmps r).run P w = .ok v w ∧ RepV1 σ.ob c y v := by
  cases r with
  | tmp t =>
    simp only [resVal, RM.val] at h
    split at h
    case h_2 => simp [RM.val] at h
    case h_1 z hz =>
      simp only [RM.val, Option.some.injEq] at h
      subst h
      have := hR.slots t
      rw [hz] at this
      exact ⟨_, rfl, this⟩
  | cell q t =>
    simp only [resVal] at h
    rw [RM.val_bind] at h
    obtain ⟨e, h1, h2⟩ := Option.bind_eq_some_iff.1 h
    split at h2
    case h_2 => simp [RM.val] at h2
    case h_1 z hz =>
      simp only [RM.val, Option.some.injEq] at h2
      subst h2
      obtain ⟨_, v, h3, h4⟩ := load_run (P := P) hE.tab h1 hR
      rw [hz] at h4
      refine ⟨v, ?_, h4⟩
      simp only [readRes, Act.eval, Instr.loadAt, Instr.sureAddr] at h3 ⊢
      cases hv : a.tmps.getD q undef <;> rw [hv] at h3 <;> first | (simp [stuck] at h3; done) | skip
      rename_i x
      cases x with
      | none => simp [stuck] at h3
      | some x => simpa [asAddr] using h3
def retAt {α : Type} (own : Option Nat) (key e : Nat) (x : At) (k : RA → List (Nat × Nat × Option AObj) → RM α) : RM α := match own, x with
  | some q0, .row q g => if q = q0 then .obj q fun r => match gone g r with
      | some (.row true e' xs) => k (.row key e' xs) []
      | _ => .fail
    else atPV e x fun p us => k (.pv p) us
  | _, _ => atPV e x fun p us => k (.pv p) us
def retAts {α : Type} (own : Option Nat) (key : Nat) : List Nat → List At → (List RA → List (Nat × Nat × Option AObj) → RM α) → RM α
  | _, [], k => k [] []
  | es, x :: l, k => retAt own key (es.headD 0) x fun p us => retAts own key es.tail l fun ps us' => k (p :: ps) (us ++ us')
def ret1 {α : Type} (own : Option Nat) (key : Nat) (es : List Nat) (y : V1) (k : R1 → List (Nat × Nat × Option AObj) → RM α) : RM α := match y with
  | .at x => retAt own key (es.headD 0) x fun p us => k (.at p) us
  | .agg l => retAts own key es l fun ps us => k (.agg ps) us
def MRA (σ : St) (own : Option Nat) (key : Nat) (c : Con) (p : RA) (v : Value) : Prop := match p with
  | .pv p => Rep c.G p v
  | .row k e xs => k = key ∧ ∃ q g, own = some q ∧ σ.ob q = (g, some (.row true e xs)) ∧ v = rowVal (c.ρ q) xs.length (c.cp q)
theorem MRA.mono {own : Option Nat} {key : Nat} {p : RA} {v : Value} (h : MRA σ own key c p v) (g : Gh.le c.G c'.G) (e1 : c'.ρ = c.ρ) (e2 : c'.cp = c.cp) : MRA σ own key c' p v := by
  cases p with
  | pv p => exact Rep.mono g h
  | row k e xs => obtain ⟨h1, q, g', h2, h3, h4⟩ := h; exact ⟨h1, q, g', h2, h3, by rw [e1, e2]; exact h4⟩
theorem val_retAt {α : Type} {own : Option Nat} {key e : Nat} {x : At} {k : RA → List (Nat × Nat × Option AObj) → RM α} {r : α} (h : (retAt own key e x k).val σ = some r) :
    ∃ p us, (k p us).val σ = some r ∧ ∀ σ1, Frz σ σ1 → Frz σ (σ1.lays us) ∧ ∀ w0 S0 G0 c a w, Rel w0 S0 G0 σ1 c a w → ∃ c', Rel w0 S0 G0 (σ1.lays us) c' a w ∧ Gh.le c.G c'.G ∧ c'.ρ = c.ρ ∧ c'.cp = c.cp ∧
      ∀ v, RepAt σ1.ob c x v → MRA σ own key c' p v := by
  have plain : (atPV e x fun p us => k (.pv p) us).val σ = some r → ∃ p us, (k p us).val σ = some r ∧ ∀ σ1, Frz σ σ1 → Frz σ (σ1.lays us) ∧ ∀ w0 S0 G0 c a w, Rel w0 S0 G0 σ1 c a w → ∃ c', Rel w0 S0 G0 (σ1.lays us) c' a w ∧ Gh.le c.G c'.G ∧ c'.ρ = c.ρ ∧ c'.cp = c.cp ∧
      ∀ v, RepAt σ1.ob c x v → MRA σ own key c' p v := fun h => by
    obtain ⟨p, us, h1, H⟩ := val_atPV h
    exact ⟨.pv p, us, h1, H⟩
  unfold retAt at h
  split at h
  case h_2 => exact plain h
  case h_1 q0 q g =>
    split at h
    case isFalse => exact plain h
    case isTrue hq =>
      subst hq
      simp only [RM.val] at h
      split at h
      case h_2 => simp [RM.val] at h
      case h_1 e' xs hg =>
        have hob := gone_some hg
        refine ⟨.row key e' xs, [], h, fun σ1 hf => ⟨hf, fun w0 S0 G0 c a w hR => ⟨c, hR, Gh.le_refl _, rfl, rfl, fun v hv => ⟨rfl, q, g, rfl, hob, ?_⟩⟩⟩⟩
        refine hv.2 _ ?_
        rcases hf.look hob with h1 | ⟨e2, xs2, h1, h2⟩
        · rw [alive_of h1]; rfl
        · cases h1; rw [alive_of h2]; rfl
theorem val_retAts {α : Type} {own : Option Nat} {key : Nat} {r : α} : ∀ {l : List At} {es : List Nat} {k : List RA → List (Nat × Nat × Option AObj) → RM α}, (retAts own key es l k).val σ = some r →
    ∃ ps us, (k ps us).val σ = some r ∧ ps.length = l.length ∧ ∀ σ1, Frz σ σ1 → Frz σ (σ1.lays us) ∧ ∀ w0 S0 G0 c a w, Rel w0 S0 G0 σ1 c a w → ∃ c', Rel w0 S0 G0 (σ1.lays us) c' a w ∧ Gh.le c.G c'.G ∧ c'.ρ = c.ρ ∧ c'.cp = c.cp ∧
      ∀ (i : Nat) (x : At) (v : Value), l[i]? = some x → RepAt σ1.ob c x v → ∃ p : RA, ps[i]? = some p ∧ MRA σ own key c' p v
  | [], es, k, h => ⟨[], [], h, rfl, fun σ1 hf => ⟨hf, fun w0 S0 G0 c a w hR => ⟨c, hR, Gh.le_refl _, rfl, rfl, fun i x v hx => by simp at hx⟩⟩⟩
  | x :: l, es, k, h => by
    obtain ⟨p, us, h1, H1⟩ := val_retAt h
    obtain ⟨ps, us', h2, hl, H2⟩ := val_retAts h1
    refine ⟨p :: ps, us ++ us', h2, by simp [hl], fun σ1 hf => ?_⟩
    obtain ⟨f1, R1⟩ := H1 σ1 hf
    obtain ⟨f2, R2⟩ := H2 _ f1
    rw [lays_append]
    refine ⟨f2, fun w0 S0 G0 c a w hR => ?_⟩
    obtain ⟨c1, hR1, g1, e1, e2, v1⟩ := R1 w0 S0 G0 c a w hR
    obtain ⟨c2, hR2, g2, e3, e4, v2⟩ := R2 w0 S0 G0 c1 a w hR1
    refine ⟨c2, hR2, Gh.le_trans g1 g2, e3.trans e1, e4.trans e2, fun i y v hy hv => ?_⟩
    cases i with
    | zero => simp at hy; subst hy; exact ⟨p, rfl, (v1 v hv).mono g2 e3 e4⟩
    | succ i =>
      simp only [List.getElem?_cons_succ] at hy ⊢
      exact v2 i y v hy (RepAt.keep g1 (Frz.keeps hf f1 e1 e2) hv)
def MR1 (σ : St) (own : Option Nat) (key : Nat) (c : Con) (x : R1) (v : Value) : Prop := match x with
  | .at p => MRA σ own key c p v
  | .agg ps => ∃ cs : Array Value, v = .agg cs ∧ cs.size = ps.length ∧ ∀ i p, ps[i]? = some p → MRA σ own key c p (cs.getD i undef)
theorem MR1.mono {own : Option Nat} {key : Nat} {p : R1} {v : Value} (h : MR1 σ own key c p v) (g : Gh.le c.G c'.G) (e1 : c'.ρ = c.ρ) (e2 : c'.cp = c.cp) : MR1 σ own key c' p v := by
  cases p with
  | «at» p => exact MRA.mono h g e1 e2
  | agg ps => obtain ⟨cs, h1, h2, h3⟩ := h; exact ⟨cs, h1, h2, fun i p hp => (h3 i p hp).mono g e1 e2⟩
theorem val_ret1 {α : Type} {own : Option Nat} {key : Nat} {es : List Nat} {y : V1} {k : R1 → List (Nat × Nat × Option AObj) → RM α} {r : α} (h : (ret1 own key es y k).val σ = some r) :
    ∃ p us, (k p us).val σ = some r ∧ ∀ σ1, Frz σ σ1 → Frz σ (σ1.lays us) ∧ ∀ w0 S0 G0 c a w, Rel w0 S0 G0 σ1 c a w → ∃ c', Rel w0 S0 G0 (σ1.lays us) c' a w ∧ Gh.le c.G c'.G ∧ c'.ρ = c.ρ ∧ c'.cp = c.cp ∧ ∀ v, RepV1 σ1.ob c y v → MR1 σ own key c' p v := by
  cases y with
  | «at» x =>
    simp only [ret1] at h
    obtain ⟨p, us, h1, H⟩ := val_retAt h
    exact ⟨.at p, us, h1, H⟩
  | agg l =>
    simp only [ret1] at h
    obtain ⟨ps, us, h1, hl, H⟩ := val_retAts h
    refine ⟨.agg ps, us, h1, fun σ1 hf => ?_⟩
    obtain ⟨f1, R1⟩ := H σ1 hf
    refine ⟨f1, fun w0 S0 G0 c a w hR => ?_⟩
    obtain ⟨c1, hR1, g1, e1, e2, v1⟩ := R1 w0 S0 G0 c a w hR
    refine ⟨c1, hR1, g1, e1, e2, fun v hv => ?_⟩
    obtain ⟨cs, e, hs, hr⟩ := hv
    refine ⟨cs, e, by rw [hs, hl], fun i p hp => ?_⟩
    have hi := (List.getElem?_eq_some_iff.1 hp).1
    obtain ⟨x, hx⟩ : ∃ x, l[i]? = some x := ⟨l[i]'(by omega), List.getElem?_eq_getElem (by omega)⟩
    obtain ⟨p', hp', hrep⟩ := v1 i x _ hx (hr i x hx)
    rw [hp] at hp'
    cases hp'
    exact hrep
def resRun {α : Type} (E : Env) (own : Option Nat) (key : Nat) : List ResultVar → List (List Nat) → (List R1 → List (Nat × Nat × Option AObj) → RM α) → RM α
  | [], _, k => k [] []
  | r :: l, ess, k => (resVal E r).bind fun y => ret1 own key (ess.headD []) y fun p us => resRun E own key l ess.tail fun ps us' => k (p :: ps) (us ++ us')
theorem val_resRun {α : Type} {E : Env} (hE : EnvOk P E) {own : Option Nat} {key : Nat} {r : α} : ∀ {l : List ResultVar} {ess : List (List Nat)} {k : List R1 → List (Nat × Nat × Option AObj) → RM α}, (resRun E own key l ess k).val σ = some r →
    ∃ ps us, (k ps us).val σ = some r ∧ ps.length = l.length ∧ ∀ σ1, Frz σ σ1 → Frz σ (σ1.lays us) ∧ ∀ w0 S0 G0 c a w c0, Rel w0 S0 G0 σ c0 a w → Rel w0 S0 G0 σ1 c a w → Gh.le c0.G c.G → c.ρ = c0.ρ → c.cp = c0.cp → ∃ c', Rel w0 S0 G0 (σ1.lays us) c' a w ∧ Gh.le c.G c'.G ∧ c'.ρ = c.ρ ∧ c'.cp = c.cp ∧
      ∀ (i : Nat) (x : ResultVar), l[i]? = some x → ∃ (p : R1) (v : Value), ps[i]? = some p ∧ (readRes a.tmps x).run P w = .ok v w ∧ MR1 σ own key c' p v
  | [], es, k, h => ⟨[], [], h, rfl, fun σ1 hf => ⟨hf, fun w0 S0 G0 c a w c0 _ hR _ _ _ => ⟨c, hR, Gh.le_refl _, rfl, rfl, fun i x hx => by simp at hx⟩⟩⟩
  | x :: l, es, k, h => by
    simp only [resRun] at h
    rw [RM.val_bind] at h
    obtain ⟨y, hy, h⟩ := Option.bind_eq_some_iff.1 h
    obtain ⟨p, us, h1, H1⟩ := val_ret1 h
    obtain ⟨ps, us', h2, hl, H2⟩ := val_resRun hE h1
    refine ⟨p :: ps, us ++ us', h2, by simp [hl], fun σ1 hf => ?_⟩
    obtain ⟨f1, R1⟩ := H1 σ1 hf
    obtain ⟨f2, R2⟩ := H2 _ f1
    rw [lays_append]
    refine ⟨f2, fun w0 S0 G0 c a w c0 hR0 hR g0 d1 d2 => ?_⟩
    obtain ⟨v, hv1, hv2⟩ := res_val hE hy hR0
    obtain ⟨c1, hR1, g1, e1, e2, v1⟩ := R1 w0 S0 G0 c a w hR
    obtain ⟨c2, hR2, g2, e3, e4, v2⟩ := R2 w0 S0 G0 c1 a w c0 hR0 hR1 (Gh.le_trans g0 g1) (e1.trans d1) (e2.trans d2)
    refine ⟨c2, hR2, Gh.le_trans g1 g2, e3.trans e1, e4.trans e2, fun i z hz => ?_⟩
    cases i with
    | zero =>
      simp at hz
      subst hz
      exact ⟨p, v, rfl, hv1, (v1 v (RepV1.keep g0 (Frz.keeps (Frz.refl σ) hf d1 d2) hv2)).mono g2 e3 e4⟩
    | succ i =>
      simp only [List.getElem?_cons_succ] at hz ⊢
      exact v2 i z hz
def resRT : List R1 → RT
  | [p] => .one p
  | ps => .tup ps
def resFin (E : Env) (own : Option Nat) (key : Nat) (rs : List ResultVar) (ess : List (List Nat)) : RM (RT × List (Nat × Nat × Option AObj)) :=
  resRun E own key rs ess fun ps us => if us.all (fun u => some u.1 != own) = true then .ret (resRT ps, us) else .fail
theorem run_results {fn : Func} {rs : List ResultVar} (hrs : fn.results = rs.toArray) (hl : rs.length ≤ 4) (tmps : Array Value) (f : Nat → Value) (h : ∀ i r, rs[i]? = some r → (readRes tmps r).run P w = .ok (f i) w) :
    (results fn tmps).run P w = .ok (if rs.length = 1 then f 0 else .tuple ((List.range rs.length).map f).toArray) w := by
  have e : results fn tmps = (do
      let vs ← fn.results.mapM (readRes tmps)
      pure (if h : vs.size = 1 then vs[0] else .tuple vs)) := by
    unfold results
    congr 1
  rw [e, hrs]
  rcases rs with _ | ⟨r1, _ | ⟨r2, _ | ⟨r3, _ | ⟨r4, _ | ⟨r5, rs⟩⟩⟩⟩⟩
  · simp
  · simp [h 0 r1 rfl]
  · simp [h 0 r1 rfl, h 1 r2 rfl, List.range_succ]
  · simp [h 0 r1 rfl, h 1 r2 rfl, h 2 r3 rfl, List.range_succ]
  · simp [h 0 r1 rfl, h 1 r2 rfl, h 2 r3 rfl, h 3 r4 rfl, List.range_succ]
  · simp at hl
theorem entry_rel {w : World} {G : Gh} {vs : Array Value} {args : List PA} {n : Nat} (himm : ∀ b o v, G b o = some v → w.cell? ⟨b, o, none⟩ = some v) (hsz : vs.size = args.length) (hargs : ∀ i x, args[i]? = some x → RepPA G x (vs.getD i undef)) :
    Rel w (fun _ => False) G (entry args n) ⟨fun _ => none, fun _ => 0, G⟩ { tmps := vs ++ Array.replicate (n - vs.size) undef, defers := [] } w where
  le := Gh.le_refl _
  imm := himm
  sz := by simp [entry, hsz]
  slots t := by
    by_cases ht : t < args.length
    · have h1 : (entry args n).slot t = paAV args[t] := by
        unfold entry St.slot
        rw [List.getD_eq_getElem?_getD, List.getElem?_append_left (by simpa using ht), List.getElem?_map, List.getElem?_eq_getElem ht]
        rfl
      rw [h1]
      have h2 := hargs t _ (List.getElem?_eq_getElem ht)
      have h3 : (vs ++ Array.replicate (n - vs.size) undef).getD t undef = vs.getD t undef := by
        rw [Array.getD_eq_getD_getElem?, Array.getD_eq_getD_getElem?, Array.getElem?_append_left (by omega)]
      show RepAV _ _ _ ((vs ++ Array.replicate (n - vs.size) undef).getD t undef)
      rw [h3]
      cases hp : args[t] with
      | «at» p => rw [hp] at h2; exact h2
      | agg ps =>
        rw [hp] at h2
        obtain ⟨cs, e, hl, hr⟩ := h2
        refine ⟨cs, e, by simp [hl], fun i x hx => ?_⟩
        obtain ⟨y, hy, rfl⟩ := map_get hx
        exact hr i y hy
    · have h1 : (entry args n).slot t = .any := by
        unfold entry St.slot
        rw [List.getD_eq_getElem?_getD, List.getElem?_append_right (by simp; omega), List.getElem?_replicate]
        split <;> rfl
      rw [h1]
      trivial
  df := rfl
  obs k g o h := by simp [entry, St.ob, look] at h
  sep k k' g g' o o' b h := by simp [entry, St.ob, look] at h
  new k g o b h := by simp [entry, St.ob, look] at h
  fr := Fr.refl _ _
  fresh b o h := absurd rfl h
theorem spec_of {E : Env} (hE : EnvOk P E) {f : FuncId} {fn : Func} {code : Code} (hf : P.funcs[f]? = some fn) (hb : fn.body = some code) {rs : List ResultVar} (hrs : fn.results = rs.toArray) (hl : rs.length ≤ 4)
    {args : List PA} {e : Exit} (hrun : ARun P E code (entry args fn.ntmps) e σ') (he : e = .normal ∨ e = .ret) (own : Option Nat) (key : Nat) (ess : List (List Nat)) {rt : RT} {us : List (Nat × Nat × Option AObj)}
    (hres : (resFin E own key rs ess).val σ' = some (rt, us)) : Spec P f args rt := by
  intro w G vs himm hsz hargs
  have hentry := entry_rel (n := fn.ntmps) himm hsz hargs
  refine calls_of_wp hf hb (Code.wp_mono ?_ ((hrun.snd hE).1 _ _ _ hentry))
  rintro e' a' w' ⟨rfl, c', hR⟩
  obtain ⟨ps, us1, h1, hlen, H⟩ := val_resRun hE hres
  split at h1
  case isFalse => simp [RM.val] at h1
  case isTrue hall =>
    simp only [RM.val, Option.some.injEq, Prod.mk.injEq] at h1
    obtain ⟨rfl, rfl⟩ := h1
    obtain ⟨hF, HR⟩ := H σ' (Frz.refl σ')
    obtain ⟨c2, hR2, g2, e1, e2, hv⟩ := HR w _ G c' a' w' c' hR hR (Gh.le_refl _) rfl rfl
    have dec : ∀ i : Nat, Decidable (∃ (v : Value) (p : R1) (r : ResultVar), rs[i]? = some r ∧ ps[i]? = some p ∧ (readRes a'.tmps r).run P w' = .ok v w' ∧ MR1 σ' own key c2 p v) := fun i => Classical.propDecidable _
    let val : Nat → Value := fun i => if h : ∃ (v : Value) (p : R1) (r : ResultVar), rs[i]? = some r ∧ ps[i]? = some p ∧ (readRes a'.tmps r).run P w' = .ok v w' ∧ MR1 σ' own key c2 p v then Classical.choose h else undef
    have hval : ∀ (i : Nat) (r : ResultVar), rs[i]? = some r → ∃ p, ps[i]? = some p ∧ (readRes a'.tmps r).run P w' = .ok (val i) w' ∧ MR1 σ' own key c2 p (val i) := fun i r hr => by
      obtain ⟨p, v, q1, q2, q3⟩ := hv i r hr
      have hex : ∃ (v : Value) (p : R1) (r : ResultVar), rs[i]? = some r ∧ ps[i]? = some p ∧ (readRes a'.tmps r).run P w' = .ok v w' ∧ MR1 σ' own key c2 p v := ⟨v, p, r, hr, q1, q2, q3⟩
      have : val i = Classical.choose hex := dif_pos hex
      obtain ⟨p', r', z1, z2, z3, z4⟩ := Classical.choose_spec hex
      rw [this]
      rw [hr] at z1
      cases z1
      exact ⟨p', z2, z3, z4⟩
    have hrr := run_results (P := P) hrs hl a'.tmps val fun i r hr => let ⟨_, _, q, _⟩ := hval i r hr; q
    let c3 : Con := ⟨fun _ => own.bind c2.ρ, fun _ => (own.map c2.cp).getD 0, c2.G⟩
    have hkeep : ∀ q g o, own = some q → σ'.ob q = (g, some o) → (σ'.lays us1).ob q = (g, some o) := fun q g o hq ho => by
      rcases ob_lays us1 σ' q with ⟨u, u1, u2, u3⟩ | ⟨_, h2⟩
      · have := List.all_eq_true.1 hall u u1
        rw [hq, u2] at this
        simp at this
      · rw [h2, ho]
    have rowOf : ∀ k e xs v, MRA σ' own key c2 (.row k e xs) v → k = key ∧ v = rowVal (c3.ρ k) xs.length (c3.cp k) ∧ ObOk obs0 c3 w' k (.row true e xs) ∧ (∀ b, c3.ρ k = some b → w.heap.size ≤ b) ∧ ∃ q g, own = some q ∧ σ'.ob q = (g, some (.row true e xs)) := by
      rintro k e xs v ⟨q1, q, g, q2, q3, q4⟩
      have h3 := hkeep q g _ q2 q3
      have hρ : c3.ρ k = c2.ρ q := by simp [c3, q2]
      have hcp : c3.cp k = c2.cp q := by simp [c3, q2]
      refine ⟨q1, by rw [hρ, hcp]; exact q4, ?_, fun b hb => ?_, q, g, q2, q3⟩
      · rcases hR2.obs q g _ h3 with ⟨r1, r2, r3⟩ | ⟨b, cs, ty, r1, r2, r3, r4, r5, r6, r7⟩
        · exact .inl ⟨by rw [hρ, r1], r2, by rw [hcp, r3]⟩
        · exact .inr ⟨b, cs, ty, by rw [hρ, r1], r2, by rw [hcp]; exact r3, by rw [hcp]; exact r4, r5, r6, r7⟩
      · rw [hρ] at hb
        rcases hR2.new q g _ b h3 rfl hb with h | h
        · exact h
        · exact h.elim
    have repA : ∀ p v, MRA σ' own key c2 p v → RepRA c3 p v := fun p v h => by
      cases p with
      | pv p => exact h
      | row k e xs => exact (rowOf k e xs v h).2.1
    have rep1 : ∀ p v, MR1 σ' own key c2 p v → RepR1 c3 p v := fun p v h => by
      cases p with
      | «at» p => exact repA p v h
      | agg l => obtain ⟨cs, q1, q2, q3⟩ := h; exact ⟨cs, q1, q2, fun i x hx => repA x _ (q3 i x hx)⟩
    have atom : ∀ x ∈ (resRT ps).atoms, ∃ v, MRA σ' own key c2 x v := by
      have one : ∀ p ∈ ps, ∀ x ∈ p.atoms, ∃ v, MRA σ' own key c2 x v := fun p hp x hx => by
        obtain ⟨i, hi, hpi⟩ := List.getElem_of_mem hp
        have hr : rs[i]? = some (rs[i]'(by omega)) := List.getElem?_eq_getElem (by omega)
        obtain ⟨p', q1, _, q3⟩ := hval i _ hr
        rw [List.getElem?_eq_getElem hi, hpi] at q1
        cases q1
        cases p with
        | «at» y => simp [R1.atoms] at hx; subst hx; exact ⟨_, q3⟩
        | agg l =>
          obtain ⟨cs, _, _, q4⟩ := q3
          obtain ⟨j, hj, rfl⟩ := List.getElem_of_mem (show x ∈ l from hx)
          exact ⟨_, q4 j _ (List.getElem?_eq_getElem hj)⟩
      have split1 : ∀ x ∈ (resRT ps).atoms, ∃ p ∈ ps, x ∈ p.atoms := by
        unfold resRT
        split
        · intro x hx; exact ⟨_, .head _, hx⟩
        · intro x hx; exact List.mem_flatMap.1 hx
      intro x hx
      obtain ⟨p, hp, hxp⟩ := split1 x hx
      exact one p hp x hxp
    have ends : Ends w G (resRT ps) (if rs.length = 1 then val 0 else .tuple ((List.range rs.length).map val).toArray) c3 w' := by
      refine ⟨hR2.le, hR2.imm, fun b o h => ?_, hR2.fr.below, ?_, fun k e xs hm => ?_, fun k e xs e' xs' h1 h2 => ?_, fun k e xs k' e' xs' b h1 h2 _ _ => ?_⟩
      · rcases hR2.fresh b o h with h | h
        · exact h
        · exact h.elim
      · have tupc : rs.length ≠ 1 → RepRT c3 (.tup ps) (.tuple ((List.range rs.length).map val).toArray) := fun hne => by
          refine ⟨_, rfl, by simp [hlen], fun i p hp => ?_⟩
          have hi := (List.getElem?_eq_some_iff.1 hp).1
          have hr : rs[i]? = some (rs[i]'(by omega)) := List.getElem?_eq_getElem (by omega)
          obtain ⟨p', q1, _, q3⟩ := hval i _ hr
          rw [hp] at q1
          cases q1
          have : (((List.range rs.length).map val).toArray).getD i undef = val i := by
            rw [Array.getD_eq_getD_getElem?]
            simp [show i < rs.length by omega]
          rw [this]
          exact rep1 p _ q3
        unfold resRT
        split
        · rename_i p
          have h1 : rs.length = 1 := by rw [← hlen]; rfl
          rw [if_pos h1]
          have hr : rs[0]? = some (rs[0]'(by omega)) := List.getElem?_eq_getElem (by omega)
          obtain ⟨p', q1, _, q3⟩ := hval 0 _ hr
          cases q1
          exact rep1 p _ q3
        · rename_i hne
          have h1 : rs.length ≠ 1 := fun h => by
            rw [← hlen] at h
            match ps, h with
            | [p], _ => exact hne p rfl
          rw [if_neg h1]
          exact tupc h1
      · obtain ⟨v, hv⟩ := atom _ hm
        obtain ⟨_, _, q3, q4, _⟩ := rowOf k e xs v hv
        exact ⟨q3, q4⟩
      · obtain ⟨v, hv⟩ := atom _ h1
        obtain ⟨v', hv'⟩ := atom _ h2
        obtain ⟨_, _, _, _, q, g, z1, z2⟩ := rowOf k e xs v hv
        obtain ⟨_, _, _, _, q', g', z1', z2'⟩ := rowOf k e' xs' v' hv'
        rw [z1] at z1'
        cases z1'
        rw [z2] at z2'
        cases z2'
        exact ⟨rfl, rfl⟩
      · obtain ⟨v, hv⟩ := atom _ h1
        obtain ⟨v', hv'⟩ := atom _ h2
        rw [(rowOf k e xs v hv).1, (rowOf k' e' xs' v' hv').1]
    have fin : a'.defers = [] ∧ ∃ v, (results fn a'.tmps).run P w' = .ok v w' ∧ ∃ v' c, Ending.returned v = .returned v' ∧ Ends w G (resRT ps) v' c w' := ⟨hR.df, _, hrr, _, c3, rfl, ends⟩
    rcases he with rfl | rfl
    · exact fin
    · exact fin
end Go.Eng
/- ViewMore, part 17: EWeak. -/
namespace Go.Eng
open Go.RowKit
set_option linter.unusedVariables false
set_option linter.unusedSimpArgs false
variable {c c' : Con} {w w' w0 : World} {S0 : Nat → Prop} {G0 G : Gh} {σ σ' σ1 : St} {a a' : Act} {P : Program}
def young (σ : St) (qs : List Nat) (k g : Nat) : Bool := qs.contains k && (σ.ob k).1 == g
def renAt (σ : St) (qs : List Nat) : At → At
  | .pv p => .pv p
  | .nil => .nil
  | .any => .any
  | .row k g => if young σ qs k g = true then .row k 0 else .any
  | .ptr k g o => if young σ qs k g = true then .ptr k 0 o else .any
  | .eptr k g j o => if young σ qs k g = true then .eptr k 0 j o else .any
def renV1 (σ : St) (qs : List Nat) : V1 → V1
  | .at x => .at (renAt σ qs x)
  | .agg l => .agg (l.map (renAt σ qs))
def renAV (σ : St) (qs : List Nat) : AV → AV
  | .one x => .one (renV1 σ qs x)
  | .tup l => .tup (l.map (renV1 σ qs))
def renO (σ : St) (qs : List Nat) : AObj → AObj
  | .blk cells => .blk (cells.map (renAt σ qs))
  | .fro cells => .fro cells
  | .row own e xs => .row own e xs
  | .view e xs => .view e xs
def keepSlots (σ : St) (qs ks : List Nat) : Nat → List AV → List AV
  | _, [] => []
  | t, v :: l => (if ks.contains t = true then renAV σ qs v else .any) :: keepSlots σ qs ks (t + 1) l
theorem keepSlots_len (σ : St) (qs ks : List Nat) : ∀ (l : List AV) (t : Nat), (keepSlots σ qs ks t l).length = l.length
  | [], _ => rfl
  | v :: l, t => by simp [keepSlots, keepSlots_len σ qs ks l]
theorem keepSlots_get (σ : St) (qs ks : List Nat) : ∀ (l : List AV) (t i : Nat), (keepSlots σ qs ks t l).getD i .any = .any ∨ ∃ v, l[i]? = some v ∧ (keepSlots σ qs ks t l).getD i .any = renAV σ qs v
  | [], _, _ => .inl rfl
  | v :: l, t, 0 => by
    simp only [keepSlots, List.getD_cons_zero]
    split
    · exact .inr ⟨v, rfl, rfl⟩
    · exact .inl rfl
  | v :: l, t, i + 1 => by
    simp only [keepSlots, List.getD_cons_succ, List.getElem?_cons_succ]
    exact keepSlots_get σ qs ks l (t + 1) i
def St.norm (σ : St) (ks qs : List Nat) : St := { slots := keepSlots σ qs ks 0 σ.slots, obs := qs.map fun q => (q, 0, (σ.ob q).2.map (renO σ qs)) }
theorem look_map (f : Nat → Nat × Option AObj) (k : Nat) : ∀ qs : List Nat, look (qs.map fun q => (q, f q)) k = if qs.contains k = true then f k else (0, none)
  | [] => rfl
  | q :: qs => by
    simp only [List.map_cons, look, look_map f k qs, List.contains_cons]
    by_cases e : q = k
    · subst e; simp
    · rw [if_neg e]
      have : (k == q) = false := by simpa using fun h => e h.symm
      simp [this]
theorem ob_norm (σ : St) (ks qs : List Nat) (k : Nat) : (σ.norm ks qs).ob k = if qs.contains k = true then (0, (σ.ob k).2.map (renO σ qs)) else (0, none) := look_map (fun q => (0, (σ.ob q).2.map (renO σ qs))) k qs
theorem renO_shape (o : Option AObj) (qs : List Nat) : rowLen (o.map (renO σ qs)) = rowLen o ∧ rowE (o.map (renO σ qs)) = rowE o ∧ isVar (o.map (renO σ qs)) = isVar o := by
  cases o with
  | none => exact ⟨rfl, rfl, rfl⟩
  | some o => cases o <;> exact ⟨rfl, rfl, rfl⟩
theorem alive_norm {ks qs : List Nat} {k g : Nat} (h : young σ qs k g = true) : alive (σ.norm ks qs).ob k 0 = (alive σ.ob k g).map (renO σ qs) := by
  unfold young at h
  rw [Bool.and_eq_true] at h
  unfold alive
  rw [ob_norm, if_pos h.1]
  have : (σ.ob k).1 = g := by simpa using h.2
  rw [if_pos rfl, if_pos this]
theorem RepAt.norm {ks qs : List Nat} {x : At} {v : Value} (h : RepAt σ.ob c x v) : RepAt (σ.norm ks qs).ob c (renAt σ qs x) v := by
  cases x with
  | pv p => exact h
  | nil => exact h
  | any => trivial
  | row k g =>
    simp only [renAt]
    split
    · rename_i hy
      refine ⟨Nat.zero_le _, fun n hn => h.2 n ?_⟩
      rw [alive_norm hy, (renO_shape _ qs).1] at hn
      exact hn
    · trivial
  | ptr k g o =>
    simp only [renAt]
    split
    · rename_i hy
      refine ⟨Nat.zero_le _, fun hv => h.2 ?_⟩
      rw [alive_norm hy, (renO_shape _ qs).2.2] at hv
      exact hv
    · trivial
  | eptr k g j o =>
    simp only [renAt]
    split
    · rename_i hy
      refine ⟨Nat.zero_le _, fun n hn => h.2 n ?_⟩
      rw [alive_norm hy, (renO_shape _ qs).2.1] at hn
      exact hn
    · trivial
theorem RepV1.norm {ks qs : List Nat} {x : V1} {v : Value} (h : RepV1 σ.ob c x v) : RepV1 (σ.norm ks qs).ob c (renV1 σ qs x) v := by
  cases x with
  | «at» x => exact RepAt.norm h
  | agg l =>
    obtain ⟨cs, e, hl, hr⟩ := h
    refine ⟨cs, e, by simp [hl], fun i y hy => ?_⟩
    obtain ⟨z, hz, rfl⟩ := map_get hy
    exact (hr i z hz).norm
theorem RepAV.norm {ks qs : List Nat} {x : AV} {v : Value} (h : RepAV σ.ob c x v) : RepAV (σ.norm ks qs).ob c (renAV σ qs x) v := by
  cases x with
  | one x => exact RepV1.norm h
  | tup l =>
    obtain ⟨cs, e, hl, hr⟩ := h
    refine ⟨cs, e, by simp [hl], fun i y hy => ?_⟩
    obtain ⟨z, hz, rfl⟩ := map_get hy
    exact (hr i z hz).norm
theorem weak_norm (σ : St) (ks qs : List Nat) : Weak σ (σ.norm ks qs) := by
  intro w0 S0 G0 c a w h
  have obs : ∀ k g o, (σ.norm ks qs).ob k = (g, some o) → ∃ g' o', σ.ob k = (g', some o') ∧ o = renO σ qs o' ∧ owned o' = owned o := fun k g o ho => by
    rw [ob_norm] at ho
    split at ho
    · cases hq : (σ.ob k).2 with
      | none => rw [hq] at ho; cases ho
      | some o' =>
        rw [hq] at ho
        simp only [Option.map_some, Prod.mk.injEq, Option.some.injEq] at ho
        obtain ⟨rfl, rfl⟩ := ho
        exact ⟨(σ.ob k).1, o', by rw [← hq], rfl, by cases o' <;> rfl⟩
    · cases ho
  refine ⟨c, ⟨h.le, h.imm, by rw [show (σ.norm ks qs).slots = keepSlots σ qs ks 0 σ.slots from rfl, keepSlots_len]; exact h.sz, fun t => ?_, h.df, fun k g o ho => ?_, fun k k' g g' o o' b h1 h2 h3 h4 h5 h6 => ?_, fun k g o b h1 h2 h3 => ?_, h.fr, h.fresh⟩⟩
  · rcases keepSlots_get σ qs ks σ.slots 0 t with e | ⟨v, hv, e⟩
    · rw [show (σ.norm ks qs).slot t = .any from e]; trivial
    · rw [show (σ.norm ks qs).slot t = renAV σ qs v from e]
      have := h.slots t
      rw [show σ.slot t = v by unfold St.slot; rw [List.getD_eq_getElem?_getD, hv]; rfl] at this
      exact this.norm
  · obtain ⟨g', o', h1, rfl, _⟩ := obs k g o ho
    have := h.obs k g' o' h1
    cases o' with
    | blk cells =>
      obtain ⟨b, cs, ty, hb, hh, hl, hr, hg⟩ := this
      refine ⟨b, cs, ty, hb, hh, by simp [hl], fun i x hx => ?_, hg⟩
      obtain ⟨y, hy, rfl⟩ := map_get hx
      exact (hr i y hy).norm
    | fro cells => exact this
    | row own e xs => exact this
    | view e xs => exact this
  · obtain ⟨g1, o1, q1, _, q2⟩ := obs k g o h1
    obtain ⟨g2, o2, q3, _, q4⟩ := obs k' g' o' h2
    exact h.sep k k' g1 g2 o1 o2 b q1 q3 (q2.trans h3) (q4.trans h4) h5 h6
  · obtain ⟨g1, o1, q1, _, q2⟩ := obs k g o h1
    exact h.new k g1 o1 b q1 (q2.trans h2) h3
theorem ARun.from_norm {E : Env} {x : Code} {e : Exit} {σ2 : St} (ks qs : List Nat) (h : σ.norm ks qs = σ1) (hr : ARun P E x σ1 e σ2) : ARun P E x σ e σ2 := .weak (h ▸ weak_norm σ ks qs) hr
theorem ARun.to_norm {E : Env} {x : Code} {e : Exit} {σ2 : St} (ks qs : List Nat) (hr : ARun P E x σ e σ1) (h : σ1.norm ks qs = σ2) : ARun P E x σ e σ2 := .post hr (h ▸ weak_norm σ1 ks qs)
end Go.Eng
/- ViewMore, part 18: EEnv. -/
namespace Go.Eng
open Go.RowKit
set_option linter.unusedVariables false
set_option linter.unusedSimpArgs false
def esOf (P : Program) : Nat → Nat → List Nat
  | 0, _ => []
  | n + 1, t => match P.underlying t with
    | some (.slice e) => [P.cellsOf e]
    | some (.struct F) => F.toList.flatMap fun f => esOf P n f.type
    | _ => List.replicate (P.cellsOf t) 0
def tyOf (P : Program) (t : Nat) : Option Ty :=
  match P.info? t, P.underlying t with
  | some i, some d => match i.zero with
    | some z => if z.cells.size = i.size ∧ z.cells.all (·.oneCell') = true then some {
        agg := d.isRow, size := i.size, bytes := i.bytes
        elem := match d with | .slice e => e | _ => 0
        fields := match d with | .struct F => F.toList.map fun f => (f.offset, f.type) | _ => []
        zero := z.cells.toList.map constAt
        es := esOf P 6 t
        str := match d with | .string => true | _ => false
        bool := match d with | .bool => true | _ => false
        int := match d with | .int k => some k | _ => none } else none
    | none => none
  | _, _ => none
theorem tyOf_ok {P : Program} (t : Nat) (ty : Ty) (h : tyOf P t = some ty) : TyOk P t ty := by
  unfold tyOf at h
  split at h
  case h_2 => cases h
  case h_1 i d hi hd =>
    split at h
    case h_2 => cases h
    case h_1 z hz =>
      split at h
      case isFalse => cases h
      case isTrue hc =>
        simp only [Option.some.injEq] at h
        subst h
        refine ⟨⟨i, z, hi, rfl, rfl, hz, rfl, hc.1, hc.2⟩, ⟨d, hd, rfl⟩, fun he => ?_, fun hs => ?_, fun hs => ?_, fun k hk => ?_, fun hf => ?_⟩
        · rw [hd]
          cases d <;> first | rfl | (exact absurd rfl he)
        · rw [hd]
          cases d <;> first | rfl | (simp at hs)
        · rw [hd]
          cases d <;> first | rfl | (simp at hs)
        · rw [hd]
          cases d <;> first | (simp at hk; done) | (simp at hk; subst hk; rfl)
        · cases d <;> first | (exact absurd rfl hf) | skip
          rename_i F
          refine ⟨F, hd, fun i q hq => ?_⟩
          obtain ⟨f, hf1, hf2⟩ := map_get hq
          rw [Array.getElem?_toList] at hf1
          exact ⟨f, hf1, by rw [← hf2], by rw [← hf2]⟩
def fnOf (P : Program) (f : FuncId) : Bool := match P.funcs[f]? with
  | some fn => !(fn.name == "runtime.NumGoroutine") && !fn.body.isNone
  | none => false
theorem fnOf_ok {P : Program} (f : FuncId) (h : fnOf P f = true) : FnOk P f := by
  unfold fnOf at h
  split at h
  case h_2 => cases h
  case h_1 fn hfn =>
    rw [Bool.and_eq_true] at h
    exact ⟨fn, hfn, by simpa using h.1, by simpa using h.2⟩
def envOf (P : Program) : Env := ⟨tyOf P, fnOf P⟩
theorem envOf_ok {P : Program} (h : P.follows .mixedOrders = true) : EnvOk P (envOf P) := ⟨tyOf_ok, fnOf_ok, h⟩
end Go.Eng
/- ViewMore, part 19: EEval. -/
namespace Go.Eng
open Go.RowKit
set_option linter.unusedVariables false
set_option linter.unusedSimpArgs false
variable {σ σ' σ1 : St} {P : Program} {E : Env}
def getS : List AV → Nat → AV
  | [], _ => .any
  | v :: _, 0 => v
  | _ :: l, n + 1 => getS l n
def setS : List AV → Nat → AV → List AV
  | [], _, _ => []
  | _ :: l, 0, v => v :: l
  | a :: l, n + 1, v => a :: setS l n v
theorem getS_eq : ∀ (l : List AV) (t : Nat), l.getD t .any = getS l t
  | [], _ => rfl
  | v :: l, 0 => rfl
  | v :: l, n + 1 => by rw [List.getD_cons_succ, getS, getS_eq l n]
theorem setS_eq : ∀ (l : List AV) (t : Nat) (v : AV), l.set t v = setS l t v
  | [], _, _ => rfl
  | a :: l, 0, v => rfl
  | a :: l, n + 1, v => by rw [List.set_cons_succ, setS, setS_eq l n v]
theorem slot_mk (l : List AV) (o : List (Nat × Nat × Option AObj)) (t : Nat) : St.slot ⟨l, o⟩ t = getS l t := getS_eq l t
theorem app_some (l : List AV) (o : List (Nat × Nat × Option AObj)) (d : Nat) (v : AV) (us : List (Nat × Nat × Option AObj)) : St.app ⟨l, o⟩ (some d) ⟨v, us⟩ = ⟨setS l d v, us.foldl (fun l u => lay l u.1 u.2) o⟩ := by
  unfold St.app St.lays St.put
  dsimp only
  rw [setS_eq]
theorem app_none (l : List AV) (o : List (Nat × Nat × Option AObj)) (v : AV) (us : List (Nat × Nat × Option AObj)) : St.app ⟨l, o⟩ none ⟨v, us⟩ = ⟨l, us.foldl (fun l u => lay l u.1 u.2) o⟩ := rfl
theorem ob_mk (l : List AV) (o : List (Nat × Nat × Option AObj)) (k : Nat) : St.ob ⟨l, o⟩ k = look o k := rfl
attribute [simp] absCall argPAs argPA rtRM r1sRM r1RM rasRM raRM atPV absConv absIndex absSlice opndInt optInt absBuildSlice partsRM atPVs absAppend srcRM absMin absExtract absEqB appLim absG absOp pureE RM.map RM.val absMove absPick absUn opnd constV constAt AV.any absBinO absBin absLoad absStore absAlloc absBox absLen absFieldAddr absIndexAddr gone look lay v1cells sureAll sureAt retLoad rowLen rowE isVar envOf absO outOf getS setS slot_mk app_some app_none ob_mk entry paAV keepSlots renAV renV1 renAt renO young St.norm
theorem w64 (n : Int) (h0 : -4611686018427387904 ≤ n) (h1 : n < 4611686018427387904) : IntKind.i64.wrap n = n := by simp [IntKind.wrap, IntKind.bits, IntKind.signed]; omega
@[simp] theorem nat_neg (i : Nat) : ((i : Int) < 0) = False := by simp
end Go.Eng
/- ViewMore, part 20: ERow. -/
namespace Go.Eng
open Go.RowKit Go.ChangeShapes Go.WideShapes
set_option linter.unusedVariables false
set_option linter.unusedSimpArgs false
variable {P : Program}
def allOf (w : World) : Gh := fun b o => w.cell? ⟨b, o, none⟩
theorem cell_spot {w : World} {a : Addr} {v : Value} (h : w.cell? a = some v) : a = ⟨a.block, a.off, none⟩ := by
  cases a with
  | mk b o s =>
    cases s with
    | none => rfl
    | some s =>
      unfold World.cell? at h
      split at h <;> simp at h
theorem add_mk (b o i : Nat) : (⟨b, o, none⟩ : Addr).add i = ⟨b, o + i, none⟩ := by
  unfold Addr.add
  split
  · rename_i h; subst h; rfl
  · rfl
theorem Spec.law {f : FuncId} {args : List PA} {vs : Array Value} {w : World} (h : Spec P f args (.one (.at (.pv (.bool true))))) (hs : vs.size = args.length) (ha : ∀ i x, args[i]? = some x → RepPA (allOf w) x (vs.getD i undef)) :
    Calls P f vs w fun e w' => e = .returned (.bool true) ∧ Below w.heap.size w w' :=
  (h w (allOf w) vs (fun _ _ _ h => h) hs ha).mono fun e w' ⟨v, c, he, hE⟩ => ⟨by rw [he, rep_bool hE.rep], hE.below⟩
end Go.Eng
/- ViewMore, part 56: EOps14. -/
namespace Go.Eng
open Go.RowKit
set_option linter.unusedVariables false
set_option linter.unusedSimpArgs false
variable {ob : Obs} {c c' : Con} {w w' w0 : World} {S0 : Nat → Prop} {G0 G : Gh} {σ σ' σ1 : St} {a a' : Act} {P : Program}
structure Foot where
  slots : List Nat
  objs : List Nat
  lays : List Nat
inductive RD (P : Program) (E : Env) (ops : Array Oper) : List Oper → St → St → List Foot → Prop where
  | nil {s} : RD P E ops [] s s []
  | cons {o l s s1 s' e dm fs ts qs ls} (r : Option RT) : (absG E ops r o).val s = some (e, dm) → (∀ d ∈ dm, d.ok P) → s.app o.dst e = s1 → (absG E ops r o).sees s = (ts, qs) → e.upd.map (·.1) = ls → RD P E ops l s1 s' fs → RD P E ops (o :: l) s s' (⟨ts, qs, ls⟩ :: fs)
theorem RD.states {E : Env} {ops : Array Oper} {l : List Oper} {fs : List Foot} (h : RD P E ops l σ σ' fs) : ∃ S : Nat → St, S 0 = σ ∧ S l.length = σ' ∧ ∀ (i : Nat) (o : Oper), l[i]? = some o →
    ∃ r e dm f, fs[i]? = some f ∧ (absG E ops r o).val (S i) = some (e, dm) ∧ (∀ d ∈ dm, d.ok P) ∧ S (i + 1) = (S i).app o.dst e ∧ (absG E ops r o).sees (S i) = (f.slots, f.objs) ∧ e.upd.map (·.1) = f.lays := by
  induction h with
  | @nil s => exact ⟨fun _ => s, rfl, rfl, fun i o h => by simp at h⟩
  | @cons o l s s1 s' e dm fs ts qs ls r h1 h2 h3 h4 h5 h6 ih =>
    obtain ⟨S, e0, en, hS⟩ := ih
    refine ⟨fun i => match i with | 0 => s | i + 1 => S i, rfl, en, fun i o' ho => ?_⟩
    cases i with
    | zero =>
      simp at ho
      subst ho
      exact ⟨r, e, dm, ⟨ts, qs, ls⟩, rfl, h1, h2, e0.trans h3.symm, h4, h5⟩
    | succ i =>
      simp only [List.getElem?_cons_succ] at ho ⊢
      exact hS i o' ho
def edgesOf (ops : Array Oper) (i : Nat) : List Nat := match ops[i]? with
  | none => []
  | some o => (o.after.toList.filter fun e => Region.binds .any e).map (·.on)
def ancs (ops : Array Oper) : List (List Nat) := (List.range ops.size).foldl (fun acc i => acc ++ [((edgesOf ops i).flatMap fun e => e :: acc.getD e []).eraseDups]) []
def wrS (ops : Array Oper) (i t : Nat) : Bool := (ops[i]?).bind (·.dst) == some t
def footOf (fs : List Foot) (i : Nat) : Foot := fs.getD i ⟨[], [], []⟩
def clash (ops : Array Oper) (fs : List Foot) (j i : Nat) : Bool :=
  ((ops[j]?).bind (·.dst)).any (fun d => (footOf fs i).slots.contains d || wrS ops i d) || ((ops[i]?).bind (·.dst)).any (fun d => (footOf fs j).slots.contains d) ||
  (footOf fs j).lays.any (fun q => (footOf fs i).objs.contains q || (footOf fs i).lays.contains q) || (footOf fs i).lays.any (fun q => (footOf fs j).objs.contains q)
def okWith (ops : Array Oper) (fs : List Foot) (A : List (List Nat)) : Bool := (List.range ops.size).all fun i =>
  (edgesOf ops i).all (fun e => decide (e < i)) && (A.getD i []).all (fun x => (edgesOf ops i).any fun e => e == x || (A.getD e []).contains x) && (List.range i).all fun j => !clash ops fs j i || (A.getD i []).contains j
theorem okWith_spec {ops : Array Oper} {fs : List Foot} {A : List (List Nat)} (h : okWith ops fs A = true) {i : Nat} (hi : i < ops.size) :
    (∀ e ∈ edgesOf ops i, e < i) ∧ (∀ x ∈ A.getD i [], ∃ e ∈ edgesOf ops i, e = x ∨ x ∈ A.getD e []) ∧ ∀ j, j < i → clash ops fs j i = true → j ∈ A.getD i [] := by
  have h1 := List.all_eq_true.1 h i (List.mem_range.2 hi)
  rw [Bool.and_eq_true, Bool.and_eq_true] at h1
  obtain ⟨⟨h1, h2⟩, h3⟩ := h1
  refine ⟨fun e he => by simpa using List.all_eq_true.1 h1 e he, fun x hx => ?_, fun j hj hc => ?_⟩
  · obtain ⟨e, he, h4⟩ := List.any_eq_true.1 (List.all_eq_true.1 h2 x hx)
    refine ⟨e, he, ?_⟩
    rw [Bool.or_eq_true] at h4
    rcases h4 with h4 | h4
    · exact .inl (by simpa using h4)
    · exact .inr (by simpa using h4)
  · have h4 := List.all_eq_true.1 h3 j (List.mem_range.2 hj)
    rw [hc] at h4
    simpa using h4
theorem slot_app_ne {d : Option Nat} {e : Eff} {t : Nat} (h : d ≠ some t) : (σ.app d e).slot t = σ.slot t := by
  unfold St.app St.put
  cases d with
  | none => rfl
  | some d =>
    have : d ≠ t := fun q => h (by rw [q])
    unfold St.slot
    dsimp only
    rw [List.getD_eq_getElem?_getD, List.getD_eq_getElem?_getD, List.getElem?_set_ne this]
    rfl
theorem slot_app_eq {e : Eff} {t : Nat} (h : σ.slots.length = σ1.slots.length) : (σ.app (some t) e).slot t = (σ1.app (some t) e).slot t := by
  unfold St.app St.put St.slot
  dsimp only
  rw [List.getD_eq_getElem?_getD, List.getD_eq_getElem?_getD, List.getElem?_set_self', List.getElem?_set_self']
  have : (σ.lays e.upd).slots.length = (σ1.lays e.upd).slots.length := h
  by_cases ht : t < (σ.lays e.upd).slots.length
  · rw [List.getElem?_eq_getElem ht, List.getElem?_eq_getElem (by omega)]
    rfl
  · rw [List.getElem?_eq_none (by omega), List.getElem?_eq_none (by omega)]
theorem ob_app (d : Option Nat) (e : Eff) : (σ.app d e).ob = (σ.lays e.upd).ob := by
  unfold St.app
  rw [St.ob_put]
theorem lays_det : ∀ (us : List (Nat × Nat × Option AObj)) (σ σ1 : St) (q : Nat), σ.ob q = σ1.ob q ∨ q ∈ us.map (·.1) → (σ.lays us).ob q = (σ1.lays us).ob q
  | [], σ, σ1, q, h => by
    rcases h with h | h
    · exact h
    · simp at h
  | u :: us, σ, σ1, q, h => by
    have e1 : ∀ σ : St, σ.lays (u :: us) = (σ.lays [u]).lays us := fun _ => rfl
    rw [e1, e1]
    refine lays_det us _ _ q ?_
    have e2 := ob_lays1 σ u.1 u.2 q
    have e3 := ob_lays1 σ1 u.1 u.2 q
    by_cases hq : u.1 = q
    · left
      rw [show (σ.lays [u]).ob q = _ from e2, show (σ1.lays [u]).ob q = _ from e3, if_pos hq, if_pos hq]
    · rcases h with h | h
      · left
        rw [show (σ.lays [u]).ob q = _ from e2, show (σ1.lays [u]).ob q = _ from e3, if_neg hq, if_neg hq, h]
      · simp only [List.map_cons, List.mem_cons] at h
        rcases h with h | h
        · exact absurd h.symm hq
        · exact .inr h
def Inv {β : Type} (n : Nat) (Gs : Nat → Nat → β) (wr : Nat → Nat → Prop) (f : Nat → Bool) (T : Nat → β) : Prop :=
  ∀ t m, m ≤ n → (∀ j, j < n → f j = true → m ≤ j → ¬ wr j t) → (∀ j, j < m → wr j t → f j = true) → T t = Gs m t
theorem Inv.step {β : Type} {n : Nat} {Gs : Nat → Nat → β} {wr : Nat → Nat → Prop} {f : Nat → Bool} {T T' : Nat → β} (h : Inv n Gs wr f T) {i : Nat} (hi : i < n) (hstay : ∀ j t, j < n → ¬ wr j t → Gs (j + 1) t = Gs j t)
    (hw : ∀ t, wr i t → T' t = Gs (i + 1) t) (hn : ∀ t, ¬ wr i t → T' t = T t) (hord : ∀ j t, i < j → j < n → wr i t → wr j t → f j = true → False) : Inv n Gs wr (fun j => f j || j == i) T' := by
  intro t m hm h1 h2
  by_cases hit : wr i t
  · have him : i < m := by
      rcases Nat.lt_or_ge i m with h | h
      · exact h
      · exact absurd hit (h1 i hi (by simp) h)
    have stay : ∀ d, i + 1 + d ≤ m → Gs (i + 1 + d) t = Gs (i + 1) t := by
      intro d
      induction d with
      | zero => intro _; rfl
      | succ d ih =>
        intro hd
        rw [← ih (by omega)]
        refine hstay (i + 1 + d) t (by omega) fun hwr => ?_
        have := h2 (i + 1 + d) (by omega) hwr
        simp only [Bool.or_eq_true, beq_iff_eq] at this
        rcases this with h | h
        · exact hord _ t (by omega) (by omega) hit hwr h
        · omega
    have := stay (m - (i + 1)) (by omega)
    rw [show i + 1 + (m - (i + 1)) = m by omega] at this
    rw [this]
    exact hw t hit
  · rw [hn t hit]
    refine h t m hm (fun j hj hf hmj => h1 j hj (by simp [hf]) hmj) fun j hj hwr => ?_
    have := h2 j hj hwr
    simp only [Bool.or_eq_true, beq_iff_eq] at this
    rcases this with h | h
    · exact h
    · subst h; exact absurd hwr hit
def cnt (f : Nat → Bool) : Nat → Nat
  | 0 => 0
  | k + 1 => cnt f k + (if f k = true then 0 else 1)
theorem cnt_same {f g : Nat → Bool} : ∀ {k : Nat}, (∀ j, j < k → f j = g j) → cnt f k = cnt g k
  | 0, _ => rfl
  | k + 1, h => by rw [cnt, cnt, cnt_same fun j hj => h j (by omega), h k (by omega)]
theorem cnt_set {f : Nat → Bool} {i : Nat} (hf : f i = false) : ∀ {k : Nat}, i < k → cnt (fun j => f j || j == i) k + 1 = cnt f k
  | 0, h => by omega
  | k + 1, h => by
    rw [cnt, cnt]
    by_cases e : k = i
    · subst e
      rw [cnt_same (f := fun j => f j || j == k) (g := f) fun j hj => by simp; omega]
      simp [hf]
    · have ih := cnt_set hf (k := k) (by omega)
      have : (f k || k == i) = f k := by simp [e]
      rw [this]
      omega
theorem cnt_zero {f : Nat → Bool} : ∀ {k : Nat}, cnt f k = 0 → ∀ j, j < k → f j = true
  | 0, _, j, hj => by omega
  | k + 1, h, j, hj => by
    rw [cnt] at h
    by_cases e : j = k
    · subst e
      by_cases q : f j = true
      · exact q
      · rw [if_neg q] at h; omega
    · exact cnt_zero (k := k) (by omega) j (by omega)
end Go.Eng
/- ViewMore, part 57: EOps15. -/
namespace Go.Eng
open Go.RowKit
set_option linter.unusedVariables false
set_option linter.unusedSimpArgs false
variable {ob : Obs} {c c' : Con} {w w' w0 : World} {S0 : Nat → Prop} {G0 G : Gh} {σ σ' σ1 : St} {a a' : Act} {P : Program}
theorem getD_set {l : Array Bool} {i j : Nat} (hi : i < l.size) : (l.setIfInBounds i true).getD j true = (l.getD j true || j == i) := by
  rw [Array.getD_eq_getD_getElem?, Array.getD_eq_getD_getElem?, Array.getElem?_setIfInBounds]
  by_cases e : i = j
  · subst e
    simp [hi]
  · rw [if_neg e]
    have : (j == i) = false := by simpa using fun h => e h.symm
    simp [this]
theorem getD_two {l : Array Bool} {i : Nat} (h : i < l.size) : l.getD i false = l.getD i true := by
  rw [Array.getD_eq_getD_getElem?, Array.getD_eq_getD_getElem?, Array.getElem?_eq_getElem h]
  rfl
theorem mem_ready {ops : Array Oper} {l : Array Bool} {i : Nat} : i ∈ Region.ready .any ops l ↔ i < ops.size ∧ l.getD i true = false ∧ ∀ e ∈ edgesOf ops i, l.getD e false = true := by
  unfold Region.ready
  rw [List.mem_filter, List.mem_range]
  constructor
  · rintro ⟨h1, h2⟩
    refine ⟨h1, by simpa using (Bool.and_eq_true_iff.1 h2).1, fun e he => ?_⟩
    have h3 := (Bool.and_eq_true_iff.1 h2).2
    unfold edgesOf at he
    rw [Array.getElem?_eq_getElem h1] at h3 he
    simp only [Option.map_some, Option.getD_some] at h3
    simp only [List.mem_map, List.mem_filter, Array.mem_toList_iff] at he
    obtain ⟨x, ⟨hx, hb⟩, rfl⟩ := he
    have := Array.all_eq_true_iff_forall_mem.1 h3 x hx
    simpa [hb] using this
  · rintro ⟨h1, h2, h3⟩
    refine ⟨h1, ?_⟩
    rw [Bool.and_eq_true]
    refine ⟨by simp [h2], ?_⟩
    rw [Array.getElem?_eq_getElem h1]
    simp only [Option.map_some, Option.getD_some]
    rw [Array.all_eq_true_iff_forall_mem]
    intro x hx
    cases hb : Region.binds .any x with
    | false => rfl
    | true =>
      have := h3 x.on (by
        unfold edgesOf
        rw [Array.getElem?_eq_getElem h1]
        simp only [List.mem_map, List.mem_filter, Array.mem_toList_iff]
        exact ⟨x, ⟨hx, hb⟩, rfl⟩)
      simp [this]
structure Left (ops : Array Oper) (fs : List Foot) (A : List (List Nat)) (S : Nat → St) (l : Array Bool) (τ : St) : Prop where
  size : l.size = ops.size
  len : τ.slots.length = (S 0).slots.length
  slots : Inv ops.size (fun m t => (S m).slot t) (fun i t => wrS ops i t = true) (fun j => l.getD j true) τ.slot
  obs : Inv ops.size (fun m q => (S m).ob q) (fun i q => q ∈ (footOf fs i).lays) (fun j => l.getD j true) τ.ob
  dc : ∀ j, j < ops.size → l.getD j true = true → ∀ x ∈ A.getD j [], l.getD x true = true
def Steps (P : Program) (E : Env) (ops : Array Oper) (fs : List Foot) (S : Nat → St) : Prop := ∀ (i : Nat) (o : Oper), ops[i]? = some o →
  ∃ r e dm, (absG E ops r o).val (S i) = some (e, dm) ∧ (∀ d ∈ dm, d.ok P) ∧ S (i + 1) = (S i).app o.dst e ∧ (absG E ops r o).sees (S i) = ((footOf fs i).slots, (footOf fs i).objs) ∧ e.upd.map (·.1) = (footOf fs i).lays
theorem clash_sym {ops : Array Oper} {fs : List Foot} {j i t : Nat} (h : wrS ops j t = true) (h2 : t ∈ (footOf fs i).slots ∨ wrS ops i t = true) : clash ops fs j i = true := by
  unfold wrS at h
  have hd : (ops[j]?).bind (·.dst) = some t := by simpa using h
  unfold clash
  rw [hd]
  rcases h2 with h2 | h2 <;> simp [h2]
theorem clash_read {ops : Array Oper} {fs : List Foot} {j i t : Nat} (h : wrS ops i t = true) (h2 : t ∈ (footOf fs j).slots) : clash ops fs j i = true := by
  unfold wrS at h
  have hd : (ops[i]?).bind (·.dst) = some t := by simpa using h
  unfold clash
  rw [hd]
  simp [h2]
theorem clash_lay {ops : Array Oper} {fs : List Foot} {j i q : Nat} (h : q ∈ (footOf fs j).lays) (h2 : q ∈ (footOf fs i).objs ∨ q ∈ (footOf fs i).lays) : clash ops fs j i = true := by
  have : (footOf fs j).lays.any (fun q => (footOf fs i).objs.contains q || (footOf fs i).lays.contains q) = true := List.any_eq_true.2 ⟨q, h, by rcases h2 with h2 | h2 <;> simp [h2]⟩
  unfold clash
  rw [this]
  simp
theorem clash_see {ops : Array Oper} {fs : List Foot} {j i q : Nat} (h : q ∈ (footOf fs i).lays) (h2 : q ∈ (footOf fs j).objs) : clash ops fs j i = true := by
  have : (footOf fs i).lays.any (fun q => (footOf fs j).objs.contains q) = true := List.any_eq_true.2 ⟨q, h, by simp [h2]⟩
  unfold clash
  rw [this]
  simp
section
variable {E : Env} {ops : Array Oper} {fs : List Foot} {A : List (List Nat)} {S : Nat → St} {l : Array Bool} {τ : St}
theorem Left.ready (hok : okWith ops fs A = true) (h : Left ops fs A S l τ) {i : Nat} (hi : i ∈ Region.ready .any ops l) : (∀ x ∈ A.getD i [], l.getD x true = true) ∧ ∀ j, i < j → j < ops.size → clash ops fs i j = true → l.getD j true = true → False := by
  obtain ⟨h1, h2, h3⟩ := mem_ready.1 hi
  obtain ⟨k1, k2, k3⟩ := okWith_spec hok h1
  have he : ∀ e ∈ edgesOf ops i, l.getD e true = true := fun e he => by
    rw [← getD_two (by rw [h.size]; have := k1 e he; omega)]
    exact h3 e he
  refine ⟨fun x hx => ?_, fun j hj hjn hc hl => ?_⟩
  · obtain ⟨e, h4, h5⟩ := k2 x hx
    rcases h5 with rfl | h5
    · exact he _ h4
    · exact h.dc e (by have := k1 e h4; omega) (he e h4) x h5
  · have h4 := (okWith_spec hok hjn).2.2 i hj hc
    have := h.dc j hjn hl i h4
    rw [h2] at this
    cases this
theorem Left.seen (hok : okWith ops fs A = true) (h : Left ops fs A S l τ) {i : Nat} (hi : i ∈ Region.ready .any ops l) : (∀ t ∈ (footOf fs i).slots, τ.slot t = (S i).slot t) ∧ ∀ q ∈ (footOf fs i).objs, τ.ob q = (S i).ob q := by
  obtain ⟨h1, h2, _⟩ := mem_ready.1 hi
  obtain ⟨r1, r2⟩ := h.ready hok hi
  obtain ⟨_, _, k3⟩ := okWith_spec hok h1
  refine ⟨fun t ht => h.slots t i (by omega) (fun j hj hl hij hw => ?_) fun j hj hw => r1 j (k3 j hj (clash_sym hw (.inl ht))), fun q hq => h.obs q i (by omega) (fun j hj hl hij hw => ?_) fun j hj hw => r1 j (k3 j hj (clash_lay hw (.inl hq)))⟩
  · have hne : i < j := by
      rcases Nat.lt_or_ge i j with h | h
      · exact h
      · obtain rfl : i = j := by omega
        have hl : l.getD i true = true := hl
        rw [h2] at hl
        cases hl
    exact r2 j hne hj (clash_read hw ht) hl
  · have hne : i < j := by
      rcases Nat.lt_or_ge i j with h | h
      · exact h
      · obtain rfl : i = j := by omega
        have hl : l.getD i true = true := hl
        rw [h2] at hl
        cases hl
    exact r2 j hne hj (clash_see hw hq) hl
theorem steps_len (hS : Steps P E ops fs S) : ∀ i, i ≤ ops.size → (S i).slots.length = (S 0).slots.length
  | 0, _ => rfl
  | i + 1, h => by
    obtain ⟨r, e, dm, _, _, h3, _⟩ := hS i _ (Array.getElem?_eq_getElem (show i < ops.size by omega))
    rw [h3, St.len_app, steps_len hS i (by omega)]
theorem Left.step (hok : okWith ops fs A = true) (hS : Steps P E ops fs S) (h : Left ops fs A S l τ) {i : Nat} (hi : i ∈ Region.ready .any ops l) {o : Oper} {e : Eff} (ho : ops[i]? = some o) (he : S (i + 1) = (S i).app o.dst e) (hu : e.upd.map (·.1) = (footOf fs i).lays) :
    Left ops fs A S (l.setIfInBounds i true) (τ.app o.dst e) := by
  obtain ⟨h1, h2, _⟩ := mem_ready.1 hi
  obtain ⟨r1, r2⟩ := h.ready hok hi
  have hil : i < l.size := by rw [h.size]; exact h1
  have hf : (fun j => (l.setIfInBounds i true).getD j true) = fun j => l.getD j true || j == i := funext fun j => getD_set hil
  have hwr : ∀ t, wrS ops i t = true ↔ o.dst = some t := fun t => by unfold wrS; rw [ho]; simp
  have stS : ∀ j t, j < ops.size → ¬ wrS ops j t = true → (S (j + 1)).slot t = (S j).slot t := fun j t hj hn => by
    obtain ⟨_, e', _, _, _, h5, _⟩ := hS j _ (Array.getElem?_eq_getElem hj)
    rw [h5]
    refine slot_app_ne fun hd => hn ?_
    unfold wrS
    rw [Array.getElem?_eq_getElem hj]
    simp [hd]
  have stO : ∀ j q, j < ops.size → ¬ q ∈ (footOf fs j).lays → (S (j + 1)).ob q = (S j).ob q := fun j q hj hn => by
    obtain ⟨_, e', _, _, _, h5, _, h6⟩ := hS j _ (Array.getElem?_eq_getElem hj)
    rw [h5, ob_app]
    rcases ob_lays e'.upd (S j) q with ⟨u, u1, u2, _⟩ | ⟨_, h7⟩
    · exact absurd (by rw [← h6]; exact List.mem_map.2 ⟨u, u1, u2⟩) hn
    · exact h7
  refine ⟨by rw [Array.size_setIfInBounds, h.size], by rw [St.len_app, h.len], ?_, ?_, ?_⟩
  · rw [hf]
    refine h.slots.step h1 stS (fun t ht => ?_) (fun t ht => slot_app_ne fun hd => ht ((hwr t).2 hd)) fun j t hj hjn hw hw2 hl => r2 j hj hjn (clash_sym hw (.inr hw2)) hl
    show (τ.app o.dst e).slot t = (S (i + 1)).slot t
    rw [he, (hwr t).1 ht]
    exact slot_app_eq (by rw [h.len, steps_len hS i (by omega)])
  · rw [hf]
    refine h.obs.step h1 stO (fun q hq => ?_) (fun q hq => ?_) fun j q hj hjn hw hw2 hl => r2 j hj hjn (clash_lay hw (.inr hw2)) hl
    · show (τ.app o.dst e).ob q = (S (i + 1)).ob q
      rw [he, ob_app, ob_app]
      exact lays_det _ _ _ _ (.inr (by rw [hu]; exact hq))
    · rw [ob_app]
      rcases ob_lays e.upd τ q with ⟨u, u1, u2, _⟩ | ⟨_, h7⟩
      · exact absurd (by rw [← hu]; exact List.mem_map.2 ⟨u, u1, u2⟩) hq
      · exact h7
  · intro j hj hl x hx
    have hx' : l.getD x true = true := by
      rw [getD_set hil] at hl
      simp only [Bool.or_eq_true, beq_iff_eq] at hl
      rcases hl with hl | rfl
      · exact h.dc j hj hl x hx
      · exact r1 x hx
    rw [getD_set hil, hx']
    rfl
theorem Left.full (hok : okWith ops fs A = true) (h : Left ops fs A S l τ) (hr : Region.ready .any ops l = []) : ∀ i, i < ops.size → l.getD i true = true := by
  intro i
  induction i using Nat.strongRecOn with
  | ind i ih =>
    intro hi
    cases hl : l.getD i true with
    | true => rfl
    | false =>
      have : i ∈ Region.ready .any ops l := mem_ready.2 ⟨hi, hl, fun e he => by
        have := (okWith_spec hok hi).1 e he
        rw [getD_two (by rw [h.size]; omega)]
        exact ih e this (by omega)⟩
      rw [hr] at this
      cases this
theorem Left.end (hok : okWith ops fs A = true) (hS : Steps P E ops fs S) (h : Left ops fs A S l τ) (hl : ∀ i, i < ops.size → l.getD i true = true) (hR : Rel w0 S0 G0 τ c a w) : Rel w0 S0 G0 (S ops.size) c a w := by
  refine hR.congr ?_ fun q => (h.obs q ops.size (Nat.le_refl _) (fun j hj _ hij => by omega) fun j hj _ => hl j hj).symm
  have e := steps_len hS ops.size (Nat.le_refl _)
  apply List.ext_getElem?
  intro t
  have hs := h.slots t ops.size (Nat.le_refl _) (fun j hj _ hij => by omega) fun j hj _ => hl j hj
  have hs : τ.slot t = (S ops.size).slot t := hs
  unfold St.slot at hs
  rw [List.getD_eq_getElem?_getD, List.getD_eq_getElem?_getD] at hs
  by_cases ht : t < (S ops.size).slots.length
  · have ht2 : t < τ.slots.length := by rw [h.len, ← e]; exact ht
    rw [List.getElem?_eq_getElem ht, List.getElem?_eq_getElem ht2] at hs ⊢
    simp only [Option.getD_some] at hs
    rw [hs]
  · rw [List.getElem?_eq_none (by omega), List.getElem?_eq_none (by rw [h.len, ← e]; omega)]
theorem Left.wp (hE : EnvOk P E) (hok : okWith ops fs A = true) (hS : Steps P E ops fs S) : ∀ (n : Nat) {l : Array Bool} {τ : St} {c : Con} {a : Act} {w : World}, cnt (fun j => l.getD j true) ops.size ≤ n → Left ops fs A S l τ → Rel w0 S0 G0 τ c a w →
    wpAny P .any ops (fun e' a' w' => e' = .normal ∧ ∃ c', Rel w0 S0 G0 (S ops.size) c' a' w') n l a w
  | 0, l, τ, c, a, w, hn, h, hR => by
    have hl : ∀ i, i < ops.size → l.getD i true = true := cnt_zero (by omega)
    refine ⟨?_, rfl, c, h.end hok hS hl hR⟩
    apply List.eq_nil_iff_forall_not_mem.2
    intro i hi
    obtain ⟨h1, h2, _⟩ := mem_ready.1 hi
    rw [hl i h1] at h2
    cases h2
  | n + 1, l, τ, c, a, w, hn, h, hR => by
    refine ⟨fun hr => ⟨rfl, c, h.end hok hS (h.full hok hr) hR⟩, fun i hi => ?_⟩
    obtain ⟨h1, h2, h3⟩ := mem_ready.1 hi
    have ho := Array.getElem?_eq_getElem h1
    obtain ⟨r, e, dm, k1, k2, k3, k4, k5⟩ := hS i _ ho
    obtain ⟨s1, s2⟩ := h.seen hok hi
    have hval : (absG E ops r ops[i]).val τ = some (e, dm) := by
      rw [RM.agree (σ := S i) _ (by rw [k4]; exact s1) (by rw [k4]; exact s2)]
      exact k1
    have hL := h.step hok hS hi ho k3 k5
    have hcnt : cnt (fun j => (l.setIfInBounds i true).getD j true) ops.size ≤ n := by
      have hf : (fun j => (l.setIfInBounds i true).getD j true) = fun j => l.getD j true || j == i := funext fun j => getD_set (by rw [h.size]; exact h1)
      have := cnt_set (f := fun j => l.getD j true) (i := i) h2 h1
      rw [hf]
      omega
    have hg := done_g (P := P) hE hval k2 hR (K := wpAny P .any ops (fun e' a' w' => e' = .normal ∧ ∃ c', Rel w0 S0 G0 (S ops.size) c' a' w') n (l.setIfInBounds i true))
      (Q := fun e' a' w' => e' = .normal ∧ ∃ c', Rel w0 S0 G0 (S ops.size) c' a' w') fun c' a' w' hR' _ => Left.wp hE hok hS n hcnt hL hR'
    unfold wpOp
    rw [ho]
    dsimp only
    split
    · rename_i hw
      rw [if_pos hw] at hg
      exact .inl hg
    · rename_i hw
      rw [if_neg hw] at hg
      exact hg
end
theorem RD.snd {E : Env} (hE : EnvOk P E) {id : Nat} {ops : Array Oper} {fs : List Foot} (h : RD P E ops ops.toList σ σ' fs) (hok : okWith ops fs (ancs ops) = true) : Snd P w0 S0 G0 (.region id ops true) σ .normal σ' := by
  obtain ⟨S, e0, en, hS⟩ := h.states
  have hS' : Steps P E ops fs S := fun i o ho => by
    obtain ⟨r, e, dm, f, h1, h2, h3, h4, h5, h6⟩ := hS i o (by rw [Array.getElem?_toList]; exact ho)
    have hf : footOf fs i = f := by unfold footOf; rw [List.getD_eq_getElem?_getD, h1]; rfl
    exact ⟨r, e, dm, h2, h3, h4, by rw [hf]; exact h5, by rw [hf]; exact h6⟩
  have en' : S ops.size = σ' := by rw [← en, Array.length_toList]
  intro c a w hR
  refine wp_region_any hE.mixed ?_
  have hl : ∀ j, j < ops.size → (Array.replicate ops.size false).getD j true = false := fun j hj => by
    rw [Array.getD_eq_getD_getElem?, Array.getElem?_replicate, if_pos hj]; rfl
  have hL : Left ops fs (ancs ops) S (Array.replicate ops.size false) σ := by
    refine ⟨by simp, by rw [e0], fun t m hm h1 h2 => ?_, fun q m hm h1 h2 => ?_, fun j hj h => ?_⟩
    · have stay : ∀ d, d ≤ m → (S d).slot t = (S 0).slot t := by
        intro d
        induction d with
        | zero => intro _; rfl
        | succ d ih =>
          intro hd
          rw [← ih (by omega)]
          obtain ⟨_, e', _, _, _, h5, _⟩ := hS' d _ (Array.getElem?_eq_getElem (show d < ops.size by omega))
          rw [h5]
          refine slot_app_ne fun hdst => ?_
          have hwd : wrS ops d t = true := by unfold wrS; rw [Array.getElem?_eq_getElem (show d < ops.size by omega)]; simp [hdst]
          have : (Array.replicate ops.size false).getD d true = true := h2 d (by omega) hwd
          rw [hl d (by omega)] at this
          cases this
      show σ.slot t = (S m).slot t
      rw [stay m (Nat.le_refl _), e0]
    · have stay : ∀ d, d ≤ m → (S d).ob q = (S 0).ob q := by
        intro d
        induction d with
        | zero => intro _; rfl
        | succ d ih =>
          intro hd
          rw [← ih (by omega)]
          obtain ⟨_, e', _, _, _, h5, _, h6⟩ := hS' d _ (Array.getElem?_eq_getElem (show d < ops.size by omega))
          rw [h5, ob_app]
          rcases ob_lays e'.upd (S d) q with ⟨u, u1, u2, _⟩ | ⟨_, h7⟩
          · have hwd : q ∈ (footOf fs d).lays := by rw [← h6]; exact List.mem_map.2 ⟨u, u1, u2⟩
            have : (Array.replicate ops.size false).getD d true = true := h2 d (by omega) hwd
            rw [hl d (by omega)] at this
            cases this
          · exact h7
      show σ.ob q = (S m).ob q
      rw [stay m (Nat.le_refl _), e0]
    · rw [hl j hj] at h
      cases h
  have hcnt : ∀ (f : Nat → Bool) k, cnt f k ≤ k := fun f k => by
    induction k with
    | zero => exact Nat.le_refl _
    | succ k ih => rw [cnt]; split <;> omega
  have := Left.wp (w0 := w0) (S0 := S0) (G0 := G0) hE hok hS' ops.size (hcnt _ _) hL (hR.drew (w.drawn + 1))
  rw [en'] at this
  exact this
end Go.Eng
