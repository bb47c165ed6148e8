/- The engine, part 1: plain values, what represents them in memory that never changes again, states of a walk, and how a state stands for a world. -/
import Derived.Below
import Derived.Calls
import Derived.Tactics
import Derived.Orders
namespace Go.Eng
open Go.RowKit
set_option linter.unusedVariables false
set_option linter.unusedSimpArgs false
/-- A plain value: one cell. A list has elements of so many cells each. -/
inductive PV where
  | int (k : IntKind) (n : Int)
  | bool (b : Bool)
  | str (s : ByteArray)
  | list (e : Nat) (xs : List (List PV))
  | fn (f : FuncId) (caps : List PV)
  | ref (cells : List PV)
  deriving Inhabited
/-- Cells that never change again. -/
abbrev Gh := Nat → Nat → Option Value
def Gh.le (G G' : Gh) : Prop := ∀ b o v, G b o = some v → G' b o = some v
theorem Gh.le_refl (G : Gh) : Gh.le G G := fun _ _ _ h => h
theorem Gh.le_trans {G G' G'' : Gh} (h : Gh.le G G') (h' : Gh.le G' G'') : Gh.le G G'' := fun b o v hv => h' b o v (h b o v hv)
inductive Rep (G : Gh) : PV → Value → Prop where
  | int (k n) : Rep G (.int k n) (.int k n)
  | bool (b) : Rep G (.bool b) (.bool b)
  | str (s) : Rep G (.str s) (.string s)
  | nil (e A cap) : Rep G (.list e []) (.slice A 0 cap)
  | list (e : Nat) (xs : List (List PV)) (g o cap : Nat) (f : Nat → Nat → Value) (hc : xs.length ≤ cap)
      (hw : ∀ (j : Nat) (x : List PV), xs[j]? = some x → x.length = e)
      (hg : ∀ (j : Nat) (x : List PV) (i : Nat) (y : PV), xs[j]? = some x → x[i]? = some y → G g (o + j * e + i) = some (f j i))
      (hr : ∀ (j : Nat) (x : List PV) (i : Nat) (y : PV), xs[j]? = some x → x[i]? = some y → Rep G y (f j i)) : Rep G (.list e xs) (.slice (some ⟨g, o, none⟩) xs.length cap)
  | fn (f : FuncId) (caps : List PV) (vs : Array Value) (hl : vs.size = caps.length)
      (hr : ∀ (i : Nat) (c : PV), caps[i]? = some c → Rep G c (vs.getD i undef)) : Rep G (.fn f caps) (.func (.func f) #[] vs)
  | ref (cells : List PV) (g o : Nat) (f : Nat → Value) (hg : ∀ (i : Nat) (c : PV), cells[i]? = some c → G g (o + i) = some (f i))
      (hr : ∀ (i : Nat) (c : PV), cells[i]? = some c → Rep G c (f i)) : Rep G (.ref cells) (.pointer (some ⟨g, o, none⟩))
theorem Rep.mono {G G' : Gh} (h : Gh.le G G') {p : PV} {v : Value} (r : Rep G p v) : Rep G' p v := by
  induction r with
  | int k n => exact .int k n
  | bool b => exact .bool b
  | str s => exact .str s
  | nil e A cap => exact .nil e A cap
  | list e xs g o cap f hc hw hg hr ih => exact .list e xs g o cap f hc hw (fun j x i y hx hy => h _ _ _ (hg j x i y hx hy)) ih
  | fn f caps vs hl hr ih => exact .fn f caps vs hl ih
  | ref cells g o f hg hr ih => exact .ref cells g o f (fun i c hc => h _ _ _ (hg i c hc)) ih
/-- One cell of a state: a plain value; a row that is being made; a place in a variable of this walk's own, in a row that is being made; nil; or nobody knows. -/
inductive At where
  | pv (p : PV)
  | row (k g : Nat)
  | ptr (k g off : Nat)
  | eptr (k g j off : Nat)
  | nil
  | any
  deriving Inhabited
inductive V1 where
  | at (a : At)
  | agg (l : List At)
  deriving Inhabited
inductive AV where
  | one (x : V1)
  | tup (l : List V1)
  deriving Inhabited
/-- What a walk has made: a variable; a variable that never changes again; a row (its own; its own behind its end alone); a row that was led on. -/
inductive AObj where
  | blk (cells : List At)
  | fro (cells : List PV)
  | row (own : Bool) (e : Nat) (xs : List (List PV))
  | view (e : Nat) (xs : List (List PV))
structure St where
  slots : List AV
  obs : List (Nat × Nat × Option AObj)
def AV.any : AV := .one (.at .any)
def St.slot (σ : St) (t : Nat) : AV := σ.slots.getD t .any
def look : List (Nat × Nat × Option AObj) → Nat → Nat × Option AObj
  | [], _ => (0, none)
  | (k', g, o) :: l, k => if k' = k then (g, o) else look l k
def lay : List (Nat × Nat × Option AObj) → Nat → Nat × Option AObj → List (Nat × Nat × Option AObj)
  | [], k, x => [(k, x.1, x.2)]
  | (k', g, o) :: l, k, x => if k' = k then (k', x.1, x.2) :: l else (k', g, o) :: lay l k x
theorem look_lay : ∀ (l : List (Nat × Nat × Option AObj)) (k : Nat) (x : Nat × Option AObj) (q : Nat), look (lay l k x) q = if k = q then x else look l q
  | [], k, x, q => by simp only [lay, look]
  | (k', g, o) :: l, k, x, q => by
    simp only [lay]
    by_cases c : k' = k
    · subst c
      rw [if_pos rfl]
      simp only [look]
      split <;> simp_all
    · rw [if_neg c]
      simp only [look, look_lay l k x q]
      by_cases c2 : k' = q
      · subst c2
        rw [if_pos rfl, if_pos rfl, if_neg (fun e => c e.symm)]
      · rw [if_neg c2, if_neg c2]
def St.ob (σ : St) (k : Nat) : Nat × Option AObj := look σ.obs k
abbrev Obs := Nat → Nat × Option AObj
/-- The thing that a name of this age means, if it still means one. -/
def alive (ob : Obs) (k g : Nat) : Option AObj := if (ob k).1 = g then (ob k).2 else none
def rowLen : Option AObj → Option Nat
  | some (.row _ _ xs) => some xs.length
  | some (.view _ xs) => some xs.length
  | _ => none
def rowE : Option AObj → Option Nat
  | some (.row _ e _) => some e
  | some (.view e _) => some e
  | _ => none
def isVar : Option AObj → Bool
  | some (.blk _) => true
  | some (.fro _) => true
  | _ => false
def owned : AObj → Bool
  | .blk _ => true
  | .row _ _ _ => true
  | _ => false
/-- Where the things lie. -/
structure Con where
  ρ : Nat → Option Nat
  cp : Nat → Nat
  G : Gh
def rowVal (b : Option Nat) (n cap : Nat) : Value :=
  match b with
  | some b => .slice (some ⟨b, 0, none⟩) n cap
  | none => .slice none 0 0
def RepAt (ob : Obs) (c : Con) : At → Value → Prop
  | .pv p, v => Rep c.G p v
  | .nil, v => v = .slice none 0 0
  | .any, _ => True
  | .row k g, v => g ≤ (ob k).1 ∧ ∀ n, rowLen (alive ob k g) = some n → v = rowVal (c.ρ k) n (c.cp k)
  | .ptr k g off, v => g ≤ (ob k).1 ∧ (isVar (alive ob k g) = true → ∃ b, c.ρ k = some b ∧ v = .pointer (some ⟨b, off, none⟩))
  | .eptr k g j off, v => g ≤ (ob k).1 ∧ ∀ e, rowE (alive ob k g) = some e → ∃ b, c.ρ k = some b ∧ v = .pointer (some ⟨b, j * e + off, none⟩)
def RepV1 (ob : Obs) (c : Con) : V1 → Value → Prop
  | .at a, v => RepAt ob c a v
  | .agg l, v => ∃ cs : Array Value, v = .agg cs ∧ cs.size = l.length ∧ ∀ i x, l[i]? = some x → RepAt ob c x (cs.getD i undef)
def RepAV (ob : Obs) (c : Con) : AV → Value → Prop
  | .one x, v => RepV1 ob c x v
  | .tup l, v => ∃ vs : Array Value, v = .tuple vs ∧ vs.size = l.length ∧ ∀ i x, l[i]? = some x → RepV1 ob c x (vs.getD i undef)
/-- A row's elements have so many cells each. -/
def Wide (e : Nat) (xs : List (List PV)) : Prop := ∀ (j : Nat) (x : List PV), xs[j]? = some x → x.length = e
def ObOk (ob : Obs) (c : Con) (w : World) (k : Nat) : AObj → Prop
  | .blk cells => ∃ b cs ty, c.ρ k = some b ∧ w.heap[b]? = some (.cells cs ty (0, 0)) ∧ cs.size = cells.length ∧ (∀ i x, cells[i]? = some x → RepAt ob c x (cs.getD i undef)) ∧ ∀ o, c.G b o = none
  | .fro cells => ∃ b, c.ρ k = some b ∧ ∀ i p, cells[i]? = some p → ∃ v, c.G b i = some v ∧ Rep c.G p v
  | .row own e xs => (c.ρ k = none ∧ xs = [] ∧ c.cp k = 0) ∨ ∃ b cs ty, c.ρ k = some b ∧ w.heap[b]? = some (.cells cs ty (0, 0)) ∧ xs.length ≤ c.cp k ∧ cs.size = c.cp k * e ∧ Wide e xs ∧
      (∀ (j : Nat) (x : List PV) (i : Nat) (y : PV), xs[j]? = some x → x[i]? = some y → Rep c.G y (cs.getD (j * e + i) undef)) ∧
      (if own = true then ∀ o, c.G b o = none else (∀ o, o < xs.length * e → c.G b o = cs[o]?) ∧ ∀ o, xs.length * e ≤ o → c.G b o = none)
  | .view e xs => (c.ρ k = none ∧ xs = []) ∨ ∃ b, c.ρ k = some b ∧ xs.length ≤ c.cp k ∧ Wide e xs ∧ ∀ (j : Nat) (x : List PV) (i : Nat) (y : PV), xs[j]? = some x → x[i]? = some y → ∃ v, c.G b (j * e + i) = some v ∧ Rep c.G y v
/-- What was there is as it was, but for some blocks. -/
structure Fr (S : Nat → Prop) (w w' : World) : Prop where
  os : w'.os = w.os
  tape : w'.tape = w.tape
  output : w'.output = w.output
  size : w.heap.size ≤ w'.heap.size
  block : ∀ k, k < w.heap.size → ¬ S k → w'.heap[k]? = w.heap[k]?
theorem Fr.refl (S : Nat → Prop) (w : World) : Fr S w w := ⟨rfl, rfl, rfl, Nat.le_refl _, fun _ _ _ => rfl⟩
theorem Fr.trans {S T : Nat → Prop} {a b c : World} (h : Fr S a b) (h' : Fr T b c) (hT : ∀ k, k < a.heap.size → T k → S k) : Fr S a c :=
  ⟨h'.os.trans h.os, h'.tape.trans h.tape, h'.output.trans h.output, Nat.le_trans h.size h'.size, fun k hk hs =>
    (h'.block k (Nat.lt_of_lt_of_le hk h.size) (fun ht => hs (hT k hk ht))).trans (h.block k hk hs)⟩
theorem Fr.below {w w' : World} (h : Fr (fun _ => False) w w') : Below w.heap.size w w' := ⟨h.os, h.tape, h.output, h.size, fun k hk => h.block k hk (fun h => h)⟩
theorem Fr.of_below {S : Nat → Prop} {w w' : World} (h : Below w.heap.size w w') : Fr S w w' := ⟨h.os, h.tape, h.output, h.size, fun k hk _ => h.block k hk⟩
/-- A state stands for a world: behind a beginning w0, of which the blocks S0 are this walk's own, with G0 unchanging. -/
structure Rel (w0 : World) (S0 : Nat → Prop) (G0 : Gh) (σ : St) (c : Con) (a : Act) (w : World) : Prop where
  le : Gh.le G0 c.G
  imm : ∀ b o v, c.G b o = some v → w.cell? ⟨b, o, none⟩ = some v
  sz : σ.slots.length ≤ a.tmps.size
  slots : ∀ t, RepAV σ.ob c (σ.slot t) (a.tmps.getD t undef)
  df : a.defers = []
  obs : ∀ k g o, σ.ob k = (g, some o) → ObOk σ.ob c w k o
  sep : ∀ k k' g g' o o' b, σ.ob k = (g, some o) → σ.ob k' = (g', some o') → owned o = true → owned o' = true → c.ρ k = some b → c.ρ k' = some b → k = k'
  new : ∀ k g o b, σ.ob k = (g, some o) → owned o = true → c.ρ k = some b → w0.heap.size ≤ b ∨ S0 b
  fr : Fr S0 w0 w
  fresh : ∀ b o, c.G b o ≠ G0 b o → w0.heap.size ≤ b ∨ S0 b
end Go.Eng
