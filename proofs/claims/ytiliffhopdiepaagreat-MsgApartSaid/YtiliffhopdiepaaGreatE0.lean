/- The engine, part 0: VBase, VStep, VOps, VOps2, VOps3, VOps4, VOps5, VCan, VOps6, VBack. -/
import Derived.Below
import Derived.Calls
import Derived.Tactics
import Derived.Orders
import Derived.Deep.MidRow
import Derived.Deep.AppendSrc
import Derived.Laws.StructEq
namespace Go.E2
open Go.RowKit
set_option linter.unusedVariables false
set_option linter.unusedSimpArgs false
inductive PV where
  | int (k : IntKind) (n : Int)
  | bool (b : Bool)
  | str (s : ByteArray)
  | list (e : Nat) (xs : List (List PV))
  | fn (f : FuncId) (caps : List PV)
  | ref (cells : List PV)
  deriving Inhabited
abbrev Gh := Nat → Nat → Option Value
def Gh.le (G G' : Gh) : Prop := ∀ b o v, G b o = some v → G' b o = some v
theorem Gh.le_refl (G : Gh) : Gh.le G G := fun _ _ _ h => h
theorem Gh.le_trans {G G' G'' : Gh} (h : Gh.le G G') (h' : Gh.le G' G'') : Gh.le G G'' := fun b o v hv => h' b o v (h b o v hv)
inductive Rep (G : Gh) : PV → Value → Prop where
  | int (k n) : Rep G (.int k n) (.int k n)
  | bool (b) : Rep G (.bool b) (.bool b)
  | str (s) : Rep G (.str s) (.string s)
  | nil (e A cap) : Rep G (.list e []) (.slice A 0 cap)
  | list (e : Nat) (xs : List (List PV)) (g o cap : Nat) (f : Nat → Nat → Value) (hc : xs.length ≤ cap)
      (hw : ∀ (j : Nat) (x : List PV), xs[j]? = some x → x.length = e)
      (hg : ∀ (j : Nat) (x : List PV) (i : Nat) (y : PV), xs[j]? = some x → x[i]? = some y → G g (o + j * e + i) = some (f j i))
      (hr : ∀ (j : Nat) (x : List PV) (i : Nat) (y : PV), xs[j]? = some x → x[i]? = some y → Rep G y (f j i)) : Rep G (.list e xs) (.slice (some ⟨g, o, none⟩) xs.length cap)
  | fn (f : FuncId) (caps : List PV) (vs : Array Value) (hl : vs.size = caps.length)
      (hr : ∀ (i : Nat) (c : PV), caps[i]? = some c → Rep G c (vs.getD i undef)) : Rep G (.fn f caps) (.func (.func f) #[] vs)
  | ref (cells : List PV) (g o : Nat) (f : Nat → Value) (hg : ∀ (i : Nat) (c : PV), cells[i]? = some c → G g (o + i) = some (f i))
      (hr : ∀ (i : Nat) (c : PV), cells[i]? = some c → Rep G c (f i)) : Rep G (.ref cells) (.pointer (some ⟨g, o, none⟩))
theorem Rep.mono {G G' : Gh} (h : Gh.le G G') {p : PV} {v : Value} (r : Rep G p v) : Rep G' p v := by
  induction r with
  | int k n => exact .int k n
  | bool b => exact .bool b
  | str s => exact .str s
  | nil e A cap => exact .nil e A cap
  | list e xs g o cap f hc hw hg hr ih => exact .list e xs g o cap f hc hw (fun j x i y hx hy => h _ _ _ (hg j x i y hx hy)) ih
  | fn f caps vs hl hr ih => exact .fn f caps vs hl ih
  | ref cells g o f hg hr ih => exact .ref cells g o f (fun i c hc => h _ _ _ (hg i c hc)) ih
inductive At where
  | pv (p : PV)
  | row (k g : Nat)
  | ptr (k g off : Nat)
  | eptr (k g j off : Nat)
  | tail (k g j : Nat)
  | nil
  | any
  deriving Inhabited
inductive V1 where
  | at (a : At)
  | agg (l : List At)
  deriving Inhabited
inductive AV where
  | one (x : V1)
  | tup (l : List V1)
  deriving Inhabited
inductive AObj where
  | blk (cells : List At)
  | fro (cells : List PV)
  | row (own : Bool) (e : Nat) (xs : List (List PV))
  | view (e : Nat) (xs : List (List PV))
  | map (ds : List (Int × Int × Int))
structure St where
  slots : List AV
  obs : List (Nat × Nat × Option AObj)
def AV.any : AV := .one (.at .any)
def St.slot (σ : St) (t : Nat) : AV := σ.slots.getD t .any
def look : List (Nat × Nat × Option AObj) → Nat → Nat × Option AObj
  | [], _ => (0, none)
  | (k', g, o) :: l, k => if k' = k then (g, o) else look l k
def lay : List (Nat × Nat × Option AObj) → Nat → Nat × Option AObj → List (Nat × Nat × Option AObj)
  | [], k, x => [(k, x.1, x.2)]
  | (k', g, o) :: l, k, x => if k' = k then (k', x.1, x.2) :: l else (k', g, o) :: lay l k x
theorem look_lay : ∀ (l : List (Nat × Nat × Option AObj)) (k : Nat) (x : Nat × Option AObj) (q : Nat), look (lay l k x) q = if k = q then x else look l q
  | [], k, x, q => by simp only [lay, look]
  | (k', g, o) :: l, k, x, q => by
    simp only [lay]
    by_cases c : k' = k
    · subst c
      rw [if_pos rfl]
      simp only [look]
      split <;> simp_all
    · rw [if_neg c]
      simp only [look, look_lay l k x q]
      by_cases c2 : k' = q
      · subst c2
        rw [if_pos rfl, if_pos rfl, if_neg (fun e => c e.symm)]
      · rw [if_neg c2, if_neg c2]
def St.ob (σ : St) (k : Nat) : Nat × Option AObj := look σ.obs k
abbrev Obs := Nat → Nat × Option AObj
def alive (ob : Obs) (k g : Nat) : Option AObj := if (ob k).1 = g then (ob k).2 else none
def rowLen : Option AObj → Option Nat
  | some (.row _ _ xs) => some xs.length
  | some (.view _ xs) => some xs.length
  | _ => none
def rowE : Option AObj → Option Nat
  | some (.row _ e _) => some e
  | some (.view e _) => some e
  | _ => none
def isVar : Option AObj → Bool
  | some (.blk _) => true
  | some (.fro _) => true
  | some (.map _) => true
  | _ => false
def owned : AObj → Bool
  | .map _ => true
  | .blk _ => true
  | .row _ _ _ => true
  | _ => false
structure Con where
  ρ : Nat → Option Nat
  cp : Nat → Nat
  G : Gh
def rowVal (b : Option Nat) (n cap : Nat) : Value :=
  match b with
  | some b => .slice (some ⟨b, 0, none⟩) n cap
  | none => .slice none 0 0
abbrev cloN : Nat := 1000000
def pval (b off : Nat) : Value :=
  if off < cloN then .pointer (some ⟨b, off, none⟩)
  else if off < 2 * cloN then .map (some b)
  else .func (.func (off / cloN - 2)) #[] #[.pointer (some ⟨b, off % cloN, none⟩)]
theorem pval_ptr {b off : Nat} (h : off < cloN) : pval b off = .pointer (some ⟨b, off, none⟩) := if_pos h
theorem pval_one (b off : Nat) : (pval b off).oneCell' = true := by
  unfold pval
  split
  · rfl
  · split <;> rfl
def tailVal (b : Option Nat) (cap e n j : Nat) : Value :=
  match b with
  | some b => .slice (some ⟨b, if cap = j then 0 else j * e, none⟩) (n - j) (cap - j)
  | none => .slice none 0 0
abbrev D3 := Int × Int × Int
def keyV (d : D3) : Value := .agg #[.int .i64 d.1, .int .i64 d.2.1, .int .i64 d.2.2]
def MapIs (ds : List D3) (es : Array MapEntry) : Prop := es.toList.map (fun e => (e.key, e.val)) = ds.map fun d => (keyV d, Value.bool true)
def RepAt (ob : Obs) (c : Con) : At → Value → Prop
  | .pv p, v => Rep c.G p v
  | .nil, v => v = .slice none 0 0
  | .any, _ => True
  | .row k g, v => g ≤ (ob k).1 ∧ ∀ n, rowLen (alive ob k g) = some n → v = rowVal (c.ρ k) n (c.cp k)
  | .ptr k g off, v => g ≤ (ob k).1 ∧ (isVar (alive ob k g) = true → ∃ b, c.ρ k = some b ∧ v = pval b off)
  | .eptr k g j off, v => g ≤ (ob k).1 ∧ ∀ e, rowE (alive ob k g) = some e → ∃ b, c.ρ k = some b ∧ v = .pointer (some ⟨b, j * e + off, none⟩)
  | .tail k g j, v => g ≤ (ob k).1 ∧ ∀ n e, rowLen (alive ob k g) = some n → rowE (alive ob k g) = some e → v = tailVal (c.ρ k) (c.cp k) e n j
def RepV1 (ob : Obs) (c : Con) : V1 → Value → Prop
  | .at a, v => RepAt ob c a v
  | .agg l, v => ∃ cs : Array Value, v = .agg cs ∧ cs.size = l.length ∧ ∀ i x, l[i]? = some x → RepAt ob c x (cs.getD i undef)
def RepAV (ob : Obs) (c : Con) : AV → Value → Prop
  | .one x, v => RepV1 ob c x v
  | .tup l, v => ∃ vs : Array Value, v = .tuple vs ∧ vs.size = l.length ∧ ∀ i x, l[i]? = some x → RepV1 ob c x (vs.getD i undef)
def Wide (e : Nat) (xs : List (List PV)) : Prop := ∀ (j : Nat) (x : List PV), xs[j]? = some x → x.length = e
def ObOk (ob : Obs) (c : Con) (w : World) (k : Nat) : AObj → Prop
  | .blk cells => ∃ b cs ty, c.ρ k = some b ∧ w.heap[b]? = some (.cells cs ty (0, 0)) ∧ cs.size = cells.length ∧ (∀ i x, cells[i]? = some x → RepAt ob c x (cs.getD i undef)) ∧ ∀ o, c.G b o = none
  | .fro cells => ∃ b, c.ρ k = some b ∧ ∀ i p, cells[i]? = some p → ∃ v, c.G b i = some v ∧ Rep c.G p v
  | .row own e xs => (c.ρ k = none ∧ xs = [] ∧ c.cp k = 0) ∨ ∃ b cs ty, c.ρ k = some b ∧ w.heap[b]? = some (.cells cs ty (0, 0)) ∧ (xs.length ≤ c.cp k ∧ c.cp k ≤ 9223372036854775807) ∧ cs.size = c.cp k * e ∧ Wide e xs ∧
      (∀ (j : Nat) (x : List PV) (i : Nat) (y : PV), xs[j]? = some x → x[i]? = some y → Rep c.G y (cs.getD (j * e + i) undef)) ∧
      (if own = true then ∀ o, c.G b o = none else (∀ o, o < xs.length * e → c.G b o = cs[o]?) ∧ ∀ o, xs.length * e ≤ o → c.G b o = none)
  | .view e xs => (c.ρ k = none ∧ xs = []) ∨ ∃ b, c.ρ k = some b ∧ xs.length ≤ c.cp k ∧ Wide e xs ∧ ∀ (j : Nat) (x : List PV) (i : Nat) (y : PV), xs[j]? = some x → x[i]? = some y → ∃ v, c.G b (j * e + i) = some v ∧ Rep c.G y v
  | .map ds => ∃ b es clock, c.ρ k = some b ∧ w.heap[b]? = some (.map es clock) ∧ MapIs ds es ∧ ∀ o, c.G b o = none
structure Fr (S : Nat → Prop) (w w' : World) : Prop where
  os : w'.os = w.os
  tape : w'.tape = w.tape
  output : w'.output = w.output
  size : w.heap.size ≤ w'.heap.size
  block : ∀ k, k < w.heap.size → ¬ S k → w'.heap[k]? = w.heap[k]?
  drawn : w.drawn ≤ w'.drawn
theorem Fr.refl (S : Nat → Prop) (w : World) : Fr S w w := ⟨rfl, rfl, rfl, Nat.le_refl _, fun _ _ _ => rfl, Nat.le_refl _⟩
theorem Fr.trans {S T : Nat → Prop} {a b c : World} (h : Fr S a b) (h' : Fr T b c) (hT : ∀ k, k < a.heap.size → T k → S k) : Fr S a c :=
  ⟨h'.os.trans h.os, h'.tape.trans h.tape, h'.output.trans h.output, Nat.le_trans h.size h'.size, fun k hk hs =>
    (h'.block k (Nat.lt_of_lt_of_le hk h.size) (fun ht => hs (hT k hk ht))).trans (h.block k hk hs), Nat.le_trans h.drawn h'.drawn⟩
theorem Fr.below {w w' : World} (h : Fr (fun _ => False) w w') : Below w.heap.size w w' := ⟨h.os, h.tape, h.output, h.size, fun k hk => h.block k hk (fun h => h)⟩
def Keeps (ob ob' : Obs) (c c' : Con) (k : Nat) : Prop :=
  (ob k).1 < (ob' k).1 ∨ ((ob' k).1 = (ob k).1 ∧ (∀ n, rowLen (ob' k).2 = some n → rowLen (ob k).2 = some n ∧ c'.ρ k = c.ρ k ∧ c'.cp k = c.cp k) ∧
    (∀ e, rowE (ob' k).2 = some e → rowE (ob k).2 = some e ∧ c'.ρ k = c.ρ k) ∧ (isVar (ob' k).2 = true → isVar (ob k).2 = true ∧ c'.ρ k = c.ρ k))
abbrev pinN : Nat := 1000000
structure Own where
  S : Nat → Prop
  ob : Obs
  con : Con
instance : CoeFun Own (fun _ => Nat → Prop) := ⟨Own.S⟩
structure Rel (w0 : World) (S0 : Own) (G0 : Gh) (σ : St) (c : Con) (a : Act) (w : World) : Prop where
  le : Gh.le G0 c.G
  imm : ∀ b o v, c.G b o = some v → w.cell? ⟨b, o, none⟩ = some v
  sz : σ.slots.length ≤ a.tmps.size
  slots : ∀ t, RepAV σ.ob c (σ.slot t) (a.tmps.getD t undef)
  df : a.defers = []
  obs : ∀ k g o, σ.ob k = (g, some o) → ObOk σ.ob c w k o
  sep : ∀ k k' g g' o o' b, σ.ob k = (g, some o) → σ.ob k' = (g', some o') → owned o = true → owned o' = true → c.ρ k = some b → c.ρ k' = some b → k = k'
  new : ∀ k g o b, σ.ob k = (g, some o) → owned o = true → c.ρ k = some b → w0.heap.size ≤ b ∨ S0 b
  fr : Fr S0.S w0 w
  fresh : ∀ b o, c.G b o ≠ G0 b o → w0.heap.size ≤ b ∨ S0 b
  base : ∀ k, pinN ≤ k → (S0.ob k).1 = 0 ∧ Keeps S0.ob σ.ob S0.con c k
end Go.E2
namespace Go.E2
open Go.RowKit
set_option linter.unusedVariables false
set_option linter.unusedSimpArgs false
variable {ob ob' : Obs} {c c' : Con} {w w' w0 : World} {S0 : Own} {G0 : Gh} {σ σ' : St} {a a' : Act}
theorem Keeps.trans {ob'' : Obs} {c'' : Con} {k : Nat} (h : Keeps ob ob' c c' k) (h' : Keeps ob' ob'' c' c'' k) : Keeps ob ob'' c c'' k := by
  rcases h with h | ⟨h1, h2, h3, h4⟩ <;> rcases h' with h' | ⟨h1', h2', h3', h4'⟩
  · left; omega
  · left; omega
  · left; omega
  · right
    refine ⟨h1'.trans h1, fun n hn => ?_, fun e he => ?_, fun hv => ?_⟩
    · obtain ⟨a1, a2, a3⟩ := h2' n hn
      obtain ⟨b1, b2, b3⟩ := h2 n a1
      exact ⟨b1, a2.trans b2, a3.trans b3⟩
    · obtain ⟨a1, a2⟩ := h3' e he
      obtain ⟨b1, b2⟩ := h3 e a1
      exact ⟨b1, a2.trans b2⟩
    · obtain ⟨a1, a2⟩ := h4' hv
      obtain ⟨b1, b2⟩ := h4 a1
      exact ⟨b1, a2.trans b2⟩
theorem Keeps.same {k : Nat} (h : ob' k = ob k) (h1 : c'.ρ k = c.ρ k) (h2 : c'.cp k = c.cp k) : Keeps ob ob' c c' k := by
  refine .inr ⟨by rw [h], fun n hn => ⟨by rw [← h]; exact hn, h1, h2⟩, fun e he => ⟨by rw [← h]; exact he, h1⟩, fun hv => ⟨by rw [← h]; exact hv, h1⟩⟩
theorem RepAt.keep {x : At} {v : Value} (hG : Gh.le c.G c'.G) (hk : ∀ k, Keeps ob ob' c c' k) (h : RepAt ob c x v) : RepAt ob' c' x v := by
  cases x with
  | pv p => exact Rep.mono hG h
  | nil => exact h
  | any => trivial
  | row k g =>
    obtain ⟨hg, h⟩ := h
    rcases hk k with hb | ⟨he, h1, _, _⟩
    · refine ⟨by omega, fun n hn => ?_⟩
      unfold alive at hn
      rw [if_neg (by omega)] at hn
      simp [rowLen] at hn
    · refine ⟨by omega, fun n hn => ?_⟩
      unfold alive at hn h
      rw [he] at hn
      by_cases c1 : (ob k).1 = g
      · rw [if_pos c1] at hn h
        obtain ⟨a1, a2, a3⟩ := h1 n hn
        rw [h n a1, a2, a3]
      · rw [if_neg c1] at hn; simp [rowLen] at hn
  | ptr k g off =>
    obtain ⟨hg, h⟩ := h
    rcases hk k with hb | ⟨he, _, _, h3⟩
    · refine ⟨by omega, fun hv => ?_⟩
      unfold alive at hv
      rw [if_neg (by omega)] at hv
      simp [isVar] at hv
    · refine ⟨by omega, fun hv => ?_⟩
      unfold alive at hv h
      rw [he] at hv
      by_cases c1 : (ob k).1 = g
      · rw [if_pos c1] at hv h
        obtain ⟨a1, a2⟩ := h3 hv
        rw [a2]
        exact h a1
      · rw [if_neg c1] at hv; simp [isVar] at hv
  | tail k g j =>
    obtain ⟨hg, h⟩ := h
    rcases hk k with hb | ⟨he, h1, h2, _⟩
    · refine ⟨by omega, fun n e hn _ => ?_⟩
      unfold alive at hn
      rw [if_neg (by omega)] at hn
      simp [rowLen] at hn
    · refine ⟨by omega, fun n e hn he' => ?_⟩
      unfold alive at hn he' h
      rw [he] at hn he'
      by_cases c1 : (ob k).1 = g
      · rw [if_pos c1] at hn he' h
        obtain ⟨a1, a2, a3⟩ := h1 n hn
        obtain ⟨b1, _⟩ := h2 e he'
        rw [h n e a1 b1, a2, a3]
      · rw [if_neg c1] at hn; simp [rowLen] at hn
  | eptr k g j off =>
    obtain ⟨hg, h⟩ := h
    rcases hk k with hb | ⟨he, _, h2, _⟩
    · refine ⟨by omega, fun n hn => ?_⟩
      unfold alive at hn
      rw [if_neg (by omega)] at hn
      simp [rowE] at hn
    · refine ⟨by omega, fun n hn => ?_⟩
      unfold alive at hn h
      rw [he] at hn
      by_cases c1 : (ob k).1 = g
      · rw [if_pos c1] at hn h
        obtain ⟨a1, a2⟩ := h2 n hn
        rw [a2]
        exact h n a1
      · rw [if_neg c1] at hn; simp [rowE] at hn
theorem RepV1.keep {x : V1} {v : Value} (hG : Gh.le c.G c'.G) (hk : ∀ k, Keeps ob ob' c c' k) (h : RepV1 ob c x v) : RepV1 ob' c' x v := by
  cases x with
  | «at» a => exact RepAt.keep hG hk h
  | agg l => obtain ⟨cs, e, hl, hr⟩ := h; exact ⟨cs, e, hl, fun i x hx => RepAt.keep hG hk (hr i x hx)⟩
theorem RepAV.keep {x : AV} {v : Value} (hG : Gh.le c.G c'.G) (hk : ∀ k, Keeps ob ob' c c' k) (h : RepAV ob c x v) : RepAV ob' c' x v := by
  cases x with
  | one a => exact RepV1.keep hG hk h
  | tup l => obtain ⟨cs, e, hl, hr⟩ := h; exact ⟨cs, e, hl, fun i x hx => RepV1.keep hG hk (hr i x hx)⟩
theorem ObOk.keep {k : Nat} {o : AObj} (hG : Gh.le c.G c'.G) (hk : ∀ k, Keeps ob ob' c c' k) (h1 : c'.ρ k = c.ρ k) (h2 : c'.cp k = c.cp k)
    (hw : owned o = true → ∀ b, c.ρ k = some b → w'.heap[b]? = w.heap[b]? ∧ ∀ i, c'.G b i = c.G b i) (h : ObOk ob c w k o) : ObOk ob' c' w' k o := by
  cases o with
  | map ds =>
    obtain ⟨b, es, cl, hb, hh, hr, hg⟩ := h
    obtain ⟨q1, q2⟩ := hw rfl b hb
    exact ⟨b, es, cl, by rw [h1, hb], by rw [q1, hh], hr, fun o => by rw [q2, hg]⟩
  | blk cells =>
    obtain ⟨b, cs, ty, hb, hh, hl, hr, hg⟩ := h
    obtain ⟨q1, q2⟩ := hw rfl b hb
    exact ⟨b, cs, ty, by rw [h1, hb], by rw [q1, hh], hl, fun i x hx => RepAt.keep hG hk (hr i x hx), fun o => by rw [q2, hg]⟩
  | fro cells =>
    obtain ⟨b, hb, hr⟩ := h
    exact ⟨b, by rw [h1, hb], fun i p hp => let ⟨v, a1, a2⟩ := hr i p hp; ⟨v, hG _ _ _ a1, a2.mono hG⟩⟩
  | row own e xs =>
    rcases h with ⟨e1, e2, e3⟩ | ⟨b, cs, ty, hb, hh, hl, hc, hwd, hr, hg⟩
    · exact .inl ⟨by rw [h1, e1], e2, by rw [h2, e3]⟩
    · obtain ⟨q1, q2⟩ := hw rfl b hb
      refine .inr ⟨b, cs, ty, by rw [h1, hb], by rw [q1, hh], by rw [h2]; exact hl, by rw [h2]; exact hc, hwd, fun j x i y hx hy => (hr j x i y hx hy).mono hG, ?_⟩
      cases own with
      | true => exact fun o => by rw [q2]; exact hg o
      | false => exact ⟨fun o ho => by rw [q2]; exact hg.1 o ho, fun o ho => by rw [q2]; exact hg.2 o ho⟩
  | view e xs =>
    rcases h with ⟨e1, e2⟩ | ⟨b, hb, hl, hwd, hr⟩
    · exact .inl ⟨by rw [h1, e1], e2⟩
    · exact .inr ⟨b, by rw [h1, hb], by rw [h2]; exact hl, hwd, fun j x i y hx hy => let ⟨v, a1, a2⟩ := hr j x i y hx hy; ⟨v, hG _ _ _ a1, a2.mono hG⟩⟩
theorem Rel.step (h : Rel w0 S0 G0 σ c a w) (hG : Gh.le c.G c'.G) (hk : ∀ k, Keeps σ.ob σ'.ob c c' k)
    (himm : ∀ b o v, c'.G b o = some v → w'.cell? ⟨b, o, none⟩ = some v) (hsz : σ'.slots.length ≤ a'.tmps.size)
    (hslots : ∀ t, (σ'.slot t = σ.slot t ∧ a'.tmps.getD t undef = a.tmps.getD t undef) ∨ RepAV σ'.ob c' (σ'.slot t) (a'.tmps.getD t undef))
    (hdf : a'.defers = [])
    (hobs : ∀ k g o, σ'.ob k = (g, some o) → (σ.ob k = (g, some o) ∧ c'.ρ k = c.ρ k ∧ c'.cp k = c.cp k ∧ (owned o = true → ∀ b, c.ρ k = some b → w'.heap[b]? = w.heap[b]? ∧ ∀ i, c'.G b i = c.G b i)) ∨ ObOk σ'.ob c' w' k o)
    (hsep : ∀ k k' g g' o o' b, σ'.ob k = (g, some o) → σ'.ob k' = (g', some o') → owned o = true → owned o' = true → c'.ρ k = some b → c'.ρ k' = some b → k = k')
    (hnew : ∀ k g o b, σ'.ob k = (g, some o) → owned o = true → c'.ρ k = some b → w0.heap.size ≤ b ∨ S0 b)
    (hfr : Fr S0.S w0 w') (hfresh : ∀ b o, c'.G b o ≠ G0 b o → w0.heap.size ≤ b ∨ S0 b) : Rel w0 S0 G0 σ' c' a' w' where
  le := Gh.le_trans h.le hG
  imm := himm
  sz := hsz
  slots t := by
    rcases hslots t with ⟨e1, e2⟩ | h'
    · rw [e1, e2]; exact RepAV.keep hG hk (h.slots t)
    · exact h'
  df := hdf
  obs k g o ho := by
    rcases hobs k g o ho with ⟨e, e1, e2, hw⟩ | h'
    · exact ObOk.keep hG hk e1 e2 hw (h.obs k g o e)
    · exact h'
  sep := hsep
  new := hnew
  fr := hfr
  fresh := hfresh
  base k hp := ⟨(h.base k hp).1, (h.base k hp).2.trans (hk k)⟩
def St.put (σ : St) (d : Option Nat) (v : AV) : St := match d with | some d => { σ with slots := σ.slots.set d v } | none => σ
theorem St.ob_put (σ : St) (d : Option Nat) (v : AV) : (σ.put d v).ob = σ.ob := by cases d <;> rfl
theorem St.len_put (σ : St) (d : Option Nat) (v : AV) : (σ.put d v).slots.length = σ.slots.length := by cases d <;> simp [St.put]
theorem Act.size_put (a : Act) (d : Option Nat) (v : Value) : (a.put d v).tmps.size = a.tmps.size := by cases d <;> simp [Act.put]
theorem Act.defers_put (a : Act) (d : Option Nat) (v : Value) : (a.put d v).defers = a.defers := by cases d <;> simp [Act.put]
theorem slot_put (hsz : σ.slots.length ≤ a.tmps.size) (d : Option Nat) (x : AV) (v : Value) (t : Nat) :
    ((σ.put d x).slot t = σ.slot t ∧ (a.put d v).tmps.getD t undef = a.tmps.getD t undef) ∨ ((σ.put d x).slot t = x ∧ (a.put d v).tmps.getD t undef = v) ∨ (σ.put d x).slot t = .any := by
  cases d with
  | none => exact .inl ⟨rfl, rfl⟩
  | some d =>
    by_cases e : d = t
    · subst e
      by_cases hl : d < σ.slots.length
      · refine .inr (.inl ⟨?_, ?_⟩)
        · simp [St.put, St.slot, List.getD_eq_getElem?_getD, hl]
        · have : d < a.tmps.size := by omega
          simp [Act.put, Array.getD_eq_getD_getElem?, this]
      · refine .inr (.inr ?_)
        simp [St.put, St.slot, List.getD_eq_getElem?_getD, hl]
    · refine .inl ⟨?_, ?_⟩
      · simp [St.put, St.slot, List.getD_eq_getElem?_getD, e]
      · simp [Act.put, Array.getD_eq_getD_getElem?, e]
theorem RepAV.any_ (v : Value) : RepAV ob c .any v := trivial
theorem slot_put' {P : St → Prop} (hsz : σ.slots.length ≤ a.tmps.size) (d : Option Nat) (x : AV) (v : Value) (hx : RepAV ob c x v) (t : Nat) :
    ((σ.put d x).slot t = σ.slot t ∧ (a.put d v).tmps.getD t undef = a.tmps.getD t undef) ∨ RepAV ob c ((σ.put d x).slot t) ((a.put d v).tmps.getD t undef) := by
  rcases slot_put hsz d x v t with h | ⟨h1, h2⟩ | h
  · exact .inl h
  · right; rw [h1, h2]; exact hx
  · right; rw [h]; trivial
theorem Rel.setSlot (h : Rel w0 S0 G0 σ c a w) (d : Option Nat) (x : AV) (v : Value) (hx : RepAV σ.ob c x v) : Rel w0 S0 G0 (σ.put d x) c (a.put d v) w :=
  h.step (Gh.le_refl _) (fun k => Keeps.same (by rw [St.ob_put]) rfl rfl) h.imm (by rw [St.len_put, Act.size_put]; exact h.sz)
    (fun t => by rw [St.ob_put]; exact slot_put' (P := fun _ => True) h.sz d x v hx t) (by rw [Act.defers_put]; exact h.df)
    (fun k g o ho => by rw [St.ob_put] at ho; exact .inl ⟨ho, rfl, rfl, fun _ b hb => ⟨rfl, fun _ => rfl⟩⟩)
    (by rw [St.ob_put]; exact h.sep) (by rw [St.ob_put]; exact h.new) h.fr h.fresh
theorem Rel.drew (h : Rel w0 S0 G0 σ c a w) (n : Nat) (hn : w.drawn ≤ n) : Rel w0 S0 G0 σ c a { w with drawn := n } :=
  h.step (Gh.le_refl _) (fun k => Keeps.same rfl rfl rfl) h.imm h.sz (fun t => .inl ⟨rfl, rfl⟩) h.df
    (fun k g o ho => .inl ⟨ho, rfl, rfl, fun _ b hb => ⟨rfl, fun _ => rfl⟩⟩) h.sep h.new ⟨h.fr.os, h.fr.tape, h.fr.output, h.fr.size, h.fr.block, Nat.le_trans h.fr.drawn hn⟩ h.fresh
theorem Rel.blk_lt (h : Rel w0 S0 G0 σ c a w) {k g : Nat} {o : AObj} {b : Nat} (ho : σ.ob k = (g, some o)) (hw : owned o = true) (hb : c.ρ k = some b) : b < w.heap.size := by
  have hk := h.obs k g o ho
  cases o with
  | map ds =>
    obtain ⟨b', es, cl, hb', hh, _⟩ := hk
    rw [hb] at hb'; cases hb'
    exact (Array.getElem?_eq_some_iff.1 hh).1
  | blk cells =>
    obtain ⟨b', cs, ty, hb', hh, _⟩ := hk
    rw [hb] at hb'; cases hb'
    exact (Array.getElem?_eq_some_iff.1 hh).1
  | fro cells => simp [owned] at hw
  | view e xs => simp [owned] at hw
  | row own e xs =>
    rcases hk with ⟨e1, _⟩ | ⟨b', cs, ty, hb', hh, _⟩
    · rw [hb] at e1; cases e1
    · rw [hb] at hb'; cases hb'
      exact (Array.getElem?_eq_some_iff.1 hh).1
theorem Rel.gh_lt (h : Rel w0 S0 G0 σ c a w) {b o : Nat} {v : Value} (hg : c.G b o = some v) : b < w.heap.size := by
  have := h.imm b o v hg
  unfold World.cell? at this
  cases e : w.heap[b]? with
  | none => rw [e] at this; simp at this
  | some x => exact (Array.getElem?_eq_some_iff.1 e).1
end Go.E2
namespace Go.E2
open Go.RowKit
set_option linter.unusedVariables false
set_option linter.unusedSimpArgs false
inductive RM (α : Type) where
  | ret (a : α)
  | fail
  | slot (t : Nat) (k : AV → RM α)
  | obj (q : Nat) (k : Nat × Option AObj → RM α)
def RM.val {α : Type} (σ : St) : RM α → Option α
  | .ret a => some a
  | .fail => none
  | .slot t k => (k (σ.slot t)).val σ
  | .obj q k => (k (σ.ob q)).val σ
def RM.sees {α : Type} (σ : St) : RM α → List Nat × List Nat
  | .ret _ => ([], [])
  | .fail => ([], [])
  | .slot t k => let r := (k (σ.slot t)).sees σ; (t :: r.1, r.2)
  | .obj q k => let r := (k (σ.ob q)).sees σ; (r.1, q :: r.2)
theorem RM.agree {α : Type} {σ σ' : St} : ∀ (m : RM α), (∀ t ∈ (m.sees σ).1, σ'.slot t = σ.slot t) → (∀ q ∈ (m.sees σ).2, σ'.ob q = σ.ob q) → m.val σ' = m.val σ
  | .ret _, _, _ => rfl
  | .fail, _, _ => rfl
  | .slot t k, h1, h2 => by
    simp only [RM.val, RM.sees] at *
    rw [h1 t (.head _)]
    exact RM.agree _ (fun u hu => h1 u (.tail _ hu)) h2
  | .obj q k, h1, h2 => by
    simp only [RM.val, RM.sees] at *
    rw [h2 q (.head _)]
    exact RM.agree _ h1 (fun u hu => h2 u (.tail _ hu))
structure Eff where
  val : AV
  upd : List (Nat × Nat × Option AObj)
def St.lays (σ : St) (us : List (Nat × Nat × Option AObj)) : St := { σ with obs := us.foldl (fun l u => lay l u.1 u.2) σ.obs }
def St.app (σ : St) (d : Option Nat) (e : Eff) : St := (σ.lays e.upd).put d e.val
structure Ty where
  agg : Bool
  size : Nat
  bytes : Nat
  elem : Nat
  fields : List (Nat × Nat)
  zero : List At
  es : List Nat
  str : Bool
  bool : Bool
  int : Option IntKind
  apl : List (Nat × Nat)
  deriving Inhabited
def constAt : Value → At
  | .int k n => .pv (.int k n)
  | .bool b => .pv (.bool b)
  | .string s => .pv (.str s)
  | .slice A n m => if A = none ∧ n = 0 ∧ m = 0 then .nil else .any
  | _ => .any
def constV : Value → AV
  | .agg cs => .one (.agg (cs.toList.map constAt))
  | .tuple _ => .any
  | v => .one (.at (constAt v))
structure TyOk (P : Program) (t : Nat) (ty : Ty) : Prop where
  info : ∃ i z, P.info? t = some i ∧ i.size = ty.size ∧ i.bytes = ty.bytes ∧ i.zero = some z ∧ z.cells.toList.map constAt = ty.zero ∧ z.cells.size = ty.size ∧ (z.cells.all (·.oneCell') = true)
  isAgg : ∃ d, P.underlying t = some d ∧ (d.isRow = ty.agg)
  slice : ty.elem ≠ 0 → P.underlying t = some (.slice ty.elem)
  str : ty.str = true → P.underlying t = some .string
  bool : ty.bool = true → P.underlying t = some .bool
  int : ∀ k, ty.int = some k → P.underlying t = some (.int k)
  fields : ty.fields ≠ [] → ∃ F : Array Field, P.underlying t = some (.struct F) ∧ F.size = ty.fields.length ∧ ∀ (i : Nat) (q : Nat × Nat), ty.fields[i]? = some q → ∃ f : Field, F[i]? = some f ∧ f.offset = q.1 ∧ f.type = q.2
  arr : ty.apl ≠ [] → ∃ n e i, P.underlying t = some (.array n e) ∧ P.info? e = some i ∧ ty.apl.length = n ∧ ∀ (j : Nat) (q : Nat × Nat), ty.apl[j]? = some q → q = (j * i.size, e)
def opnd {α : Type} (x : Operand) (k : AV → RM α) : RM α :=
  match x with
  | .tmp t => .slot t k
  | .const v => k (constV v)
  | .func f => k (.one (.at (.pv (.fn f []))))
  | .global _ => .fail
def absO (σ : St) : Operand → AV
  | .tmp t => σ.slot t
  | .const v => constV v
  | .func f => .one (.at (.pv (.fn f [])))
  | .global _ => .any
theorem val_opnd {α : Type} {σ : St} {x : Operand} {k : AV → RM α} {r : α} (h : (opnd x k).val σ = some r) : (k (absO σ x)).val σ = some r := by
  cases x with
  | tmp t => exact h
  | const v => exact h
  | func f => exact h
  | global g => simp [opnd, RM.val] at h
variable {ob : Obs} {c : Con} {w w' w0 : World} {S0 : Own} {G0 : Gh} {σ σ' : St} {a a' : Act} {P : Program}
theorem rep_constAt (v : Value) : RepAt ob c (constAt v) v := by
  cases v <;> try trivial
  case int k n => exact .int _ _
  case bool b => exact .bool _
  case string s => exact .str _
  case slice A n m =>
    unfold constAt
    dsimp only
    split
    · rename_i h
      obtain ⟨rfl, rfl, rfl⟩ := h
      rfl
    · trivial
theorem rep_constV (v : Value) : RepAV ob c (constV v) v := by
  unfold constV
  split
  · rename_i cs
    refine ⟨cs, rfl, by simp, fun i x hx => ?_⟩
    rw [List.getElem?_map] at hx
    obtain ⟨u, hu, rfl⟩ := Option.map_eq_some_iff.1 hx
    rw [Array.getElem?_toList] at hu
    rw [Array.getD_eq_getD_getElem?, hu]
    exact rep_constAt u
  · trivial
  · exact rep_constAt _
theorem Rel.opnd (h : Rel w0 S0 G0 σ c a w) (x : Operand) : RepAV σ.ob c (absO σ x) (a.eval x) := by
  cases x with
  | tmp t => exact h.slots t
  | const v => exact rep_constV v
  | func f => exact Rep.fn f [] #[] rfl (by simp)
  | global g => trivial
def Done (P : Program) (w0 : World) (S0 : Own) (G0 : Gh) (σ : St) (o : Oper) (e : Eff) : Prop :=
  ∀ c a w, Rel w0 S0 G0 σ c a w → ∃ v w', ((execOp a.eval o).run P w = .ok (.value v) w' ∨ ((execOp a.eval o).run P w = .ok .skip w' ∧ v = undef)) ∧ ∃ c', Rel w0 S0 G0 (σ.app o.dst e) c' (a.put o.dst v) w'
theorem Done.pure {o : Oper} {x : AV} (h : ∀ c a w, Rel w0 S0 G0 σ c a w → ∃ v, (execOp a.eval o).run P w = .ok (.value v) w ∧ RepAV σ.ob c x v) : Done P w0 S0 G0 σ o ⟨x, []⟩ := by
  intro c a w hr
  obtain ⟨v, h1, h2⟩ := h c a w hr
  exact ⟨v, w, .inl h1, c, hr.setSlot o.dst x v h2⟩
def absMove (x : Operand) : RM Eff := opnd x fun v => .ret ⟨v, []⟩
theorem done_move {o : Oper} {x : Operand} {e : Eff} (ho : o.op = .move x ∨ o.op = .assign x) (h : (absMove x).val σ = some e) : Done P w0 S0 G0 σ o e := by
  replace h := val_opnd h
  simp only [RM.val, Option.some.injEq] at h
  subst h
  refine Done.pure fun c a w hr => ⟨a.eval x, ?_, hr.opnd x⟩
  rcases ho with ho | ho <;> simp [execOp, ho]
def absPick (x y z : Operand) : RM Eff := opnd x fun v => match v with
  | .one (.at (.pv (.bool b))) => if b then absMove y else absMove z
  | _ => .fail
theorem done_pick {o : Oper} {x y z : Operand} {e : Eff} (ho : o.op = .pick x y z) (h : (absPick x y z).val σ = some e) : Done P w0 S0 G0 σ o e := by
  replace h := val_opnd h
  generalize hv : absO σ x = v at h
  split at h
  case h_1 b =>
    have key : ∃ q, (absMove q).val σ = some e ∧ (if b then y else z) = q := by
      cases b
      · exact ⟨z, h, rfl⟩
      · exact ⟨y, h, rfl⟩
    obtain ⟨q, hq, eq⟩ := key
    have hq := val_opnd hq
    simp only [RM.val, Option.some.injEq] at hq
    subst hq
    refine Done.pure fun c a w hr => ⟨a.eval q, ?_, hr.opnd q⟩
    have hx := hr.opnd x
    rw [hv] at hx
    have hx : a.eval x = .bool b := by
      generalize a.eval x = u at hx
      cases hx
      rfl
    cases b <;> simp [execOp, ho, hx, asBool, ← eq]
  case h_2 => simp [RM.val] at h
def absBin (op : BinOp) (x y : PV) : Option PV :=
  match x, y with
  | .int k a, .int k' b =>
    match op with
    | .shl => if b < 0 then none else some (.int k (k.wrap (a * 2 ^ (min b.toNat k.bits))))
    | .shr => if b < 0 then none else some (.int k (a.fdiv (2 ^ (min b.toNat k.bits))))
    | _ => if k ≠ k' then none else
      match op with
      | .add => some (.int k (k.wrap (a + b)))
      | .sub => some (.int k (k.wrap (a - b)))
      | .mul => some (.int k (k.wrap (a * b)))
      | .quo => if b = 0 then none else some (.int k (k.wrap (a.tdiv b)))
      | .rem => if b = 0 then none else some (.int k (a.tmod b))
      | .and => some (.int k (k.wrap ((BitVec.ofInt k.bits a &&& BitVec.ofInt k.bits b).toNat : Int)))
      | .or => some (.int k (k.wrap ((BitVec.ofInt k.bits a ||| BitVec.ofInt k.bits b).toNat : Int)))
      | .xor => some (.int k (k.wrap ((BitVec.ofInt k.bits a ^^^ BitVec.ofInt k.bits b).toNat : Int)))
      | .eql => some (.bool (a == b))
      | .neq => some (.bool (a != b))
      | .lss => some (.bool (decide (a < b)))
      | .leq => some (.bool (decide (a ≤ b)))
      | .gtr => some (.bool (decide (a > b)))
      | .geq => some (.bool (decide (a ≥ b)))
      | _ => none
  | .str a, .str b =>
    match op with
    | .add => if ((a.size + b.size : Nat) : Int) > IntKind.i64.max then none else some (.str (a ++ b))
    | .eql => some (.bool (a.toList == b.toList))
    | .neq => some (.bool (!(a.toList == b.toList)))
    | .lss => some (.bool (Op.bytesLess a.toList b.toList))
    | .leq => some (.bool (Op.bytesLess a.toList b.toList || a.toList == b.toList))
    | .gtr => some (.bool (!(Op.bytesLess a.toList b.toList || a.toList == b.toList)))
    | .geq => some (.bool (!(Op.bytesLess a.toList b.toList)))
    | _ => none
  | _, _ => none
def toV : PV → Value
  | .int k n => .int k n
  | .bool b => .bool b
  | .str s => .string s
  | _ => undef
theorem run_absBin {op : BinOp} {x y r : PV} (t : TypeId) (h : absBin op x y = some r) (w : World) : (binOp op t (toV x) (toV y)).run P w = .ok (toV r) w := by
  unfold absBin at h
  split at h
  case h_1 k a k' b =>
    cases op <;> simp only at h <;> (try (split at h)) <;> (try (split at h)) <;> first
      | (cases h; done)
      | (rename_i c; simp only [Option.some.injEq] at h; subst h; simp [toV, binOp, Op.shift, c]; done)
      | (simp_all [toV, binOp, Op.intArith, Op.intCmp, Op.intDiv, Op.intBits, Op.shift] <;> (subst h; simp [toV]); done)
      | (simp_all [toV, binOp, Op.intArith, Op.intCmp, Op.intDiv, Op.intBits, Op.shift]; done)
  case h_2 a b =>
    cases op <;> simp only at h <;> (try (split at h)) <;> first
      | (cases h; done)
      | (rename_i c; simp only [Option.some.injEq] at h; subst h; simp only [toV, binOp, Op.stringOp]; rw [if_neg c]; rfl)
      | (simp only [Option.some.injEq] at h; subst h; rfl)
  case h_3 => cases h
end Go.E2
namespace Go.E2
open Go.RowKit
set_option linter.unusedVariables false
set_option linter.unusedSimpArgs false
variable {ob : Obs} {c : Con} {w w' w0 : World} {S0 : Own} {G0 G : Gh} {σ σ' : St} {a a' : Act} {P : Program}
theorem rep_int {k : IntKind} {n : Int} {v : Value} (h : Rep G (.int k n) v) : v = .int k n := by cases h; rfl
theorem rep_bool {b : Bool} {v : Value} (h : Rep G (.bool b) v) : v = .bool b := by cases h; rfl
theorem rep_str {s : ByteArray} {v : Value} (h : Rep G (.str s) v) : v = .string s := by cases h; rfl
theorem rep_bin {op : BinOp} {x y r : PV} {u v : Value} (h : absBin op x y = some r) (hx : Rep G x u) (hy : Rep G y v) : u = toV x ∧ v = toV y := by
  unfold absBin at h
  split at h
  case h_1 => exact ⟨rep_int hx, rep_int hy⟩
  case h_2 => exact ⟨rep_str hx, rep_str hy⟩
  case h_3 => cases h
theorem absBin_rep {op : BinOp} {x y r : PV} (h : absBin op x y = some r) : Rep G r (toV r) := by
  have : (∃ k n, r = .int k n) ∨ (∃ b, r = .bool b) ∨ ∃ s, r = .str s := by
    unfold absBin at h
    split at h
    case h_1 => cases op <;> simp only at h <;> (try (split at h)) <;> (try (split at h)) <;> first | (cases h; done) | (simp only [Option.some.injEq] at h; subst h; first | exact .inl ⟨_, _, rfl⟩ | exact .inr (.inl ⟨_, rfl⟩) | exact .inr (.inr ⟨_, rfl⟩))
    case h_2 => cases op <;> simp only at h <;> (try (split at h)) <;> first | (cases h; done) | (simp only [Option.some.injEq] at h; subst h; first | exact .inl ⟨_, _, rfl⟩ | exact .inr (.inl ⟨_, rfl⟩) | exact .inr (.inr ⟨_, rfl⟩))
    case h_3 => cases h
  rcases this with ⟨k, n, rfl⟩ | ⟨b, rfl⟩ | ⟨s, rfl⟩
  · exact .int _ _
  · exact .bool _
  · exact .str _
def absBinO (op : BinOp) (x y : Operand) : RM Eff := opnd x fun u => opnd y fun v => match u, v with
  | .one (.at (.pv p)), .one (.at (.pv q)) => match absBin op p q with
    | some r => .ret ⟨.one (.at (.pv r)), []⟩
    | none => .fail
  | _, _ => .fail
theorem eqGuard_plain (op : BinOp) (t : TypeId) (x y : Operand) {p q r : PV} (h : absBin op p q = some r) (w : World) : (eqGuard op t x y (toV p) (toV q)).run P w = .ok () w := by
  unfold absBin at h
  split at h
  case h_1 => cases op <;> simp [eqGuard, toV]
  case h_2 => cases op <;> simp [eqGuard, toV]
  case h_3 => cases h
theorem done_bin {o : Oper} {op : BinOp} {t ty : TypeId} {x y : Operand} {e : Eff} (ho : o.op = .binOp op t x y ty) (h : (absBinO op x y).val σ = some e) : Done P w0 S0 G0 σ o e := by
  replace h := val_opnd h
  replace h := val_opnd h
  generalize hu : absO σ x = u at h
  generalize hv : absO σ y = v at h
  split at h
  case h_2 => simp [RM.val] at h
  case h_1 p q =>
    split at h
    case h_2 => simp [RM.val] at h
    case h_1 r hr =>
      simp only [RM.val, Option.some.injEq] at h
      subst h
      refine Done.pure fun c a w hR => ⟨toV r, ?_, absBin_rep hr⟩
      have h1 := hR.opnd x
      have h2 := hR.opnd y
      rw [hu] at h1
      rw [hv] at h2
      obtain ⟨e1, e2⟩ := rep_bin hr h1 h2
      simp [execOp, ho, e1, e2, eqGuard_plain op t x y hr, run_absBin t hr]
def absUn (op : UnOp) (x : Operand) : RM Eff := opnd x fun u => match op, u with
  | .not, .one (.at (.pv (.bool b))) => .ret ⟨.one (.at (.pv (.bool (!b)))), []⟩
  | .neg, .one (.at (.pv (.int k n))) => .ret ⟨.one (.at (.pv (.int k (k.wrap (0 - n))))), []⟩
  | _, _ => .fail
theorem done_un {o : Oper} {op : UnOp} {t : TypeId} {x : Operand} {e : Eff} (ho : o.op = .unOp op t x) (h : (absUn op x).val σ = some e) : Done P w0 S0 G0 σ o e := by
  replace h := val_opnd h
  generalize hu : absO σ x = u at h
  split at h
  case h_1 =>
    rename_i b
    simp only [RM.val, Option.some.injEq] at h
    subst h
    refine Done.pure fun c a w hR => ⟨.bool (!b), ?_, Rep.bool _⟩
    have h1 := hR.opnd x
    rw [hu] at h1
    simp [execOp, ho, rep_bool h1, Op.unary]
  case h_2 =>
    rename_i k n
    simp only [RM.val, Option.some.injEq] at h
    subst h
    refine Done.pure fun c a w hR => ⟨.int k (k.wrap (0 - n)), ?_, Rep.int _ _⟩
    have h1 := hR.opnd x
    rw [hu] at h1
    simp [execOp, ho, rep_int h1, Op.unary, Op.intArith]
  case h_3 => simp [RM.val] at h
def retLoad (ty : Ty) (l : List At) : RM Eff :=
  if l.length = ty.size then (if ty.agg then .ret ⟨.one (.agg l), []⟩ else match l with | [x] => .ret ⟨.one (.at x), []⟩ | _ => .fail) else .fail
def gone (g : Nat) (x : Nat × Option AObj) : Option AObj := if x.1 = g then x.2 else none
def absLoad (tab : Nat → Option Ty) (t : Nat) (x : Operand) : RM Eff := opnd x fun v => match tab t with
  | none => .fail
  | some ty => match v with
    | .one (.at (.ptr k g off)) => if off < cloN then .obj k fun q => match gone g q with
      | some (.blk cells) => retLoad ty ((cells.drop off).take ty.size)
      | some (.fro cells) => retLoad ty (((cells.drop off).take ty.size).map .pv)
      | _ => .fail else .fail
    | .one (.at (.pv (.ref cells))) => retLoad ty ((cells.take ty.size).map .pv)
    | .one (.at (.eptr k g j off)) => .obj k fun q => match gone g q with
      | some (.row _ _ xs) => match xs[j]? with
        | some x => retLoad ty (((x.drop off).take ty.size).map .pv)
        | none => .fail
      | some (.view _ xs) => match xs[j]? with
        | some x => retLoad ty (((x.drop off).take ty.size).map .pv)
        | none => .fail
      | _ => .fail
    | _ => .fail
theorem run_load_word {t : Nat} {d : TypeDesc} (hu : P.underlying t = some d) (hd : d.isRow = false) {b o : Nat} {v : Value} (hc : w.cell? ⟨b, o, none⟩ = some v) :
    (Instr.loadAt t (.pointer (some ⟨b, o, none⟩))).run P w = .ok v w := by
  have hagg : (isAgg t).run P w = .ok false w := by
    unfold isAgg
    rw [Sem.run_bind, run_underlying hu w]
    cases d <;> simp_all
  simp [Instr.loadAt, Instr.sureAddr, loadVar, hagg, load, Sem.run, hc]
theorem load_cells {ty : Ty} {t : Nat} {l : List At} {e : Eff} (ht : TyOk P t ty) (h : (retLoad ty l).val σ = some e) (b o : Nat)
    (hc : ∀ i x, l[i]? = some x → ∃ v, w.cell? ⟨b, o + i, none⟩ = some v ∧ RepAt ob c x v) :
    e.upd = [] ∧ ∃ v, (Instr.loadAt t (.pointer (some ⟨b, o, none⟩))).run P w = .ok v w ∧ RepAV ob c e.val v := by
  obtain ⟨d, hu, hd⟩ := ht.isAgg
  unfold retLoad at h
  split at h
  case isFalse => simp [RM.val] at h
  case isTrue hl =>
    split at h
    case isTrue ha =>
      simp only [RM.val, Option.some.injEq] at h
      subst h
      refine ⟨rfl, ?_⟩
      let vs : List Value := (List.range l.length).map fun i => (w.cell? ⟨b, o + i, none⟩).getD undef
      have hv : ∀ i x, l[i]? = some x → w.cell? ⟨b, o + i, none⟩ = some (vs.getD i undef) ∧ RepAt ob c x (vs.getD i undef) := fun i x hx => by
        obtain ⟨v, h1, h2⟩ := hc i x hx
        have hi := (List.getElem?_eq_some_iff.1 hx).1
        have e : vs.getD i undef = v := by simp [vs, List.getD_eq_getElem?_getD, hi, h1]
        rw [e]
        exact ⟨h1, h2⟩
      obtain ⟨i, z, hi, hsz, _⟩ := ht.info
      have hlen : vs.length = l.length := by simp [vs]
      refine ⟨.agg vs.toArray, run_loadAt_mid w b o t vs d (fun j v hj => ?_) hu (by rw [hd, ha]) (by rw [hi, Option.map_some, hlen, hl, hsz]), vs.toArray, rfl, by simp [hlen], fun i x hx => ?_⟩
      · have hj' := (List.getElem?_eq_some_iff.1 hj).1
        obtain ⟨x, hx⟩ : ∃ x, l[j]? = some x := ⟨l[j]'(by omega), List.getElem?_eq_getElem (by omega)⟩
        rw [(hv j x hx).1, List.getD_eq_getElem?_getD, hj]
        rfl
      · have := (hv i x hx).2
        rw [Array.getD_eq_getD_getElem?, List.getElem?_toArray]
        rw [List.getD_eq_getElem?_getD] at this
        exact this
    case isFalse ha =>
      split at h
      case h_2 => simp [RM.val] at h
      case h_1 x =>
        simp only [RM.val, Option.some.injEq] at h
        subst h
        obtain ⟨v, h1, h2⟩ := hc 0 x rfl
        refine ⟨rfl, v, run_load_word hu (by rw [hd]; simpa using ha) h1, h2⟩
theorem drop_take_get {α : Type} {l : List α} {off n i : Nat} {x : α} (h : ((l.drop off).take n)[i]? = some x) : l[off + i]? = some x := by
  rw [List.getElem?_take] at h
  split at h
  · rw [List.getElem?_drop] at h; exact h
  · cases h
theorem map_get {α β : Type} {f : α → β} {l : List α} {i : Nat} {x : β} (h : (l.map f)[i]? = some x) : ∃ y, l[i]? = some y ∧ f y = x := by
  rw [List.getElem?_map] at h
  exact Option.map_eq_some_iff.1 h
theorem gone_some {g : Nat} {x : Nat × Option AObj} {o : AObj} (h : gone g x = some o) : x = (g, some o) := by
  unfold gone at h
  split at h
  · rename_i e
    obtain ⟨x1, x2⟩ := x
    simp only at e h
    rw [e, h]
  · cases h
theorem alive_of {ob : Obs} {k g : Nat} {o : AObj} (h : ob k = (g, some o)) : alive ob k g = some o := by unfold alive; rw [h, if_pos rfl]
theorem cell_of_blk {w : World} {b : Nat} {cs : Array Value} {ty : TypeId} (h : w.heap[b]? = some (.cells cs ty (0, 0))) (i : Nat) : w.cell? ⟨b, i, none⟩ = cs[i]? := by
  simp [World.cell?, h]
theorem get_of_getD {cs : Array Value} {i : Nat} (h : i < cs.size) : cs[i]? = some (cs.getD i undef) := by
  rw [Array.getD_eq_getD_getElem?, Array.getElem?_eq_getElem h]
  rfl
theorem Rel.row_elem (h : Rel w0 S0 G0 σ c a w) {k g e : Nat} {o : AObj} {xs : List (List PV)} (ho : σ.ob k = (g, some o)) (hx : o = .row true e xs ∨ o = .row false e xs ∨ o = .view e xs) {j : Nat} {x : List PV} (hj : xs[j]? = some x) :
    ∃ b, c.ρ k = some b ∧ xs.length ≤ c.cp k ∧ x.length = e ∧ ∀ i y, x[i]? = some y → ∃ v, w.cell? ⟨b, j * e + i, none⟩ = some v ∧ Rep c.G y v := by
  have hk := h.obs k g o ho
  have hjl := (List.getElem?_eq_some_iff.1 hj).1
  have rowcase : ∀ own, ObOk σ.ob c w k (.row own e xs) → ∃ b, c.ρ k = some b ∧ xs.length ≤ c.cp k ∧ x.length = e ∧ ∀ i y, x[i]? = some y → ∃ v, w.cell? ⟨b, j * e + i, none⟩ = some v ∧ Rep c.G y v := by
    intro own hk
    rcases hk with ⟨_, e2, _⟩ | ⟨b, cs, ty, hb, hh, hl, hc, hw, hr, _⟩
    · subst e2; simp at hj
    · have hxe := hw j x hj
      refine ⟨b, hb, hl.1, hxe, fun i y hy => ?_⟩
      have hil := (List.getElem?_eq_some_iff.1 hy).1
      have : j * e + i < cs.size := by
        rw [hc]
        have h1 : (j + 1) * e ≤ c.cp k * e := Nat.mul_le_mul_right e (by omega)
        rw [Nat.succ_mul] at h1
        omega
      exact ⟨_, by rw [cell_of_blk hh]; exact get_of_getD this, hr j x i y hj hy⟩
  rcases hx with rfl | rfl | rfl
  · exact rowcase true hk
  · exact rowcase false hk
  · rcases hk with ⟨_, e2⟩ | ⟨b, hb, hl, hw, hr⟩
    · subst e2; simp at hj
    · exact ⟨b, hb, hl, hw j x hj, fun i y hy => let ⟨v, h1, h2⟩ := hr j x i y hj hy; ⟨v, h.imm _ _ _ h1, h2⟩⟩
theorem load_run {tab : Nat → Option Ty} {t : Nat} {x : Operand} {e : Eff} (htab : ∀ t ty, tab t = some ty → TyOk P t ty) (h : (absLoad tab t x).val σ = some e) {c : Con} {a : Act} {w : World} (hR : Rel w0 S0 G0 σ c a w) :
    e.upd = [] ∧ ∃ v, (Instr.loadAt t (a.eval x)).run P w = .ok v w ∧ RepAV σ.ob c e.val v := by
  replace h := val_opnd h
  cases hty : tab t with
  | none => rw [hty] at h; simp [RM.val] at h
  | some ty =>
    rw [hty] at h
    have ht := htab t ty hty
    have hx := hR.opnd x
    generalize absO σ x = u at h hx
    dsimp only at h
    split at h
    case h_1 k g off =>
      split at h
      case isFalse => simp [RM.val] at h
      rename_i hlt
      simp only [RM.val] at h
      obtain ⟨hg, hp⟩ := hx
      cases hq : gone g (σ.ob k) with
      | none => rw [hq] at h; simp [RM.val] at h
      | some ob1 =>
        have hob := gone_some hq
        have hal := alive_of hob
        have hk := hR.obs k g ob1 hob
        rw [hq] at h
        cases ob1 with
        | map ds => simp [RM.val] at h
        | row own e xs => simp [RM.val] at h
        | view e xs => simp [RM.val] at h
        | blk cells =>
          obtain ⟨b, hb, hv⟩ := hp (by rw [hal]; rfl)
          obtain ⟨b', cs, ty', hb', hh, hl, hr, _⟩ := hk
          rw [hb] at hb'; cases hb'
          rw [hv, pval_ptr hlt]
          refine load_cells ht h b off fun i x hx => ?_
          have hx := drop_take_get hx
          have hi := (List.getElem?_eq_some_iff.1 hx).1
          exact ⟨_, by rw [cell_of_blk hh]; exact get_of_getD (by omega), hr _ _ hx⟩
        | fro cells =>
          obtain ⟨b, hb, hv⟩ := hp (by rw [hal]; rfl)
          obtain ⟨b', hb', hr⟩ := hk
          rw [hb] at hb'; cases hb'
          rw [hv, pval_ptr hlt]
          refine load_cells ht h b off fun i x hx => ?_
          obtain ⟨y, hy, rfl⟩ := map_get hx
          obtain ⟨v, h1, h2⟩ := hr _ _ (drop_take_get hy)
          exact ⟨v, hR.imm _ _ _ h1, h2⟩
    case h_2 cells =>
      have hx : Rep c.G (.ref cells) (a.eval x) := hx
      generalize a.eval x = u at hx
      cases hx with
      | ref _ g o f hg hr =>
        refine load_cells ht h g o fun i x hx => ?_
        obtain ⟨y, hy, rfl⟩ := map_get hx
        rw [List.getElem?_take] at hy
        split at hy
        · exact ⟨_, hR.imm _ _ _ (hg i y hy), hr i y hy⟩
        · cases hy
    case h_3 k g j off =>
      simp only [RM.val] at h
      obtain ⟨hg, hp⟩ := hx
      cases hq : gone g (σ.ob k) with
      | none => rw [hq] at h; simp [RM.val] at h
      | some ob1 =>
        have hob := gone_some hq
        have hal := alive_of hob
        rw [hq] at h
        have rest : ∀ e1 xs, (ob1 = .row true e1 xs ∨ ob1 = .row false e1 xs ∨ ob1 = .view e1 xs) → (match xs[j]? with | some x => retLoad ty (((x.drop off).take ty.size).map .pv) | none => RM.fail).val σ = some e →
            e.upd = [] ∧ ∃ v, (Instr.loadAt t (a.eval x)).run P w = .ok v w ∧ RepAV σ.ob c e.val v := by
          intro e1 xs hxs h
          cases hj : xs[j]? with
          | none => rw [hj] at h; simp [RM.val] at h
          | some x1 =>
            rw [hj] at h
            obtain ⟨b, hb, _, _, hr⟩ := hR.row_elem hob hxs hj
            obtain ⟨b', hb', hv⟩ := hp e1 (by rw [hal]; rcases hxs with rfl | rfl | rfl <;> rfl)
            rw [hb] at hb'; cases hb'
            rw [hv]
            refine load_cells ht h b _ fun i y hy => ?_
            obtain ⟨z, hz, rfl⟩ := map_get hy
            obtain ⟨v, h1, h2⟩ := hr _ _ (drop_take_get hz)
            exact ⟨v, by rw [Nat.add_assoc]; exact h1, h2⟩
        cases ob1 with
        | map ds => simp [RM.val] at h
        | blk cells => simp [RM.val] at h
        | fro cells => simp [RM.val] at h
        | row own e1 xs => exact rest e1 xs (by cases own <;> simp) h
        | view e1 xs => exact rest e1 xs (by simp) h
    case h_4 => simp [RM.val] at h
theorem done_load {o : Oper} {tab : Nat → Option Ty} {t : Nat} {x : Operand} {e : Eff} (htab : ∀ t ty, tab t = some ty → TyOk P t ty) (ho : o.op = .load t x) (h : (absLoad tab t x).val σ = some e) : Done P w0 S0 G0 σ o e := by
  intro c a w hR
  obtain ⟨h0, v, h1, h2⟩ := load_run htab h hR
  refine ⟨v, w, .inl (by simp [execOp, ho, h1]), c, ?_⟩
  have := hR.setSlot o.dst e.val v h2
  unfold St.app St.lays
  rw [h0]
  exact this
def absFieldAddr (tab : Nat → Option Ty) (t : Nat) (x : Operand) (f : Nat) : RM Eff := opnd x fun v => match tab t with
  | none => .fail
  | some ty => match ty.fields[f]? with
    | none => .fail
    | some (off, ft) => match tab ft with
      | none => .fail
      | some fty => if fty.size = 0 then .fail else match v with
        | .one (.at (.ptr k g o)) => if o + off < cloN then .obj k fun q => match gone g q with
          | some (.blk _) => .ret ⟨.one (.at (.ptr k g (o + off))), []⟩
          | some (.fro _) => .ret ⟨.one (.at (.ptr k g (o + off))), []⟩
          | _ => .fail else .fail
        | .one (.at (.eptr k g j o)) => .obj k fun q => match gone g q with
          | some (.row _ _ _) => .ret ⟨.one (.at (.eptr k g j (o + off))), []⟩
          | some (.view _ _) => .ret ⟨.one (.at (.eptr k g j (o + off))), []⟩
          | _ => .fail
        | .one (.at (.pv (.ref cells))) => .ret ⟨.one (.at (.pv (.ref (cells.drop off)))), []⟩
        | _ => .fail
theorem run_fieldAt {t f b o : Nat} {ty fty : Ty} {off ft : Nat} (ht : TyOk P t ty) (hf : TyOk P ft fty) (hq : ty.fields[f]? = some (off, ft)) (hs : ¬ fty.size = 0) :
    (Instr.fieldAt t (.pointer (some ⟨b, o, none⟩)) f).run P w = .ok (.pointer (some ⟨b, o + off, none⟩)) w := by
  obtain ⟨F, hF, _, hr⟩ := ht.fields (fun e => by rw [e] at hq; simp at hq)
  obtain ⟨fl, h1, h2, h3⟩ := hr f _ hq
  obtain ⟨i, z, hi, hsz, _⟩ := hf.info
  simp only at h2 h3
  have hi' : P.info? fl.type = some i := by rw [h3, hi]
  have hs' : ¬ i.size = 0 := by rw [hsz]; exact hs
  simp [Instr.fieldAt, Instr.sureAddr, run_underlying hF, h1, fieldPlace, sizeOf, typeInfo, hi', hs', Addr.add_mid, h2]
theorem done_fieldAddr {o : Oper} {tab : Nat → Option Ty} {t f : Nat} {x : Operand} {e : Eff} (htab : ∀ t ty, tab t = some ty → TyOk P t ty) (ho : o.op = .fieldAddr t x f) (h : (absFieldAddr tab t x f).val σ = some e) : Done P w0 S0 G0 σ o e := by
  replace h := val_opnd h
  cases hty : tab t with
  | none => rw [hty] at h; simp [RM.val] at h
  | some ty =>
    rw [hty] at h
    cases hq : ty.fields[f]? with
    | none => simp [hq, RM.val] at h
    | some q =>
      obtain ⟨off, ft⟩ := q
      cases hft : tab ft with
      | none => simp [hq, hft, RM.val] at h
      | some fty =>
        simp only [hq, hft] at h
        split at h
        case isTrue => simp [RM.val] at h
        case isFalse hs =>
          have R := fun (w : World) (b o : Nat) => run_fieldAt (w := w) (b := b) (o := o) (htab t ty hty) (htab ft fty hft) hq hs
          generalize hu : absO σ x = u at h
          split at h
          case h_1 k g off0 =>
            split at h
            case isFalse => simp [RM.val] at h
            rename_i hlt
            simp only [RM.val] at h
            have key : (match gone g (σ.ob k) with
                | some (.blk _) => RM.ret (α := Eff) ⟨.one (.at (.ptr k g (off0 + off))), []⟩
                | some (.fro _) => .ret ⟨.one (.at (.ptr k g (off0 + off))), []⟩
                | _ => .fail).val σ = some e → isVar (gone g (σ.ob k)) = true ∧ e = ⟨.one (.at (.ptr k g (off0 + off))), []⟩ := by
              intro h
              split at h
              · rename_i q; rw [q]; simp only [RM.val, Option.some.injEq] at h; exact ⟨rfl, h.symm⟩
              · rename_i q; rw [q]; simp only [RM.val, Option.some.injEq] at h; exact ⟨rfl, h.symm⟩
              · simp [RM.val] at h
            obtain ⟨hv, he⟩ := key h
            subst he
            refine Done.pure fun c a w hR => ?_
            have hx := hR.opnd x
            rw [hu] at hx
            obtain ⟨hg, hp⟩ := hx
            obtain ⟨b, hb, hv'⟩ := hp hv
            rw [pval_ptr (by omega)] at hv'
            exact ⟨.pointer (some ⟨b, off0 + off, none⟩), by simp [execOp, ho, hv', R], hg, fun _ => ⟨b, hb, (pval_ptr hlt).symm⟩⟩
          case h_2 k g j off0 =>
            simp only [RM.val] at h
            have key : (match gone g (σ.ob k) with
                | some (.row _ _ _) => RM.ret (α := Eff) ⟨.one (.at (.eptr k g j (off0 + off))), []⟩
                | some (.view _ _) => .ret ⟨.one (.at (.eptr k g j (off0 + off))), []⟩
                | _ => .fail).val σ = some e → (∃ e1, rowE (gone g (σ.ob k)) = some e1) ∧ e = ⟨.one (.at (.eptr k g j (off0 + off))), []⟩ := by
              intro h
              split at h
              · rename_i q; rw [q]; simp only [RM.val, Option.some.injEq] at h; exact ⟨⟨_, rfl⟩, h.symm⟩
              · rename_i q; rw [q]; simp only [RM.val, Option.some.injEq] at h; exact ⟨⟨_, rfl⟩, h.symm⟩
              · simp [RM.val] at h
            obtain ⟨⟨e1, hv⟩, he⟩ := key h
            subst he
            refine Done.pure fun c a w hR => ?_
            have hx := hR.opnd x
            rw [hu] at hx
            obtain ⟨hg, hp⟩ := hx
            obtain ⟨b, hb, hv'⟩ := hp e1 hv
            refine ⟨.pointer (some ⟨b, j * e1 + off0 + off, none⟩), by simp [execOp, ho, hv', R], hg, fun e2 h2 => ⟨b, hb, ?_⟩⟩
            have : some e1 = some e2 := hv.symm.trans h2
            cases this
            rw [Nat.add_assoc]
          case h_3 cells =>
            simp only [RM.val, Option.some.injEq] at h
            subst h
            refine Done.pure fun c a w hR => ?_
            have hx := hR.opnd x
            rw [hu] at hx
            have hx : Rep c.G (.ref cells) (a.eval x) := hx
            generalize hz : a.eval x = z at hx
            cases hx with
            | ref _ g o f hg hr =>
              refine ⟨.pointer (some ⟨g, o + off, none⟩), by simp [execOp, ho, hz, R], ?_⟩
              refine Rep.ref (cells.drop off) g (o + off) (fun i => f (off + i)) (fun i c hc => ?_) (fun i c hc => ?_)
              · rw [List.getElem?_drop] at hc; rw [Nat.add_assoc]; exact hg _ _ hc
              · rw [List.getElem?_drop] at hc; exact hr _ _ hc
          case h_4 => simp [RM.val] at h
end Go.E2
namespace Go.E2
open Go.RowKit
set_option linter.unusedVariables false
set_option linter.unusedSimpArgs false
variable {ob : Obs} {c : Con} {w w' w0 : World} {S0 : Own} {G0 G : Gh} {σ σ' : St} {a a' : Act} {P : Program}
theorem St.ob_app1 (σ : St) (d : Option Nat) (x : AV) (k : Nat) (y : Nat × Option AObj) (q : Nat) : (σ.app d ⟨x, [(k, y)]⟩).ob q = if k = q then y else σ.ob q := by
  unfold St.app
  rw [St.ob_put]
  exact look_lay σ.obs k y q
theorem St.len_app (σ : St) (d : Option Nat) (e : Eff) : (σ.app d e).slots.length = σ.slots.length := by
  unfold St.app
  rw [St.len_put]
  rfl
theorem slot_app (hsz : σ.slots.length ≤ a.tmps.size) (d : Option Nat) (e : Eff) (v : Value) (hx : RepAV ob c e.val v) (t : Nat) :
    ((σ.app d e).slot t = σ.slot t ∧ (a.put d v).tmps.getD t undef = a.tmps.getD t undef) ∨ RepAV ob c ((σ.app d e).slot t) ((a.put d v).tmps.getD t undef) :=
  slot_put' (P := fun _ => True) (σ := σ.lays e.upd) hsz d e.val v hx t
theorem Rel.freshX (h : Rel w0 S0 G0 σ c a w) (k : Nat) (o : AObj) (cap : Nat) (X : Obj) (n : Nat) (hdr : w.drawn ≤ n) (d : Option Nat) (x : AV) (v : Value)
    (hob : ∀ (ob' : Obs) (c' : Con), ob' k = ((σ.ob k).1 + 1, some o) → (∀ q, Keeps σ.ob ob' c c' q) → Gh.le c.G c'.G → c'.ρ k = some w.heap.size → c'.cp k = cap → (∀ i, c'.G w.heap.size i = none) →
      ObOk ob' c' { w with heap := w.heap.push X, drawn := n } k o ∧ RepAV ob' c' x v) :
    ∃ c', Rel w0 S0 G0 (σ.app d ⟨x, [(k, (σ.ob k).1 + 1, some o)]⟩) c' (a.put d v) { w with heap := w.heap.push X, drawn := n } := by
  let c' : Con := { ρ := fun q => if q = k then some w.heap.size else c.ρ q, cp := fun q => if q = k then cap else c.cp q, G := c.G }
  have eob := St.ob_app1 σ d x k ((σ.ob k).1 + 1, some o)
  have hkk : (σ.app d ⟨x, [(k, (σ.ob k).1 + 1, some o)]⟩).ob k = ((σ.ob k).1 + 1, some o) := by rw [eob, if_pos rfl]
  have hko : ∀ q, q ≠ k → (σ.app d ⟨x, [(k, (σ.ob k).1 + 1, some o)]⟩).ob q = σ.ob q := fun q hq => by rw [eob, if_neg (fun e => hq e.symm)]
  have hρ : ∀ q, q ≠ k → c'.ρ q = c.ρ q := fun q hq => by simp [c', hq]
  have hcp : ∀ q, q ≠ k → c'.cp q = c.cp q := fun q hq => by simp [c', hq]
  have hK : ∀ q, Keeps σ.ob (σ.app d ⟨x, [(k, (σ.ob k).1 + 1, some o)]⟩).ob c c' q := fun q => by
    by_cases e : q = k
    · subst e; left; rw [hkk]; exact Nat.lt_succ_self _
    · exact Keeps.same (hko q e) (hρ q e) (hcp q e)
  have hGn : ∀ i, c'.G w.heap.size i = none := fun i => by
    show c.G w.heap.size i = none
    cases e : c.G w.heap.size i with
    | none => rfl
    | some v => exact absurd (h.gh_lt e) (Nat.lt_irrefl _)
  obtain ⟨h1, h2⟩ := hob _ c' hkk hK (Gh.le_refl _) (by simp [c']) (by simp [c']) hGn
  refine ⟨c', h.step (Gh.le_refl _) hK (fun b i v hv => ?_) (by rw [St.len_app, Act.size_put]; exact h.sz) (slot_app h.sz d _ v h2) (by rw [Act.defers_put]; exact h.df) (fun q g o' hq => ?_) ?_ ?_ ?_ h.fresh⟩
  · have := h.imm b i v hv
    have hb := h.gh_lt hv
    simpa [World.cell?, Array.getElem?_push, Nat.ne_of_lt hb] using this
  · by_cases e : q = k
    · subst e
      rw [hkk] at hq
      cases hq
      exact .inr h1
    · rw [hko q e] at hq
      refine .inl ⟨hq, hρ q e, hcp q e, fun ho b hb => ⟨?_, fun _ => rfl⟩⟩
      have := h.blk_lt hq ho hb
      simp [Array.getElem?_push, Nat.ne_of_lt this]
  · intro q q' g g' o1 o2 b hq hq' ho1 ho2 hb hb'
    by_cases e : q = k
    · by_cases e' : q' = k
      · rw [e, e']
      · subst e
        rw [hko q' e'] at hq'
        rw [hρ q' e'] at hb'
        have := h.blk_lt hq' ho2 hb'
        simp [c'] at hb
        omega
    · by_cases e' : q' = k
      · subst e'
        rw [hko q e] at hq
        rw [hρ q e] at hb
        have := h.blk_lt hq ho1 hb
        simp [c'] at hb'
        omega
      · rw [hko q e] at hq
        rw [hko q' e'] at hq'
        rw [hρ q e] at hb
        rw [hρ q' e'] at hb'
        exact h.sep q q' g g' o1 o2 b hq hq' ho1 ho2 hb hb'
  · intro q g o1 b hq ho1 hb
    by_cases e : q = k
    · subst e
      simp [c'] at hb
      have := h.fr.size
      left; omega
    · rw [hko q e] at hq
      rw [hρ q e] at hb
      exact h.new q g o1 b hq ho1 hb
  · refine ⟨h.fr.os, h.fr.tape, h.fr.output, by simp; have := h.fr.size; omega, fun q hq hs => ?_, Nat.le_trans h.fr.drawn hdr⟩
    have := h.fr.block q hq hs
    have hlt := h.fr.size
    simp only [Array.getElem?_push]
    rw [if_neg (by omega)]
    exact this
theorem Rel.fresh_ (h : Rel w0 S0 G0 σ c a w) (k : Nat) (o : AObj) (cap : Nat) (cs : Array Value) (ty : TypeId) (n : Nat) (hdr : w.drawn ≤ n) (d : Option Nat) (x : AV) (v : Value)
    (hob : ∀ (ob' : Obs) (c' : Con), ob' k = ((σ.ob k).1 + 1, some o) → (∀ q, Keeps σ.ob ob' c c' q) → Gh.le c.G c'.G → c'.ρ k = some w.heap.size → c'.cp k = cap → (∀ i, c'.G w.heap.size i = none) →
      ObOk ob' c' { w with heap := w.heap.push (.cells cs ty (0, 0)), drawn := n } k o ∧ RepAV ob' c' x v) :
    ∃ c', Rel w0 S0 G0 (σ.app d ⟨x, [(k, (σ.ob k).1 + 1, some o)]⟩) c' (a.put d v) { w with heap := w.heap.push (.cells cs ty (0, 0)), drawn := n } :=
  h.freshX k o cap (.cells cs ty (0, 0)) n hdr d x v hob
def v1cells : V1 → List At
  | .at x => [x]
  | .agg l => l
def sureAt {α : Type} (x : At) (k : RM α) : RM α := match x with
  | .pv _ => k
  | .nil => k
  | .any => .fail
  | .row q g => .obj q fun r => match rowLen (gone g r) with
    | some _ => k
    | none => .fail
  | .ptr q g _ => .obj q fun r => if isVar (gone g r) = true then k else .fail
  | .tail _ _ _ => .fail
  | .eptr q g _ _ => .obj q fun r => match rowE (gone g r) with
    | some _ => k
    | none => .fail
theorem val_sureAt {α : Type} {x : At} {k : RM α} {r : α} (h : (sureAt x k).val σ = some r) : k.val σ = some r ∧ ∀ c v, RepAt σ.ob c x v → v.oneCell' = true := by
  cases x with
  | pv p => exact ⟨h, fun c v hv => by have hv : Rep c.G p v := hv; cases hv <;> rfl⟩
  | nil => exact ⟨h, fun c v hv => by have hv : v = .slice none 0 0 := hv; rw [hv]; rfl⟩
  | any => simp [sureAt, RM.val] at h
  | row q g =>
    simp only [sureAt, RM.val] at h
    cases e : rowLen (gone g (σ.ob q)) with
    | none => rw [e] at h; simp [RM.val] at h
    | some n =>
      rw [e] at h
      exact ⟨h, fun c v hv => by rw [hv.2 n e]; unfold rowVal; split <;> rfl⟩
  | ptr q g off =>
    simp only [sureAt, RM.val] at h
    split at h
    · rename_i e
      exact ⟨h, fun c v hv => by obtain ⟨b, _, e⟩ := hv.2 e; rw [e]; exact pval_one _ _⟩
    · simp [RM.val] at h
  | tail q g j => simp [sureAt, RM.val] at h
  | eptr q g j off =>
    simp only [sureAt, RM.val] at h
    cases e : rowE (gone g (σ.ob q)) with
    | none => rw [e] at h; simp [RM.val] at h
    | some n =>
      rw [e] at h
      exact ⟨h, fun c v hv => by obtain ⟨b, _, e⟩ := hv.2 n e; rw [e]; rfl⟩
def sureAll {α : Type} : List At → RM α → RM α
  | [], k => k
  | x :: l, k => sureAt x (sureAll l k)
theorem val_sureAll {α : Type} {k : RM α} {r : α} : ∀ {l : List At}, (sureAll l k).val σ = some r → k.val σ = some r ∧ ∀ x ∈ l, ∀ c v, RepAt σ.ob c x v → v.oneCell' = true
  | [], h => ⟨h, by simp⟩
  | x :: l, h => by
    obtain ⟨h1, h2⟩ := val_sureAt h
    obtain ⟨h3, h4⟩ := val_sureAll h1
    refine ⟨h3, fun y hy => ?_⟩
    rcases List.mem_cons.1 hy with rfl | hy
    · exact h2
    · exact h4 y hy
def absAlloc (tab : Nat → Option Ty) (t : Nat) (d : Option Nat) : RM Eff := match d, tab t with
  | some d, some ty => .obj d fun q => .ret ⟨.one (.at (.ptr d (q.1 + 1) 0)), [(d, q.1 + 1, some (.blk ty.zero))]⟩
  | _, _ => .fail
theorem done_alloc {o : Oper} {tab : Nat → Option Ty} {t : Nat} {e : Eff} (htab : ∀ t ty, tab t = some ty → TyOk P t ty) (ho : o.op = .alloc t) (h : (absAlloc tab t o.dst).val σ = some e) : Done P w0 S0 G0 σ o e := by
  unfold absAlloc at h
  split at h
  case h_2 => simp [RM.val] at h
  case h_1 d ty hd hty =>
    simp only [RM.val, Option.some.injEq] at h
    subst h
    intro c a w hR
    obtain ⟨i, z, hi, hsz, hby, hz, hzc, hzs, hz1⟩ := (htab t ty hty).info
    refine ⟨.pointer (some ⟨w.heap.size, 0, none⟩), { w with heap := w.heap.push (.cells z.cells t (0, 0)), drawn := w.drawn }, .inl ?_, ?_⟩
    · simp [execOp, ho, Instr.alloc, zeroValue, typeInfo, hi, hz, newVar, newRow, newObj, Sem.run, noResult]
    · rw [hd]
      refine hR.fresh_ d (.blk ty.zero) 0 z.cells t w.drawn (Nat.le_refl _) (some d) _ _ fun ob' c' h1 hK hG h2 h3 h4 => ⟨⟨w.heap.size, z.cells, t, h2, by simp, by rw [← hzc]; simp, fun i x hx => ?_, h4⟩, ?_⟩
      · rw [← hzc] at hx
        obtain ⟨u, hu, rfl⟩ := map_get hx
        rw [Array.getElem?_toList] at hu
        rw [Array.getD_eq_getD_getElem?, hu]
        exact rep_constAt u
      · exact ⟨by rw [h1]; exact Nat.le_refl _, fun _ => ⟨_, h2, rfl⟩⟩
theorem cells_of_V1 {x : V1} {v : Value} (h : RepV1 ob c x v) (h1 : ∀ y ∈ v1cells x, ∀ v, RepAt ob c y v → v.oneCell' = true) : v.cells.size = (v1cells x).length ∧ (∀ i y, (v1cells x)[i]? = some y → RepAt ob c y (v.cells.getD i undef)) ∧ v.cells.all (·.oneCell') = true := by
  cases x with
  | agg l =>
    obtain ⟨cs, rfl, hl, hr⟩ := h
    refine ⟨hl, hr, Array.all_eq_true.2 fun i hi => ?_⟩
    have hi' : i < l.length := by rw [← hl]; exact hi
    have := h1 l[i] (List.getElem_mem hi') _ (hr i _ (List.getElem?_eq_getElem hi'))
    rw [Array.getD_eq_getD_getElem?, Array.getElem?_eq_getElem (show i < cs.size from hi)] at this
    exact this
  | «at» y =>
    have hv := h1 y (by simp [v1cells]) v h
    have hc : v.cells = #[v] := by
      cases v <;> first | rfl | (simp [Value.oneCell'] at hv)
    rw [hc]
    refine ⟨rfl, fun i z hz => ?_, by simp [hv]⟩
    match i, hz with
    | 0, hz => simp [v1cells] at hz; subst hz; exact h
def absBox (x : Operand) (d : Option Nat) : RM Eff := opnd x fun v => match d, v with
  | some d, .one y => sureAll (v1cells y) (.obj d fun q => .ret ⟨.one (.at (.ptr d (q.1 + 1) 0)), [(d, q.1 + 1, some (.blk (v1cells y)))]⟩)
  | _, _ => .fail
theorem done_box {o : Oper} {t : Nat} {x : Operand} {e : Eff} (ho : o.op = .box t x) (h : (absBox x o.dst).val σ = some e) : Done P w0 S0 G0 σ o e := by
  replace h := val_opnd h
  generalize hu : absO σ x = u at h
  split at h
  case h_2 => simp [RM.val] at h
  case h_1 d y hd =>
    obtain ⟨h, h1⟩ := val_sureAll h
    simp only [RM.val, Option.some.injEq] at h
    subst h
    intro c a w hR
    have hx := hR.opnd x
    rw [hu] at hx
    obtain ⟨e1, e2, e3⟩ := cells_of_V1 (x := y) hx (fun z hz v hv => h1 z hz c v hv)
    refine ⟨.pointer (some ⟨w.heap.size, 0, none⟩), { w with heap := w.heap.push (.cells (a.eval x).cells t (0, 0)), drawn := w.drawn }, .inl ?_, ?_⟩
    · simp [execOp, ho, Instr.box, newVar, newRow, newObj, Sem.run]
    · rw [hd]
      refine hR.fresh_ d (.blk (v1cells y)) 0 _ t w.drawn (Nat.le_refl _) (some d) _ _ fun ob' c' h1 hK hG h2 h3 h4 => ⟨⟨w.heap.size, _, t, h2, by simp, e1, fun i x hx => RepAt.keep hG hK (e2 i x hx), h4⟩, ?_⟩
      exact ⟨by rw [h1]; exact Nat.le_refl _, fun _ => ⟨_, h2, rfl⟩⟩
end Go.E2
namespace Go.E2
open Go.RowKit
set_option linter.unusedVariables false
set_option linter.unusedSimpArgs false
variable {ob : Obs} {c c' : Con} {w w' w0 : World} {S0 : Own} {G0 G : Gh} {σ σ' : St} {a a' : Act} {P : Program}
def setMany (cs : Array Value) : Nat → List Value → Array Value
  | _, [] => cs
  | o, v :: r => setMany (cs.setIfInBounds o v) (o + 1) r
theorem setMany_size : ∀ (vs : List Value) (cs : Array Value) (o : Nat), (setMany cs o vs).size = cs.size
  | [], _, _ => rfl
  | v :: r, cs, o => by simp [setMany, setMany_size r]
theorem setMany_get : ∀ (vs : List Value) (cs : Array Value) (o i : Nat), o + vs.length ≤ cs.size → (setMany cs o vs)[i]? = if o ≤ i ∧ i < o + vs.length then vs[i - o]? else cs[i]?
  | [], cs, o, i, h => by simp [setMany]; intro h1 h2; omega
  | v :: r, cs, o, i, h => by
    simp only [List.length_cons] at h
    rw [setMany, setMany_get r _ _ _ (by simp; omega)]
    by_cases e : i = o
    · subst e
      rw [if_neg (by omega), if_pos (by simp), Nat.sub_self, Array.getElem?_setIfInBounds_self_of_lt (by omega)]
      rfl
    · by_cases h2 : o + 1 ≤ i ∧ i < o + 1 + r.length
      · rw [if_pos h2, if_pos (by simp; omega)]
        obtain ⟨m, rfl⟩ : ∃ m, i = o + 1 + m := ⟨i - (o + 1), by omega⟩
        rw [show o + 1 + m - (o + 1) = m by omega, show o + 1 + m - o = m + 1 by omega]
        rfl
      · rw [if_neg h2, if_neg (by simp; omega)]
        rw [Array.getElem?_setIfInBounds_ne (fun h => e h.symm)]
theorem setCell_os (w : World) (x : Addr) (v : Value) : (w.setCell x v).os = w.os ∧ (w.setCell x v).tape = w.tape ∧ (w.setCell x v).output = w.output ∧ (w.setCell x v).heap.size = w.heap.size ∧ (w.setCell x v).drawn = w.drawn := by
  simp [World.setCell]
theorem setCells_os : ∀ (vs : List Value) (w : World) (b o : Nat), (w.setCells b o vs).os = w.os ∧ (w.setCells b o vs).tape = w.tape ∧ (w.setCells b o vs).output = w.output ∧ (w.setCells b o vs).heap.size = w.heap.size ∧ (w.setCells b o vs).drawn = w.drawn
  | [], _, _, _ => ⟨rfl, rfl, rfl, rfl, rfl⟩
  | v :: r, w, b, o => by
    obtain ⟨h1, h2, h3, h4, h5⟩ := setCells_os r (w.setCell ⟨b, o, none⟩ v) b (o + 1)
    obtain ⟨g1, g2, g3, g4, g5⟩ := setCell_os w ⟨b, o, none⟩ v
    exact ⟨h1.trans g1, h2.trans g2, h3.trans g3, h4.trans g4, h5.trans g5⟩
theorem setCells_other : ∀ (vs : List Value) (w : World) (b o k : Nat), k ≠ b → (w.setCells b o vs).heap[k]? = w.heap[k]?
  | [], _, _, _, _, _ => rfl
  | v :: r, w, b, o, k, h => by
    rw [World.setCells, setCells_other r _ b (o + 1) k h]
    exact Below.heap_setCell w ⟨b, o, none⟩ v k h
theorem setCells_self : ∀ (vs : List Value) (w : World) (b o : Nat) (cs : Array Value) (ty : TypeId), w.heap[b]? = some (.cells cs ty (0, 0)) → (w.setCells b o vs).heap[b]? = some (.cells (setMany cs o vs) ty (0, 0))
  | [], _, _, _, _, _, h => h
  | v :: r, w, b, o, cs, ty, h => by
    rw [World.setCells, setMany]
    refine setCells_self r _ b (o + 1) _ ty ?_
    have hb := (Array.getElem?_eq_some_iff.1 h).1
    simp only [World.setCell, Array.getElem?_modify, if_pos rfl, h, Option.map_some]
    simp
theorem frozen_blk {b i : Nat} {cs : Array Value} {ty : TypeId} (h : w.heap[b]? = some (.cells cs ty (0, 0))) : w.frozen? ⟨b, i, none⟩ = false := by simp [World.frozen?, h]
theorem run_store_gen {t b o : Nat} {ty : Ty} {v : Value} {cs : Array Value} {et : TypeId} (ht : TyOk P t ty) (hs : v.cells.size = ty.size) (h1 : v.cells.all (·.oneCell') = true) (hh : w.heap[b]? = some (.cells cs et (0, 0))) (hl : o + ty.size ≤ cs.size) :
    (Instr.storeAt t (.pointer (some ⟨b, o, none⟩)) v).run P w = .ok () (w.setCells b o v.cells.toList) := by
  obtain ⟨i, z, hi, hsz, _⟩ := ht.info
  have hst := run_storeCells_cells (P := P) b o v.cells.toList 0 w (fun j hj => by
      rw [cell_of_blk hh]
      have hj : j < v.cells.size := by simpa using hj
      rw [Array.getElem?_eq_getElem (by omega)]
      rfl) (fun j hj => frozen_blk hh) (fun u hu => by
      obtain ⟨i, hi, rfl⟩ := List.getElem_of_mem hu
      have := Array.all_eq_true.1 h1 i (by simpa using hi)
      simpa using this)
  simp only [Nat.add_zero] at hst
  have e : ¬ (v.cells.size ≠ i.size) := by rw [hs, hsz]; simp
  simp [Instr.storeAt, Instr.sureAddr, storeVar, sizeOf, typeInfo, hi, hst, hs, hsz]
theorem Rel.inplace (h : Rel w0 S0 G0 σ c a w) (k g : Nat) (o o' : AObj) (b : Nat) (hk : σ.ob k = (g, some o)) (ho : owned o = true) (ho' : owned o' = true) (hb : c.ρ k = some b) (d : Option Nat) (x : AV) (v : Value) (b' : Nat) (o1 : Nat) (vs : List Value) (hbb : b' = b)
    (hshape : (∀ n, rowLen (some o') = some n → rowLen (some o) = some n) ∧ (∀ e, rowE (some o') = some e → rowE (some o) = some e) ∧ (isVar (some o') = true → isVar (some o) = true))
    (hfree : ∀ i, o1 ≤ i → c.G b i = none)
    (hob : ∀ (ob' : Obs), ob' k = (g, some o') → (∀ q, Keeps σ.ob ob' c c q) → ObOk ob' c (w.setCells b' o1 vs) k o' ∧ RepAV ob' c x v) :
    Rel w0 S0 G0 (σ.app d ⟨x, [(k, g, some o')]⟩) c (a.put d v) (w.setCells b' o1 vs) := by
  subst hbb
  have eob := St.ob_app1 σ d x k (g, some o')
  have hkk : (σ.app d ⟨x, [(k, g, some o')]⟩).ob k = (g, some o') := by rw [eob, if_pos rfl]
  have hko : ∀ q, q ≠ k → (σ.app d ⟨x, [(k, g, some o')]⟩).ob q = σ.ob q := fun q hq => by rw [eob, if_neg (fun e => hq e.symm)]
  have hK : ∀ q, Keeps σ.ob (σ.app d ⟨x, [(k, g, some o')]⟩).ob c c q := fun q => by
    by_cases e : q = k
    · subst e
      right
      rw [hkk, hk]
      exact ⟨rfl, fun n hn => ⟨hshape.1 n hn, rfl, rfl⟩, fun e he => ⟨hshape.2.1 e he, rfl⟩, fun hv => ⟨hshape.2.2 hv, rfl⟩⟩
    · exact Keeps.same (hko q e) rfl rfl
  obtain ⟨h1, h2⟩ := hob _ hkk hK
  obtain ⟨s1, s2, s3, s4, s5⟩ := setCells_os vs w b' o1
  have hbl := h.blk_lt hk ho hb
  refine h.step (Gh.le_refl _) hK (fun q i u hu => ?_) (by rw [St.len_app, Act.size_put]; exact h.sz) (slot_app h.sz d _ v h2) (by rw [Act.defers_put]; exact h.df) (fun q g' o2 hq => ?_) ?_ ?_ ?_ h.fresh
  · rw [World.cell?_setCells_out b' vs o1 w ⟨q, i, none⟩ (fun e _ => ?_)]
    · exact h.imm q i u hu
    · left
      have e : q = b' := e
      subst e
      rcases Nat.lt_or_ge i o1 with h | h
      · exact h
      · rw [hfree i h] at hu; cases hu
  · by_cases e : q = k
    · subst e
      rw [hkk] at hq
      cases hq
      exact .inr h1
    · rw [hko q e] at hq
      refine .inl ⟨hq, rfl, rfl, fun ho2 b2 hb2 => ⟨setCells_other vs w b' o1 b2 (fun e2 => ?_), fun _ => rfl⟩⟩
      subst e2
      exact e (h.sep q k g' g o2 o b2 hq hk ho2 ho hb2 hb)
  · intro q q' g1 g2 o2 o3 b2 hq hq' ho2 ho3 hb2 hb3
    by_cases e : q = k
    · by_cases e' : q' = k
      · rw [e, e']
      · subst e
        rw [hko q' e'] at hq'
        exact h.sep q q' g g2 o o3 b2 hk hq' ho ho3 hb2 hb3
    · by_cases e' : q' = k
      · subst e'
        rw [hko q e] at hq
        exact h.sep q q' g1 g o2 o b2 hq hk ho2 ho hb2 hb3
      · rw [hko q e] at hq
        rw [hko q' e'] at hq'
        exact h.sep q q' g1 g2 o2 o3 b2 hq hq' ho2 ho3 hb2 hb3
  · intro q g1 o2 b2 hq ho2 hb2
    by_cases e : q = k
    · subst e
      exact h.new q g o b2 hk ho hb2
    · rw [hko q e] at hq
      exact h.new q g1 o2 b2 hq ho2 hb2
  · refine ⟨s1.trans h.fr.os, s2.trans h.fr.tape, s3.trans h.fr.output, by rw [s4]; exact h.fr.size, fun q hq hs => ?_, by rw [s5]; exact h.fr.drawn⟩
    have hne : q ≠ b' := fun e => by
      subst e
      rcases h.new k g o q hk ho hb with h3 | h3
      · omega
      · exact hs h3
    rw [setCells_other vs w b' o1 q hne]
    exact h.fr.block q hq hs
def absStore (tab : Nat → Option Ty) (t : Nat) (x y : Operand) : RM Eff := opnd x fun u => opnd y fun v => match tab t with
  | none => .fail
  | some ty => match u, v with
    | .one (.at (.ptr k g off)), .one z => if (v1cells z).length = ty.size ∧ off < cloN then sureAll (v1cells z) (.obj k fun q => match gone g q with
        | some (.blk cells) => if off + ty.size ≤ cells.length then .ret ⟨.any, [(k, g, some (.blk (cells.take off ++ v1cells z ++ cells.drop (off + ty.size))))]⟩ else .fail
        | _ => .fail) else .fail
    | _, _ => .fail
theorem splice_get {α : Type} {cells l : List α} {off n i : Nat} {x : α} (hl : l.length = n) (h : off + n ≤ cells.length) (hx : (cells.take off ++ l ++ cells.drop (off + n))[i]? = some x) :
    (off ≤ i ∧ i < off + n ∧ l[i - off]? = some x) ∨ (¬ (off ≤ i ∧ i < off + n) ∧ cells[i]? = some x) := by
  have ht : (cells.take off).length = off := by rw [List.length_take]; omega
  by_cases h1 : i < off
  · right
    refine ⟨by omega, ?_⟩
    rw [List.append_assoc, List.getElem?_append_left (by omega), List.getElem?_take_of_lt h1] at hx
    exact hx
  · by_cases h2 : i < off + n
    · left
      refine ⟨by omega, h2, ?_⟩
      rw [List.append_assoc, List.getElem?_append_right (by omega), ht, List.getElem?_append_left (by omega)] at hx
      exact hx
    · right
      refine ⟨by omega, ?_⟩
      rw [List.append_assoc, List.getElem?_append_right (by omega), ht, List.getElem?_append_right (by omega), List.getElem?_drop, hl] at hx
      rw [show off + n + (i - off - n) = i by omega] at hx
      exact hx
theorem done_store {o : Oper} {tab : Nat → Option Ty} {t : Nat} {x y : Operand} {e : Eff} (htab : ∀ t ty, tab t = some ty → TyOk P t ty) (ho : o.op = .store t x y) (h : (absStore tab t x y).val σ = some e) : Done P w0 S0 G0 σ o e := by
  replace h := val_opnd h
  replace h := val_opnd h
  cases hty : tab t with
  | none => rw [hty] at h; simp [RM.val] at h
  | some ty =>
    rw [hty] at h
    have ht := htab t ty hty
    generalize hu : absO σ x = u at h
    generalize hv : absO σ y = v at h
    dsimp only at h
    split at h
    case h_2 => simp [RM.val] at h
    case h_1 k g off z =>
      split at h
      case isFalse => simp [RM.val] at h
      case isTrue hso =>
        obtain ⟨hsz, hlt⟩ := hso
        obtain ⟨h, h1⟩ := val_sureAll h
        simp only [RM.val] at h
        cases hq : gone g (σ.ob k) with
        | none => rw [hq] at h; simp [RM.val] at h
        | some ob1 =>
          have hob := gone_some hq
          rw [hq] at h
          cases ob1 with
          | map ds => simp [RM.val] at h
          | row own e1 xs => simp [RM.val] at h
          | view e1 xs => simp [RM.val] at h
          | fro cells => simp [RM.val] at h
          | blk cells =>
            dsimp only at h
            split at h
            case isFalse => simp [RM.val] at h
            case isTrue hle =>
              simp only [RM.val, Option.some.injEq] at h
              subst h
              intro c a w hR
              have hx := hR.opnd x
              have hy := hR.opnd y
              rw [hu] at hx
              rw [hv] at hy
              obtain ⟨hg, hp⟩ := hx
              obtain ⟨b, hb, hva⟩ := hp (by rw [alive_of hob]; rfl)
              rw [pval_ptr hlt] at hva
              obtain ⟨b', cs, et, hb', hh, hl, hr, hgn⟩ := hR.obs k g _ hob
              rw [hb] at hb'; cases hb'
              obtain ⟨e1, e2, e3⟩ := cells_of_V1 (x := z) hy (fun z' hz v hv => h1 z' hz c v hv)
              refine ⟨undef, w.setCells b off (a.eval y).cells.toList, .inr ⟨?_, rfl⟩, c, ?_⟩
              · have := run_store_gen (P := P) (w := w) (o := off) ht (e1.trans hsz) e3 hh (by omega)
                simp [execOp, ho, hva, this]
              · refine hR.inplace k g (.blk cells) _ b hob rfl rfl hb o.dst .any undef b off _ rfl ⟨fun _ h => h, fun _ h => h, fun h => h⟩ (fun i _ => hgn i) fun ob' hob' hK => ⟨⟨b, _, et, hb, setCells_self _ w b off cs et hh, ?_, fun i x1 hx1 => ?_, hgn⟩, trivial⟩
                · rw [setMany_size, hl]; simp; omega
                · have hvl : (a.eval y).cells.toList.length = ty.size := by simp; omega
                  rw [Array.getD_eq_getD_getElem?, setMany_get _ cs off i (by omega)]
                  rcases splice_get hsz hle hx1 with ⟨q1, q2, q3⟩ | ⟨q1, q2⟩
                  · rw [if_pos (by omega)]
                    have := RepAt.keep (Gh.le_refl _) hK (e2 (i - off) x1 q3)
                    rw [Array.getD_eq_getD_getElem?] at this
                    simpa using this
                  · rw [if_neg (by omega)]
                    have := RepAt.keep (Gh.le_refl _) hK (hr i x1 q2)
                    rw [Array.getD_eq_getD_getElem?] at this
                    exact this
end Go.E2
namespace Go.E2
open Go.RowKit
set_option linter.unusedVariables false
set_option linter.unusedSimpArgs false
variable {ob : Obs} {c c' : Con} {w w' w0 : World} {S0 : Own} {G0 G : Gh} {σ σ' σ1 : St} {a a' : Act} {P : Program}
theorem Rel.congr (h : Rel w0 S0 G0 σ c a w) (h1 : σ'.slots = σ.slots) (h2 : ∀ k, σ'.ob k = σ.ob k) : Rel w0 S0 G0 σ' c a w := by
  have e : σ'.ob = σ.ob := funext h2
  exact ⟨h.le, h.imm, by rw [h1]; exact h.sz, fun t => by rw [e, show σ'.slot t = σ.slot t by unfold St.slot; rw [h1]]; exact h.slots t, h.df, by rw [e]; exact h.obs, by rw [e]; exact h.sep, by rw [e]; exact h.new, h.fr, h.fresh, by rw [e]; exact h.base⟩
theorem ob_lays1 (σ : St) (k : Nat) (y : Nat × Option AObj) (q : Nat) : (σ.lays [(k, y)]).ob q = if k = q then y else σ.ob q := look_lay σ.obs k y q
theorem Rel.freeze (h : Rel w0 S0 G0 σ c a w) {k g e : Nat} {xs : List (List PV)} (hk : σ.ob k = (g, some (.row true e xs))) :
    ∃ c', Rel w0 S0 G0 (σ.lays [(k, g, some (.row false e xs))]) c' a w ∧ Gh.le c.G c'.G ∧ c'.ρ = c.ρ ∧ c'.cp = c.cp := by
  have hob := h.obs k g _ hk
  have hkk : (σ.lays [(k, g, some (.row false e xs))]).ob k = (g, some (.row false e xs)) := by rw [ob_lays1, if_pos rfl]
  have hko : ∀ q, q ≠ k → (σ.lays [(k, g, some (.row false e xs))]).ob q = σ.ob q := fun q hq => by rw [ob_lays1, if_neg (fun e => hq e.symm)]
  have mk : ∀ c' : Con, c'.ρ = c.ρ → c'.cp = c.cp → Gh.le c.G c'.G → (∀ b o v, c'.G b o = some v → w.cell? ⟨b, o, none⟩ = some v) → (∀ b, c.ρ k ≠ some b → ∀ i, c'.G b i = c.G b i) →
      (∀ b o, c'.G b o ≠ G0 b o → w0.heap.size ≤ b ∨ S0 b) →
      ObOk σ.ob c' w k (.row false e xs) → Rel w0 S0 G0 (σ.lays [(k, g, some (.row false e xs))]) c' a w := by
    intro c' e1 e2 hG himm hoth hfresh hnew
    have hK : ∀ q, Keeps σ.ob (σ.lays [(k, g, some (.row false e xs))]).ob c c' q := fun q => by
      by_cases eq : q = k
      · subst eq
        right
        rw [hkk, hk, e1, e2]
        exact ⟨rfl, fun n hn => ⟨hn, rfl, rfl⟩, fun e he => ⟨he, rfl⟩, fun hv => by simp [isVar] at hv⟩
      · exact Keeps.same (hko q eq) (by rw [e1]) (by rw [e2])
    refine h.step hG hK himm h.sz (fun t => .inl ⟨rfl, rfl⟩) h.df (fun q g' o hq => ?_) ?_ ?_ h.fr hfresh
    · by_cases eq : q = k
      · subst eq
        rw [hkk] at hq
        cases hq
        right
        rcases hnew with hn | ⟨b, cs, ty, h1, h2, h3, h4, h5, h6, h7⟩
        · exact .inl hn
        · exact .inr ⟨b, cs, ty, h1, h2, h3, h4, h5, h6, h7⟩
      · rw [hko q eq] at hq
        refine .inl ⟨hq, by rw [e1], by rw [e2], fun ho b hb => ⟨rfl, hoth b (fun hb' => eq ?_)⟩⟩
        exact h.sep q k g' g o _ b hq hk ho rfl hb hb'
    · intro q q' g1 g2 o1 o2 b hq hq' ho1 ho2 hb hb'
      rw [e1] at hb hb'
      by_cases eq : q = k
      · by_cases eq' : q' = k
        · rw [eq, eq']
        · subst eq
          rw [hko q' eq'] at hq'
          exact h.sep q q' g g2 _ o2 b hk hq' rfl ho2 hb hb'
      · by_cases eq' : q' = k
        · subst eq'
          rw [hko q eq] at hq
          exact h.sep q q' g1 g o1 _ b hq hk ho1 rfl hb hb'
        · rw [hko q eq] at hq
          rw [hko q' eq'] at hq'
          exact h.sep q q' g1 g2 o1 o2 b hq hq' ho1 ho2 hb hb'
    · intro q g1 o1 b hq ho1 hb
      rw [e1] at hb
      by_cases eq : q = k
      · subst eq
        exact h.new q g _ b hk rfl hb
      · rw [hko q eq] at hq
        exact h.new q g1 o1 b hq ho1 hb
  rcases hob with ⟨h1, h2, h3⟩ | ⟨b, cs, ty, hb, hh, hl, hc, hwd, hr, hg⟩
  · exact ⟨c, mk c rfl rfl (Gh.le_refl _) h.imm (fun _ _ _ => rfl) h.fresh (.inl ⟨h1, h2, h3⟩), Gh.le_refl _, rfl, rfl⟩
  · have hg : ∀ o, c.G b o = none := by simpa using hg
    let c' : Con := { ρ := c.ρ, cp := c.cp, G := fun b' o => if b' = b ∧ o < xs.length * e then cs[o]? else c.G b' o }
    have hG : Gh.le c.G c'.G := fun b' o v hv => by
      show (if b' = b ∧ o < xs.length * e then cs[o]? else c.G b' o) = some v
      rw [if_neg (fun hh' => by rw [hh'.1, hg] at hv; cases hv)]
      exact hv
    refine ⟨c', mk c' rfl rfl hG (fun b' o v hv => ?_) (fun b' hb' i => ?_) (fun b' o hne => ?_) (.inr ⟨b, cs, ty, hb, hh, hl, hc, hwd, fun j x i y hx hy => (hr j x i y hx hy).mono hG, ?_⟩), hG, rfl, rfl⟩
    · have hv : (if b' = b ∧ o < xs.length * e then cs[o]? else c.G b' o) = some v := hv
      split at hv
      · rename_i q
        rw [q.1, cell_of_blk hh]
        exact hv
      · exact h.imm b' o v hv
    · show (if b' = b ∧ i < xs.length * e then cs[i]? else c.G b' i) = c.G b' i
      rw [if_neg]
      exact fun q => hb' (by rw [q.1]; exact hb)
    · by_cases q : b' = b
      · subst q
        exact h.new k g _ b' hk rfl hb
      · refine h.fresh b' o fun e2 => hne ?_
        show (if b' = b ∧ o < xs.length * e then cs[o]? else c.G b' o) = G0 b' o
        rw [if_neg (fun q2 => q q2.1)]
        exact e2
    · rw [if_neg (by simp)]
      refine ⟨fun o ho => ?_, fun o ho => ?_⟩
      · show (if b = b ∧ o < xs.length * e then cs[o]? else c.G b o) = cs[o]?
        rw [if_pos ⟨rfl, ho⟩]
      · show (if b = b ∧ o < xs.length * e then cs[o]? else c.G b o) = none
        rw [if_neg (by omega), hg]
theorem Rel.read_row (h : Rel w0 S0 G0 σ c a w) {k g e : Nat} {o : AObj} {xs : List (List PV)} (hk : σ.ob k = (g, some o)) (hx : o = .row false e xs ∨ o = .view e xs) : Rep c.G (.list e xs) (rowVal (c.ρ k) xs.length (c.cp k)) := by
  have main : ∀ b, c.ρ k = some b → xs.length ≤ c.cp k → Wide e xs → (∀ (j : Nat) (x : List PV) (i : Nat) (y : PV), xs[j]? = some x → x[i]? = some y → ∃ v, c.G b (j * e + i) = some v ∧ Rep c.G y v) → Rep c.G (.list e xs) (rowVal (c.ρ k) xs.length (c.cp k)) := by
    intro b hb hl hw hr
    rw [hb]
    refine Rep.list e xs b 0 (c.cp k) (fun j i => (c.G b (j * e + i)).getD undef) hl hw (fun j x i y hx hy => ?_) (fun j x i y hx hy => ?_)
    · obtain ⟨v, h1, _⟩ := hr j x i y hx hy
      rw [Nat.zero_add, h1]
      rfl
    · obtain ⟨v, h1, h2⟩ := hr j x i y hx hy
      rw [h1]
      exact h2
  have hob := h.obs k g o hk
  rcases hx with rfl | rfl
  · rcases hob with ⟨h1, h2, h3⟩ | ⟨b, cs, ty, hb, hh, hl, hc, hwd, hr, hg⟩
    · subst h2
      rw [h1]
      exact .nil e none 0
    · rw [if_neg (by simp)] at hg
      refine main b hb hl.1 hwd fun j x i y hx hy => ?_
      have hj := (List.getElem?_eq_some_iff.1 hx).1
      have hi := (List.getElem?_eq_some_iff.1 hy).1
      rw [hwd j x hx] at hi
      have h1 : (j + 1) * e ≤ xs.length * e := Nat.mul_le_mul_right e (by omega)
      have h2 : xs.length * e ≤ c.cp k * e := Nat.mul_le_mul_right e hl.1
      rw [Nat.succ_mul] at h1
      exact ⟨_, by rw [hg.1 _ (by omega)]; exact get_of_getD (by omega), hr j x i y hx hy⟩
  · rcases hob with ⟨h1, h2⟩ | ⟨b, hb, hl, hwd, hr⟩
    · subst h2
      rw [h1]
      exact .nil e none 0
    · exact main b hb hl hwd hr
theorem Rel.read_view (h : Rel w0 S0 G0 σ c a w) {k g e : Nat} {xs : List (List PV)} (hk : σ.ob k = (g, some (.row false e xs))) : ObOk σ.ob c w k (.view e xs) := by
  rcases h.obs k g _ hk with ⟨h1, h2, h3⟩ | ⟨b, cs, ty, hb, hh, hl, hc, hwd, hr, hg⟩
  · exact .inl ⟨h1, h2⟩
  · rw [if_neg (by simp)] at hg
    refine .inr ⟨b, hb, hl.1, hwd, fun j x i y hx hy => ?_⟩
    have hj := (List.getElem?_eq_some_iff.1 hx).1
    have hi := (List.getElem?_eq_some_iff.1 hy).1
    rw [hwd j x hx] at hi
    have h1 : (j + 1) * e ≤ xs.length * e := Nat.mul_le_mul_right e (by omega)
    have h2 : xs.length * e ≤ c.cp k * e := Nat.mul_le_mul_right e hl.1
    rw [Nat.succ_mul] at h1
    exact ⟨_, by rw [hg.1 _ (by omega)]; exact get_of_getD (by omega), hr j x i y hx hy⟩
def Frz (σ σ' : St) : Prop := σ'.slots = σ.slots ∧ ∀ q, σ'.ob q = σ.ob q ∨ ∃ g e xs, σ.ob q = (g, some (.row true e xs)) ∧ σ'.ob q = (g, some (.row false e xs))
theorem Frz.refl (σ : St) : Frz σ σ := ⟨rfl, fun _ => .inl rfl⟩
def atPV {α : Type} (e : Nat) (x : At) (k : PV → List (Nat × Nat × Option AObj) → RM α) : RM α := match x with
  | .pv p => k p []
  | .nil => k (.list e []) []
  | .row q g => .obj q fun r => match gone g r with
    | some (.row own e' xs) => if own = true then k (.list e' xs) [(q, g, some (.row false e' xs))] else k (.list e' xs) []
    | some (.view e' xs) => k (.list e' xs) []
    | _ => .fail
  | .ptr q g off => if off < cloN then .obj q fun r => match gone g r with
    | some (.fro cells) => k (.ref (cells.drop off)) []
    | _ => .fail else .fail
  | _ => .fail
theorem Frz.look (h : Frz σ σ1) {q g : Nat} {o : AObj} (hq : σ.ob q = (g, some o)) : σ1.ob q = (g, some o) ∨ ∃ e xs, o = .row true e xs ∧ σ1.ob q = (g, some (.row false e xs)) := by
  rcases h.2 q with h1 | ⟨g', e, xs, h1, h2⟩
  · exact .inl (h1.trans hq)
  · rw [hq] at h1
    cases h1
    exact .inr ⟨e, xs, rfl, h2⟩
theorem val_atPV {α : Type} {e : Nat} {x : At} {k : PV → List (Nat × Nat × Option AObj) → RM α} {r : α} (h : (atPV e x k).val σ = some r) :
    ∃ p us, (k p us).val σ = some r ∧ ∀ σ1, Frz σ σ1 → Frz σ (σ1.lays us) ∧ ∀ w0 S0 G0 c a w, Rel w0 S0 G0 σ1 c a w → ∃ c', Rel w0 S0 G0 (σ1.lays us) c' a w ∧ Gh.le c.G c'.G ∧ c'.ρ = c.ρ ∧ c'.cp = c.cp ∧ ∀ v, RepAt σ1.ob c x v → Rep c'.G p v := by
  have still : ∀ p, (k p []).val σ = some r → (∀ σ1, Frz σ σ1 → ∀ w0 S0 G0 c a w, Rel w0 S0 G0 σ1 c a w → ∀ v, RepAt σ1.ob c x v → Rep c.G p v) →
      ∃ p us, (k p us).val σ = some r ∧ ∀ σ1, Frz σ σ1 → Frz σ (σ1.lays us) ∧ ∀ w0 S0 G0 c a w, Rel w0 S0 G0 σ1 c a w → ∃ c', Rel w0 S0 G0 (σ1.lays us) c' a w ∧ Gh.le c.G c'.G ∧ c'.ρ = c.ρ ∧ c'.cp = c.cp ∧ ∀ v, RepAt σ1.ob c x v → Rep c'.G p v :=
    fun p h1 h2 => ⟨p, [], h1, fun σ1 hf => ⟨hf, fun w0 S0 G0 c a w hR => ⟨c, hR, Gh.le_refl _, rfl, rfl, h2 σ1 hf w0 S0 G0 c a w hR⟩⟩⟩
  cases x with
  | pv p => exact still p h fun σ1 _ w0 S0 G0 c a w _ v hv => hv
  | nil => exact still _ h fun σ1 _ w0 S0 G0 c a w _ v hv => by have hv : v = .slice none 0 0 := hv; rw [hv]; exact .nil _ _ _
  | any => simp [atPV, RM.val] at h
  | eptr q g j off => simp [atPV, RM.val] at h
  | tail q g j => simp [atPV, RM.val] at h
  | ptr q g off =>
    simp only [atPV] at h
    split at h
    case isFalse => simp [RM.val] at h
    rename_i hlt
    simp only [RM.val] at h
    cases hq : gone g (σ.ob q) with
    | none => rw [hq] at h; simp [RM.val] at h
    | some o =>
      rw [hq] at h
      have hob := gone_some hq
      cases o with
      | fro cells =>
        refine still _ h fun σ1 hf w0 S0 G0 c a w hR v hv => ?_
        rcases hf.look hob with h1 | ⟨_, _, h1, _⟩
        · obtain ⟨b, hb, e1⟩ := hv.2 (by rw [alive_of h1]; rfl)
          obtain ⟨b', hb', hr⟩ := hR.obs q g _ h1
          rw [hb] at hb'; cases hb'
          rw [e1, pval_ptr hlt]
          refine Rep.ref (cells.drop off) b off (fun i => (c.G b (off + i)).getD undef) (fun i p hp => ?_) (fun i p hp => ?_)
          · rw [List.getElem?_drop] at hp
            obtain ⟨v, h2, _⟩ := hr _ _ hp
            rw [h2]; rfl
          · rw [List.getElem?_drop] at hp
            obtain ⟨v, h2, h3⟩ := hr _ _ hp
            rw [h2]; exact h3
        · cases h1
      | map ds => simp [RM.val] at h
      | blk cells => simp [RM.val] at h
      | row own e1 xs => simp [RM.val] at h
      | view e1 xs => simp [RM.val] at h
  | row q g =>
    simp only [atPV, RM.val] at h
    cases hq : gone g (σ.ob q) with
    | none => rw [hq] at h; simp [RM.val] at h
    | some o =>
      rw [hq] at h
      have hob := gone_some hq
      cases o with
      | map ds => simp [RM.val] at h
      | fro cells => simp [RM.val] at h
      | blk cells => simp [RM.val] at h
      | view e1 xs =>
        refine still _ h fun σ1 hf w0 S0 G0 c a w hR v hv => ?_
        rcases hf.look hob with h1 | ⟨_, _, h1, _⟩
        · rw [hv.2 xs.length (by rw [alive_of h1]; rfl)]
          exact hR.read_row h1 (.inr rfl)
        · cases h1
      | row own e1 xs =>
        dsimp only at h
        split at h
        case isFalse ho =>
          have ho : own = false := by simpa using ho
          subst ho
          refine still _ h fun σ1 hf w0 S0 G0 c a w hR v hv => ?_
          rcases hf.look hob with h1 | ⟨_, _, h1, _⟩
          · rw [hv.2 xs.length (by rw [alive_of h1]; rfl)]
            exact hR.read_row h1 (.inl rfl)
          · cases h1
        case isTrue ho =>
          subst ho
          refine ⟨_, _, h, fun σ1 hf => ⟨⟨hf.1, fun q' => ?_⟩, fun w0 S0 G0 c a w hR => ?_⟩⟩
          · rw [ob_lays1]
            split
            · rename_i e2; subst e2; exact .inr ⟨g, e1, xs, hob, rfl⟩
            · exact hf.2 q'
          · rcases hf.look hob with h1 | ⟨e2, xs2, h1, h2⟩
            · obtain ⟨c', hR', hG, e3, e4⟩ := hR.freeze h1
              refine ⟨c', hR', hG, e3, e4, fun v hv => ?_⟩
              rw [hv.2 xs.length (by rw [alive_of h1]; rfl), ← e3, ← e4]
              exact hR'.read_row (by rw [ob_lays1, if_pos rfl]) (.inl rfl)
            · cases h1
              refine ⟨c, hR.congr rfl (fun q' => ?_), Gh.le_refl _, rfl, rfl, fun v hv => ?_⟩
              · rw [ob_lays1]
                split
                · rename_i e2; subst e2; exact h2.symm
                · rfl
              · rw [hv.2 xs.length (by rw [alive_of h2]; rfl)]
                exact hR.read_row h2 (.inl rfl)
end Go.E2
namespace Go.E2
open Go.RowKit
set_option linter.unusedVariables false
set_option linter.unusedSimpArgs false
variable {ob : Obs} {c c' : Con} {w w' w0 : World} {S0 : Own} {G0 G : Gh} {σ σ' σ1 : St} {a a' : Act} {P : Program}
abbrev Upd := Nat × Nat × Option AObj
theorem lays_append (σ : St) (u v : List Upd) : σ.lays (u ++ v) = (σ.lays u).lays v := by
  unfold St.lays
  rw [List.foldl_append]
theorem Frz.gen {σ' : St} {q : Nat} (h : Frz σ σ') : (σ'.ob q).1 = (σ.ob q).1 ∧ rowLen (σ'.ob q).2 = rowLen (σ.ob q).2 ∧ rowE (σ'.ob q).2 = rowE (σ.ob q).2 ∧ isVar (σ'.ob q).2 = isVar (σ.ob q).2 := by
  rcases h.2 q with h | ⟨g, e, xs, a, b⟩
  · rw [h]; exact ⟨rfl, rfl, rfl, rfl⟩
  · rw [a, b]; exact ⟨rfl, rfl, rfl, rfl⟩
theorem Frz.keeps {σ2 : St} (h1 : Frz σ σ1) (h2 : Frz σ σ2) (e1 : c'.ρ = c.ρ) (e2 : c'.cp = c.cp) (q : Nat) : Keeps σ1.ob σ2.ob c c' q := by
  obtain ⟨a1, a2, a3, a4⟩ := h1.gen (q := q)
  obtain ⟨b1, b2, b3, b4⟩ := h2.gen (q := q)
  exact .inr ⟨by rw [b1, a1], fun n hn => ⟨by rw [a2, ← b2]; exact hn, by rw [e1], by rw [e2]⟩, fun n hn => ⟨by rw [a3, ← b3]; exact hn, by rw [e1]⟩, fun hv => ⟨by rw [a4, ← b4]; exact hv, by rw [e1]⟩⟩
inductive CM where
  | auto
  | pv (e : Nat)
  | own (e : Nat)
  | ptr (ms : List CM)
def CM.sub : CM → List CM
  | .ptr ms => ms
  | _ => []
inductive Frm where
  | obj (q g : Nat)
  | nil (e : Nat)
  | blk (q g : Nat) (cells : List At)
def Frm.at (q g : Nat) : Frm → Bool
  | .obj q' g' => q' == q && g' == g
  | .blk q' g' _ => q' == q && g' == g
  | .nil _ => false
def findS (q g : Nat) : Nat → List Frm → Option Nat
  | _, [] => none
  | i, s :: l => if s.at q g = true then some i else findS q g (i + 1) l
theorem findS_some {q g : Nat} : ∀ {l : List Frm} {i j : Nat}, findS q g i l = some j → ∃ s, i ≤ j ∧ l[j - i]? = some s ∧ s.at q g = true
  | [], i, j, h => by simp [findS] at h
  | s :: l, i, j, h => by
    unfold findS at h
    split at h
    · rename_i hs
      cases h
      exact ⟨s, Nat.le_refl _, by simp, hs⟩
    · obtain ⟨s', h1, h2, h3⟩ := findS_some h
      refine ⟨s', by omega, ?_, h3⟩
      rw [show j - i = (j - (i + 1)) + 1 by omega, List.getElem?_cons_succ]
      exact h2
structure Nms where
  nm : Nat → Nat
  inv : Nat → Option Nat
def Nms.ok (N : Nms) (L : List Frm) : Prop := ∀ i, i < L.length → N.inv (N.nm i) = some i
def rowOnly : Option AObj → Option AObj
  | some (.row own e xs) => some (.row own e xs)
  | some (.view e xs) => some (.view e xs)
  | some (.map ds) => some (.map ds)
  | _ => none
def stayO : AObj → Bool
  | .blk _ => false
  | .fro _ => false
  | _ => true
def blkOnly (cells : List At) : Option AObj → Option AObj
  | some (.blk _) => some (.blk cells)
  | _ => none
def Frm.obOf (ob : Obs) : Frm → Option AObj
  | .obj q g => rowOnly (alive ob q g)
  | .nil e => some (.row true e [])
  | .blk q g cells => blkOnly cells (alive ob q g)
def Frm.src : Frm → Option Nat
  | .obj q _ => some q
  | .blk q _ _ => some q
  | .nil _ => none
def obsC (N : Nms) (L : List Frm) (ob : Obs) : Obs := fun n => (0, ((N.inv n).bind (L[·]?)).bind (Frm.obOf ob))
def conC (N : Nms) (L : List Frm) (c : Con) : Con where
  ρ n := (((N.inv n).bind (L[·]?)).bind Frm.src).bind c.ρ
  cp n := match ((N.inv n).bind (L[·]?)).bind Frm.src with
    | some q => c.cp q
    | none => 0
  G := c.G
structure Fin (w0 : World) (S0 : Own) (G0 : Gh) (a : Act) (w : World) (σ σ2 : St) (c c2 : Con) : Prop where
  frz : Frz σ σ2
  rel : Rel w0 S0 G0 σ2 c2 a w
  le : Gh.le c.G c2.G
  ρ : c2.ρ = c.ρ
  cp : c2.cp = c.cp
theorem Fin.back {σ2 : St} {c1 c2 : Con} (h : Fin w0 S0 G0 a w σ σ2 c1 c2) (hl : Gh.le c.G c1.G) (h1 : c1.ρ = c.ρ) (h2 : c1.cp = c.cp) : Fin w0 S0 G0 a w σ σ2 c c2 :=
  ⟨h.frz, h.rel, Gh.le_trans hl h.le, h.ρ.trans h1, h.cp.trans h2⟩
def Ext (S L : List Frm) : Prop := ∀ (i : Nat) (s : Frm), S[i]? = some s → ∃ s', L[i]? = some s' ∧ (s' = s ∨ ∃ q g cells, s = .obj q g ∧ s' = .blk q g cells)
theorem Ext.of_prefix {S S' L : List Frm} (h : S <+: S') (h' : Ext S' L) : Ext S L := fun i s hs => by
  obtain ⟨t, rfl⟩ := h
  exact h' i s (by rw [List.getElem?_append_left (List.getElem?_eq_some_iff.1 hs).1]; exact hs)
theorem Ext.refl (S : List Frm) : Ext S S := fun i s hs => ⟨s, hs, .inl rfl⟩
theorem Ext.at {S L : List Frm} (h : Ext S L) {i q g : Nat} {s : Frm} (hs : S[i]? = some s) (ha : s.at q g = true) : ∃ s', L[i]? = some s' ∧ s'.at q g = true := by
  obtain ⟨s', h1, h2⟩ := h i s hs
  refine ⟨s', h1, ?_⟩
  rcases h2 with rfl | ⟨q', g', cells, rfl, rfl⟩
  · exact ha
  · exact ha
def CanSnd (σ : St) (N : Nms) (S : List Frm) (X X' : List At) (us : List Upd) (S' : List Frm) : Prop :=
  S <+: S' ∧ X'.length = X.length ∧ ∀ σ1, Frz σ σ1 → Frz σ (σ1.lays us) ∧ ∀ w0 S0 G0 c a w, Rel w0 S0 G0 σ1 c a w → ∃ c', Rel w0 S0 G0 (σ1.lays us) c' a w ∧ Gh.le c.G c'.G ∧ c'.ρ = c.ρ ∧ c'.cp = c.cp ∧
    ∀ σ2 c2 L, Fin w0 S0 G0 a w σ σ2 c' c2 → Ext S' L → N.ok L →
      (∀ (i : Nat) (x x' : At) (v : Value), X[i]? = some x → X'[i]? = some x' → RepAt σ1.ob c x v → RepAt (obsC N L σ2.ob) (conC N L c2) x' v) ∧
      ∀ q g cells', Frm.blk q g cells' ∈ S' → Frm.blk q g cells' ∉ S → ∀ n, (conC N L c2).ρ n = c2.ρ q → (∃ cells, σ2.ob q = (g, some (.blk cells))) → ObOk (obsC N L σ2.ob) (conC N L c2) w n (.blk cells')
theorem CanSnd.nil {N : Nms} {S : List Frm} : CanSnd σ N S [] [] [] S :=
  ⟨List.prefix_rfl, rfl, fun σ1 hf => ⟨hf, fun w0 S0 G0 c a w hR => ⟨c, hR, Gh.le_refl _, rfl, rfl, fun σ2 c2 L hF hS hN => ⟨fun i x x' v hx => by simp at hx, fun q g cells' h1 h2 => absurd h1 h2⟩⟩⟩⟩
theorem CanSnd.append {N : Nms} {S S1 S2 : List Frm} {X X' Y Y' : List At} {us us' : List Upd} (h : CanSnd σ N S X X' us S1) (h' : CanSnd σ N S1 Y Y' us' S2) : CanSnd σ N S (X ++ Y) (X' ++ Y') (us ++ us') S2 := by
  obtain ⟨p1, l1, H1⟩ := h
  obtain ⟨p2, l2, H2⟩ := h'
  refine ⟨List.IsPrefix.trans p1 p2, by simp [l1, l2], fun σ1 hf => ?_⟩
  obtain ⟨f1, R1⟩ := H1 σ1 hf
  obtain ⟨f2, R2⟩ := H2 _ f1
  rw [lays_append]
  refine ⟨f2, fun w0 S0 G0 c a w hR => ?_⟩
  obtain ⟨c1, hR1, g1, e1, e2, v1⟩ := R1 w0 S0 G0 c a w hR
  obtain ⟨c2, hR2, g2, e3, e4, v2⟩ := R2 w0 S0 G0 c1 a w hR1
  refine ⟨c2, hR2, Gh.le_trans g1 g2, e3.trans e1, e4.trans e2, fun σ2 c3 L hF hS hN => ?_⟩
  obtain ⟨q1, q2⟩ := v1 σ2 c3 L (hF.back g2 e3 e4) (Ext.of_prefix p2 hS) hN
  obtain ⟨q3, q4⟩ := v2 σ2 c3 L hF hS hN
  refine ⟨fun i x x' v hx hx' hv => ?_, fun q g cells' hm hn => ?_⟩
  · by_cases hi : i < X.length
    · rw [List.getElem?_append_left hi] at hx
      rw [List.getElem?_append_left (by omega)] at hx'
      exact q1 i x x' v hx hx' hv
    · rw [List.getElem?_append_right (by omega)] at hx
      rw [List.getElem?_append_right (by omega), l1] at hx'
      exact q3 _ x x' v hx hx' (RepAt.keep g1 (Frz.keeps hf f1 e1 e2) hv)
  · by_cases hm1 : Frm.blk q g cells' ∈ S1
    · exact q2 q g cells' hm1 hn
    · exact q4 q g cells' hm hm1
def canL {α : Type} (f : CM → List Frm → At → (At → List Upd → List Frm → RM α) → RM α) : List CM → List Frm → List At → (List At → List Upd → List Frm → RM α) → RM α
  | _, S, [], k => k [] [] S
  | ms, S, x :: l, k => f (ms.headD .auto) S x fun x' us S1 => canL f ms.tail S1 l fun l' us' S2 => k (x' :: l') (us ++ us') S2
theorem val_canL {α : Type} {N : Nms} {f : CM → List Frm → At → (At → List Upd → List Frm → RM α) → RM α} {r : α}
    (hf : ∀ m S x k, (f m S x k).val σ = some r → ∃ x' us S', (k x' us S').val σ = some r ∧ CanSnd σ N S [x] [x'] us S') :
    ∀ {l : List At} {ms : List CM} {S : List Frm} {k : List At → List Upd → List Frm → RM α}, (canL f ms S l k).val σ = some r → ∃ l' us S', (k l' us S').val σ = some r ∧ CanSnd σ N S l l' us S'
  | [], ms, S, k, h => ⟨[], [], S, h, CanSnd.nil⟩
  | x :: l, ms, S, k, h => by
    obtain ⟨x', us, S1, h1, c1⟩ := hf _ _ _ _ h
    obtain ⟨l', us', S2, h2, c2⟩ := val_canL hf h1
    exact ⟨_, _, _, h2, c1.append c2⟩
def canAt {α : Type} (N : Nms) : Nat → CM → List Frm → At → (At → List Upd → List Frm → RM α) → RM α
  | 0, m, S, x, k => match x with
    | .pv p => k (.pv p) [] S
    | .any => k .any [] S
    | .eptr _ _ _ _ => k .any [] S
    | .tail q g j => match findS q g 0 S with
      | some i => k (.tail (N.nm i) 0 j) [] S
      | none => k (.tail (N.nm S.length) 0 j) [] (S ++ [.obj q g])
    | .nil => match m with
      | .own e => k (.row (N.nm S.length) 0) [] (S ++ [.nil e])
      | .pv e => k (.pv (.list e [])) [] S
      | _ => k .nil [] S
    | .row q g => match m with
      | .pv e => atPV e (.row q g) fun p us => k (.pv p) us S
      | _ => match findS q g 0 S with
        | some i => k (.row (N.nm i) 0) [] S
        | none => k (.row (N.nm S.length) 0) [] (S ++ [.obj q g])
    | .ptr q g off => match findS q g 0 S with
      | some i => k (.ptr (N.nm i) 0 off) [] S
      | none => .fail
  | d + 1, m, S, x, k => match x with
    | .pv p => k (.pv p) [] S
    | .any => k .any [] S
    | .eptr _ _ _ _ => k .any [] S
    | .tail q g j => match findS q g 0 S with
      | some i => k (.tail (N.nm i) 0 j) [] S
      | none => k (.tail (N.nm S.length) 0 j) [] (S ++ [.obj q g])
    | .nil => match m with
      | .own e => k (.row (N.nm S.length) 0) [] (S ++ [.nil e])
      | .pv e => k (.pv (.list e [])) [] S
      | _ => k .nil [] S
    | .row q g => match m with
      | .pv e => atPV e (.row q g) fun p us => k (.pv p) us S
      | _ => match findS q g 0 S with
        | some i => k (.row (N.nm i) 0) [] S
        | none => k (.row (N.nm S.length) 0) [] (S ++ [.obj q g])
    | .ptr q g off => match findS q g 0 S with
      | some i => k (.ptr (N.nm i) 0 off) [] S
      | none => .obj q fun r => match gone g r with
        | some (.blk cells) => canL (canAt N d) m.sub S cells fun cells' us S' => k (.ptr (N.nm S'.length) 0 off) us (S' ++ [.blk q g cells'])
        | some (.fro cells) => if off < cloN then k (.pv (.ref (cells.drop off))) [] S else .fail
        | some (.map _) => k (.ptr (N.nm S.length) 0 off) [] (S ++ [.obj q g])
        | _ => .fail
theorem CanSnd.one {N : Nms} {S : List Frm} {x x' : At} (T : List Frm)
    (hT : ∀ q g cells, Frm.blk q g cells ∉ T)
    (h : ∀ σ1, Frz σ σ1 → ∀ w0 S0 G0 c a w, Rel w0 S0 G0 σ1 c a w → ∀ σ2 c2 L, Fin w0 S0 G0 a w σ σ2 c c2 → Ext (S ++ T) L → N.ok L → ∀ v, RepAt σ1.ob c x v → RepAt σ2.ob c2 x v → RepAt (obsC N L σ2.ob) (conC N L c2) x' v) :
    CanSnd σ N S [x] [x'] [] (S ++ T) := by
  refine ⟨List.prefix_append _ _, rfl, fun σ1 hf => ⟨hf, fun w0 S0 G0 c a w hR => ⟨c, hR, Gh.le_refl _, rfl, rfl, fun σ2 c2 L hF hS hN => ⟨fun i y y' v hy hy' hv => ?_, fun q g cells' h1 h2 => ?_⟩⟩⟩⟩
  · cases i with
    | zero =>
      cases hy; cases hy'
      exact h σ1 hf w0 S0 G0 c a w hR σ2 c2 L hF hS hN v hv (RepAt.keep hF.le (Frz.keeps hf hF.frz hF.ρ hF.cp) hv)
    | succ i => simp at hy
  · rcases List.mem_append.1 h1 with h | h
    · exact absurd h h2
    · exact absurd h (hT _ _ _)
theorem prefix_get {α : Type} {S L : List α} (h : S <+: L) {i : Nat} {x : α} (hx : S[i]? = some x) : L[i]? = some x := by
  obtain ⟨t, rfl⟩ := h
  rw [List.getElem?_append_left (List.getElem?_eq_some_iff.1 hx).1]
  exact hx
theorem Nms.at {N : Nms} {L : List Frm} (hN : N.ok L) {i : Nat} {s : Frm} (hs : L[i]? = some s) : ((N.inv (N.nm i)).bind (L[·]?)) = some s := by
  rw [hN i (List.getElem?_eq_some_iff.1 hs).1]
  exact hs
theorem rep_row {N : Nms} {L : List Frm} (hN : N.ok L) {i q g : Nat} {s : Frm} (hs : L[i]? = some s) (hsq : s.at q g = true) {v : Value} (h : RepAt ob c (.row q g) v) : RepAt (obsC N L ob) (conC N L c) (.row (N.nm i) 0) v := by
  have hat := Nms.at hN hs
  refine ⟨Nat.zero_le _, fun n hn => ?_⟩
  have e1 : alive (obsC N L ob) (N.nm i) 0 = s.obOf ob := by
    unfold alive obsC
    rw [if_pos rfl]
    dsimp only
    rw [hat]
    rfl
  rw [e1] at hn
  have key : rowLen (alive ob q g) = some n ∧ s.src = some q := by
    cases s with
    | obj q' g' =>
      simp [Frm.at] at hsq
      obtain ⟨rfl, rfl⟩ := hsq
      refine ⟨?_, rfl⟩
      simp only [Frm.obOf, rowOnly, blkOnly] at hn
      split at hn
      · rename_i h1; rw [h1]; exact hn
      · rename_i h1; rw [h1]; exact hn
      · simp [rowLen] at hn
      · simp [rowLen] at hn
    | blk q' g' cells =>
      simp only [Frm.obOf, rowOnly, blkOnly] at hn
      split at hn <;> simp [rowLen] at hn
    | nil e => simp [Frm.at] at hsq
  rw [h.2 n key.1]
  show _ = rowVal ((((N.inv (N.nm i)).bind (L[·]?)).bind Frm.src).bind c.ρ) n (match ((N.inv (N.nm i)).bind (L[·]?)).bind Frm.src with | some q => c.cp q | none => 0)
  rw [hat]
  simp [key.2]
theorem rep_tail {N : Nms} {L : List Frm} (hN : N.ok L) {i q g j : Nat} {s : Frm} (hs : L[i]? = some s) (hsq : s.at q g = true) {v : Value} (h : RepAt ob c (.tail q g j) v) : RepAt (obsC N L ob) (conC N L c) (.tail (N.nm i) 0 j) v := by
  have hat := Nms.at hN hs
  refine ⟨Nat.zero_le _, fun n e hn he => ?_⟩
  have e1 : alive (obsC N L ob) (N.nm i) 0 = s.obOf ob := by
    unfold alive obsC
    rw [if_pos rfl]
    dsimp only
    rw [hat]
    rfl
  rw [e1] at hn he
  have key : rowLen (alive ob q g) = some n ∧ rowE (alive ob q g) = some e ∧ s.src = some q := by
    cases s with
    | obj q' g' =>
      simp [Frm.at] at hsq
      obtain ⟨rfl, rfl⟩ := hsq
      simp only [Frm.obOf, rowOnly, blkOnly] at hn he
      split at hn
      · rename_i h1; rw [h1] at he ⊢; exact ⟨hn, he, rfl⟩
      · rename_i h1; rw [h1] at he ⊢; exact ⟨hn, he, rfl⟩
      · simp [rowLen] at hn
      · simp [rowLen] at hn
    | blk q' g' cells =>
      simp only [Frm.obOf, rowOnly, blkOnly] at hn
      split at hn <;> simp [rowLen] at hn
    | nil e => simp [Frm.at] at hsq
  rw [h.2 n e key.1 key.2.1]
  show _ = tailVal ((((N.inv (N.nm i)).bind (L[·]?)).bind Frm.src).bind c.ρ) (match ((N.inv (N.nm i)).bind (L[·]?)).bind Frm.src with | some q => c.cp q | none => 0) e n j
  rw [hat]
  simp [key.2.2]
theorem rep_ptr {N : Nms} {L : List Frm} (hN : N.ok L) {i q g off : Nat} {s : Frm} (hs : L[i]? = some s) (hsq : s.at q g = true) {v : Value} (h : RepAt ob c (.ptr q g off) v) : RepAt (obsC N L ob) (conC N L c) (.ptr (N.nm i) 0 off) v := by
  have hat := Nms.at hN hs
  refine ⟨Nat.zero_le _, fun hn => ?_⟩
  have e1 : alive (obsC N L ob) (N.nm i) 0 = s.obOf ob := by
    unfold alive obsC
    rw [if_pos rfl]
    dsimp only
    rw [hat]
    rfl
  rw [e1] at hn
  have key : isVar (alive ob q g) = true ∧ s.src = some q := by
    cases s with
    | obj q' g' =>
      simp [Frm.at] at hsq
      obtain ⟨rfl, rfl⟩ := hsq
      refine ⟨?_, rfl⟩
      simp only [Frm.obOf, rowOnly, blkOnly] at hn
      split at hn
      · simp [isVar] at hn
      · simp [isVar] at hn
      · rename_i h1; rw [h1]; rfl
      · simp [isVar] at hn
    | blk q' g' cells =>
      simp [Frm.at] at hsq
      obtain ⟨rfl, rfl⟩ := hsq
      refine ⟨?_, rfl⟩
      simp only [Frm.obOf, rowOnly, blkOnly] at hn
      split at hn
      · rename_i h1; rw [h1]; rfl
      · simp [isVar] at hn
    | nil e => simp [Frm.at] at hsq
  obtain ⟨b, hb, hv⟩ := h.2 key.1
  refine ⟨b, ?_, hv⟩
  show (((N.inv (N.nm i)).bind (L[·]?)).bind Frm.src).bind c.ρ = some b
  rw [hat]
  simp [key.2, hb]
theorem rep_nilrow {N : Nms} {L : List Frm} (hN : N.ok L) {i e : Nat} (hs : L[i]? = some (.nil e)) : RepAt (obsC N L ob) (conC N L c) (.row (N.nm i) 0) (.slice none 0 0) := by
  have hat := Nms.at hN hs
  refine ⟨Nat.zero_le _, fun n hn => ?_⟩
  have e1 : alive (obsC N L ob) (N.nm i) 0 = some (.row true e []) := by
    unfold alive obsC
    rw [if_pos rfl]
    dsimp only
    rw [hat]
    rfl
  rw [e1] at hn
  simp only [rowLen, List.length_nil, Option.some.injEq] at hn
  subst hn
  show _ = rowVal ((((N.inv (N.nm i)).bind (L[·]?)).bind Frm.src).bind c.ρ) 0 _
  rw [hat]
  rfl
theorem pre_last {S L : List Frm} {s : Frm} (h : Ext (S ++ [s]) L) {q g : Nat} (ha : s.at q g = true) : ∃ s', L[S.length]? = some s' ∧ s'.at q g = true := h.at (by simp) ha
theorem pre_in {S L T : List Frm} {s : Frm} {i : Nat} (h : Ext (S ++ T) L) (hs : S[i]? = some s) {q g : Nat} (ha : s.at q g = true) : ∃ s', L[i]? = some s' ∧ s'.at q g = true := (Ext.of_prefix (List.prefix_append _ _) h).at hs ha
theorem can_plain {α : Type} {N : Nms} {m : CM} {S : List Frm} {x : At} {k : At → List Upd → List Frm → RM α} {r : α} (hx : ∀ q g off, x ≠ .ptr q g off)
    (h : (canAt N 0 m S x k).val σ = some r) : ∃ x' us S', (k x' us S').val σ = some r ∧ CanSnd σ N S [x] [x'] us S' := by
  have stay : ∀ x', (k x' [] S).val σ = some r → (∀ σ1, Frz σ σ1 → ∀ w0 S0 G0 c a w, Rel w0 S0 G0 σ1 c a w → ∀ σ2 c2 L, Fin w0 S0 G0 a w σ σ2 c c2 → Ext (S ++ []) L → N.ok L → ∀ v, RepAt σ1.ob c x v → RepAt σ2.ob c2 x v → RepAt (obsC N L σ2.ob) (conC N L c2) x' v) →
      ∃ x' us S', (k x' us S').val σ = some r ∧ CanSnd σ N S [x] [x'] us S' := fun x' h1 h2 => ⟨x', [], S, h1, by
    have := CanSnd.one (σ := σ) (N := N) (S := S) (x := x) (x' := x') [] (by simp) h2
    rwa [List.append_nil] at this⟩
  cases x with
  | pv p => exact stay _ h fun σ1 _ w0 S0 G0 c a w _ σ2 c2 L hF _ _ v _ hv => hv
  | any => exact stay _ h fun σ1 _ w0 S0 G0 c a w _ σ2 c2 L hF _ _ v _ hv => trivial
  | eptr q g j o => exact stay _ h fun σ1 _ w0 S0 G0 c a w _ σ2 c2 L hF _ _ v _ hv => trivial
  | tail q g j =>
    simp only [canAt] at h
    split at h
    · rename_i i hi
      obtain ⟨s, _, hs, hsq⟩ := findS_some hi
      rw [Nat.sub_zero] at hs
      exact stay _ h fun σ1 _ w0 S0 G0 c a w _ σ2 c2 L hF hS hN v _ hv => (let ⟨s', h1, h2⟩ := pre_in hS hs hsq; rep_tail hN h1 h2 hv)
    · refine ⟨_, _, _, h, CanSnd.one [.obj q g] (by simp) fun σ1 _ w0 S0 G0 c a w _ σ2 c2 L hF hS hN v _ hv => ?_⟩
      obtain ⟨s', h1, h2⟩ := pre_last hS (q := q) (g := g) (by simp [Frm.at])
      exact rep_tail hN h1 h2 hv
  | ptr q g off => exact absurd rfl (hx q g off)
  | nil =>
    simp only [canAt] at h
    split at h
    · rename_i e
      refine ⟨_, _, _, h, CanSnd.one [.nil e] (by simp) fun σ1 _ w0 S0 G0 c a w _ σ2 c2 L hF hS hN v _ hv => ?_⟩
      have hv : v = .slice none 0 0 := hv
      rw [hv]
      obtain ⟨s', h1, h2⟩ := hS S.length (.nil e) (by simp)
      rcases h2 with rfl | ⟨_, _, _, h2, _⟩
      · exact rep_nilrow hN h1
      · cases h2
    · exact stay _ h fun σ1 _ w0 S0 G0 c a w _ σ2 c2 L hF _ _ v _ hv => by
        have hv : v = .slice none 0 0 := hv
        rw [hv]; exact .nil _ _ _
    · exact stay _ h fun σ1 _ w0 S0 G0 c a w _ σ2 c2 L hF _ _ v _ hv => hv
  | row q g =>
    simp only [canAt] at h
    split at h
    · rename_i e
      obtain ⟨p, us, h1, H⟩ := val_atPV h
      refine ⟨_, _, _, h1, List.prefix_rfl, rfl, fun σ1 hf => ?_⟩
      obtain ⟨f1, R1⟩ := H σ1 hf
      refine ⟨f1, fun w0 S0 G0 c a w hR => ?_⟩
      obtain ⟨c1, hR1, g1, e1, e2, v1⟩ := R1 w0 S0 G0 c a w hR
      refine ⟨c1, hR1, g1, e1, e2, fun σ2 c2 L hF hS hN => ⟨fun i y y' v hy hy' hv => ?_, fun q g cells' h1 h2 => absurd h1 h2⟩⟩
      cases i with
      | zero => cases hy; cases hy'; exact (v1 v hv).mono hF.le
      | succ i => simp at hy
    · split at h
      · rename_i i hi
        obtain ⟨s, _, hs, hsq⟩ := findS_some hi
        rw [Nat.sub_zero] at hs
        exact stay _ h fun σ1 _ w0 S0 G0 c a w _ σ2 c2 L hF hS hN v _ hv => (let ⟨s', h1, h2⟩ := pre_in hS hs hsq; rep_row hN h1 h2 hv)
      · refine ⟨_, _, _, h, CanSnd.one [.obj q g] (by simp) fun σ1 _ w0 S0 G0 c a w _ σ2 c2 L hF hS hN v _ hv => ?_⟩
        obtain ⟨s', h1, h2⟩ := pre_last hS (q := q) (g := g) (by simp [Frm.at])
        exact rep_row hN h1 h2 hv
theorem val_canAt {α : Type} {N : Nms} {r : α} : ∀ (d : Nat) (m : CM) (S : List Frm) (x : At) (k : At → List Upd → List Frm → RM α), (canAt N d m S x k).val σ = some r → ∃ x' us S', (k x' us S').val σ = some r ∧ CanSnd σ N S [x] [x'] us S' := by
  have found : ∀ (S : List Frm) (q g off i : Nat) (k : At → List Upd → List Frm → RM α), findS q g 0 S = some i → (k (.ptr (N.nm i) 0 off) [] S).val σ = some r → ∃ x' us S', (k x' us S').val σ = some r ∧ CanSnd σ N S [.ptr q g off] [x'] us S' := by
    intro S q g off i k hi h
    obtain ⟨s, _, hs, hsq⟩ := findS_some hi
    rw [Nat.sub_zero] at hs
    refine ⟨_, _, _, h, ?_⟩
    have := CanSnd.one (σ := σ) (N := N) (S := S) (x := .ptr q g off) (x' := .ptr (N.nm i) 0 off) [] (by simp) fun σ1 _ w0 S0 G0 c a w _ σ2 c2 L hF hS hN v _ hv => (let ⟨s', h1, h2⟩ := pre_in hS hs hsq; rep_ptr hN h1 h2 hv)
    rwa [List.append_nil] at this
  intro d
  induction d with
  | zero =>
    intro m S x k h
    cases x with
    | ptr q g off =>
      simp only [canAt] at h
      split at h
      · rename_i i hi; exact found S q g off i k hi h
      · simp [RM.val] at h
    | pv p => exact can_plain (m := m) (by simp) h
    | any => exact can_plain (m := m) (by simp) h
    | eptr q g j o => exact can_plain (m := m) (by simp) h
    | tail q g j => exact can_plain (m := m) (by simp) h
    | nil => exact can_plain (m := m) (by simp) h
    | row q g => exact can_plain (m := m) (by simp) h
  | succ d ih =>
    intro m S x k h
    cases x with
    | ptr q g off =>
      simp only [canAt] at h
      split at h
      · rename_i i hi; exact found S q g off i k hi h
      simp only [RM.val] at h
      split at h
      case h_4 => simp [RM.val] at h
      case h_3 ds hq =>
        refine ⟨_, _, _, h, CanSnd.one [.obj q g] (by simp) fun σ1 _ w0 S0 G0 c a w _ σ2 c2 L hF hS hN v _ hv => ?_⟩
        obtain ⟨s', h1, h2⟩ := pre_last hS (q := q) (g := g) (by simp [Frm.at])
        exact rep_ptr hN h1 h2 hv
      case h_2 cells hq =>
        split at h
        case isFalse => simp [RM.val] at h
        rename_i hlt
        have hob := gone_some hq
        refine ⟨_, _, _, h, ?_⟩
        have := CanSnd.one (σ := σ) (N := N) (S := S) (x := .ptr q g off) (x' := .pv (.ref (cells.drop off))) [] (by simp) fun σ1 _ w0 S0 G0 c a w _ σ2 c2 L hF hS hN v _ hv => by
          rcases hF.frz.look hob with h1 | ⟨_, _, h1, _⟩
          · obtain ⟨b, hb, e1⟩ := hv.2 (by rw [alive_of h1]; rfl)
            obtain ⟨b', hb', hr⟩ := hF.rel.obs q g _ h1
            rw [hb] at hb'; cases hb'
            rw [e1, pval_ptr hlt]
            refine Rep.ref (cells.drop off) b off (fun i => (c2.G b (off + i)).getD undef) (fun i p hp => ?_) (fun i p hp => ?_)
            · rw [List.getElem?_drop] at hp
              obtain ⟨v, h2, _⟩ := hr _ _ hp
              show c2.G _ _ = _
              rw [h2]; rfl
            · rw [List.getElem?_drop] at hp
              obtain ⟨v, h2, h3⟩ := hr _ _ hp
              rw [h2]; exact h3
          · cases h1
        rwa [List.append_nil] at this
      case h_1 cells hq =>
        have hob := gone_some hq
        obtain ⟨cells', us, S', h1, p1, l1, H⟩ := val_canL (N := N) (fun m S x k h => ih m S x k h) h
        refine ⟨_, _, _, h1, List.IsPrefix.trans p1 (List.prefix_append _ _), rfl, fun σ1 hf => ?_⟩
        obtain ⟨f1, R1⟩ := H σ1 hf
        refine ⟨f1, fun w0 S0 G0 c a w hR => ?_⟩
        obtain ⟨c1, hR1, g1, e1, e2, v1⟩ := R1 w0 S0 G0 c a w hR
        refine ⟨c1, hR1, g1, e1, e2, fun σ2 c2 L hF hS hN => ?_⟩
        obtain ⟨q1, q2⟩ := v1 σ2 c2 L hF (Ext.of_prefix (List.prefix_append _ _) hS) hN
        refine ⟨fun i y y' v hy hy' hv => ?_, fun q' g' cells1 hm hn n hρ hex => ?_⟩
        · cases i with
          | zero =>
            cases hy; cases hy'
            obtain ⟨s', h1, h2⟩ := pre_last hS (q := q) (g := g) (by simp [Frm.at])
            exact rep_ptr hN h1 h2 (RepAt.keep (Gh.le_trans g1 hF.le) (Frz.keeps hf hF.frz (hF.ρ.trans e1) (hF.cp.trans e2)) hv)
          | succ i => simp at hy
        · rcases List.mem_append.1 hm with hm | hm
          · exact q2 q' g' cells1 hm hn n hρ hex
          · simp only [List.mem_singleton, Frm.blk.injEq] at hm
            obtain ⟨rfl, rfl, rfl⟩ := hm
            have hob1 : σ1.ob q' = (g', some (.blk cells)) := by
              rcases hf.look hob with h1 | ⟨_, _, h1, _⟩
              · exact h1
              · cases h1
            have hob2 : σ2.ob q' = (g', some (.blk cells)) := by
              rcases hF.frz.look hob with h1 | ⟨_, _, h1, _⟩
              · exact h1
              · cases h1
            obtain ⟨b, cs, ty, hb, hh, hl, hr, hg⟩ := hR.obs _ _ _ hob1
            obtain ⟨b2, cs2, ty2, hb2, hh2, hl2, hr2, hg2⟩ := hF.rel.obs _ _ _ hob2
            rw [hF.ρ, e1, hb] at hb2
            cases hb2
            rw [hh] at hh2
            cases hh2
            refine ⟨b, cs, ty, by rw [hρ, hF.ρ, e1]; exact hb, hh, by rw [hl, l1], fun i x1 hx1 => ?_, hg2⟩
            have hi := (List.getElem?_eq_some_iff.1 hx1).1
            obtain ⟨x, hx⟩ : ∃ x, cells[i]? = some x := ⟨cells[i]'(by omega), List.getElem?_eq_getElem (by omega)⟩
            exact q1 i x x1 _ hx hx1 (hr i x hx)
    | pv p => exact can_plain (m := m) (by simp) h
    | any => exact can_plain (m := m) (by simp) h
    | eptr q g j o => exact can_plain (m := m) (by simp) h
    | tail q g j => exact can_plain (m := m) (by simp) h
    | nil => exact can_plain (m := m) (by simp) h
    | row q g => exact can_plain (m := m) (by simp) h
end Go.E2
namespace Go.E2
open Go.RowKit
set_option linter.unusedVariables false
set_option linter.unusedSimpArgs false
variable {ob : Obs} {c c' : Con} {w w' w0 : World} {S0 : Own} {G0 G : Gh} {σ σ' σ1 : St} {a a' : Act} {P : Program}
def obsL (ins : List AObj) : Obs := fun n => (0, if pinN ≤ n then ins[n - pinN]? else none)
def obsF (fin : List (Option AObj)) : Obs := fun n => (0, if pinN ≤ n then (fin[n - pinN]?).join else none)
theorem obsL_at (ins : List AObj) (i : Nat) : obsL ins (pinN + i) = (0, ins[i]?) := by
  unfold obsL
  rw [if_pos (by omega), Nat.add_sub_cancel_left]
theorem obsF_at (fin : List (Option AObj)) (i : Nat) : obsF fin (pinN + i) = (0, (fin[i]?).join) := by
  unfold obsF
  rw [if_pos (by omega), Nat.add_sub_cancel_left]
def blks (ins : List AObj) (c0 : Con) (b : Nat) : Prop := ∃ i o, ins[i]? = some o ∧ owned o = true ∧ c0.ρ (pinN + i) = some b
structure InOk (w : World) (c0 : Con) (ins : List AObj) : Prop where
  imm : ∀ b o v, c0.G b o = some v → w.cell? ⟨b, o, none⟩ = some v
  obs : ∀ i o, ins[i]? = some o → ObOk (obsL ins) c0 w (pinN + i) o
  sep : ∀ i i' o o' b, ins[i]? = some o → ins[i']? = some o' → owned o = true → owned o' = true → c0.ρ (pinN + i) = some b → c0.ρ (pinN + i') = some b → i = i'
structure OutOk (w : World) (c0 : Con) (ins : List AObj) (res : AV) (fin : List (Option AObj)) (v : Value) (c : Con) (w' : World) : Prop where
  le : Gh.le c0.G c.G
  imm : ∀ b o v, c.G b o = some v → w'.cell? ⟨b, o, none⟩ = some v
  fresh : ∀ b o, c.G b o ≠ c0.G b o → w.heap.size ≤ b ∨ blks ins c0 b
  fr : Fr (blks ins c0) w w'
  rep : RepAV (obsF fin) c res v
  obs : ∀ i o, fin[i]? = some (some o) → ObOk (obsF fin) c w' (pinN + i) o
  sep : ∀ i i' o o' b, fin[i]? = some (some o) → fin[i']? = some (some o') → owned o = true → owned o' = true → c.ρ (pinN + i) = some b → c.ρ (pinN + i') = some b → i = i'
  new : ∀ i o b, fin[i]? = some (some o) → owned o = true → c.ρ (pinN + i) = some b → w.heap.size ≤ b ∨ blks ins c0 b
  keep : ∀ i, i < ins.length → Keeps (obsL ins) (obsF fin) c0 c (pinN + i)
  len : ins.length ≤ fin.length
def Spec (P : Program) (f : FuncId) (args : List V1) (ins : List AObj) (res : AV) (fin : List (Option AObj)) : Prop :=
  ∀ (w : World) (c0 : Con) (vs : Array Value), InOk w c0 ins → vs.size = args.length → (∀ i x, args[i]? = some x → RepV1 (obsL ins) c0 x (vs.getD i undef)) →
    Calls P f vs w fun e w' => ∃ v c, e = .returned v ∧ OutOk w c0 ins res fin v c w'
def backAt (B : Nat → Nat × Nat) (len : Nat) : At → At
  | .pv p => .pv p
  | .nil => .nil
  | .any => .any
  | .row n g => if pinN ≤ n ∧ n < pinN + len then .row (B (n - pinN)).1 (B (n - pinN)).2 else .any
  | .ptr n g off => if pinN ≤ n ∧ n < pinN + len then .ptr (B (n - pinN)).1 (B (n - pinN)).2 off else .any
  | .eptr _ _ _ _ => .any
  | .tail _ _ _ => .any
def backV1 (B : Nat → Nat × Nat) (len : Nat) : V1 → V1
  | .at x => .at (backAt B len x)
  | .agg l => .agg (l.map (backAt B len))
def backAV (B : Nat → Nat × Nat) (len : Nat) : AV → AV
  | .one x => .one (backV1 B len x)
  | .tup l => .tup (l.map (backV1 B len))
def backO (B : Nat → Nat × Nat) (len : Nat) : AObj → AObj
  | .blk cells => .blk (cells.map (backAt B len))
  | .fro cells => .fro cells
  | .row own e xs => .row own e xs
  | .view e xs => .view e xs
  | .map ds => .map ds
theorem backO_shape (B : Nat → Nat × Nat) (len : Nat) (o : Option AObj) : rowLen (o.map (backO B len)) = rowLen o ∧ rowE (o.map (backO B len)) = rowE o ∧ isVar (o.map (backO B len)) = isVar o := by
  cases o with
  | none => exact ⟨rfl, rfl, rfl⟩
  | some o => cases o <;> exact ⟨rfl, rfl, rfl⟩
theorem backO_owned (B : Nat → Nat × Nat) (len : Nat) (o : AObj) : owned (backO B len o) = owned o := by cases o <;> rfl
def backU (B : Nat → Nat × Nat) (len : Nat) : List (Option AObj) → Nat → List Upd
  | [], _ => []
  | o :: l, i => ((B i).1, (B i).2, o.map (backO B len)) :: backU B len l (i + 1)
theorem mem_backU {B : Nat → Nat × Nat} {len : Nat} {u : Upd} : ∀ {l : List (Option AObj)} {i : Nat}, u ∈ backU B len l i ↔ ∃ j o, l[j]? = some o ∧ u = ((B (i + j)).1, (B (i + j)).2, o.map (backO B len))
  | [], i => by simp [backU]
  | o :: l, i => by
    rw [backU, List.mem_cons, mem_backU (l := l)]
    constructor
    · rintro (rfl | ⟨j, o', h1, rfl⟩)
      · exact ⟨0, o, rfl, rfl⟩
      · exact ⟨j + 1, o', h1, by rw [show i + 1 + j = i + (j + 1) by omega]⟩
    · rintro ⟨j, o', h1, rfl⟩
      cases j with
      | zero => cases h1; exact .inl rfl
      | succ j => exact .inr ⟨j, o', h1, by rw [show i + 1 + j = i + (j + 1) by omega]⟩
theorem ob_lays : ∀ (us : List Upd) (σ : St) (q : Nat), (∃ u ∈ us, u.1 = q ∧ (σ.lays us).ob q = u.2) ∨ ((∀ u ∈ us, u.1 ≠ q) ∧ (σ.lays us).ob q = σ.ob q)
  | [], σ, q => .inr ⟨by simp, rfl⟩
  | u :: us, σ, q => by
    have e : σ.lays (u :: us) = (σ.lays [u]).lays us := rfl
    rw [e]
    rcases ob_lays us (σ.lays [u]) q with ⟨u', h1, h2, h3⟩ | ⟨h1, h2⟩
    · exact .inl ⟨u', .tail _ h1, h2, h3⟩
    · rw [h2]
      have e2 := ob_lays1 σ u.1 u.2 q
      by_cases h : u.1 = q
      · left
        exact ⟨u, .head _, h, by rw [show (σ.lays [u]).ob q = _ from e2, if_pos h]⟩
      · right
        refine ⟨fun u' hu => ?_, by rw [show (σ.lays [u]).ob q = _ from e2, if_neg h]⟩
        rcases List.mem_cons.1 hu with rfl | hu
        · exact h
        · exact h1 u' hu
def Frm.key : Frm → Option (Nat × Nat)
  | .obj q g => some (q, g)
  | .blk q g _ => some (q, g)
  | .nil _ => none
def callN : Nms where
  nm i := pinN + i
  inv n := if pinN ≤ n then some (n - pinN) else none
theorem callN_ok (L : List Frm) : callN.ok L := fun i _ => by
  show (if pinN ≤ pinN + i then some (pinN + i - pinN) else none) = some i
  rw [if_pos (by omega), Nat.add_sub_cancel_left]
theorem conC_src {L : List Frm} {i : Nat} {s : Frm} (hs : L[i]? = some s) : (conC callN L c).ρ (pinN + i) = s.src.bind c.ρ ∧ ∀ q, s.src = some q → (conC callN L c).cp (pinN + i) = c.cp q := by
  have hat := Nms.at (callN_ok L) hs
  have hat : (callN.inv (pinN + i)).bind (L[·]?) = some s := hat
  constructor
  · show (((callN.inv (pinN + i)).bind (L[·]?)).bind Frm.src).bind c.ρ = _
    rw [hat]; rfl
  · intro q hq
    show (match ((callN.inv (pinN + i)).bind (L[·]?)).bind Frm.src with | some q => c.cp q | none => 0) = _
    rw [hat, Option.bind_some, hq]
theorem obsC_ins {L : List Frm} {ins : List AObj} (h : ins.map some = L.map (Frm.obOf ob)) : obsC callN L ob = obsL ins := by
  funext n
  unfold obsC obsL
  by_cases hn : pinN ≤ n
  · rw [if_pos hn]
    have : callN.inv n = some (n - pinN) := if_pos hn
    rw [this, Option.bind_some]
    have e := congrArg (fun l : List (Option AObj) => l[n - pinN]?) h
    simp only [List.getElem?_map] at e
    cases hL : L[n - pinN]? with
    | none =>
      rw [hL] at e
      cases hi : ins[n - pinN]? with
      | none => rfl
      | some o => rw [hi] at e; cases e
    | some s =>
      rw [hL] at e
      cases hi : ins[n - pinN]? with
      | none => rw [hi] at e; cases e
      | some o =>
        rw [hi] at e
        simp only [Option.map_some, Option.some.injEq] at e
        rw [Option.bind_some, ← e]
  · rw [if_neg hn]
    have : callN.inv n = none := if_neg hn
    rw [this]
    rfl
theorem obOf_some {s : Frm} {o : AObj} (h : s.obOf ob = some o) : (∃ q g, s = .obj q g ∧ ob q = (g, some o) ∧ stayO o = true) ∨ (∃ e, s = .nil e ∧ o = .row true e []) ∨ ∃ q g cells cells', s = .blk q g cells' ∧ ob q = (g, some (.blk cells)) ∧ o = .blk cells' := by
  have al : ∀ {q g o}, alive ob q g = some o → ob q = (g, some o) := fun {q g o} h => by
    unfold alive at h
    split at h
    · rename_i e; rw [← e, ← h]
    · cases h
  cases s with
  | obj q g =>
    left
    simp only [Frm.obOf, rowOnly, blkOnly] at h
    split at h
    · rename_i h1; cases h; exact ⟨q, g, rfl, al h1, rfl⟩
    · rename_i h1; cases h; exact ⟨q, g, rfl, al h1, rfl⟩
    · rename_i h1; cases h; exact ⟨q, g, rfl, al h1, rfl⟩
    · cases h
  | nil e => cases h; exact .inr (.inl ⟨e, rfl, rfl⟩)
  | blk q g cells' =>
    right; right
    simp only [Frm.obOf, rowOnly, blkOnly] at h
    split at h
    · rename_i cells h1; cases h; exact ⟨q, g, cells, cells', rfl, al h1, rfl⟩
    · cases h
theorem Rel.into (h : Rel w0 S0 G0 σ c a w) {L : List Frm} {ins : List AObj} (hins : ins.map some = L.map (Frm.obOf σ.ob)) (hnd : (L.filterMap Frm.src).Nodup)
    (hblk : ∀ q g cells', Frm.blk q g cells' ∈ L → ∀ n, (conC callN L c).ρ n = c.ρ q → (∃ cells, σ.ob q = (g, some (.blk cells))) → ObOk (obsC callN L σ.ob) (conC callN L c) w n (.blk cells')) : InOk w (conC callN L c) ins := by
  have get : ∀ (i : Nat) (o : AObj), ins[i]? = some o → ∃ s : Frm, L[i]? = some s ∧ s.obOf σ.ob = some o := fun i o ho => by
    have e := congrArg (fun l : List (Option AObj) => l[i]?) hins
    simp only [List.getElem?_map, ho, Option.map_some] at e
    cases hL : L[i]? with
    | none => rw [hL] at e; cases e
    | some s => rw [hL] at e; simp only [Option.map_some, Option.some.injEq] at e; exact ⟨s, rfl, e.symm⟩
  have uniq : ∀ (i j : Nat) (s t : Frm) (q : Nat), L[i]? = some s → L[j]? = some t → s.src = some q → t.src = some q → i = j := by
    have gen : ∀ (L : List Frm), (L.filterMap Frm.src).Nodup → ∀ (i j : Nat) (s t : Frm) (q : Nat), L[i]? = some s → L[j]? = some t → s.src = some q → t.src = some q → i = j := by
      intro L
      induction L with
      | nil => intro _ i j s t q h1; simp at h1
      | cons x L ih =>
        intro hn i j s t q h1 h2 h3 h4
        have mem : ∀ (k : Nat) (u : Frm), L[k]? = some u → u.src = some q → q ∈ L.filterMap Frm.src := fun k u hu hq => List.mem_filterMap.2 ⟨u, List.mem_of_getElem? hu, hq⟩
        cases i with
        | zero =>
          cases h1
          rw [List.filterMap_cons, h3] at hn
          cases j with
          | zero => rfl
          | succ j => exact absurd (mem j t h2 h4) (List.nodup_cons.1 hn).1
        | succ i =>
          cases j with
          | zero =>
            cases h2
            rw [List.filterMap_cons, h4] at hn
            exact absurd (mem i s h1 h3) (List.nodup_cons.1 hn).1
          | succ j =>
            rw [List.filterMap_cons] at hn
            have hn' : (L.filterMap Frm.src).Nodup := by
              split at hn
              · exact hn
              · exact (List.nodup_cons.1 hn).2
            rw [ih hn' i j s t q h1 h2 h3 h4]
    exact gen L hnd
  have eobs := obsC_ins hins
  refine ⟨h.imm, fun i o ho => ?_, fun i i' o o' b h1 h2 h3 h4 h5 h6 => ?_⟩
  · obtain ⟨s, hs, hso⟩ := get i o ho
    obtain ⟨e1, e2⟩ := conC_src (c := c) hs
    rcases obOf_some hso with ⟨q, g, rfl, hob, hv⟩ | ⟨e, rfl, rfl⟩ | ⟨q, g, cells, cells', rfl, hob, rfl⟩
    · have hk := h.obs q g o hob
      have e1 : (conC callN L c).ρ (pinN + i) = c.ρ q := e1
      have e2 := e2 q rfl
      cases o with
      | blk cells => cases hv
      | fro cells => cases hv
      | map ds =>
        obtain ⟨b, es, cl, a1, a2, a3, a4⟩ := hk
        exact ⟨b, es, cl, e1.trans a1, a2, a3, a4⟩
      | row own e xs =>
        rcases hk with ⟨a1, a2, a3⟩ | ⟨b, cs, ty, a1, a2, a3, a4, a5, a6, a7⟩
        · exact .inl ⟨e1.trans a1, a2, e2.trans a3⟩
        · exact .inr ⟨b, cs, ty, e1.trans a1, a2, by rw [e2]; exact a3, by rw [e2]; exact a4, a5, a6, a7⟩
      | view e xs =>
        rcases hk with ⟨a1, a2⟩ | ⟨b, a1, a2, a3, a4⟩
        · exact .inl ⟨e1.trans a1, a2⟩
        · exact .inr ⟨b, e1.trans a1, by rw [e2]; exact a2, a3, a4⟩
    · refine .inl ⟨e1, rfl, ?_⟩
      show (match ((callN.inv (pinN + i)).bind (L[·]?)).bind Frm.src with | some q => c.cp q | none => 0) = 0
      have hat : (callN.inv (pinN + i)).bind (L[·]?) = some (.nil e) := Nms.at (callN_ok L) hs
      rw [hat]; rfl
    · rw [← eobs]
      exact hblk q g cells' (List.mem_of_getElem? hs) _ e1 ⟨cells, hob⟩
  · obtain ⟨s, hs, hso⟩ := get i o h1
    obtain ⟨s', hs', hso'⟩ := get i' o' h2
    rw [(conC_src hs).1] at h5
    rw [(conC_src hs').1] at h6
    obtain ⟨q, hq, hb⟩ := Option.bind_eq_some_iff.1 h5
    obtain ⟨q', hq', hb'⟩ := Option.bind_eq_some_iff.1 h6
    have ow : ∀ {s : Frm} {o : AObj} {q : Nat}, s.obOf σ.ob = some o → owned o = true → s.src = some q → ∃ g o', σ.ob q = (g, some o') ∧ owned o' = true := fun {s o q} hso ho hq => by
      rcases obOf_some hso with ⟨q, g, rfl, hob, hv⟩ | ⟨e, rfl, rfl⟩ | ⟨q, g, cells, cells', rfl, hob, rfl⟩
      · cases hq; exact ⟨g, o, hob, ho⟩
      · cases hq
      · cases hq; exact ⟨g, _, hob, rfl⟩
    obtain ⟨g1, o1, z1, z2⟩ := ow hso h3 hq
    obtain ⟨g2, o2, z3, z4⟩ := ow hso' h4 hq'
    have := h.sep q q' g1 g2 o1 o2 b z1 z3 z2 z4 hb hb'
    subst this
    exact uniq i i' s s' q hs hs' hq hq'
end Go.E2
namespace Go.E2
open Go.RowKit
set_option linter.unusedVariables false
set_option linter.unusedSimpArgs false
variable {ob : Obs} {c c' : Con} {w w' w0 : World} {S0 : Own} {G0 G : Gh} {σ σ' σ1 : St} {a a' : Act} {P : Program}
theorem Rel.back (h : Rel w0 S0 G0 σ c a w) {L : List Frm} {ins : List AObj} (hins : ins.map some = L.map (Frm.obOf σ.ob)) {res : AV} {fin : List (Option AObj)} {v : Value} {c1 : Con}
    (he : OutOk w (conC callN L c) ins res fin v c1 w') (B : Nat → Nat × Nat)
    (hnd : ∀ i j, i < fin.length → j < fin.length → (B i).1 = (B j).1 → i = j) (hB1 : ∀ i s q g, L[i]? = some s → s.key = some (q, g) → B i = (q, g))
    (hB2 : ∀ i, i < fin.length → (∀ s, L[i]? = some s → s.key = none) → (B i).2 = (σ.ob (B i).1).1 + 1) (d : Option Nat) :
    ∃ c', Rel w0 S0 G0 ((σ.lays (backU B fin.length fin 0)).put d (backAV B fin.length res)) c' (a.put d v) w' := by
  have dec : ∀ q, Decidable (∃ i, i < fin.length ∧ (B i).1 = q) := fun q => Classical.propDecidable _
  let c2 : Con := { ρ := fun q => if hq : ∃ i, i < fin.length ∧ (B i).1 = q then c1.ρ (pinN + Classical.choose hq) else c.ρ q
                    cp := fun q => if hq : ∃ i, i < fin.length ∧ (B i).1 = q then c1.cp (pinN + Classical.choose hq) else c.cp q
                    G := c1.G }
  have at1 : ∀ i, i < fin.length → c2.ρ (B i).1 = c1.ρ (pinN + i) ∧ c2.cp (B i).1 = c1.cp (pinN + i) := fun i hi => by
    have hq : ∃ j, j < fin.length ∧ (B j).1 = (B i).1 := ⟨i, hi, rfl⟩
    have e : Classical.choose hq = i := hnd _ _ (Classical.choose_spec hq).1 hi (Classical.choose_spec hq).2
    constructor
    · show (if hq : ∃ j, j < fin.length ∧ (B j).1 = (B i).1 then c1.ρ (pinN + Classical.choose hq) else c.ρ (B i).1) = _
      rw [dif_pos hq, e]
    · show (if hq : ∃ j, j < fin.length ∧ (B j).1 = (B i).1 then c1.cp (pinN + Classical.choose hq) else c.cp (B i).1) = _
      rw [dif_pos hq, e]
  have at0 : ∀ q, (¬ ∃ i, i < fin.length ∧ (B i).1 = q) → c2.ρ q = c.ρ q ∧ c2.cp q = c.cp q := fun q hq => ⟨dif_neg hq, dif_neg hq⟩
  let σ2 := (σ.lays (backU B fin.length fin 0)).put d (backAV B fin.length res)
  have ob1 : ∀ i, i < fin.length → σ2.ob (B i).1 = ((B i).2, (fin[i]?).join.map (backO B fin.length)) := fun i hi => by
    show (St.put _ _ _).ob _ = _
    rw [St.ob_put]
    rcases ob_lays (backU B fin.length fin 0) σ (B i).1 with ⟨u, h1, h2, h3⟩ | ⟨h1, h2⟩
    · obtain ⟨j, o, h4, rfl⟩ := mem_backU.1 h1
      have hj := (List.getElem?_eq_some_iff.1 h4).1
      rw [Nat.zero_add] at h2 h3
      obtain rfl := hnd j i hj hi h2
      rw [h3, h4]
      rfl
    · exact absurd rfl (h1 _ (mem_backU.2 ⟨i, fin[i], List.getElem?_eq_getElem hi, by rw [Nat.zero_add]⟩))
  have ob0 : ∀ q, (¬ ∃ i, i < fin.length ∧ (B i).1 = q) → σ2.ob q = σ.ob q := fun q hq => by
    show (St.put _ _ _).ob _ = _
    rw [St.ob_put]
    rcases ob_lays (backU B fin.length fin 0) σ q with ⟨u, h1, h2, h3⟩ | ⟨h1, h2⟩
    · obtain ⟨j, o, h4, rfl⟩ := mem_backU.1 h1
      have hj := (List.getElem?_eq_some_iff.1 h4).1
      rw [Nat.zero_add] at h2
      exact absurd ⟨j, hj, h2⟩ hq
    · exact h2
  have get : ∀ (i : Nat) (o : AObj), ins[i]? = some o → ∃ s : Frm, L[i]? = some s ∧ s.obOf σ.ob = some o := fun i o ho => by
    have e := congrArg (fun l : List (Option AObj) => l[i]?) hins
    simp only [List.getElem?_map, ho, Option.map_some] at e
    cases hL : L[i]? with
    | none => rw [hL] at e; cases e
    | some s => rw [hL] at e; simp only [Option.map_some, Option.some.injEq] at e; exact ⟨s, rfl, e.symm⟩
  have lenL : ins.length = L.length := by simpa using congrArg List.length hins
  have inblk : ∀ b, blks ins (conC callN L c) b → ∃ i q g o', i < fin.length ∧ B i = (q, g) ∧ σ.ob q = (g, some o') ∧ owned o' = true ∧ c.ρ q = some b := by
    rintro b ⟨i, o, h1, h2, h3⟩
    obtain ⟨s, hs, hso⟩ := get i o h1
    rw [(conC_src hs).1] at h3
    obtain ⟨q, hq, hb⟩ := Option.bind_eq_some_iff.1 h3
    have hi : i < fin.length := Nat.lt_of_lt_of_le (List.getElem?_eq_some_iff.1 h1).1 he.len
    rcases obOf_some hso with ⟨q', g, rfl, hob, hv⟩ | ⟨e, rfl, rfl⟩ | ⟨q', g, cells, cells', rfl, hob, rfl⟩
    · cases hq; exact ⟨i, q, g, o, hi, hB1 i _ q g hs rfl, hob, h2, hb⟩
    · cases hq
    · cases hq; exact ⟨i, q, g, _, hi, hB1 i _ q g hs rfl, hob, rfl, hb⟩
  have hK : ∀ q, Keeps σ.ob σ2.ob c c2 q := fun q => by
    by_cases hq : ∃ i, i < fin.length ∧ (B i).1 = q
    · obtain ⟨i, hi, rfl⟩ := hq
      rw [Keeps, ob1 i hi]
      by_cases hk : ∀ s, L[i]? = some s → s.key = none
      · left
        rw [hB2 i hi hk]
        exact Nat.lt_succ_self _
      · have hk' : ∃ s : Frm, L[i]? = some s ∧ s.key ≠ none := Classical.byContradiction fun hc => hk fun s hs => Classical.byContradiction fun hn => hc ⟨s, hs, hn⟩
        obtain ⟨s, hs, hn⟩ := hk'
        have hiL := (List.getElem?_eq_some_iff.1 hs).1
        have hins : ∃ o, ins[i]? = some o := ⟨ins[i]'(by omega), List.getElem?_eq_getElem (by omega)⟩
        obtain ⟨o, ho⟩ := hins
        obtain ⟨s', hs', hso⟩ := get i o ho
        rw [hs] at hs'
        cases hs'
        have src : ∃ q g, s.key = some (q, g) ∧ s.src = some q ∧ ∃ o', σ.ob q = (g, some o') ∧ rowLen (some o') = rowLen (some o) ∧ rowE (some o') = rowE (some o) ∧ isVar (some o') = isVar (some o) := by
          rcases obOf_some hso with ⟨q', g, rfl, hob, hv⟩ | ⟨e, rfl, rfl⟩ | ⟨q', g, cells, cells', rfl, hob, rfl⟩
          · exact ⟨q', g, rfl, rfl, o, hob, rfl, rfl, rfl⟩
          · exact absurd rfl hn
          · exact ⟨q', g, rfl, rfl, _, hob, rfl, rfl, rfl⟩
        obtain ⟨q, g, k1, k2, o', k3, k4, k5, k6⟩ := src
        have hBi := hB1 i s q g hs k1
        obtain ⟨z1, z2⟩ := conC_src (c := c) hs
        rw [k2, Option.bind_some] at z1
        have z2 := z2 q k2
        obtain ⟨y1, y2⟩ := at1 i hi
        rw [hBi] at y1 y2 ⊢
        dsimp only at y1 y2 ⊢
        rw [y1, y2, k3]
        have hkeep := he.keep i (by omega)
        rw [Keeps, obsL_at, obsF_at, ho, z1, z2] at hkeep
        rcases hkeep with hlt | ⟨_, r1, r2, r3⟩
        · exact absurd hlt (Nat.lt_irrefl _)
        · obtain ⟨t1, t2, t3⟩ := backO_shape B fin.length (fin[i]?).join
          right
          refine ⟨rfl, fun n hn => ?_, fun e hE => ?_, fun hv => ?_⟩
          · rw [t1] at hn
            obtain ⟨u1, u2, u3⟩ := r1 n hn
            exact ⟨k4.trans u1, u2, u3⟩
          · rw [t2] at hE
            obtain ⟨u1, u2⟩ := r2 e hE
            exact ⟨k5.trans u1, u2⟩
          · rw [t3] at hv
            obtain ⟨u1, u2⟩ := r3 hv
            exact ⟨k6.trans u1, u2⟩
    · exact Keeps.same (ob0 q hq) (at0 q hq).1 (at0 q hq).2
  have sub : ∀ n, pinN ≤ n ∧ n < pinN + fin.length → n - pinN < fin.length ∧ n = pinN + (n - pinN) := fun n hn => ⟨by omega, by omega⟩
  have hRA : ∀ x u, RepAt (obsF fin) c1 x u → RepAt σ2.ob c2 (backAt B fin.length x) u := fun x u hu => by
    cases x with
    | pv p => exact hu
    | nil => exact hu
    | any => trivial
    | eptr k g j off => trivial
    | tail k g j => trivial
    | row n g =>
      simp only [backAt]
      split
      · rename_i hn
        obtain ⟨hi, hne⟩ := sub n hn
        generalize n - pinN = i at hi hne
        subst hne
        obtain ⟨hg, hu⟩ := hu
        rw [obsF_at] at hg
        have hg : g = 0 := by simpa using hg
        subst hg
        obtain ⟨y1, y2⟩ := at1 i hi
        refine ⟨by rw [ob1 i hi]; exact Nat.le_refl _, fun m hm => ?_⟩
        unfold alive at hm
        rw [ob1 i hi, if_pos rfl, (backO_shape B fin.length _).1] at hm
        rw [y1, y2]
        refine hu m ?_
        unfold alive
        rw [obsF_at, if_pos rfl]
        exact hm
      · trivial
    | ptr n g off =>
      simp only [backAt]
      split
      · rename_i hn
        obtain ⟨hi, hne⟩ := sub n hn
        generalize n - pinN = i at hi hne
        subst hne
        obtain ⟨hg, hu⟩ := hu
        rw [obsF_at] at hg
        have hg : g = 0 := by simpa using hg
        subst hg
        obtain ⟨y1, y2⟩ := at1 i hi
        refine ⟨by rw [ob1 i hi]; exact Nat.le_refl _, fun hm => ?_⟩
        unfold alive at hm
        rw [ob1 i hi, if_pos rfl, (backO_shape B fin.length _).2.2] at hm
        rw [y1]
        refine hu ?_
        unfold alive
        rw [obsF_at, if_pos rfl]
        exact hm
      · trivial
  have hV1 : ∀ x u, RepV1 (obsF fin) c1 x u → RepV1 σ2.ob c2 (backV1 B fin.length x) u := fun x u hu => by
    cases x with
    | «at» y => exact hRA y u hu
    | agg l =>
      obtain ⟨cs, e, hl, hr⟩ := hu
      refine ⟨cs, e, by simp [hl], fun i y hy => ?_⟩
      obtain ⟨z, hz, rfl⟩ := map_get hy
      exact hRA z _ (hr i z hz)
  have hval : RepAV σ2.ob c2 (backAV B fin.length res) v := by
    have hrep := he.rep
    cases res with
    | one x => exact hV1 x v hrep
    | tup l =>
      obtain ⟨vs, e, hl, hr⟩ := hrep
      refine ⟨vs, e, by simp [hl], fun i y hy => ?_⟩
      obtain ⟨z, hz, rfl⟩ := map_get hy
      exact hV1 z _ (hr i z hz)
  have notin : ∀ {q g : Nat} {o : AObj} {b : Nat}, (¬ ∃ i, i < fin.length ∧ (B i).1 = q) → σ.ob q = (g, some o) → owned o = true → c.ρ q = some b → ¬ blks ins (conC callN L c) b := fun {q g o b} hq ho hw hb hbl => by
    obtain ⟨i, q', g', o', hi, hBi, h1, h2, h3⟩ := inblk b hbl
    have := h.sep q q' g g' o o' b ho h1 hw h2 hb h3
    subst this
    exact hq ⟨i, hi, by rw [hBi]⟩
  have hGold : ∀ b, b < w.heap.size → ¬ blks ins (conC callN L c) b → ∀ i, c2.G b i = c.G b i := fun b hb hn i => by
    by_cases e : c1.G b i = (conC callN L c).G b i
    · exact e
    · rcases he.fresh b i e with h1 | h1
      · omega
      · exact absurd h1 hn
  refine ⟨c2, h.step (σ' := σ2) he.le hK he.imm (by rw [St.len_put, Act.size_put]; exact h.sz) ?_ (by rw [Act.defers_put]; exact h.df) (fun q g1 o hq => ?_) ?_ ?_ ?_ ?_⟩
  · exact slot_put' (P := fun _ => True) (σ := σ.lays (backU B fin.length fin 0)) h.sz d _ v hval
  · by_cases hr : ∃ i, i < fin.length ∧ (B i).1 = q
    · obtain ⟨i, hi, rfl⟩ := hr
      right
      rw [ob1 i hi] at hq
      cases hf : fin[i]? with
      | none => rw [hf] at hq; cases hq
      | some fo =>
        rw [hf] at hq
        cases fo with
        | none => cases hq
        | some o1 =>
          simp only [Option.join_some, Option.map_some, Prod.mk.injEq, Option.some.injEq] at hq
          obtain ⟨_, rfl⟩ := hq
          have hk := he.obs i o1 hf
          obtain ⟨y1, y2⟩ := at1 i hi
          cases o1 with
          | blk cells =>
            obtain ⟨b, cs, ty, hb, hh, hl, hr, hg⟩ := hk
            refine ⟨b, cs, ty, y1.trans hb, hh, by simp [hl], fun j x hx => ?_, hg⟩
            obtain ⟨z, hz, rfl⟩ := map_get hx
            exact hRA z _ (hr j z hz)
          | fro cells =>
            obtain ⟨b, hb, hr⟩ := hk
            exact ⟨b, y1.trans hb, hr⟩
          | map ds =>
            obtain ⟨b, es, cl, hb, hh, hr, hg⟩ := hk
            exact ⟨b, es, cl, y1.trans hb, hh, hr, hg⟩
          | row own e xs =>
            rcases hk with ⟨a1, a2, a3⟩ | ⟨b, cs, ty, a1, a2, a3, a4, a5, a6, a7⟩
            · exact .inl ⟨y1.trans a1, a2, y2.trans a3⟩
            · exact .inr ⟨b, cs, ty, y1.trans a1, a2, by rw [y2]; exact a3, by rw [y2]; exact a4, a5, a6, a7⟩
          | view e xs =>
            rcases hk with ⟨a1, a2⟩ | ⟨b, a1, a2, a3, a4⟩
            · exact .inl ⟨y1.trans a1, a2⟩
            · exact .inr ⟨b, y1.trans a1, by rw [y2]; exact a2, a3, a4⟩
    · rw [ob0 q hr] at hq
      refine .inl ⟨hq, (at0 q hr).1, (at0 q hr).2, fun ho b hb => ?_⟩
      have hlt := h.blk_lt hq ho hb
      have hn := notin hr hq ho hb
      exact ⟨he.fr.block b hlt hn, hGold b hlt hn⟩
  · intro q q' g1 g2 o1 o2 b hq hq' ho1 ho2 hb hb'
    have inn : ∀ i g o, i < fin.length → σ2.ob (B i).1 = (g, some o) → owned o = true → ∃ o', fin[i]? = some (some o') ∧ owned o' = true := fun i g o hi ho hw => by
      rw [ob1 i hi] at ho
      cases hf : fin[i]? with
      | none => rw [hf] at ho; cases ho
      | some fo =>
        rw [hf] at ho
        cases fo with
        | none => cases ho
        | some o1 =>
          simp only [Option.join_some, Option.map_some, Prod.mk.injEq, Option.some.injEq] at ho
          obtain ⟨_, rfl⟩ := ho
          exact ⟨o1, rfl, by rw [← hw, backO_owned]⟩
    by_cases hr : ∃ i, i < fin.length ∧ (B i).1 = q
    · obtain ⟨i, hi, rfl⟩ := hr
      obtain ⟨o3, f1, f2⟩ := inn i g1 o1 hi hq ho1
      rw [(at1 i hi).1] at hb
      by_cases hr' : ∃ i, i < fin.length ∧ (B i).1 = q'
      · obtain ⟨i', hi', rfl⟩ := hr'
        obtain ⟨o4, f3, f4⟩ := inn i' g2 o2 hi' hq' ho2
        rw [(at1 i' hi').1] at hb'
        rw [he.sep i i' o3 o4 b f1 f3 f2 f4 hb hb']
      · rw [ob0 q' hr'] at hq'
        rw [(at0 q' hr').1] at hb'
        have hlt := h.blk_lt hq' ho2 hb'
        rcases he.new i o3 b f1 f2 hb with h1 | h1
        · omega
        · exact absurd h1 (notin hr' hq' ho2 hb')
    · rw [ob0 q hr] at hq
      rw [(at0 q hr).1] at hb
      have hlt := h.blk_lt hq ho1 hb
      by_cases hr' : ∃ i, i < fin.length ∧ (B i).1 = q'
      · obtain ⟨i', hi', rfl⟩ := hr'
        obtain ⟨o4, f3, f4⟩ := inn i' g2 o2 hi' hq' ho2
        rw [(at1 i' hi').1] at hb'
        rcases he.new i' o4 b f3 f4 hb' with h1 | h1
        · omega
        · exact absurd h1 (notin hr hq ho1 hb)
      · rw [ob0 q' hr'] at hq'
        rw [(at0 q' hr').1] at hb'
        exact h.sep q q' g1 g2 o1 o2 b hq hq' ho1 ho2 hb hb'
  · intro q g1 o1 b hq ho1 hb
    by_cases hr : ∃ i, i < fin.length ∧ (B i).1 = q
    · obtain ⟨i, hi, rfl⟩ := hr
      rw [(at1 i hi).1] at hb
      rw [ob1 i hi] at hq
      cases hf : fin[i]? with
      | none => rw [hf] at hq; cases hq
      | some fo =>
        rw [hf] at hq
        cases fo with
        | none => cases hq
        | some o3 =>
          simp only [Option.join_some, Option.map_some, Prod.mk.injEq, Option.some.injEq] at hq
          obtain ⟨_, rfl⟩ := hq
          rcases he.new i o3 b hf (by rw [← ho1, backO_owned]) hb with h1 | h1
          · have := h.fr.size
            left; omega
          · obtain ⟨_, q', g', o', _, _, h2, h3, h4⟩ := inblk b h1
            exact h.new q' g' o' b h2 h3 h4
    · rw [ob0 q hr] at hq
      rw [(at0 q hr).1] at hb
      exact h.new q g1 o1 b hq ho1 hb
  · refine h.fr.trans he.fr fun k hk hbl => ?_
    obtain ⟨_, q', g', o', _, _, h2, h3, h4⟩ := inblk k hbl
    rcases h.new q' g' o' k h2 h3 h4 with h5 | h5
    · omega
    · exact h5
  · intro b o hne
    by_cases e : c1.G b o = (conC callN L c).G b o
    · exact h.fresh b o (by rw [← show c1.G b o = c.G b o from e]; exact hne)
    · rcases he.fresh b o e with h1 | h1
      · have := h.fr.size
        left; omega
      · obtain ⟨_, q', g', o', _, _, h2, h3, h4⟩ := inblk b h1
        exact h.new q' g' o' b h2 h3 h4
end Go.E2
