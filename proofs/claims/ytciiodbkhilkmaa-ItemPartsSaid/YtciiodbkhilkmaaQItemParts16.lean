/- ItemParts, part 16: GSeen. -/
import Derived.Lib.SliceRun
import Derived.Lib.Strings
import Derived.Laws.StructEq
import Derived.OrdersHeld
import Derived.Deep.RegionHeld3
import Derived.Laws.BitsLemmas
import Derived.RowKit
import Derived.Below
import Derived.Deep.Draws
import Derived.Deep.AppendLies
import Derived.Maps.AppendAt
import Derived.OwnWalk
import Derived.Laws.BytesArg
import Derived.Laws.MakeOwn
import Derived.Laws.OwnMore
import Derived.Deep.OwnRows
import Derived.Tactics
import Derived.Lib.ConvBytes
import Derived.Laws.Slices
import Derived.WalkKit
import Derived.KernelRfl
import Derived.RowKit3
import Derived.Deep.LoopGhost
import Derived.Deep.QuietTactic
import Derived.BigQuiet
import Derived.WideLaws
import Derived.Deep.DeepCutAuto
import Derived.Deep.CutBlock
import Derived.Laws.Rows
import Derived.Lib.AppendStr
import Derived.ArgAppend
import Derived.Laws.IdiomCopy
import Derived.Test.YtciiodbkhilkmaaProg
import Derived.MapKept
import Derived.Shelf.Abstract
import Derived.Test.YtciiodbkhilkmaaQItemParts0
import Derived.Test.YtciiodbkhilkmaaQItemParts1
import Derived.Test.YtciiodbkhilkmaaQItemParts2
import Derived.Test.YtciiodbkhilkmaaQItemParts4
import Derived.Test.YtciiodbkhilkmaaQItemParts5
import Derived.Test.YtciiodbkhilkmaaQItemParts7
import Derived.Test.YtciiodbkhilkmaaQItemParts8
import Derived.Test.YtciiodbkhilkmaaQItemParts11
import Derived.Test.YtciiodbkhilkmaaQItemParts12
import Derived.Test.YtciiodbkhilkmaaQItemParts14
import Derived.Test.YtciiodbkhilkmaaQItemParts15
namespace Go.Proofs.Ytciiodbkhilkmaa.F
set_option linter.unusedVariables false
set_option linter.unusedSimpArgs false
open Go.RowKit Go.Proofs.YtciiodbkhilkmaaW.PrintWords Go.Proofs.YtciiodbkhilkmaaW.PrintLast Go.Proofs.YtciiodbkhilkmaaW.PrintMore
attribute [local go_sem high] dotEqA
def dotV (d : S24) : Value := .agg #[.int .i64 d.f0, .int .i64 d.f1, .int .i64 d.f2]
theorem check_dot (em : Bool) (a b c : Int) (w : World) : (Instr.checkKey em 10000 24 (.agg #[.int .i64 a, .int .i64 b, .int .i64 c])).run Try.prog w = .ok () w := by
  kernel_rfl
theorem equal_dot (a b : S24) (w : World) : (Op.equal 24 (dotV a) (dotV b)).run Try.prog w = .ok (dotEq a b) w := by
  unfold Op.equal
  exact dotEqA 9998 w _ _ _ _ _ _
theorem dotEq_iff (a b : S24) : dotEq a b = true ↔ a = b := by
  unfold dotEq
  cases a; cases b
  simp
def Seen (r : Nat) (seen : List S24) (W : World) : Prop :=
  ∃ es clock, W.heap[r]? = some (.map es clock) ∧ es.toList.map (fun e => (e.key, e.val)) = seen.map fun d => (dotV d, Value.bool true)
theorem find_dot (d : S24) (w : World) : ∀ (es : List MapEntry) (seen : List S24) (i : Nat), es.map (fun e => (e.key, e.val)) = seen.map (fun d => (dotV d, Value.bool true)) →
    (seen.any (dotEq d) = false ∧ (Instr.findAsking 24 (dotV d) es i).run Try.prog w = .ok none w) ∨
    (seen.any (dotEq d) = true ∧ ∃ j e, es[j]? = some e ∧ e.key = dotV d ∧ (Instr.findAsking 24 (dotV d) es i).run Try.prog w = .ok (some (i + j, .bool true)) w)
  | [], [], _, _ => .inl ⟨rfl, rfl⟩
  | [], _ :: _, _, h => by cases h
  | _ :: _, [], _, h => by cases h
  | e :: es, s :: seen, i, h => by
    simp only [List.map_cons, List.cons.injEq, Prod.mk.injEq] at h
    obtain ⟨⟨hk, hv⟩, hr⟩ := h
    have he : (Op.equal 24 (dotV d) e.key).run Try.prog w = .ok (dotEq d s) w := by rw [hk]; exact equal_dot d s w
    cases hq : dotEq d s with
    | true =>
      refine .inr ⟨by simp [hq], 0, e, rfl, ?_, ?_⟩
      · rw [hk, ← (dotEq_iff d s).1 hq]
      · simp [Instr.findAsking, he, hq, hv, Result.andThen]
    | false =>
      have hs : (Instr.findAsking 24 (dotV d) (e :: es) i).run Try.prog w = (Instr.findAsking 24 (dotV d) es (i + 1)).run Try.prog w := by
        simp [Instr.findAsking, he, hq, Result.andThen]
      rw [hs]
      rcases find_dot d w es seen (i + 1) hr with ⟨h1, h2⟩ | ⟨h1, j, e', h2, h3, h4⟩
      · exact .inl ⟨by simp [hq, h1], h2⟩
      · exact .inr ⟨by simp [hq, h1], j + 1, e', by simpa using h2, h3, by rw [h4, show i + 1 + j = i + (j + 1) by omega]⟩
theorem findKey_dot (d : S24) (w : World) (es : List MapEntry) (seen : List S24) (h : es.map (fun e => (e.key, e.val)) = seen.map (fun d => (dotV d, Value.bool true))) :
    (Instr.findKey 24 (dotV d) es).run Try.prog w = (Instr.findAsking 24 (dotV d) es 0).run Try.prog w := by
  cases es with
  | nil => simp [Instr.findKey, run_underlying Try.underlying24, Instr.findNow, Instr.findAsking, Result.andThen]
  | cons e es =>
    have hk : e.key = dotV (seen.headD ⟨0, 0, 0⟩) := by
      cases seen with
      | nil => cases h
      | cons s seen => simp only [List.map_cons, List.cons.injEq, Prod.mk.injEq] at h; exact h.1.1
    simp [Instr.findKey, run_underlying Try.underlying24, Instr.findNow, Instr.sameNow, Result.andThen]
theorem lookup_dot (r : Nat) (seen : List S24) (d : S24) (w : World) (h : Seen r seen w) :
    (Instr.lookup 77 (.map (some r)) (dotV d) false).run Try.prog w = .ok (.bool (seen.any (dotEq d))) w := by
  obtain ⟨es, clock, hb, hes⟩ := h
  have hf := findKey_dot d w es.toList seen hes
  have hc := check_dot es.isEmpty d.f0 d.f1 d.f2 w
  have hg : (getObj r).run Try.prog w = .ok (.map es clock) w := by simp [getObj, Sem.run, hb]
  rcases find_dot d w es.toList seen 0 hes with ⟨h1, h2⟩ | ⟨h1, j, e, h2, h3, h4⟩
  · rw [h2] at hf
    rw [h1]
    simp [Instr.lookup, run_underlying Try.underlying77, hg, dotV] at hf hc ⊢
    simp [hc, hf, Result.andThen, Try.zeroValue4 w]
  · rw [h4] at hf
    rw [h1]
    simp [Instr.lookup, run_underlying Try.underlying77, hg, dotV] at hf hc ⊢
    simp [hc, hf, Result.andThen]
def seeD (seen : List S24) (d : S24) : List S24 := if seen.any (dotEq d) = true then seen else seen ++ [d]
theorem update_dot (r : Nat) (seen : List S24) (d : S24) (w : World) (h : Seen r seen w) :
    ∃ w', (Instr.mapUpdate 77 (.map (some r)) (dotV d) (.bool true)).run Try.prog w = .ok () w' ∧ Seen r (seeD seen d) w' ∧ Goes w w' (fun k => k = r) := by
  obtain ⟨es, clock, hb, hes⟩ := h
  have hf := findKey_dot d w es.toList seen hes
  have hc := check_dot false d.f0 d.f1 d.f2 w
  have hg : (getObj r).run Try.prog w = .ok (.map es clock) w := by simp [getObj, Sem.run, hb]
  have hs : ∀ o, (setObj r o).run Try.prog w = .ok () { w with heap := w.heap.setIfInBounds r o } := fun o => by simp [setObj, Sem.run, hb]
  have hlt : r < w.heap.size := blk_lt hb
  have hgo : ∀ o, Goes w { w with heap := w.heap.setIfInBounds r o } (fun k => k = r) := fun o =>
    ⟨⟨by simp, fun i hi hn => by
      show (w.heap.setIfInBounds r o)[i]? = _
      rw [Array.getElem?_setIfInBounds_ne (by omega)]⟩, ⟨rfl, rfl, rfl, by simp, fun k hk => absurd hk (Nat.not_lt_zero _)⟩⟩
  have hat : ∀ o, ({ w with heap := w.heap.setIfInBounds r o } : World).heap[r]? = some o := fun o => by
    show (w.heap.setIfInBounds r o)[r]? = _
    rw [Array.getElem?_setIfInBounds_self_of_lt hlt]
  rcases find_dot d w es.toList seen 0 hes with ⟨h1, h2⟩ | ⟨h1, j, e, h2, h3, h4⟩
  · rw [h2] at hf
    refine ⟨_, ?_, ⟨es.push ⟨dotV d, .bool true, clock⟩, clock + 1, hat _, ?_⟩, hgo _⟩
    · simp [Instr.mapUpdate, run_underlying Try.underlying77, hg, dotV] at hf hc ⊢
      simp [hc, hf, hs, Result.andThen]
    · unfold seeD
      rw [if_neg (by rw [h1]; simp), Array.toList_push, List.map_append, List.map_append, hes]
      rfl
  · rw [h4] at hf
    have hk : (Instr.keyThatStays e.key (dotV d)).run Try.prog w = .ok (dotV d) w := by
      rw [h3]
      have hsb : Instr.sameBits 10000 (dotV d) (dotV d) = true := by
        show Instr.sameBits (9999 + 1) (dotV d) (dotV d) = true
        simp [dotV, Instr.sameBits]
      simp [Instr.keyThatStays, hsb]
    have hj : es[j]? = some e := by rw [← Array.getElem?_toList]; exact h2
    refine ⟨_, ?_, ⟨es.modify j fun e => { e with key := dotV d, val := .bool true }, clock, hat _, ?_⟩, hgo _⟩
    · have hjl : j < es.size := (Array.getElem?_eq_some_iff.1 hj).1
      simp [Instr.mapUpdate, run_underlying Try.underlying77, hg, dotV] at hf hc hk ⊢
      simp [hc, hf, hj, hk, hs, Result.andThen]
    · unfold seeD
      rw [if_pos h1, ← hes]
      apply List.ext_getElem?
      intro i
      rw [List.getElem?_map, List.getElem?_map, Array.getElem?_toList, Array.getElem?_toList, Array.getElem?_modify]
      split
      · rename_i hij
        subst hij
        rw [hj]
        have hv : e.val = .bool true := by
          have h5 : (es.toList.map fun e => (e.key, e.val))[j]? = some (e.key, e.val) := by rw [List.getElem?_map, h2]; rfl
          rw [hes, List.getElem?_map] at h5
          obtain ⟨z, hz, hz2⟩ := Option.map_eq_some_iff.1 h5
          exact (Prod.mk.inj hz2).2.symm
        simp [h3, hv]
      · rfl
end Go.Proofs.Ytciiodbkhilkmaa.F
