/- The engine, part 15: a law's arguments as plain values; its row out of its contract. -/
import Derived.Test.YtimmgdpicjmjjaaEEval
import Derived.WalkKit
import Derived.ProofKit
import Derived.OpenShut
import Derived.ShutString
import Derived.ChangeOld
import Derived.SizedLaws
import Derived.Carry
namespace Go.Eng
open Go.RowKit Go.ChangeShapes Go.WideShapes
set_option linter.unusedVariables false
set_option linter.unusedSimpArgs false
variable {P : Program}
/-- All that a world holds. -/
def allOf (w : World) : Gh := fun b o => w.cell? ⟨b, o, none⟩
theorem cell_spot {w : World} {a : Addr} {v : Value} (h : w.cell? a = some v) : a = ⟨a.block, a.off, none⟩ := by
  cases a with
  | mk b o s =>
    cases s with
    | none => rfl
    | some s =>
      unfold World.cell? at h
      split at h <;> simp at h
theorem add_mk (b o i : Nat) : (⟨b, o, none⟩ : Addr).add i = ⟨b, o + i, none⟩ := by
  unfold Addr.add
  split
  · rename_i h; subst h; rfl
  · rfl
/-- Whole numbers in a row. -/
theorem rep_ints {H : Type} {enc : TypeId × Value → H} {w : World} {base : Nat} {spare : Nat → Bool} {held : Bool} {t e : TypeId} {k : IntKind} {a : Option Addr} {len cap : Nat} {d : DataW H} {ps : List MemPlace}
    (ht : P.underlying t = some (.slice e)) (he : P.underlying e = some (.int k)) (hc : P.cellsOf e = 1) (h : DataW.Trod enc P w base spare held t (.slice a len cap) d ps) :
    ∃ l : List Int, Rep (allOf w) (.list 1 (l.map fun n => [.int k n])) (.slice a len cap) ∧ ∀ n ∈ l, (Lit.int k n).wf = true := by
  obtain ⟨fuel, hf⟩ := h
  rcases open_ints ht he hc hf with ⟨hcs, _⟩ | ⟨x, l, c, zs, hcs, _, hl, hm, hz, _, hcell, hwz⟩
  · simp [Value.cells] at hcs
    obtain ⟨rfl, rfl, rfl⟩ := hcs
    exact ⟨[], .nil 1 none 0, by simp⟩
  · simp [Value.cells] at hcs
    obtain ⟨rfl, rfl, rfl⟩ := hcs
    have hlen : len ≤ zs.length := by rw [hz]; split <;> omega
    refine ⟨zs.take len, ?_, fun n hn => hwz n (List.mem_of_mem_take hn)⟩
    rcases Nat.eq_zero_or_pos len with h0 | h0
    · subst h0
      exact .nil 1 _ _
    · have h1 := hcell 0 (by omega)
      have hx : x = ⟨x.block, x.off, none⟩ := cell_spot (a := x) (by simpa [Addr.add] using h1)
      have hr := Rep.list (G := allOf w) 1 ((zs.take len).map fun n => [.int k n]) x.block x.off cap (fun j _ => .int k (zs.getD j 0)) (by simp; omega)
        (fun j y hy => by
          obtain ⟨z, _, rfl⟩ := map_get hy
          rfl)
        (fun j y i z hy hz => by
          obtain ⟨q, hq, rfl⟩ := map_get hy
          have hj := (List.getElem?_eq_some_iff.1 hq).1
          simp at hj
          match i, hz with
          | 0, hz =>
            have h2 := hcell j (by omega)
            rw [hx, add_mk] at h2
            simpa [allOf] using h2)
        (fun j y i z hy hz => by
          obtain ⟨q, hq, rfl⟩ := map_get hy
          obtain ⟨hj, e1⟩ := List.getElem?_eq_some_iff.1 hq
          simp at hj
          match i, hz with
          | 0, hz =>
            simp at hz
            subst hz
            have e2 : zs.getD j 0 = q := by
              rw [List.getD_eq_getElem?_getD, List.getElem?_eq_getElem (by omega), ← e1, List.getElem_take]
              rfl
            simp only [e2]
            exact .int k q)
      have hn : ((zs.take len).map fun n => [PV.int k n]).length = len := by simp; omega
      rw [hn, ← hx] at hr
      exact hr
theorem Spec.law {f : FuncId} {args : List PA} {vs : Array Value} {w : World} (h : Spec P f args (.one (.at (.pv (.bool true))))) (hs : vs.size = args.length) (ha : ∀ i x, args[i]? = some x → RepPA (allOf w) x (vs.getD i undef)) :
    Calls P f vs w fun e w' => e = .returned (.bool true) ∧ Below w.heap.size w w' :=
  (h w (allOf w) vs (fun _ _ _ h => h) hs ha).mono fun e w' ⟨v, c, he, hE⟩ => ⟨by rw [he, rep_bool hE.rep], hE.below⟩
end Go.Eng
