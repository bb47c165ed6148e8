/- ViewMore, part 54: POnce. -/
import Derived.Sort.Walk0
import Derived.Lib.SliceRun
import Derived.Test.YtciiodbkhilkmaaProg
import Derived.Below
import Derived.Deep.Draws
import Derived.Deep.AppendLies
import Derived.Maps.AppendAt
import Derived.OwnWalk
import Derived.Laws.BytesArg
import Derived.Laws.MakeOwn
import Derived.Laws.OwnMore
import Derived.Deep.OwnRows
import Derived.Tactics
import Derived.Lib.ConvBytes
import Derived.Laws.Slices
import Derived.WalkKit
import Derived.KernelRfl
import Derived.RowKit3
import Derived.Deep.LoopGhost
import Derived.Deep.QuietTactic
import Derived.BigQuiet
import Derived.WideLaws
import Derived.Deep.DeepCutAuto
import Derived.Deep.CutBlock
import Derived.Deep.RegionHeld3
import Derived.Laws.Rows
import Derived.Lib.AppendStr
import Derived.ArgAppend
import Derived.Laws.IdiomCopy
import Derived.OrdersHeld
import Derived.Laws.BitsLemmas
import Derived.RowKit
import Derived.Shelf.SlGeneric
import Derived.Shelf.Sort.Plain
import Derived.Shelf.Slices.CompactS
import Derived.Shelf.Slices.In.SortNone
import Derived.Shelf.SlSortCmp.NoneTotal
import Derived.Ground.NamesProg
import Derived.Ground.SlsfProg
import Derived.Shelf.Abstract
import Derived.Laws.StructEq
import Derived.Lib.Strings
import Derived.Test.YtciiodbkhilkmaaQViewMore0
import Derived.Test.YtciiodbkhilkmaaQViewMore21
import Derived.Test.YtciiodbkhilkmaaQViewMore22
import Derived.Test.YtciiodbkhilkmaaQViewMore23
import Derived.Test.YtciiodbkhilkmaaQViewMore24
import Derived.Test.YtciiodbkhilkmaaQViewMore25
import Derived.Test.YtciiodbkhilkmaaQViewMore26
import Derived.Test.YtciiodbkhilkmaaQViewMore27
import Derived.Test.YtciiodbkhilkmaaQViewMore28
import Derived.Test.YtciiodbkhilkmaaQViewMore29
import Derived.Test.YtciiodbkhilkmaaQViewMore36
import Derived.Test.YtciiodbkhilkmaaQViewMore37
import Derived.Test.YtciiodbkhilkmaaQViewMore44
import Derived.Test.YtciiodbkhilkmaaQViewMore45
import Derived.Test.YtciiodbkhilkmaaQViewMore46
import Derived.Test.YtciiodbkhilkmaaQViewMore47
import Derived.Test.YtciiodbkhilkmaaQViewMore53
namespace Go.Proofs.Ytciiodbkhilkmaa.F
set_option linter.unusedVariables false
set_option linter.unusedSimpArgs false
open Go.RowKit Go.Proofs.YtciiodbkhilkmaaW.PrintWords Go.Proofs.YtciiodbkhilkmaaW.PrintLast Go.Proofs.YtciiodbkhilkmaaW.PrintMore
def aft (out : List ByteArray) (x : ByteArray) : Prop := out = [] ∨ bl (out.getLastD ByteArray.empty) < bl x
def InvO (out xs : List ByteArray) (b : ByteArray) (ok : Bool) : Prop :=
  (ok = false → ∀ x ∈ xs, ¬ aft out x) ∧ (ok = true → b ∈ xs ∧ aft out b ∧ ∀ x ∈ xs, aft out x → bl b ≤ bl x)
theorem InvO.take {out xs : List ByteArray} {b x : ByteArray} {ok : Bool} (h : InvO out xs b ok) (hx : aft out x) (hl : ok = true → bl x < bl b) : InvO out (xs ++ [x]) x true := by
  refine ⟨fun c => by simp at c, fun _ => ⟨by simp, hx, fun y hy ha => ?_⟩⟩
  rcases List.mem_append.1 hy with hy | hy
  · cases ok with
    | true => exact List.le_trans (List.le_of_lt (hl rfl)) ((h.2 rfl).2.2 y hy ha)
    | false => exact absurd ha (h.1 rfl y hy)
  · rw [List.mem_singleton.1 hy]; exact List.le_refl _
theorem InvO.pass {out xs : List ByteArray} {b x : ByteArray} {ok : Bool} (h : InvO out xs b ok) (hx : aft out x → ok = true ∧ ¬ bl x < bl b) : InvO out (xs ++ [x]) b ok := by
  refine ⟨fun c y hy => ?_, fun c => ⟨List.mem_append_left _ (h.2 c).1, (h.2 c).2.1, fun y hy ha => ?_⟩⟩
  · rcases List.mem_append.1 hy with hy | hy
    · exact h.1 c y hy
    · rw [List.mem_singleton.1 hy]
      intro ha
      have := (hx ha).1
      rw [c] at this
      exact absurd this (by simp)
  · rcases List.mem_append.1 hy with hy | hy
    · exact (h.2 c).2.2 y hy ha
    · obtain rfl := List.mem_singleton.1 hy
      exact List.not_lt.1 (hx ha).2
theorem once_l1 (l out : List ByteArray) (hl : l.length < 100000) (ho : out.length < 100000) {v : List ByteArray} (hv : ∀ b ok, InvO out l b ok → Ev (fun k => if ok = true then (if out.length < 8796093022208 then butteryref08_Once.l0 k l (out ++ [b]) else none) else some out) v) :
    ∀ (n i : Nat) (b : ByteArray) (ok : Bool), l.length = i + n → InvO out (l.take i) b ok → Ev (fun k => butteryref08_Once.l1 k l out b ok (i : Int)) v
  | 0, i, b, ok, h, hI => Ev.succ (by
    simp only [butteryref08_Once.l1]
    rw [List.take_of_length_le (by omega)] at hI
    exact Ev.neg (by omega) (hv b ok hI))
  | n + 1, i, b, ok, h, hI => Ev.succ (by
    simp only [butteryref08_Once.l1]
    have hi : i < l.length := by omega
    have tk : l.take (i + 1) = l.take i ++ [l[i]] := by rw [List.take_succ_eq_append_getElem hi]
    have yes : ∀ b' ok', InvO out (l.take i ++ [l[i]]) b' ok' → Ev (fun k => butteryref08_Once.l1 k l out b' ok' ((i + 1 : Nat) : Int)) v := fun b' ok' h' => once_l1 l out hl ho hv n (i + 1) b' ok' (by omega) (by rw [tk]; exact h')
    refine Ev.pos (by omega) ?_
    rw [rdOf_get _ _ _ hi, wrap_add i (by omega)]
    by_cases e : out = []
    · have ha : aft out l[i] := .inl e
      refine Ev.pos (by simp [e]) ?_
      by_cases c : ok = true
      · refine Ev.pos c (Ev.pos (by omega) ?_)
        by_cases c2 : bl l[i] < bl b
        · exact Ev.pos ((less_bl _ _).2 c2) (yes _ _ (hI.take ha fun _ => c2))
        · exact Ev.neg (fun h => c2 ((less_bl _ _).1 h)) (yes _ _ (hI.pass fun _ => ⟨c, c2⟩))
      · exact Ev.neg c (Ev.pos (by omega) (yes _ _ (hI.take ha fun h => absurd h c)))
    · have hlen := List.length_pos_iff.2 e
      obtain ⟨q1, q2, q3⟩ := last_rd out e (by omega)
      refine Ev.neg (by omega) (Ev.pos (by omega) (Ev.pos q2 (Ev.pos q3 ?_)))
      rw [q1]
      by_cases a : bl (out.getLastD ByteArray.empty) < bl l[i]
      · refine Ev.pos ((less_bl _ _).2 a) ?_
        by_cases c : ok = true
        · refine Ev.pos c ?_
          by_cases c2 : bl l[i] < bl b
          · exact Ev.pos ((less_bl _ _).2 c2) (yes _ _ (hI.take (.inr a) fun _ => c2))
          · exact Ev.neg (fun h => c2 ((less_bl _ _).1 h)) (yes _ _ (hI.pass fun _ => ⟨c, c2⟩))
        · exact Ev.neg c (yes _ _ (hI.take (.inr a) fun h => absurd h c))
      · exact Ev.neg (fun h => a ((less_bl _ _).1 h)) (yes _ _ (hI.pass fun h => absurd h (fun h => h.elim e a))))
theorem aft_iff {S : List ByteArray} (hS : Up S) (m : Nat) {x : ByteArray} (hx : x ∈ S) : aft (S.take m) x ↔ x ∈ S.drop m := by
  have e := List.take_append_drop m S
  have hp := List.pairwise_append.1 (show (S.take m ++ S.drop m).Pairwise _ from e ▸ hS)
  have hx' : x ∈ S.take m ∨ x ∈ S.drop m := List.mem_append.1 (by rw [e]; exact hx)
  by_cases c : S.take m = []
  · constructor
    · intro _
      rcases hx' with h | h
      · rw [c] at h; exact absurd h (by simp)
      · exact h
    · exact fun _ => .inl c
  · have hlast : (S.take m).getLastD ByteArray.empty = (S.take m).getLast c := by rw [List.getLastD_eq_getLast?, List.getLast?_eq_some_getLast c]; rfl
    have hm := List.getLast_mem c
    constructor
    · rintro (h | h)
      · exact absurd h c
      rcases hx' with h2 | h2
      · rw [hlast] at h
        exfalso
        have ha := (List.dropLast_concat_getLast c).symm
        have hp1 := hp.1
        generalize (S.take m).getLast c = y at *
        rw [ha] at h2 hp1
        rcases List.mem_append.1 h2 with h2 | h2
        · exact List.lt_irrefl _ (List.lt_trans h ((List.pairwise_append.1 hp1).2.2 x h2 y (.head _)))
        · rw [List.mem_singleton.1 h2] at h
          exact List.lt_irrefl _ h
      · exact h2
    · intro h
      exact .inr (hlast ▸ hp.2.2 _ hm x h)
theorem once_l0 (l : List ByteArray) (hl : l.length < 100000) : ∀ (n m : Nat), (onceL l).length = m + n → Ev (fun k => butteryref08_Once.l0 k l ((onceL l).take m)) (onceL l)
  | n, m, h => Ev.succ (by
    simp only [butteryref08_Once.l0]
    have hS := onceL_up l
    have hlen := onceL_len l
    refine once_l1 l _ hl (by rw [List.length_take]; omega) (fun b ok hI => ?_) l.length 0 _ false (by omega) ⟨fun _ x hx => by simp at hx, fun c => by simp at c⟩
    cases ok with
    | false =>
      refine Ev.neg (by simp) (Ev.eq (Ev.const _) ?_)
      have hd : (onceL l).drop m = [] := List.eq_nil_iff_forall_not_mem.2 fun x hx => by
        have hxS := List.mem_of_mem_drop hx
        exact hI.1 rfl x ((onceL_mem l x).1 hxS) ((aft_iff hS m hxS).2 hx)
      have e := List.take_append_drop m (onceL l)
      rw [hd, List.append_nil] at e
      exact e
    | true =>
      obtain ⟨h1, h2, h3⟩ := hI.2 rfl
      have hb := (aft_iff hS m ((onceL_mem l b).2 h1)).1 h2
      cases n with
      | zero => rw [List.drop_of_length_le (by omega)] at hb; exact absurd hb (by simp)
      | succ n =>
        have hm : m < (onceL l).length := by omega
        have hd := List.drop_eq_getElem_cons hm
        have e : b = (onceL l)[m] := by
          rw [hd] at hb
          rcases List.mem_cons.1 hb with hb | hb
          · exact hb
          have hup : ((onceL l).drop m).Pairwise fun a b => bl a < bl b := hS.drop
          rw [hd] at hup
          have g1 := (List.pairwise_cons.1 hup).1 b hb
          have g2 := h3 (onceL l)[m] ((onceL_mem l _).1 (List.getElem_mem hm)) ((aft_iff hS m (List.getElem_mem hm)).2 (by rw [hd]; exact .head _))
          exact absurd g2 (List.not_le.2 g1)
        refine Ev.pos rfl (Ev.pos (by rw [List.length_take]; omega) ?_)
        rw [e, ← List.take_succ_eq_append_getElem hm]
        exact once_l0 l hl n (m + 1) (by omega))
theorem once_ev (l : List ByteArray) (hl : l.length < 100000) : Ev (fun k => butteryref08_Once.f k l) (onceL l) := by
  unfold butteryref08_Once.f
  exact once_l0 l hl (onceL l).length 0 (by omega)
end Go.Proofs.Ytciiodbkhilkmaa.F
