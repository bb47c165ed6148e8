/- Chapter 08: what zone's functions and the reference's answer, in the end. -/
import Derived.Test.YtciiodbkhilkmaaPEv
import Derived.Test.YtciiodbkhilkmaaGConcat
import Derived.Test.YtciiodbkhilkmaaGZoneW
import Derived.Test.YtciiodbkhilkmaaF10
import Derived.Test.YtciiodbkhilkmaaF6
import Derived.Test.YtciiodbkhilkmaaF5
import Derived.Test.YtciiodbkhilkmaaF19
import Derived.Test.YtciiodbkhilkmaaF20
import Derived.Test.YtciiodbkhilkmaaF30
import Derived.Test.YtciiodbkhilkmaaF29
import Derived.Test.YtciiodbkhilkmaaF21
namespace Go.Proofs.Ytciiodbkhilkmaa.F
set_option linter.unusedVariables false
set_option linter.unusedSimpArgs false
open Go.RowKit Go.Proofs.YtciiodbkhilkmaaW.PrintWords Go.Proofs.YtciiodbkhilkmaaW.PrintLast Go.Proofs.YtciiodbkhilkmaaW.PrintMore
def shortB (l : List ByteArray) : Bool := decide (l.length ≤ 60) && l.all fun x => decide (x.size ≤ 200)
theorem short_l0 (l : List ByteArray) (hl : l.length ≤ 60) : ∀ (n i : Nat), l.length = i + n → Ev (fun k => butteryref08_Short.l0 k l (i : Int)) ((l.drop i).all fun x => decide (x.size ≤ 200))
  | 0, i, h => Ev.succ (by
    simp only [butteryref08_Short.l0]
    exact Ev.neg (by omega) (Ev.eq (Ev.const _) (by rw [List.drop_of_length_le (by omega)]; rfl)))
  | n + 1, i, h => Ev.succ (by
    simp only [butteryref08_Short.l0]
    have hi : i < l.length := by omega
    refine Ev.pos (by omega) (Ev.pos (by omega) ?_)
    rw [rdOf_get _ _ _ hi, wrap_add i (by omega), List.drop_eq_getElem_cons hi, List.all_cons]
    by_cases c : l[i].size ≤ 200
    · exact Ev.neg (by omega) (Ev.eq (short_l0 l hl n (i + 1) (by omega)) (by simp [c]))
    · exact Ev.pos (by omega) (Ev.eq (Ev.const _) (by simp [c])))
theorem short_ev (l : List ByteArray) : Ev (fun k => butteryref08_Short.f k l) (shortB l) := by
  unfold butteryref08_Short.f shortB
  by_cases c : l.length ≤ 60
  · exact Ev.neg (by omega) (Ev.eq (short_l0 l c l.length 0 (by omega)) (by simp [c]))
  · exact Ev.pos (by omega) (Ev.eq (Ev.const _) (by simp [c]))
theorem short_iff {l : List ByteArray} : shortB l = true ↔ l.length ≤ 60 ∧ ∀ x ∈ l, x.size ≤ 200 := by simp [shortB]
theorem same_l0 (l m : List ByteArray) (hl : l.length < 1000000) (hm : l.length = m.length) : ∀ (n i : Nat), l.length = i + n → Ev (fun k => butteryref08_Same.l0 k l m (i : Int)) (decide (l.drop i = m.drop i))
  | 0, i, h => Ev.succ (by
    simp only [butteryref08_Same.l0]
    exact Ev.neg (by omega) (Ev.eq (Ev.const _) (by rw [List.drop_of_length_le (by omega), List.drop_of_length_le (by omega)]; simp)))
  | n + 1, i, h => Ev.succ (by
    simp only [butteryref08_Same.l0]
    have hi : i < l.length := by omega
    have hi2 : i < m.length := by omega
    refine Ev.pos (by omega) (Ev.pos (by omega) (Ev.pos (by omega) ?_))
    rw [rdOf_get _ _ _ hi, rdOf_get _ _ _ hi2, wrap_add i (by omega), List.drop_eq_getElem_cons hi, List.drop_eq_getElem_cons hi2, toList_bl, toList_bl]
    by_cases c : bl l[i] = bl m[i]
    · exact Ev.pos c (Ev.eq (same_l0 l m hl hm n (i + 1) (by omega)) (by rw [decide_eq_decide, bl_inj c]; exact ⟨congrArg _, fun e => (List.cons.inj e).2⟩))
    · exact Ev.neg c (Ev.eq (Ev.const _) (by rw [eq_comm, decide_eq_false_iff_not]; exact fun e => c (congrArg bl (List.cons.inj e).1))))
theorem same_ev (l m : List ByteArray) (hl : l.length < 1000000) : Ev (fun k => butteryref08_Same.f k l m) (decide (l = m)) := by
  unfold butteryref08_Same.f
  by_cases c : l.length = m.length
  · exact Ev.pos (by omega) (Ev.eq (same_l0 l m hl c l.length 0 (by omega)) (by simp))
  · exact Ev.neg (by omega) (Ev.eq (Ev.const _) (by simp [show l ≠ m from fun e => c (congrArg _ e)]))
theorem equal_l0 (l m : List ByteArray) (hl : l.length < 1000000) (hm : l.length = m.length) : ∀ (n i : Nat), l.length = i + n → Ev (fun k => slices_Equal_string_string.l0 k l m (l.length : Int) (i : Int)) (decide (l.drop i = m.drop i))
  | 0, i, h => Ev.succ (by
    simp only [slices_Equal_string_string.l0]
    exact Ev.neg (by omega) (Ev.eq (Ev.const _) (by rw [List.drop_of_length_le (by omega), List.drop_of_length_le (by omega)]; simp)))
  | n + 1, i, h => Ev.succ (by
    simp only [slices_Equal_string_string.l0]
    have hi : i < l.length := by omega
    have hi2 : i < m.length := by omega
    refine Ev.pos (by omega) (Ev.pos (by omega) (Ev.pos (by omega) (Ev.pos (by omega) ?_)))
    rw [rdOf_get _ _ _ hi, rdOf_get _ _ _ hi2, wrap_add i (by omega), List.drop_eq_getElem_cons hi, List.drop_eq_getElem_cons hi2, toList_bl, toList_bl]
    by_cases c : bl l[i] = bl m[i]
    · exact Ev.pos c (Ev.eq (equal_l0 l m hl hm n (i + 1) (by omega)) (by rw [decide_eq_decide, bl_inj c]; exact ⟨congrArg _, fun e => (List.cons.inj e).2⟩))
    · exact Ev.neg c (Ev.eq (Ev.const _) (by rw [eq_comm, decide_eq_false_iff_not]; exact fun e => c (congrArg bl (List.cons.inj e).1))))
theorem equal_ev (l m : List ByteArray) (hl : l.length < 1000000) : Ev (fun k => slices_Equal_string_string.f k l m) (decide (l = m)) := by
  unfold slices_Equal_string_string.f
  by_cases c : l.length = m.length
  · exact Ev.pos (by omega) (Ev.eq (equal_l0 l m hl c l.length 0 (by omega)) (by simp))
  · exact Ev.neg (by omega) (Ev.eq (Ev.const _) (by simp [show l ≠ m from fun e => c (congrArg _ e)]))

/-! ### Texts that may stand in a zone -/
def pcI (c : Nat) : Bool := decide (97 ≤ c ∧ c ≤ 122) || decide (48 ≤ c ∧ c ≤ 57) || c == 47
def pfx (p : ByteArray) : Bool := decide (p.size ≤ 16) && (bl p).all fun c => pcI c.toNat
theorem prefix_l0 (p : ByteArray) (hp : p.size ≤ 16) : ∀ (n i : Nat), p.size = i + n → Ev (fun k => zone_prefix.l0 k p (p.size : Int) (i : Int)) (((bl p).drop i).all fun c => pcI c.toNat)
  | 0, i, h => Ev.succ (by
    have := bl_len p
    simp only [zone_prefix.l0]
    exact Ev.neg (by omega) (Ev.eq (Ev.const _) (by rw [List.drop_of_length_le (by omega)]; rfl)))
  | n + 1, i, h => Ev.succ (by
    simp only [zone_prefix.l0]
    have hi : i < (bl p).length := by rw [bl_len]; omega
    refine Ev.pos (by omega) (Ev.pos (by omega) (Ev.pos (by omega) ?_))
    rw [bt_get p i hi, wrap_add i (by omega), List.drop_eq_getElem_cons hi, List.all_cons]
    have ih := prefix_l0 p hp n (i + 1) (by omega)
    generalize (bl p)[i].toNat = c at ih ⊢
    have yes : pcI c = true → Ev (fun k => zone_prefix.l0 k p (p.size : Int) ((i + 1 : Nat) : Int)) (pcI c && ((bl p).drop (i + 1)).all fun c => pcI c.toNat) := fun h => Ev.eq ih (by rw [h, Bool.true_and])
    have no : pcI c = false → Ev (fun _ => some false) (pcI c && ((bl p).drop (i + 1)).all fun c => pcI c.toNat) := fun h => Ev.eq (Ev.const _) (by rw [h, Bool.false_and])
    by_cases c1 : c < 97
    · refine Ev.pos (by omega) ?_
      by_cases c2 : c < 48
      · refine Ev.pos (by omega) ?_
        by_cases c3 : c = 47
        · exact Ev.pos (by omega) (yes (by simp [pcI, c3]))
        · exact Ev.neg (by omega) (no (by simp [pcI, c3]; omega))
      · refine Ev.neg (by omega) ?_
        by_cases c3 : c > 57
        · refine Ev.pos (by omega) (Ev.neg (by omega) (no (by simp [pcI]; omega)))
        · exact Ev.neg (by omega) (yes (by simp [pcI]; omega))
    · refine Ev.neg (by omega) ?_
      by_cases c2 : c > 122
      · exact Ev.pos (by omega) (Ev.neg (by omega) (Ev.pos (by omega) (Ev.neg (by omega) (no (by simp [pcI]; omega)))))
      · exact Ev.neg (by omega) (yes (by simp [pcI]; omega)))
theorem prefix_ev (p : ByteArray) : Ev (fun k => zone_prefix.f k p) (pfx p) := by
  unfold zone_prefix.f pfx
  by_cases c : p.size ≤ 16
  · exact Ev.neg (by omega) (Ev.eq (prefix_l0 p c p.size 0 (by omega)) (by simp [c]))
  · exact Ev.pos (by omega) (Ev.eq (Ev.const _) (by simp [c]))

/-! ### The one form -/
def walkZ : List ByteArray → List ByteArray → List ByteArray × Int
  | out, [] => if out.length > 8 then ([], 4) else (out, 0)
  | out, p :: r => if pfx p = true then (if out ≠ [] ∧ hasP (out.getLastD ByteArray.empty) p = true then walkZ out r else walkZ (out ++ [p]) r) else ([], 2)
def endZ (o : List ByteArray) : List ByteArray × Int := if o.length > 8 then ([], 4) else (o, 0)
theorem walkZ_eq : ∀ (r out : List ByteArray), walkZ out r = if r.all pfx = true then endZ (keepZ out r) else ([], 2)
  | [], out => rfl
  | p :: r, out => by
    unfold walkZ keepZ
    rw [List.all_cons]
    by_cases c : pfx p = true
    · rw [if_pos c, c, Bool.true_and]
      split
      · exact walkZ_eq r out
      · exact walkZ_eq r _
    · rw [if_neg c, if_neg (by simp [c])]
theorem last_rd (l : List ByteArray) (h : l ≠ []) (hl : l.length < 1000000) : rdOf ByteArray.empty l (wrap64 ((l.length : Int) - 1)) = l.getLastD ByteArray.empty ∧ 0 ≤ wrap64 ((l.length : Int) - 1) ∧ wrap64 ((l.length : Int) - 1) < (l.length : Int) := by
  obtain ⟨n, hn⟩ : ∃ n, l.length = n + 1 := ⟨l.length - 1, by have := List.length_pos_iff.2 h; omega⟩
  have e : l.getLastD ByteArray.empty = l[n] := by
    rw [List.getLastD_eq_getLast?, List.getLast?_eq_getElem?, show l.length - 1 = n by omega, List.getElem?_eq_getElem (by omega)]
    rfl
  rw [hn, wrap_sub n (by omega), rdOf_get _ _ n (by omega), e]
  exact ⟨rfl, by omega, by omega⟩
theorem norm_l0 (s : List ByteArray) (hs : s.length < 100000) : ∀ (n i : Nat) (out : List ByteArray), s.length = i + n → out.length ≤ i → Ev (fun k => zone_Norm.l0 k out s (s.length : Int) (i : Int)) (walkZ out (s.drop i))
  | 0, i, out, h, ho => Ev.succ (by
    simp only [zone_Norm.l0]
    rw [List.drop_of_length_le (by omega)]
    refine Ev.neg (by omega) ?_
    unfold walkZ
    by_cases c : out.length > 8
    · rw [if_pos c]; exact Ev.pos (by omega) (Ev.const _)
    · rw [if_neg c]; exact Ev.neg (by omega) (Ev.const _))
  | n + 1, i, out, h, ho => Ev.succ (by
    simp only [zone_Norm.l0]
    have hi : i < s.length := by omega
    refine Ev.pos (by omega) (Ev.pos (by omega) (Ev.pos (by omega) ?_))
    rw [rdOf_get _ _ _ hi, wrap_add i (by omega), List.drop_eq_getElem_cons hi]
    refine Ev.bind (prefix_ev _) ?_
    unfold walkZ
    have i1 := norm_l0 s hs n (i + 1) (out ++ [s[i]]) (by omega) (by simp; omega)
    have i2 := norm_l0 s hs n (i + 1) out (by omega) (by omega)
    by_cases c : pfx s[i] = true
    · rw [if_pos c]
      refine Ev.pos c ?_
      by_cases e : out = []
      · rw [if_neg (fun h => h.1 e)]
        exact Ev.pos (by simp [e]) (Ev.pos (by omega) i1)
      · have hlen := List.length_pos_iff.2 e
        obtain ⟨q1, q2, q3⟩ := last_rd out e (by omega)
        refine Ev.neg (by omega) (Ev.pos q2 (Ev.pos q3 ?_))
        rw [q1]
        refine Ev.bindc (v := hasP (out.getLastD ByteArray.empty) s[i]) rfl ?_
        by_cases c2 : hasP (out.getLastD ByteArray.empty) s[i] = true
        · rw [if_pos ⟨e, c2⟩]
          exact Ev.pos c2 i2
        · rw [if_neg (fun h => c2 h.2)]
          exact Ev.neg c2 (Ev.pos (by omega) i1)
    · rw [if_neg c]
      exact Ev.neg c (Ev.const _))
def normZ (l : List ByteArray) : List ByteArray × Int := if l.all pfx = true then endZ ((onceL l).filter (minB l)) else ([], 2)
theorem all_congr {l m : List ByteArray} (h : ∀ x, x ∈ l ↔ x ∈ m) (p : ByteArray → Bool) : l.all p = m.all p := by
  rw [Bool.eq_iff_iff, List.all_eq_true, List.all_eq_true]
  exact ⟨fun g x hx => g x ((h x).2 hx), fun g x hx => g x ((h x).1 hx)⟩
theorem norm_ev (l : List ByteArray) (hl : l.length < 10000) : Ev (fun k => zone_Norm.f k l) (normZ l) := by
  unfold zone_Norm.f
  have ho := onceL_len l
  refine Ev.bindc (v := onceL l) (by unfold zone_once.f; rw [if_pos (by unfold lim; omega)]) ?_
  refine Ev.eq (norm_l0 (onceL l) (by omega) (onceL l).length 0 [] (by omega) (by simp)) ?_
  rw [List.drop_zero, walkZ_eq, keepZ_all _ (onceL_up l), all_congr (onceL_mem l), show minB (onceL l) = minB l from funext (minB_congr (onceL_mem l))]
  rfl
def rightB (l : List ByteArray) : Bool := decide ((normZ l).2 = 0 ∧ (normZ l).1 = l)
theorem endZ_len (o : List ByteArray) : (endZ o).1.length ≤ 8 := by unfold endZ; split <;> simp; omega
theorem normZ_len (l : List ByteArray) : (normZ l).1.length ≤ 8 := by unfold normZ; split; exact endZ_len _; simp
theorem right_ev (l : List ByteArray) (hl : l.length < 10000) : Ev (fun k => zone_Right.f k l) (rightB l) := by
  unfold zone_Right.f rightB
  refine Ev.bind (norm_ev l hl) ?_
  by_cases c : (normZ l).2 = 0
  · refine Ev.pos c (Ev.bind (equal_ev _ l (by have := normZ_len l; omega)) (Ev.eq (Ev.const _) (by simp [c])))
  · exact Ev.neg c (Ev.eq (Ev.const _) (by simp [c]))
theorem union_ev (a b : List ByteArray) (ha : a.length < 5000) (hb : b.length < 5000) : Ev (fun k => zone_Union.f k a b) (normZ (a ++ b)) := by
  unfold zone_Union.f
  refine Ev.bindc (v := a ++ b) (by unfold slices_Concat_string_string.f; rw [show ([a, b] : List (List ByteArray)).flatten = a ++ b by simp, if_pos (by simp [lim]; omega)]) ?_
  refine Ev.bind (norm_ev _ (by simp; omega)) (Ev.const _)

/-! ### What both have -/
def both (p q : ByteArray) : List ByteArray := if hasP q p = true then [p] else if hasP p q = true then [q] else []
theorem both_len (p q : ByteArray) : (both p q).length ≤ 1 := by unfold both; split; simp; split <;> simp
def interL (a b : List ByteArray) : List ByteArray := onceL (a.flatMap fun p => b.flatMap (both p))
theorem inter_l1 (a b : List ByteArray) (hb : b.length < 10000) (p : ByteArray) (i : Nat) (hi : i < 10000) {v : List ByteArray} : ∀ (n j : Nat) (acc : List ByteArray), b.length = j + n → acc.length + n < 1000000000 →
    Ev (fun k => zone_Inter.l0 k b (acc ++ (b.drop j).flatMap (both p)) a (a.length : Int) ((i + 1 : Nat) : Int)) v → Ev (fun k => zone_Inter.l1 k b acc p a (a.length : Int) (i : Int) b (b.length : Int) (j : Int)) v
  | 0, j, acc, h, ha, hv => Ev.succ (by
    simp only [zone_Inter.l1]
    rw [List.drop_of_length_le (by omega), List.flatMap_nil, List.append_nil] at hv
    rw [wrap_add i (by omega)]
    exact Ev.neg (by omega) hv)
  | n + 1, j, acc, h, ha, hv => Ev.succ (by
    simp only [zone_Inter.l1]
    have hj : j < b.length := by omega
    refine Ev.pos (by omega) (Ev.pos (by omega) (Ev.pos (by omega) ?_))
    rw [rdOf_get _ _ _ hj, wrap_add j (by omega)]
    rw [List.drop_eq_getElem_cons hj, List.flatMap_cons, ← List.append_assoc] at hv
    refine Ev.bindc (v := hasP b[j] p) rfl ?_
    by_cases c : hasP b[j] p = true
    · refine Ev.pos c (Ev.pos (by omega) (inter_l1 a b hb p i hi n (j + 1) _ (by omega) (by simp; omega) ?_))
      simpa [both, c] using hv
    · refine Ev.neg c (Ev.bindc (v := hasP p b[j]) rfl ?_)
      by_cases c2 : hasP p b[j] = true
      · refine Ev.pos c2 (Ev.pos (by omega) (inter_l1 a b hb p i hi n (j + 1) _ (by omega) (by simp; omega) ?_))
        simpa [both, c, c2] using hv
      · refine Ev.neg c2 (inter_l1 a b hb p i hi n (j + 1) _ (by omega) (by omega) ?_)
        simpa [both, c, c2] using hv)
theorem flat_len {α β : Type} (f : α → List β) (h : ∀ x, (f x).length ≤ 1) : ∀ l : List α, (l.flatMap f).length ≤ l.length
  | [] => by simp
  | x :: l => by rw [List.flatMap_cons, List.length_append, List.length_cons]; have := h x; have := flat_len f h l; omega
theorem inter_l0 (a b : List ByteArray) (ha : a.length < 10000) (hb : b.length < 10000) : ∀ (n i : Nat) (acc : List ByteArray), a.length = i + n → acc.length ≤ i * 10000 →
    Ev (fun k => zone_Inter.l0 k b acc a (a.length : Int) (i : Int)) (onceL (acc ++ (a.drop i).flatMap fun p => b.flatMap (both p)))
  | 0, i, acc, h, hacc => Ev.succ (by
    simp only [zone_Inter.l0]
    rw [List.drop_of_length_le (by omega), List.flatMap_nil, List.append_nil]
    exact Ev.neg (by omega) (Ev.bindc (by unfold zone_once.f; rw [if_pos (by unfold lim; omega)]) (Ev.const _)))
  | n + 1, i, acc, h, hacc => Ev.succ (by
    simp only [zone_Inter.l0]
    have hi : i < a.length := by omega
    refine Ev.pos (by omega) (Ev.pos (by omega) (Ev.pos (by omega) ?_))
    rw [rdOf_get _ _ _ hi, List.drop_eq_getElem_cons hi, List.flatMap_cons, ← List.append_assoc]
    have hf := flat_len (both a[i]) (both_len _) b
    exact inter_l1 a b hb a[i] i (by omega) b.length 0 acc (by omega) (by omega) (inter_l0 a b ha hb n (i + 1) _ (by omega) (by rw [List.length_append, List.drop_zero]; omega)))
theorem inter_ev (a b : List ByteArray) (ha : a.length < 10000) (hb : b.length < 10000) : Ev (fun k => zone_Inter.f k a b) (interL a b) := by
  unfold zone_Inter.f
  exact inter_l0 a b ha hb a.length 0 [] (by omega) (by simp)
theorem without_val (a b : List ByteArray) (ha : a.length < 10000) : zone_Without.f a b = some (onceL (a.filter fun p => !coversL b p)) := by
  unfold zone_Without.f
  rw [if_pos (by unfold lim; omega)]
end Go.Proofs.Ytciiodbkhilkmaa.F
