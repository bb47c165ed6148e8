/- The engine, part 9: VDir, VDir2, VDir3, VDir4. -/
import Derived.Test.YtiliffhopdiepaaGreatE8
namespace Go.E2
open Go.RowKit
set_option linter.unusedVariables false
set_option linter.unusedSimpArgs false
variable {σ σ' σ1 : St} {P : Program}
def getS : List AV → Nat → AV
  | [], _ => .any
  | v :: _, 0 => v
  | _ :: l, n + 1 => getS l n
def setS : List AV → Nat → AV → List AV
  | [], _, _ => []
  | _ :: l, 0, v => v :: l
  | a :: l, n + 1, v => a :: setS l n v
theorem getS_eq : ∀ (l : List AV) (t : Nat), l.getD t .any = getS l t
  | [], _ => rfl
  | v :: l, 0 => rfl
  | v :: l, n + 1 => by rw [List.getD_cons_succ, getS, getS_eq l n]
theorem setS_eq : ∀ (l : List AV) (t : Nat) (v : AV), l.set t v = setS l t v
  | [], _, _ => rfl
  | a :: l, 0, v => rfl
  | a :: l, n + 1, v => by rw [List.set_cons_succ, setS, setS_eq l n v]
theorem slot_mk (l : List AV) (o : List Upd) (t : Nat) : St.slot ⟨l, o⟩ t = getS l t := getS_eq l t
theorem ob_mk (l : List AV) (o : List Upd) (k : Nat) : St.ob ⟨l, o⟩ k = look o k := rfl
def layAll : List Upd → List Upd → List Upd
  | l, [] => l
  | l, u :: us => layAll (lay l u.1 u.2) us
theorem layAll_eq : ∀ (us l : List Upd), us.foldl (fun l u => lay l u.1 u.2) l = layAll l us
  | [], l => rfl
  | u :: us, l => by rw [List.foldl_cons, layAll, layAll_eq us]
def putS (l : List AV) : Option Nat → AV → List AV
  | some d, v => setS l d v
  | none, _ => l
theorem app_mk (l : List AV) (o : List Upd) (d : Option Nat) (v : AV) (us : List Upd) : St.app ⟨l, o⟩ d ⟨v, us⟩ = ⟨putS l d v, layAll o us⟩ := by
  unfold St.app St.lays St.put
  rw [layAll_eq]
  cases d with
  | none => rfl
  | some d => simp only [putS, setS_eq]
theorem lays_mk (l : List AV) (o us : List Upd) : St.lays ⟨l, o⟩ us = ⟨l, layAll o us⟩ := by
  unfold St.lays
  rw [layAll_eq]
def sureD (σ : St) : At → Bool
  | .pv _ => true
  | .nil => true
  | .any => false
  | .row q g => (rowLen (gone g (σ.ob q))).isSome
  | .ptr q g _ => isVar (gone g (σ.ob q))
  | .eptr q g _ _ => (rowE (gone g (σ.ob q))).isSome
  | .tail _ _ _ => false
theorem sureD_eq {α : Type} (x : At) (k : RM α) : (sureAt x k).val σ = if sureD σ x = true then k.val σ else none := by
  by_cases h : sureD σ x = true
  · rw [if_pos h]
    cases x with
    | row q g => obtain ⟨n, hn⟩ := Option.isSome_iff_exists.1 (show (rowLen (gone g (σ.ob q))).isSome = true from h); simp [sureAt, RM.val, hn]
    | eptr q g j o => obtain ⟨n, hn⟩ := Option.isSome_iff_exists.1 (show (rowE (gone g (σ.ob q))).isSome = true from h); simp [sureAt, RM.val, hn]
    | ptr q g o => have h : isVar (gone g (σ.ob q)) = true := h; simp [sureAt, RM.val, h]
    | any => cases h
    | tail q g j => cases h
    | pv p => rfl
    | nil => rfl
  · rw [if_neg h]
    cases x with
    | row q g => have h : ¬ (rowLen (gone g (σ.ob q))).isSome = true := h; simp at h; simp [sureAt, RM.val, h]
    | eptr q g j o => have h : ¬ (rowE (gone g (σ.ob q))).isSome = true := h; simp at h; simp [sureAt, RM.val, h]
    | ptr q g o => have h : ¬ isVar (gone g (σ.ob q)) = true := h; simp [sureAt, RM.val, h]
    | any => rfl
    | tail q g j => rfl
    | pv p => exact absurd rfl h
    | nil => exact absurd rfl h
def sureAllD (σ : St) : List At → Bool
  | [] => true
  | x :: l => sureD σ x && sureAllD σ l
theorem sureAllD_eq {α : Type} : ∀ (l : List At) (k : RM α), (sureAll l k).val σ = if sureAllD σ l = true then k.val σ else none
  | [], k => rfl
  | x :: l, k => by
    simp only [sureAll, sureD_eq, sureAllD_eq l, sureAllD]
    by_cases h1 : sureD σ x = true <;> by_cases h2 : sureAllD σ l = true <;> simp [h1, h2]
def frzD (q g : Nat) : Option AObj → Option (PV × List Upd)
  | some (.row true e xs) => some (.list e xs, [(q, g, some (.row false e xs))])
  | some (.row false e xs) => some (.list e xs, [])
  | some (.view e xs) => some (.list e xs, [])
  | _ => none
def refD (off : Nat) : Option AObj → Option (PV × List Upd)
  | some (.fro cells) => some (.ref (cells.drop off), [])
  | _ => none
def atPVD (σ : St) (e : Nat) : At → Option (PV × List Upd)
  | .pv p => some (p, [])
  | .nil => some (.list e [], [])
  | .row q g => frzD q g (gone g (σ.ob q))
  | .ptr q g off => if off < cloN then refD off (gone g (σ.ob q)) else none
  | _ => none
theorem atPVD_eq {α : Type} (e : Nat) (x : At) (k : PV → List Upd → RM α) : (atPV e x k).val σ = (atPVD σ e x).bind fun r => (k r.1 r.2).val σ := by
  cases x with
  | row q g =>
    simp only [atPV, RM.val, atPVD]
    rcases gone g (σ.ob q) with _ | ⟨_ | _ | ⟨own, e', xs⟩ | ⟨e', xs⟩ | _⟩ <;> first | rfl | (cases own <;> rfl)
  | ptr q g off =>
    simp only [atPV, atPVD]
    by_cases hlt : off < cloN
    · rw [if_pos hlt, if_pos hlt]
      simp only [RM.val]
      rcases gone g (σ.ob q) with _ | ⟨_ | _ | _ | _ | _⟩ <;> rfl
    · rw [if_neg hlt, if_neg hlt]
      rfl
  | _ => rfl
def consP {β : Type} (p : β) (us : List Upd) : Option (List β × List Upd) → Option (List β × List Upd)
  | some (ps, us') => some (p :: ps, us ++ us')
  | none => none
mutual
def atPVsD (σ : St) : List Nat → List At → Option (List PV × List Upd)
  | _, [] => some ([], [])
  | es, x :: l => atPVsD1 σ es.tail l (atPVD σ (es.headD 0) x)
def atPVsD1 (σ : St) : List Nat → List At → Option (PV × List Upd) → Option (List PV × List Upd)
  | es, l, some (p, us) => consP p us (atPVsD σ es l)
  | _, _, none => none
end
theorem atPVsD_eq {α : Type} : ∀ (l : List At) (es : List Nat) (k : List PV → List Upd → RM α), (atPVs es l k).val σ = (atPVsD σ es l).bind fun r => (k r.1 r.2).val σ
  | [], es, k => by rw [atPVsD]; rfl
  | x :: l, es, k => by
    rw [atPVs, atPVD_eq, atPVsD]
    cases atPVD σ (es.headD 0) x with
    | none => rw [atPVsD1]; rfl
    | some r =>
      obtain ⟨p, us⟩ := r
      rw [atPVsD1, Option.bind_some, atPVsD_eq l]
      cases atPVsD σ es.tail l <;> rfl
def partD (σ : St) (es : List Nat) : AV → Option (List PV × List Upd)
  | .one y => atPVsD σ es (v1cells y)
  | .tup _ => none
mutual
def partsD (σ : St) (es : List Nat) : List (Nat × Operand) → Nat → Option (List (List PV) × List Upd)
  | [], _ => some ([], [])
  | (i, x) :: l, s => if i = s then partsD1 σ es l (s + 1) (partD σ es (absO σ x)) else none
def partsD1 (σ : St) (es : List Nat) : List (Nat × Operand) → Nat → Option (List PV × List Upd) → Option (List (List PV) × List Upd)
  | l, s, some (ps, us) => consP ps us (partsD σ es l s)
  | _, _, none => none
end
theorem opndD_eq {α : Type} (x : Operand) (k : AV → RM α) (h : ∀ g, x = .global g → (k .any).val σ = none) : (opnd x k).val σ = (k (absO σ x)).val σ := by
  cases x with
  | global g => exact (h g rfl).symm
  | _ => rfl
theorem partsD_eq {α : Type} (es : List Nat) : ∀ (l : List (Nat × Operand)) (s : Nat) (k : List (List PV) → List Upd → RM α), (partsRM es l s k).val σ = (partsD σ es l s).bind fun r => (k r.1 r.2).val σ
  | [], s, k => by rw [partsD]; rfl
  | (i, x) :: l, s, k => by
    rw [partsRM, partsD]
    split
    · have key : ∀ u, ((match u with
          | .one y => atPVs es (v1cells y) fun ps us => partsRM es l (s + 1) fun xs us' => k (ps :: xs) (us ++ us')
          | .tup _ => .fail : RM α)).val σ = (partsD1 σ es l (s + 1) (partD σ es u)).bind fun r => (k r.1 r.2).val σ := fun u => by
        cases u with
        | tup q => rw [partD, partsD1]; rfl
        | one y =>
          dsimp only
          rw [atPVsD_eq, partD]
          cases atPVsD σ es (v1cells y) with
          | none => rw [partsD1]; rfl
          | some r =>
            obtain ⟨ps, us⟩ := r
            rw [partsD1, Option.bind_some, partsD_eq es l]
            cases partsD σ es l (s + 1) <;> rfl
      rw [opndD_eq x _ fun g hg => (key .any).trans (by
        show (partsD1 σ es l (s + 1) (atPVsD σ es [.any])).bind _ = none
        rw [atPVsD, atPVD, atPVsD1, partsD1]
        · rfl
        all_goals simp)]
      exact key _
    · rfl
def isOne : AV → Option V1
  | .one y => some y
  | .tup _ => none
mutual
def valsD (σ : St) : List (Nat × Operand) → Option (List (Nat × V1))
  | [] => some []
  | (i, x) :: l => valsD1 σ i l (isOne (absO σ x))
def valsD1 (σ : St) : Nat → List (Nat × Operand) → Option V1 → Option (List (Nat × V1))
  | i, l, some y => if sureAllD σ (v1cells y) = true then (valsD σ l).map ((i, y) :: ·) else none
  | _, _, none => none
end
theorem valsD_eq {α : Type} : ∀ (l : List (Nat × Operand)) (k : List (Nat × V1) → RM α), (valsRM l k).val σ = (valsD σ l).bind fun r => (k r).val σ
  | [], k => by rw [valsD]; rfl
  | (i, x) :: l, k => by
    rw [valsRM, valsD]
    have key : ∀ u, ((match u with
        | .one y => sureAll (v1cells y) (valsRM l fun ys => k ((i, y) :: ys))
        | .tup _ => .fail : RM α)).val σ = (valsD1 σ i l (isOne u)).bind fun r => (k r).val σ := fun u => by
      cases u with
      | tup q => rw [isOne, valsD1]; rfl
      | one y =>
        dsimp only
        rw [sureAllD_eq, isOne, valsD1]
        split
        · rw [valsD_eq l]
          cases valsD σ l <;> rfl
        · rfl
    rw [opndD_eq x _ fun g hg => (key .any).trans (by
      show (valsD1 σ i l (some (.at .any))).bind _ = none
      rw [valsD1]
      rfl)]
    exact key _
def capD (σ : St) : AV → Option (PV × List Upd)
  | .one (.at y) => atPVD σ 0 y
  | _ => none
mutual
def capsD (σ : St) : List Operand → Option (List PV × List Upd)
  | [] => some ([], [])
  | x :: l => capsD1 σ l (capD σ (absO σ x))
def capsD1 (σ : St) : List Operand → Option (PV × List Upd) → Option (List PV × List Upd)
  | l, some (p, us) => consP p us (capsD σ l)
  | _, none => none
end
theorem capsD_eq {α : Type} : ∀ (l : List Operand) (k : List PV → List Upd → RM α), (capsRM l k).val σ = (capsD σ l).bind fun r => (k r.1 r.2).val σ
  | [], k => by rw [capsD]; rfl
  | x :: l, k => by
    rw [capsRM, capsD]
    have key : ∀ u, ((match u with
        | .one (.at y) => atPV 0 y fun p us => capsRM l fun ps us' => k (p :: ps) (us ++ us')
        | _ => .fail : RM α)).val σ = (capsD1 σ l (capD σ u)).bind fun r => (k r.1 r.2).val σ := fun u => by
      cases u with
      | tup q => rw [capD, capsD1]; rfl; intro y; simp
      | one y =>
        cases y with
        | agg l' => rw [capD, capsD1]; rfl; intro y; simp
        | «at» y =>
          dsimp only
          rw [atPVD_eq, capD]
          cases atPVD σ 0 y with
          | none => rw [capsD1]; rfl
          | some r =>
            obtain ⟨p, us⟩ := r
            rw [capsD1, Option.bind_some, capsD_eq l]
            cases capsD σ l <;> rfl
    rw [opndD_eq x _ fun g hg => (key .any).trans (by
      show (capsD1 σ l (atPVD σ 0 .any)).bind _ = none
      rw [atPVD, capsD1]
      · rfl
      all_goals simp)]
    exact key _
mutual
def opndsD (σ : St) : List Operand → Option (List V1)
  | [] => some []
  | x :: l => opndsD1 σ l (isOne (absO σ x))
def opndsD1 (σ : St) : List Operand → Option V1 → Option (List V1)
  | l, some y => (opndsD σ l).map (y :: ·)
  | _, none => none
end
end Go.E2
namespace Go.E2
open Go.RowKit
set_option linter.unusedVariables false
set_option linter.unusedSimpArgs false
variable {σ σ' σ1 : St} {P : Program}
abbrev R3 (β : Type) := Option (β × List Upd × List Frm)
def rowF (N : Nms) (q g : Nat) (S : List Frm) : Option Nat → R3 At
  | some i => some (.row (N.nm i) 0, [], S)
  | none => some (.row (N.nm S.length) 0, [], S ++ [.obj q g])
def frzF (S : List Frm) : Option (PV × List Upd) → R3 At
  | some (p, us) => some (.pv p, us, S)
  | none => none
def nilF (N : Nms) (S : List Frm) : CM → R3 At
  | .own e => some (.row (N.nm S.length) 0, [], S ++ [.nil e])
  | .pv e => some (.pv (.list e []), [], S)
  | .auto => some (.nil, [], S)
  | .ptr _ => some (.nil, [], S)
def rowD (σ : St) (N : Nms) (q g : Nat) (S : List Frm) : CM → R3 At
  | .pv e => frzF S (frzD q g (gone g (σ.ob q)))
  | .own _ => rowF N q g S (findS q g 0 S)
  | .auto => rowF N q g S (findS q g 0 S)
  | .ptr _ => rowF N q g S (findS q g 0 S)
def tailF (N : Nms) (j q g : Nat) (S : List Frm) : Option Nat → R3 At
  | some i => some (.tail (N.nm i) 0 j, [], S)
  | none => some (.tail (N.nm S.length) 0 j, [], S ++ [.obj q g])
def ptrF (N : Nms) (off : Nat) (S : List Frm) : Option Nat → R3 At → R3 At
  | some i, _ => some (.ptr (N.nm i) 0 off, [], S)
  | none, r => r
def blkF (N : Nms) (q g off : Nat) : R3 (List At) → R3 At
  | some (cells', us, S') => some (.ptr (N.nm S'.length) 0 off, us, S' ++ [.blk q g cells'])
  | none => none
def varF (N : Nms) (q g off : Nat) (S : List Frm) (rec_ : List At → R3 (List At)) : Option AObj → R3 At
  | some (.blk cells) => blkF N q g off (rec_ cells)
  | some (.fro cells) => if off < cloN then some (.pv (.ref (cells.drop off)), [], S) else none
  | some (.map _) => some (.ptr (N.nm S.length) 0 off, [], S ++ [.obj q g])
  | _ => none
def consF {β : Type} (x : β) (us : List Upd) : R3 (List β) → R3 (List β)
  | some (l, us', S) => some (x :: l, us ++ us', S)
  | none => none
mutual
def canLD (f : CM → List Frm → At → R3 At) : List CM → List Frm → List At → R3 (List At)
  | _, S, [] => some ([], [], S)
  | ms, S, x :: l => canLD1 f ms.tail l (f (ms.headD .auto) S x)
def canLD1 (f : CM → List Frm → At → R3 At) : List CM → List At → R3 At → R3 (List At)
  | ms, l, some (x', us, S1) => consF x' us (canLD f ms S1 l)
  | _, _, none => none
end
def canAtD (σ : St) (N : Nms) : Nat → CM → List Frm → At → R3 At
  | _, _, S, .pv p => some (.pv p, [], S)
  | _, _, S, .any => some (.any, [], S)
  | _, _, S, .eptr _ _ _ _ => some (.any, [], S)
  | _, _, S, .tail q g j => tailF N j q g S (findS q g 0 S)
  | _, m, S, .nil => nilF N S m
  | _, m, S, .row q g => rowD σ N q g S m
  | 0, _, S, .ptr q g off => ptrF N off S (findS q g 0 S) none
  | d + 1, m, S, .ptr q g off => ptrF N off S (findS q g 0 S) (varF N q g off S (canLD (canAtD σ N d) m.sub S) (gone g (σ.ob q)))
theorem canLD_eq {α : Type} {f : CM → List Frm → At → (At → List Upd → List Frm → RM α) → RM α} {fD : CM → List Frm → At → R3 At} (hf : ∀ m S x k, (f m S x k).val σ = (fD m S x).bind fun r => (k r.1 r.2.1 r.2.2).val σ) :
    ∀ (l : List At) (ms : List CM) (S : List Frm) (k : List At → List Upd → List Frm → RM α), (canL f ms S l k).val σ = (canLD fD ms S l).bind fun r => (k r.1 r.2.1 r.2.2).val σ
  | [], ms, S, k => by rw [canLD]; rfl
  | x :: l, ms, S, k => by
    rw [canL, hf, canLD]
    cases fD (ms.headD .auto) S x with
    | none => rw [canLD1]; rfl
    | some r =>
      obtain ⟨x', us, S1⟩ := r
      rw [canLD1, Option.bind_some, canLD_eq hf l]
      cases canLD fD ms.tail S1 l <;> rfl
theorem canAtD_eq {α : Type} (N : Nms) : ∀ (d : Nat) (m : CM) (S : List Frm) (x : At) (k : At → List Upd → List Frm → RM α), (canAt N d m S x k).val σ = (canAtD σ N d m S x).bind fun r => (k r.1 r.2.1 r.2.2).val σ := by
  have row : ∀ (m : CM) (S : List Frm) (q g : Nat) (k : At → List Upd → List Frm → RM α), (canAt N 0 m S (.row q g) k).val σ = (rowD σ N q g S m).bind fun r => (k r.1 r.2.1 r.2.2).val σ := by
    intro m S q g k
    cases m with
    | pv e =>
      simp only [canAt, rowD]
      rw [atPVD_eq, atPVD]
      cases frzD q g (gone g (σ.ob q)) with
      | none => rfl
      | some r => rfl
    | own e => simp only [canAt, rowD]; cases findS q g 0 S <;> rfl
    | auto => simp only [canAt, rowD]; cases findS q g 0 S <;> rfl
    | ptr ms => simp only [canAt, rowD]; cases findS q g 0 S <;> rfl
  have nil : ∀ (m : CM) (S : List Frm) (k : At → List Upd → List Frm → RM α), (canAt N 0 m S .nil k).val σ = (nilF N S m).bind fun r => (k r.1 r.2.1 r.2.2).val σ := by
    intro m S k
    cases m <;> rfl
  intro d
  induction d with
  | zero =>
    intro m S x k
    cases x with
    | row q g => rw [row, canAtD]
    | nil => rw [nil, canAtD]
    | ptr q g off =>
      rw [canAtD]
      simp only [canAt]
      cases findS q g 0 S <;> rfl
    | pv p => rw [canAtD]; rfl
    | any => rw [canAtD]; rfl
    | eptr q g j o => rw [canAtD]; rfl
    | tail q g j =>
      rw [canAtD]
      simp only [canAt]
      cases findS q g 0 S <;> rfl
  | succ d ih =>
    intro m S x k
    cases x with
    | row q g => rw [canAtD]; exact row m S q g k
    | nil => rw [canAtD]; exact nil m S k
    | ptr q g off =>
      rw [canAtD]
      simp only [canAt]
      cases findS q g 0 S with
      | some i => rfl
      | none =>
        simp only [RM.val, ptrF]
        rcases gone g (σ.ob q) with _ | ⟨cells | cells | _ | _ | _⟩
        · rfl
        · simp only [varF]
          rw [canLD_eq (fD := canAtD σ N d) fun m S x k => ih m S x k]
          cases canLD (canAtD σ N d) m.sub S cells <;> rfl
        · simp only [varF]
          by_cases hlt : off < cloN
          · rw [if_pos hlt, if_pos hlt]
            rfl
          · rw [if_neg hlt, if_neg hlt]
            rfl
        · rfl
        · rfl
        · rfl
    | pv p => rw [canAtD]; rfl
    | any => rw [canAtD]; rfl
    | eptr q g j o => rw [canAtD]; rfl
    | tail q g j =>
      rw [canAtD]
      simp only [canAt]
      cases findS q g 0 S <;> rfl
def atF : R3 At → R3 V1
  | some (x, us, S) => some (.at x, us, S)
  | none => none
def aggF : R3 (List At) → R3 V1
  | some (x, us, S) => some (.agg x, us, S)
  | none => none
def canVD (σ : St) (N : Nms) (ms : List CM) (S : List Frm) : V1 → R3 V1
  | .at x => atF (canAtD σ N 4 (ms.headD .auto) S x)
  | .agg l => aggF (canLD (canAtD σ N 4) ms S l)
theorem canVD_eq {α : Type} (N : Nms) (ms : List CM) (S : List Frm) (y : V1) (k : V1 → List Upd → List Frm → RM α) : (canV N ms S y k).val σ = (canVD σ N ms S y).bind fun r => (k r.1 r.2.1 r.2.2).val σ := by
  cases y with
  | «at» x =>
    rw [canV, canAtD_eq, canVD]
    cases canAtD σ N 4 (ms.headD .auto) S x <;> rfl
  | agg l =>
    rw [canV, canLD_eq (fun m S x k => canAtD_eq N 4 m S x k), canVD]
    cases canLD (canAtD σ N 4) ms S l <;> rfl
mutual
def canVsD (σ : St) (N : Nms) : List (List CM) → List Frm → List V1 → R3 (List V1)
  | _, S, [] => some ([], [], S)
  | mss, S, y :: l => canVsD1 σ N mss.tail l (canVD σ N (mss.headD []) S y)
def canVsD1 (σ : St) (N : Nms) : List (List CM) → List V1 → R3 V1 → R3 (List V1)
  | mss, l, some (y', us, S1) => consF y' us (canVsD σ N mss S1 l)
  | _, _, none => none
end
theorem canVsD_eq {α : Type} (N : Nms) : ∀ (l : List V1) (mss : List (List CM)) (S : List Frm) (k : List V1 → List Upd → List Frm → RM α), (canVs N mss S l k).val σ = (canVsD σ N mss S l).bind fun r => (k r.1 r.2.1 r.2.2).val σ
  | [], mss, S, k => by rw [canVsD]; rfl
  | y :: l, mss, S, k => by
    rw [canVs, canVD_eq, canVsD]
    cases canVD σ N (mss.headD []) S y with
    | none => rw [canVsD1]; rfl
    | some r =>
      obtain ⟨y', us, S1⟩ := r
      rw [canVsD1, Option.bind_some, canVsD_eq N l]
      cases canVsD σ N mss.tail S1 l <;> rfl
def bsD (σ : St) (d : Nat) : List (Option (Nat × Nat)) → Nat → List (Nat × Nat)
  | [], _ => []
  | some x :: l, i => x :: bsD σ d l (i + 1)
  | none :: l, i => (1000 * (i + 1) + d, (σ.ob (1000 * (i + 1) + d)).1 + 1) :: bsD σ d l (i + 1)
theorem bsD_eq {α : Type} (d : Nat) : ∀ (l : List (Option (Nat × Nat))) (i : Nat) (k : List (Nat × Nat) → RM α), (bsRM d l i k).val σ = (k (bsD σ d l i)).val σ
  | [], i, k => rfl
  | some x :: l, i, k => by rw [bsRM, bsD_eq d l]; rfl
  | none :: l, i, k => by
    simp only [bsRM, RM.val]
    rw [bsD_eq d l]
    rfl
def isGlobal : Operand → Bool
  | .global _ => true
  | .tmp _ => false
  | .const _ => false
  | .func _ => false
def hasGlobal : List Operand → Bool
  | [] => false
  | x :: l => isGlobal x || hasGlobal l
theorem opndsD_eq' {α : Type} : ∀ (l : List Operand) (k : List V1 → RM α), hasGlobal l = false → (opnds l k).val σ = (opndsD σ l).bind fun r => (k r).val σ
  | [], k, _ => by rw [opndsD]; rfl
  | x :: l, k, hg => by
    have key : ∀ u, hasGlobal l = false → ((match u with
        | .one y => opnds l fun ys => k (y :: ys)
        | .tup _ => .fail : RM α)).val σ = (opndsD1 σ l (isOne u)).bind (fun r => (k r).val σ) := fun u hg => by
      cases u with
      | tup q => rw [isOne, opndsD1]; rfl
      | one y =>
        dsimp only
        rw [opndsD_eq' l _ hg, isOne, opndsD1]
        cases opndsD σ l <;> rfl
    rw [opnds, opndsD]
    cases x with
    | global g => simp [hasGlobal, isGlobal] at hg
    | tmp t => exact key (absO σ (.tmp t)) hg
    | const v => exact key (absO σ (.const v)) hg
    | func f => exact key (absO σ (.func f)) hg
def call6 (us : List Upd) (L : List Frm) (res : AV) (fin : List (Option AObj)) (bs : List (Nat × Nat)) : Option Eff :=
  if distinct (bs.map (·.1)) = true ∧ distinct (L.filterMap Frm.src) = true then some ⟨backAV (bsAt bs) fin.length res, us ++ backU (bsAt bs) fin.length fin 0⟩ else none
def call5 (σ : St) (dst : Option Nat) (us : List Upd) (L : List Frm) : Option Res → Option Eff
  | some (res, fin) => call6 us L res fin (bsD σ (dst.getD 999) (keysN L fin.length) 0)
  | none => none
def call4 (H : Hand) (σ : St) (dst : Option Nat) (fid : FuncId) (args : List V1) (us : List Upd) (L : List Frm) : Option (List AObj) → Option Eff
  | some ins => call5 σ dst us L (H fid args ins)
  | none => none
def call3 (H : Hand) (σ : St) (dst : Option Nat) (fid : FuncId) (caps : List PV) : R3 (List V1) → Option Eff
  | some (ys, us, L) => call4 H σ dst fid (ys ++ caps.map fun p => .at (.pv p)) us L (allSome (L.map (Frm.obOf (σ.lays us).ob)))
  | none => none
def call2 (tab : Nat → Option Ty) (M : Modes) (H : Hand) (σ : St) (dst : Option Nat) (tys : List Nat) (fid : FuncId) (extra : List V1) (caps : List PV) : Option (List V1) → Option Eff
  | some ys => call3 H σ dst fid caps (canVsD σ callN (modesOf tab M fid tys 0) [] (ys ++ extra))
  | none => none
def call1 (tab : Nat → Option Ty) (fns : FuncId → Bool) (M : Modes) (H : Hand) (σ : St) (dst : Option Nat) (args : List Operand) (tys : List Nat) : AV → Option Eff
  | .one (.at (.pv (.fn fid caps))) => if fns fid = true then call2 tab M H σ dst tys fid [] caps (opndsD σ args) else none
  | .one (.at (.ptr k g off)) => if 2 * cloN ≤ off ∧ isVar (gone g (σ.ob k)) = true ∧ fns (off / cloN - 2) = true then call2 tab M H σ dst tys (off / cloN - 2) [.at (.ptr k g (off % cloN))] [] (opndsD σ args) else none
  | _ => none
theorem body_eq (tab : Nat → Option Ty) (fns : FuncId → Bool) (M : Modes) (H : Hand) (dst : Option Nat) (args : List Operand) (tys : List Nat) (fid : FuncId) (extra : List V1) (caps : List PV) (hga : hasGlobal args = false) :
    (absBody tab fns M H dst args tys fid extra caps).val σ = if fns fid = true then call2 tab M H σ dst tys fid extra caps (opndsD σ args) else none := by
  unfold absBody
  by_cases hfn : fns fid = true
  · rw [if_pos hfn, if_pos hfn, opndsD_eq' _ _ hga]
    cases opndsD σ args with
    | none => rfl
    | some ys =>
      rw [Option.bind_some, canVsD_eq, call2]
      cases canVsD σ callN (modesOf tab M fid tys 0) [] (ys ++ extra) with
      | none => rfl
      | some r =>
        obtain ⟨ys', us, L⟩ := r
        rw [Option.bind_some, val_collect, call3]
        dsimp only
        cases allSome (L.map (Frm.obOf (σ.lays us).ob)) with
        | none => rfl
        | some ins =>
          dsimp only
          rw [call4]
          cases H fid (ys' ++ caps.map fun p => .at (.pv p)) ins with
          | none => rfl
          | some q =>
            obtain ⟨res, fin⟩ := q
            dsimp only
            rw [bsD_eq, call5, call6]
            split <;> rfl
  · rw [if_neg hfn, if_neg hfn]
    rfl
theorem call_eq (tab : Nat → Option Ty) (fns : FuncId → Bool) (M : Modes) (H : Hand) (dst : Option Nat) (f : Operand) (args : Array Operand) (tys : Array TypeId) (hg : hasGlobal (f :: args.toList) = false) :
    (absCall tab fns M H dst f args tys).val σ = call1 tab fns M H σ dst args.toList tys.toList (absO σ f) := by
  have hga : hasGlobal args.toList = false := by
    cases f <;> first | exact hg | (simp [hasGlobal, isGlobal] at hg)
  unfold absCall
  have key : ∀ u, ((match u with
    | .one (.at (.pv (.fn fid caps))) => absBody tab fns M H dst args.toList tys.toList fid [] caps
    | .one (.at (.ptr k g off)) => if 2 * cloN ≤ off then .obj k fun q => if isVar (gone g q) = true then absBody tab fns M H dst args.toList tys.toList (off / cloN - 2) [.at (.ptr k g (off % cloN))] [] else .fail else .fail
    | _ => .fail : RM Eff)).val σ = call1 tab fns M H σ dst args.toList tys.toList u := fun u => by
    rcases u with ⟨⟨p | _ | ⟨k, g, off⟩ | _ | _ | _ | _⟩ | _⟩ | _ <;> try rfl
    · cases p <;> try rfl
      rename_i fid caps
      simp only [call1]
      exact body_eq tab fns M H dst _ _ fid [] caps hga
    · simp only [call1]
      by_cases hlo : 2 * cloN ≤ off
      · rw [if_pos hlo]
        simp only [RM.val]
        by_cases hv : isVar (gone g (σ.ob k)) = true
        · rw [if_pos hv, body_eq tab fns M H dst _ _ _ _ _ hga]
          by_cases hf : fns (off / cloN - 2) = true
          · rw [if_pos hf, if_pos ⟨hlo, hv, hf⟩]
          · rw [if_neg hf, if_neg fun h => hf h.2.2]
        · rw [if_neg hv, if_neg fun h => hv h.2.1]
          rfl
      · rw [if_neg hlo, if_neg fun h => hlo h.1]
        rfl
  cases f with
  | global g => simp [hasGlobal, isGlobal] at hg
  | tmp t => exact key (absO σ (.tmp t))
  | const v => exact key (absO σ (.const v))
  | func f => exact key (absO σ (.func f))
end Go.E2
namespace Go.E2
open Go.RowKit
set_option linter.unusedVariables false
set_option linter.unusedSimpArgs false
variable {σ σ' σ1 : St} {P : Program}
def pinF (q g : Nat) : R3 (List Frm) → R3 (List Frm)
  | some (l, us, S) => some (.obj q g :: l, us, S)
  | none => none
def pinB (q g : Nat) (cells : List At) (us : List Upd) : R3 (List Frm) → R3 (List Frm)
  | some (l, us', S) => some (.blk q g cells :: l, us ++ us', S)
  | none => none
mutual
def pinD (σ : St) (N : Nms) : List Frm → List Frm → R3 (List Frm)
  | [], S => some ([], [], S)
  | .obj q g :: l, S => pinD1 σ N q g l S (gone g (σ.ob q))
  | .nil _ :: _, _ => none
  | .blk _ _ _ :: _, _ => none
def pinD1 (σ : St) (N : Nms) (q g : Nat) : List Frm → List Frm → Option AObj → R3 (List Frm)
  | l, S, some (.blk cells) => pinD2 σ N q g l (canLD (canAtD σ N 4) [] S cells)
  | l, S, some (.row _ _ _) => pinF q g (pinD σ N l S)
  | l, S, some (.fro _) => pinF q g (pinD σ N l S)
  | l, S, some (.view _ _) => pinF q g (pinD σ N l S)
  | l, S, some (.map _) => pinF q g (pinD σ N l S)
  | l, S, none => pinF q g (pinD σ N l S)
def pinD2 (σ : St) (N : Nms) (q g : Nat) : List Frm → R3 (List At) → R3 (List Frm)
  | l, some (cells, us, S) => pinB q g cells us (pinD σ N l S)
  | _, none => none
end
theorem pinD_eq {α : Type} (N : Nms) : ∀ (l S : List Frm) (k : List Frm → List Upd → List Frm → RM α), (pinRM N l S k).val σ = (pinD σ N l S).bind fun r => (k r.1 r.2.1 r.2.2).val σ
  | [], S, k => by rw [pinD]; rfl
  | .nil e :: l, S, k => by rw [pinD]; rfl
  | .blk q g cells :: l, S, k => by rw [pinD]; rfl
  | .obj q g :: l, S, k => by
    rw [pinD]
    simp only [pinRM, RM.val]
    have plain : (pinRM N l S fun l' us S2 => k (.obj q g :: l') us S2).val σ = (pinF q g (pinD σ N l S)).bind fun r => (k r.1 r.2.1 r.2.2).val σ := by
      rw [pinD_eq N l]
      cases pinD σ N l S <;> rfl
    rcases gone g (σ.ob q) with _ | ⟨cells | cells | ⟨own, e, xs⟩ | ⟨e, xs⟩ | ds⟩
    rotate_left 5
    · rw [pinD1]; exact plain
    · rw [pinD1]; exact plain
    · rw [pinD1]
      dsimp only
      rw [canLD_eq (fun m S x k => canAtD_eq N 4 m S x k)]
      cases canLD (canAtD σ N 4) [] S cells with
      | none => rw [pinD2]; rfl
      | some r =>
        obtain ⟨cells', us, S1⟩ := r
        rw [pinD2, Option.bind_some, pinD_eq N l]
        cases pinD σ N l S1 <;> rfl
    · rw [pinD1]; exact plain
    · rw [pinD1]; exact plain
    · rw [pinD1]; exact plain
abbrev Whl := List V1 × List Upd × List Frm × List (Option AObj)
def whole4 (r : Whl) : Option Whl := if distinct (liveS r.2.2.1 r.2.2.2) = true then some r else none
def whole3 (σ : St) (m : Nat) (us0 : List Upd) (l : List Frm) (ys : List V1) (us : List Upd) (L : List Frm) : Option Whl :=
  whole4 (ys, us0 ++ us, L, L.map (Frm.obOf (σ.lays (us0 ++ us)).ob))
def whole2 (σ : St) (m : Nat) (us0 : List Upd) (l : List Frm) : R3 (List V1) → Option Whl
  | some (ys, us, S) => whole3 σ m us0 l ys us (l ++ S.drop m)
  | none => none
def whole1 (σ : St) (N : Nms) (m : Nat) (mss : List (List CM)) (ys : List V1) : R3 (List Frm) → Option Whl
  | some (l, us, S) => whole2 σ m us l (canVsD σ N mss S ys)
  | none => none
def wholeD (σ : St) (N : Nms) (m : Nat) (mss : List (List CM)) (ys : List V1) : Option Whl := whole1 σ N m mss ys (pinD σ N (pinS 0 m) (pinS 0 m))
theorem wholeD_eq {α : Type} (N : Nms) (m : Nat) (mss : List (List CM)) (ys : List V1) (k : List V1 → List Upd → List Frm → List (Option AObj) → RM α) :
    (wholeRM N m mss ys k).val σ = (wholeD σ N m mss ys).bind fun r => (k r.1 r.2.1 r.2.2.1 r.2.2.2).val σ := by
  rw [wholeRM, pinD_eq, wholeD]
  cases pinD σ N (pinS 0 m) (pinS 0 m) with
  | none => rfl
  | some r =>
    obtain ⟨l, us, S⟩ := r
    rw [Option.bind_some, canVsD_eq, whole1]
    dsimp only
    cases canVsD σ N mss S ys with
    | none => rfl
    | some q =>
      obtain ⟨ys', us', S'⟩ := q
      rw [Option.bind_some, whole2, whole3]
      dsimp only
      rw [val_collect, whole4]
      dsimp only
      split <;> rfl
mutual
def slotsD (σ : St) : List (Nat × List CM) → Option (List V1)
  | [] => some []
  | h :: hs => slotsD1 σ hs (isOne (σ.slot h.1))
def slotsD1 (σ : St) : List (Nat × List CM) → Option V1 → Option (List V1)
  | hs, some y => (slotsD σ hs).map (y :: ·)
  | _, none => none
end
theorem slotsD_eq {α : Type} : ∀ (hs : List (Nat × List CM)) (k : List V1 → RM α), (slotsRM hs k).val σ = (slotsD σ hs).bind fun r => (k r).val σ
  | [], k => by rw [slotsD]; rfl
  | h :: hs, k => by
    simp only [slotsRM, RM.val]
    rw [slotsD]
    cases σ.slot h.1 with
    | tup q => rw [isOne, slotsD1]; rfl
    | one y =>
      dsimp only
      rw [isOne, slotsD1, slotsD_eq hs]
      cases slotsD σ hs <;> rfl
def mkS (n : Nat) : List (Nat × List CM) → List V1 → List AV
  | h :: hs, y :: ys => setS (mkS n hs ys) h.1 (.one y)
  | [], _ => List.replicate n .any
  | _ :: _, [] => List.replicate n .any
theorem mkSlots_eq (n : Nat) : ∀ hs ys, mkSlots n hs ys = mkS n hs ys
  | h :: hs, y :: ys => by rw [mkSlots, mkS, mkSlots_eq n hs ys, setS_eq]
  | [], ys => by cases ys <;> rfl
  | _ :: _, [] => rfl
def norm2 (n m : Nat) (hs : List (Nat × List CM)) : Option Whl → Option St
  | some (ys, us, L, os) => if L.length ≤ 900000 then some ⟨mkS n hs ys, mkObs (loopN m) 0 os⟩ else none
  | none => none
def norm1 (σ : St) (n m : Nat) (hs : List (Nat × List CM)) : Option (List V1) → Option St
  | some ys => norm2 n m hs (wholeD σ (loopN m) m (hs.map (·.2)) ys)
  | none => none
theorem norm_eq (hs : List (Nat × List CM)) (l : List AV) (o : List Upd) : normSt hs ⟨l, o⟩ = norm1 ⟨l, o⟩ l.length (pinsOf o 0) hs (slotsD ⟨l, o⟩ hs) := by
  show (normRM l.length (pinsOf o 0) hs).val ⟨l, o⟩ = _
  rw [normRM, slotsD_eq]
  cases slotsD ⟨l, o⟩ hs with
  | none => rfl
  | some ys =>
    rw [Option.bind_some, wholeD_eq, norm1]
    cases wholeD ⟨l, o⟩ (loopN (pinsOf o 0)) (pinsOf o 0) (hs.map (·.2)) ys with
    | none => rfl
    | some r =>
      obtain ⟨ys', us, L, os⟩ := r
      rw [Option.bind_some, norm2]
      dsimp only
      split
      · rw [mkSlots_eq]; rfl
      · rfl
def effV : Option Eff → Option V1
  | some e => isOne e.val
  | none => none
def resD (E : Env) (σ : St) : ResultVar → Option V1
  | .tmp t => isOne (σ.slot t)
  | .cell q t => effV ((absLoad E.tab t (.tmp q)).val σ)
theorem resD_eq (E : Env) (r : ResultVar) : (resVal E r).val σ = resD E σ r := by
  cases r with
  | tmp t =>
    simp only [resVal, RM.val, resD]
    cases σ.slot t <;> rfl
  | cell q t =>
    simp only [resVal, resD]
    rw [RM.val_bind]
    cases (absLoad E.tab t (.tmp q)).val σ with
    | none => rfl
    | some e =>
      rw [Option.bind_some, effV]
      cases e.val <;> rfl
mutual
def ressD (E : Env) (σ : St) : List ResultVar → Option (List V1)
  | [] => some []
  | r :: l => ressD1 E σ l (resD E σ r)
def ressD1 (E : Env) (σ : St) : List ResultVar → Option V1 → Option (List V1)
  | l, some y => (ressD E σ l).map (y :: ·)
  | _, none => none
end
theorem ressD_eq {α : Type} (E : Env) : ∀ (l : List ResultVar) (k : List V1 → RM α), (resVals E l k).val σ = (ressD E σ l).bind fun r => (k r).val σ
  | [], k => by rw [ressD]; rfl
  | r :: l, k => by
    rw [resVals, RM.val_bind, resD_eq, ressD]
    cases resD E σ r with
    | none => rw [ressD1]; rfl
    | some y =>
      rw [ressD1, Option.bind_some, ressD_eq E l]
      cases ressD E σ l <;> rfl
def fin2 : Option Whl → Option Res
  | some (ys, _, _, os) => some (resAV ys, os)
  | none => none
def fin1 (E : Env) (σ : St) (m : Nat) (mss : List (List CM)) : Option (List V1) → Option Res
  | some ys => fin2 (wholeD σ callN m mss ys)
  | none => none
def finD (E : Env) (f : FuncId) (m : Nat) (rs : List ResultVar) (ts : List Nat) (σ : St) : Option Res := fin1 E σ m (rmodes E.tab (E.R f) ts) (ressD E σ rs)
theorem finD_eq (E : Env) (f : FuncId) (m : Nat) (rs : List ResultVar) (ts : List Nat) : (finRM E f m rs ts).val σ = finD E f m rs ts σ := by
  rw [finRM, ressD_eq, finD]
  cases ressD E σ rs with
  | none => rfl
  | some ys =>
    rw [Option.bind_some, wholeD_eq, fin1]
    cases wholeD σ callN m (rmodes E.tab (E.R f) ts) ys <;> rfl
def regK : Option St → Option (Exit × St)
  | some s => some (.normal, s)
  | none => none
def opsK (E : Env) (H : Hand) (ops : Array Oper) (l : List Oper) (d : Option Nat) (s : St) : Option Eff → Option St
  | some e => runOps E H ops l (s.app d e)
  | none => none
def seqK (E : Env) (A : Ora) (f : FuncId) (cur : Nat) (y : Code) : Option (Exit × St) → Option (Exit × St)
  | some (.normal, s) => exec E A f cur y s
  | r => r
def condK (E : Env) (A : Ora) (f : FuncId) (cur : Nat) (x y : Code) (s : St) : AV → Option (Exit × St)
  | .one (.at (.pv (.bool true))) => exec E A f cur x s
  | .one (.at (.pv (.bool false))) => exec E A f cur y s
  | _ => none
def blkK (id : Nat) : Option (Exit × St) → Option (Exit × St)
  | some (e, s) => some (outOf id e, s)
  | none => none
def loopK (A : Ora) (f : FuncId) (cur : Nat) : Option St → Option (Exit × St)
  | some s => A.lp f cur s
  | none => none
def headO (E : Env) (f : FuncId) (id : Nat) (s : St) : Option St := match E.hint f id with
  | some h => normSt h.head s
  | none => some s
def exitK (e : Exit) : Option St → Option (Exit × St)
  | some s => some (e, s)
  | none => none
def exitO (E : Env) (f : FuncId) (id : Nat) (s : St) : Option St := match E.hint f id with
  | some h => normSt h.exit s
  | none => some s
def turnK (E : Env) (A : Ora) (f : FuncId) (id : Nat) : Option (Exit × St) → Option (Exit × St)
  | some (.normal, s) => loopK A f id (headO E f id s)
  | some (e, s) => exitK e (exitO E f id s)
  | none => none
def finK (E : Env) (f : FuncId) (m : Nat) (rs : List ResultVar) (ts : List Nat) : Option (Exit × St) → Option Res
  | some (.normal, s) => finD E f m rs ts s
  | some (.ret, s) => finD E f m rs ts s
  | _ => none
variable {E : Env} {A : Ora} {f : FuncId} {H : Hand}
theorem ops_nil (ops : Array Oper) (s : St) : runOps E H ops [] s = some s := rfl
theorem ops_cons (ops : Array Oper) (o : Oper) (l : List Oper) (s : St) : runOps E H ops (o :: l) s = opsK E H ops l o.dst s ((absG E H ops o).val s) := by
  rw [runOps]
  cases (absG E H ops o).val s <;> rfl
theorem ex_skip (cur : Nat) (s : St) : exec E A f cur .skip s = some (.normal, s) := rfl
theorem ex_region (cur id : Nat) (ops : Array Oper) (s : St) : exec E A f cur (.region id ops false) s = regK (runOps E A.fn ops ops.toList s) := by
  rw [exec]
  cases runOps E A.fn ops ops.toList s <;> rfl
def upC (ops : Array Oper) : Option (St × List UFoot) → Option St
  | some (s', fs) => if okUp ops fs (ancs ops) = true then some s' else none
  | none => none
def upF (E : Env) (H : Hand) (ops : Array Oper) (l : List Oper) (d : Option Nat) (s : St) (acc : List UFoot) (e : Eff) : Option UFoot → Option (St × List UFoot)
  | some f => runUp E H ops l (s.app d e) (acc ++ [f])
  | none => none
def upK (E : Env) (H : Hand) (ops : Array Oper) (l : List Oper) (o : Oper) (d : Option Nat) (s : St) (acc : List UFoot) : Option Eff → Option (St × List UFoot)
  | some e => upF E H ops l d s acc e (footU ops o s (e.upd.map (·.1)))
  | none => none
theorem up_nil (ops : Array Oper) (s : St) (acc : List UFoot) : runUp E H ops [] s acc = some (s, acc) := rfl
theorem up_cons (ops : Array Oper) (o : Oper) (l : List Oper) (s : St) (acc : List UFoot) : runUp E H ops (o :: l) s acc = upK E H ops l o o.dst s acc ((absG E H ops o).val s) := by
  rw [runUp]
  cases (absG E H ops o).val s with
  | none => rfl
  | some e =>
    rw [upK]
    dsimp only
    cases footU ops o s (e.upd.map (·.1)) <;> rfl
theorem exUp_eq (ops : Array Oper) (s : St) : exUp E H ops s = upC ops (runUp E H ops ops.toList s []) := by
  unfold exUp
  cases runUp E H ops ops.toList s [] <;> rfl
def drawK (E : Env) (H : Hand) (ops : Array Oper) (s : St) : Bool → Option St
  | true => runPure E H ops ops.toList s
  | false => exUp E H ops s
theorem pure_nil (ops : Array Oper) (s : St) : runPure E H ops [] s = some s := rfl
theorem pure_cons (ops : Array Oper) (o : Oper) (l : List Oper) (s : St) : runPure E H ops (o :: l) s = pureK (runPure E H ops l) o.dst s ((absG E H ops o).val s) := rfl
theorem pure_some (g : St → Option St) (d : Option Nat) (s : St) (v : AV) : pureK g d s (some ⟨v, []⟩) = g (s.app d ⟨v, []⟩) := rfl
theorem ex_drawn (cur id : Nat) (ops : Array Oper) (s : St) : exec E A f cur (.region id ops true) s = regK (drawK E A.fn ops s (E.plain f id)) := by
  rw [exec]
  cases E.plain f id with
  | true =>
    rw [if_pos rfl, drawK]
    cases runPure E A.fn ops ops.toList s <;> rfl
  | false =>
    rw [if_neg (by simp), drawK]
    cases exUp E A.fn ops s <;> rfl
theorem ex_seq (cur : Nat) (x y : Code) (s : St) : exec E A f cur (.seq x y) s = seqK E A f cur y (exec E A f cur x s) := by
  rw [exec]
  cases exec E A f cur x s with
  | none => rfl
  | some r =>
    obtain ⟨e, s1⟩ := r
    cases e <;> rfl
theorem ex_cond (cur : Nat) (q : Operand) (x y : Code) (s : St) : exec E A f cur (.cond q x y) s = condK E A f cur x y s (absO s q) := by
  rw [exec]
  rcases absO s q with ⟨⟨p | _ | _ | _ | _ | _⟩ | _⟩ | _ <;> try rfl
  cases p <;> try rfl
  rename_i b
  cases b <;> rfl
theorem ex_block (cur id : Nat) (x : Code) (s : St) : exec E A f cur (.block id x) s = blkK id (exec E A f id x s) := by
  rw [exec]
  cases exec E A f id x s <;> rfl
theorem headO_eq (id : Nat) (s : St) : normO ((E.hint f id).map (·.head)) s = headO E f id s := by
  unfold headO
  cases E.hint f id <;> rfl
theorem exitO_eq (id : Nat) (s : St) : normO ((E.hint f id).map (·.exit)) s = exitO E f id s := by
  unfold exitO
  cases E.hint f id <;> rfl
theorem ex_loop (cur : Nat) (x : Code) (s : St) : exec E A f cur (.loop x) s = loopK A f cur (headO E f cur s) := by
  rw [exec, headO_eq]
  cases headO E f cur s <;> rfl
theorem ex_exit (cur id : Nat) (s : St) : exec E A f cur (.exit id) s = some (.exit id, s) := rfl
theorem ex_ret (cur : Nat) (s : St) : exec E A f cur .ret s = some (.ret, s) := rfl
theorem turn_eq (id : Nat) (r : Option (Exit × St)) : r.bind (turn E A f id) = turnK E A f id r := by
  cases r with
  | none => rfl
  | some r =>
    obtain ⟨e, s⟩ := r
    rw [Option.bind_some]
    cases e with
    | normal =>
      simp only [turn, turnK, headO_eq]
      cases headO E f id s <;> rfl
    | _ =>
      simp only [turn, turnK, exitO_eq]
      cases exitO E f id s <;> rfl
theorem fin_eq (m : Nat) (rs : List ResultVar) (ts : List Nat) (r : Option (Exit × St)) : r.bind (finish E f m rs ts) = finK E f m rs ts r := by
  cases r with
  | none => rfl
  | some r =>
    obtain ⟨e, s⟩ := r
    rw [Option.bind_some]
    cases e <;> first | exact finD_eq E f m rs ts | rfl
theorem fn_run (hL : LibOk P E) {fn : Func} {code : Code} (hf : P.funcs[f]? = some fn) (hb : fn.body = some code) (hl : E.lib f = none) {n : Nat} {rs : List ResultVar} {ts : List Nat} (hd : distinct ((loops 0 code).map (·.1)) = true)
    (hn : fn.ntmps = n) (hrs : fn.results.toList = rs) (hts : fn.resultTypes.toList = ts) (h4 : rs.length ≤ 4) (args : List V1) (ins : List AObj) :
    (ans P E).fn f args ins = finK E f ins.length rs ts (exec E (ans P E) f 0 code (entryN args ins n)) := by
  rw [ans_run hL hf hb hl hd hn hrs hts h4, fin_eq]
theorem lp_run (hL : LibOk P E) {fn : Func} {code x : Code} (hf : P.funcs[f]? = some fn) (hb : fn.body = some code) (hd : distinct ((loops 0 code).map (·.1)) = true) (id : Nat) (hx : lookC id (loops 0 code) = some x) (s : St) :
    (ans P E).lp f id s = turnK E (ans P E) f id (exec E (ans P E) f id x s) := by
  rw [ans_loop hL hf hb hd id hx, turn_eq]
def cellsOf : AV → Option V1
  | .one y => some y
  | .tup _ => none
def bslice3 (ty : Ty) (n d : Nat) (ety : Ty) (q : Nat × Option AObj) : Option (List (List PV) × List Upd) → Option Eff
  | some (xs, us) => if xs.length = n ∧ (xs.all fun x => x.length == ety.size) = true ∧ n * ety.size ≤ 16777216 ∧ n ≤ 16777216 then some ⟨.one (.at (.row d (q.1 + 1))), us ++ [(d, q.1 + 1, some (.row true ety.size xs))]⟩ else none
  | none => none
def bslice2 (σ : St) (ty : Ty) (n d : Nat) (parts : List (Nat × Operand)) : Option Ty → Option Eff
  | some ety => bslice3 ty n d ety (σ.ob d) (partsD σ ety.es parts 0)
  | none => none
def bslice1 (tab : Nat → Option Ty) (σ : St) (n d : Nat) (parts : List (Nat × Operand)) : Option Ty → Option Eff
  | some ty => if ty.elem = 0 then none else bslice2 σ ty n d parts (tab ty.elem)
  | none => none
theorem bslice_eq (tab : Nat → Option Ty) (t n d : Nat) (parts : Array (Nat × Operand)) : (absBuildSlice tab t n parts (some d)).val σ = bslice1 tab σ n d parts.toList (tab t) := by
  unfold absBuildSlice
  cases tab t with
  | none => rfl
  | some ty =>
    simp only [bslice1]
    split
    · rfl
    · cases tab ty.elem with
      | none => rfl
      | some ety =>
        dsimp only
        rw [partsD_eq, bslice2]
        cases partsD σ ety.es parts.toList 0 with
        | none => rfl
        | some r =>
          obtain ⟨xs, us⟩ := r
          rw [Option.bind_some, bslice3]
          dsimp only
          split <;> rfl
def build3 : Option (List At) → Option Eff
  | some cells => some ⟨.one (.agg cells), []⟩
  | none => none
def build2 (tab : Nat → Option Ty) (zero : List At) (fields : List (Nat × Nat)) : Option (List (Nat × V1)) → Option Eff
  | some ys => build3 (putParts tab fields zero ys)
  | none => none
def allKnown (tab : Nat → Option Ty) : List (Nat × Nat) → Bool
  | [] => true
  | q :: l => (tab q.2).isSome && allKnown tab l
def build1 (tab : Nat → Option Ty) (σ : St) (parts : List (Nat × Operand)) : Option Ty → Option Eff
  | some ty => if ty.fields ≠ [] ∧ allKnown tab ty.fields = true then build2 tab ty.zero ty.fields (valsD σ parts) else if ty.apl ≠ [] ∧ allKnown tab ty.apl = true then build2 tab ty.zero ty.apl (valsD σ parts) else none
  | none => none
theorem allKnown_eq (tab : Nat → Option Ty) : ∀ l : List (Nat × Nat), (l.all fun q => (tab q.2).isSome) = allKnown tab l
  | [] => rfl
  | q :: l => by rw [List.all_cons, allKnown, allKnown_eq tab l]
theorem build_eq (tab : Nat → Option Ty) (t : Nat) (parts : List (Nat × Operand)) : (absBuild tab t parts).val σ = build1 tab σ parts (tab t) := by
  unfold absBuild
  cases tab t with
  | none => rfl
  | some ty =>
    simp only [build1, allKnown_eq]
    split
    · rw [valsD_eq]
      cases valsD σ parts with
      | none => rfl
      | some ys =>
        rw [Option.bind_some, build2]
        cases putParts tab ty.fields ty.zero ys <;> rfl
    · unfold absBuildA
      simp only [allKnown_eq]
      split
      · rw [valsD_eq]
        cases valsD σ parts with
        | none => rfl
        | some ys =>
          rw [Option.bind_some, build2]
          cases putParts tab ty.apl ty.zero ys <;> rfl
      · rfl
def mkfn2 (f : FuncId) : Option (List PV × List Upd) → Option Eff
  | some (ps, us) => some ⟨.one (.at (.pv (.fn f ps))), us⟩
  | none => none
theorem mkfn_eq (f : FuncId) (captured : List Operand) : (absMakeFunc (.func f) [] captured).val σ = mkfn2 f (capsD σ captured) := by
  unfold absMakeFunc
  rw [capsD_eq]
  cases capsD σ captured <;> rfl
def box2 (σ : St) (d : Nat) : AV → Option Eff
  | .one y => if sureAllD σ (v1cells y) = true then some ⟨.one (.at (.ptr d ((σ.ob d).1 + 1) 0)), [(d, (σ.ob d).1 + 1, some (.blk (v1cells y)))]⟩ else none
  | .tup _ => none
theorem box_eq (x : Operand) (d : Nat) (hg : hasGlobal [x] = false) : (absBox x (some d)).val σ = box2 σ d (absO σ x) := by
  unfold absBox
  have key : ∀ v, ((match (some d : Option Nat), v with
    | some d, .one y => sureAll (v1cells y) (.obj d fun q => .ret ⟨.one (.at (.ptr d (q.1 + 1) 0)), [(d, q.1 + 1, some (.blk (v1cells y)))]⟩)
    | _, _ => .fail : RM Eff)).val σ = box2 σ d v := fun v => by
    cases v with
    | tup q => rfl
    | one y =>
      dsimp only
      rw [sureAllD_eq, box2]
      split <;> rfl
  cases x with
  | global g => simp [hasGlobal, isGlobal] at hg
  | tmp t => exact key (absO σ (.tmp t))
  | const v => exact key (absO σ (.const v))
  | func f => exact key (absO σ (.func f))
def store5 (ty : Ty) (k g off : Nat) (z : V1) : Option AObj → Option Eff
  | some (.blk cells) => if off + ty.size ≤ cells.length then some ⟨.any, [(k, g, some (.blk (cells.take off ++ v1cells z ++ cells.drop (off + ty.size))))]⟩ else none
  | _ => none
def store4 (σ : St) (ty : Ty) : AV → AV → Option Eff
  | .one (.at (.ptr k g off)), .one z => if ((v1cells z).length = ty.size ∧ off < cloN) ∧ sureAllD σ (v1cells z) = true then store5 ty k g off z (gone g (σ.ob k)) else none
  | _, _ => none
def store3 (σ : St) (u v : AV) : Option Ty → Option Eff
  | some ty => store4 σ ty u v
  | none => none
theorem store_eq (tab : Nat → Option Ty) (t : Nat) (x y : Operand) (hg : hasGlobal [x, y] = false) : (absStore tab t x y).val σ = store3 σ (absO σ x) (absO σ y) (tab t) := by
  unfold absStore
  have key : ∀ u v, ((match tab t with
    | none => .fail
    | some ty => match u, v with
      | .one (.at (.ptr k g off)), .one z => if (v1cells z).length = ty.size ∧ off < cloN then sureAll (v1cells z) (.obj k fun q => match gone g q with
          | some (.blk cells) => if off + ty.size ≤ cells.length then .ret ⟨.any, [(k, g, some (.blk (cells.take off ++ v1cells z ++ cells.drop (off + ty.size))))]⟩ else .fail
          | _ => .fail) else .fail
      | _, _ => .fail : RM Eff)).val σ = store3 σ u v (tab t) := fun u v => by
    cases tab t with
    | none => rfl
    | some ty =>
      simp only [store3]
      rcases u with ⟨⟨_ | _ | ⟨k, g, off⟩ | _ | _ | _ | _⟩ | _⟩ | _ <;> try rfl
      cases v with
      | tup q => rfl
      | one z =>
        simp only [store4]
        by_cases h1 : (v1cells z).length = ty.size ∧ off < cloN
        · rw [if_pos h1, sureAllD_eq]
          by_cases h2 : sureAllD σ (v1cells z) = true
          · rw [if_pos h2, if_pos ⟨h1, h2⟩]
            simp only [RM.val]
            rcases gone g (σ.ob k) with _ | ⟨cells | cells | _ | _ | _⟩ <;> try rfl
            simp only [store5]
            split <;> rfl
          · rw [if_neg h2, if_neg fun h => h2 h.2]
        · rw [if_neg h1, if_neg fun h => h1 h.1]
          rfl
  have two : ∀ u, hasGlobal [y] = false → (opnd y fun v => (match tab t with
    | none => .fail
    | some ty => match u, v with
      | .one (.at (.ptr k g off)), .one z => if (v1cells z).length = ty.size ∧ off < cloN then sureAll (v1cells z) (.obj k fun q => match gone g q with
          | some (.blk cells) => if off + ty.size ≤ cells.length then .ret ⟨.any, [(k, g, some (.blk (cells.take off ++ v1cells z ++ cells.drop (off + ty.size))))]⟩ else .fail
          | _ => .fail) else .fail
      | _, _ => .fail : RM Eff)).val σ = store3 σ u (absO σ y) (tab t) := fun u hg => by
    cases y with
    | global g => simp [hasGlobal, isGlobal] at hg
    | tmp t => exact key u (absO σ (.tmp t))
    | const v => exact key u (absO σ (.const v))
    | func f => exact key u (absO σ (.func f))
  cases x with
  | global g => simp [hasGlobal, isGlobal] at hg
  | tmp t => exact two (absO σ (.tmp t)) hg
  | const v => exact two (absO σ (.const v)) hg
  | func f => exact two (absO σ (.func f)) hg
end Go.E2
namespace Go.E2
open Go.RowKit
set_option linter.unusedVariables false
set_option linter.unusedSimpArgs false
variable {σ σ' σ1 : St} {P : Program}
def storeE4 (ty : Ty) (k g e j off : Nat) (xs : List (List PV)) (ps : List PV) (us : List Upd) : Option (List PV) → Option Eff
  | some x => if off + ty.size ≤ x.length then some ⟨.any, us ++ [(k, g, some (.row true e (xs.set j (x.take off ++ ps ++ x.drop (off + ty.size)))))]⟩ else none
  | none => none
def storeE3 (ty : Ty) (k g j off : Nat) (ps : List PV) (us : List Upd) : Option AObj → Option Eff
  | some (.row true e xs) => storeE4 ty k g e j off xs ps us xs[j]?
  | _ => none
def storeE2 (ty : Ty) (k g j off : Nat) (o : Option AObj) : Option (List (List PV) × List Upd) → Option Eff
  | some ([ps], us) => if ps.length = ty.size ∧ (us.any fun u => u.1 == k) = false then storeE3 ty k g j off ps us o else none
  | _ => none
def storeE0 (σ : St) (ty : Ty) (y : Operand) : AV → Option Eff
  | .one (.at (.eptr k g j off)) => storeE2 ty k g j off (gone g (σ.ob k)) (partsD σ ty.es [(0, y)] 0)
  | _ => none
def storeE1 (σ : St) (y : Operand) (u : AV) : Option Ty → Option Eff
  | some ty => storeE0 σ ty y u
  | none => none
theorem storeE_eq (tab : Nat → Option Ty) (t : Nat) (x y : Operand) (hg : hasGlobal [x] = false) : (absStoreE tab t x y).val σ = storeE1 σ y (absO σ x) (tab t) := by
  have key : ∀ u, ((match tab t with
    | none => .fail
    | some ty => match u with
      | .one (.at (.eptr k g j off)) => partsRM ty.es [(0, y)] 0 fun xss us => match xss with
        | [ps] => if ps.length = ty.size ∧ (us.any fun u => u.1 == k) = false then .obj k fun q => match gone g q with
            | some (.row true e xs) => match xs[j]? with
              | some x => if off + ty.size ≤ x.length then .ret ⟨.any, us ++ [(k, g, some (.row true e (xs.set j (x.take off ++ ps ++ x.drop (off + ty.size)))))]⟩ else .fail
              | none => .fail
            | _ => .fail
          else .fail
        | _ => .fail
      | _ => .fail : RM Eff)).val σ = storeE1 σ y u (tab t) := fun u => by
    cases tab t with
    | none => rfl
    | some ty =>
      simp only [storeE1]
      rcases u with ⟨⟨_ | _ | _ | ⟨k, g, j, off⟩ | _ | _ | _⟩ | _⟩ | _ <;> try rfl
      simp only [storeE0]
      rw [partsD_eq]
      cases partsD σ ty.es [(0, y)] 0 with
      | none => rfl
      | some r =>
        obtain ⟨xss, us⟩ := r
        rw [Option.bind_some]
        rcases xss with _ | ⟨ps, _ | ⟨_, _⟩⟩ <;> try rfl
        simp only [storeE2]
        split
        · simp only [RM.val]
          rcases gone g (σ.ob k) with _ | ⟨_ | _ | ⟨own, e, xs⟩ | _ | _⟩ <;> try rfl
          cases own <;> try rfl
          simp only [storeE3]
          cases xs[j]? with
          | none => rfl
          | some x =>
            simp only [storeE4]
            split <;> rfl
        · rfl
  unfold absStoreE
  cases x with
  | global g => simp [hasGlobal, isGlobal] at hg
  | tmp t => exact key (absO σ (.tmp t))
  | const v => exact key (absO σ (.const v))
  | func f => exact key (absO σ (.func f))
abbrev V3 := Option (List PV × List Upd × List FV)
def varB (q g : Nat) : Option (List PV × List Upd) → Option (PV × List Upd × List FV)
  | some (pc, us) => some (.ref pc, us, [(q, g, pc)])
  | none => none
def varO (σ : St) (es : List Nat) (q g : Nat) : Option AObj → Option (PV × List Upd × List FV)
  | some (.blk cells) => varB q g (atPVsD σ es cells)
  | some (.fro pc) => some (.ref pc, [], [])
  | _ => none
def varD (σ : St) (es : List Nat) : AV → Option (PV × List Upd × List FV)
  | .one (.at (.pv p)) => some (p, [], [])
  | .one (.at (.ptr q g off)) => if off = 0 then varO σ es q g (gone g (σ.ob q)) else none
  | _ => none
def consV (p : PV) (us : List Upd) (fs : List FV) : V3 → V3
  | some (ps, us', fs') => some (p :: ps, us ++ us', fs ++ fs')
  | none => none
mutual
def varsD (σ : St) : List (List Nat) → List Operand → V3
  | _, [] => some ([], [], [])
  | ess, x :: l => varsD1 σ ess.tail l (varD σ (ess.headD []) (absO σ x))
def varsD1 (σ : St) : List (List Nat) → List Operand → Option (PV × List Upd × List FV) → V3
  | ess, l, some (p, us, fs) => consV p us fs (varsD σ ess l)
  | _, _, none => none
end
theorem varsD_eq {α : Type} : ∀ (l : List Operand) (ess : List (List Nat)) (k : List PV → List Upd → List FV → RM α), hasGlobal l = false → (varsRM ess l k).val σ = (varsD σ ess l).bind fun r => (k r.1 r.2.1 r.2.2).val σ
  | [], ess, k, _ => by rw [varsD]; rfl
  | x :: l, ess, k, hg => by
    have key : ∀ u, hasGlobal l = false → ((match u with
        | .one (.at (.pv p)) => varsRM ess.tail l fun ps us fs => k (p :: ps) us fs
        | .one (.at (.ptr q g off)) => if off = 0 then .obj q fun r => match gone g r with
          | some (.blk cells) => atPVs (ess.headD []) cells fun pc us => varsRM ess.tail l fun ps us' fs => k (.ref pc :: ps) (us ++ us') ((q, g, pc) :: fs)
          | some (.fro pc) => varsRM ess.tail l fun ps us fs => k (.ref pc :: ps) us fs
          | _ => .fail else .fail
        | _ => .fail : RM α)).val σ = (varsD1 σ ess.tail l (varD σ (ess.headD []) u)).bind fun r => (k r.1 r.2.1 r.2.2).val σ := fun u hg => by
      have still : ∀ p, (varsRM ess.tail l fun ps us fs => k (p :: ps) us fs).val σ = (varsD1 σ ess.tail l (some (p, [], []))).bind fun r => (k r.1 r.2.1 r.2.2).val σ := fun p => by
        rw [varsD_eq l _ _ hg, varsD1]
        cases varsD σ ess.tail l with
        | none => rfl
        | some r => rfl
      have bad : none = (varsD1 σ ess.tail l none).bind fun r => (k r.1 r.2.1 r.2.2).val σ := by rw [varsD1]; rfl
      rcases u with ⟨⟨p | _ | ⟨q, g, off⟩ | _ | _ | _ | _⟩ | _⟩ | _ <;> try exact bad
      · exact still p
      · simp only [varD]
        split
        · simp only [RM.val]
          rcases gone g (σ.ob q) with _ | ⟨cells | pc | _ | _ | _⟩ <;> try exact bad
          · simp only [varO]
            rw [atPVsD_eq]
            cases atPVsD σ (ess.headD []) cells with
            | none => exact bad
            | some r =>
              obtain ⟨pc, us⟩ := r
              rw [Option.bind_some, varsD_eq l _ _ hg, varB, varsD1]
              cases varsD σ ess.tail l with
              | none => rfl
              | some r => rfl
          · exact still (.ref pc)
        · exact bad
    rw [varsRM, varsD]
    cases x with
    | global g => simp [hasGlobal, isGlobal] at hg
    | tmp t => exact key (absO σ (.tmp t)) hg
    | const v => exact key (absO σ (.const v)) hg
    | func f => exact key (absO σ (.func f)) hg
def frz1 (f : FuncId) : V3 → Option Eff
  | some (ps, us, fs) => if distinct (fs.map (·.1)) = true then some ⟨.one (.at (.pv (.fn f ps))), us ++ frzU fs⟩ else none
  | none => none
theorem frz_eq (ess : List (List Nat)) (f : FuncId) (captured : List Operand) (hg : hasGlobal captured = false) : (absMakeFrz ess (.func f) [] captured).val σ = frz1 f (varsD σ ess captured) := by
  unfold absMakeFrz
  rw [varsD_eq _ _ _ hg]
  cases varsD σ ess captured with
  | none => rfl
  | some r =>
    obtain ⟨ps, us, fs⟩ := r
    rw [Option.bind_some, frz1]
    dsimp only
    split <;> rfl
end Go.E2
