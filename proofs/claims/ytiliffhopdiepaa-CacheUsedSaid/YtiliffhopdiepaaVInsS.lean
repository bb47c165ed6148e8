/- slices.Insert and slices.Delete over texts, as the engine's contracts. -/
import Derived.Test.YtiliffhopdiepaaVSortS
namespace Go.E2.Lib
open Go Go.E2 Go.RowKit Go.Sort Go.Proofs
set_option linter.unusedVariables false
set_option linter.unusedSimpArgs false
/-- Rows that came in are gone; another one comes out. -/
theorem out_row {ins : List AObj} {w w' : World} {c0 : Con} {e cap : Nat} {ys : List (List PV)} {b : Nat} {cs' : Array Value} {ty : TypeId} {v : Value} (h : InOk w c0 ins)
    (hb : w.heap.size ≤ b ∨ blks ins c0 b) (hG : ∀ o, c0.G b o = none) (hfr : Fr (blks ins c0) w w') (himm : ∀ b o v, c0.G b o = some v → w'.cell? ⟨b, o, none⟩ = some v)
    (hh : w'.heap[b]? = some (.cells cs' ty (0, 0))) (hsz : cs'.size = cap * e) (hcap : ys.length ≤ cap ∧ cap ≤ 9223372036854775807) (hwd : Wide e ys)
    (hr : ∀ (j : Nat) (x : List PV) (i : Nat) (y : PV), ys[j]? = some x → x[i]? = some y → Rep c0.G y (cs'.getD (j * e + i) undef)) (hv : v = .slice (some ⟨b, 0, none⟩) ys.length cap) :
    ∃ c, OutOk w c0 ins (.one (.at (.row (pinN + ins.length) 0))) (List.replicate ins.length none ++ [some (.row true e ys)]) v c w' := by
  have at_ : ∀ i, (List.replicate ins.length none ++ [some (AObj.row true e ys)])[i]? = if i < ins.length then some none else if i = ins.length then some (some (.row true e ys)) else none := fun i => by
    rw [List.getElem?_append, List.length_replicate, List.getElem?_replicate]
    split
    · rfl
    · split
      · rename_i h1 h2; subst h2; simp
      · rename_i h1 h2
        rw [List.getElem?_eq_none]
        simp; omega
  have only : ∀ (i : Nat) (o : AObj), (List.replicate ins.length none ++ [some (AObj.row true e ys)])[i]? = some (some o) → i = ins.length ∧ o = .row true e ys := fun i o hi => by
    rw [at_] at hi
    split at hi
    · cases hi
    · split at hi
      · rename_i h2; cases hi; exact ⟨h2, rfl⟩
      · cases hi
  have a1 : alive (obsF (List.replicate ins.length none ++ [some (AObj.row true e ys)])) (pinN + ins.length) 0 = some (.row true e ys) := by
    have e : obsF (List.replicate ins.length none ++ [some (AObj.row true e ys)]) (pinN + ins.length) = (0, some (.row true e ys)) := by
      rw [obsF_at, at_, if_neg (Nat.lt_irrefl _), if_pos rfl]
      rfl
    unfold alive
    rw [e]
    rfl
  refine ⟨⟨fun _ => some b, fun _ => cap, c0.G⟩, Gh.le_refl _, himm, fun b o hne => absurd rfl hne, hfr, ?_, fun i o ho => ?_, fun i i' o o' b' h1 h2 _ _ _ _ => ?_, fun i o b' h1 h2 h3 => ?_, fun i hi => ?_, by simp⟩
  · refine ⟨Nat.zero_le _, fun n hn => ?_⟩
    rw [a1] at hn
    simp only [rowLen, Option.some.injEq] at hn
    subst hn
    exact hv
  · obtain ⟨rfl, rfl⟩ := only i o ho
    exact .inr ⟨b, cs', ty, rfl, hh, hcap, hsz, hwd, hr, by simpa using hG⟩
  · rw [(only i o h1).1, (only i' o' h2).1]
  · cases h3
    exact hb
  · unfold Keeps
    rw [obsL_at, obsF_at, at_, if_pos hi]
    right
    exact ⟨rfl, fun n hn => by simp [rowLen] at hn, fun e' he => by simp [rowE] at he, fun hv => by simp [isVar] at hv⟩
theorem rep_strs {G : Gh} {m : List ByteArray} {cs' : Array Value} (h : ∀ (j : Nat) (s : ByteArray), m[j]? = some s → cs'[j]? = some (.string s)) : ∀ (j : Nat) (x : List PV) (i : Nat) (y : PV), (m.map encS)[j]? = some x → x[i]? = some y → Rep G y (cs'.getD (j * 1 + i) undef) := by
  intro j x i y hx hy
  obtain ⟨s, hs, rfl⟩ := encS_get hx
  match i, hy with
  | 0, hy =>
    cases hy
    rw [Nat.mul_one, Nat.add_zero, Array.getD_eq_getD_getElem?, h j s hs]
    exact Rep.str _
theorem strs_rep {G : Gh} {m : List ByteArray} {cs : Array Value} (hn : m.length ≤ cs.size) (h : ∀ (j : Nat) (x : List PV) (i : Nat) (y : PV), (m.map encS)[j]? = some x → x[i]? = some y → Rep G y (cs.getD (j * 1 + i) undef)) (j : Nat) (s : ByteArray) (hj : m[j]? = some s) : cs[j]? = some (.string s) := by
  have hl := (List.getElem?_eq_some_iff.1 hj).1
  have h1 := h j [.str s] 0 (.str s) (by simp [hj]) rfl
  rw [Nat.mul_one, Nat.add_zero] at h1
  rw [get_of_getD (by omega), rep_str h1]
theorem ins_get (l : List ByteArray) (i : Nat) (k : ByteArray) (hi : i ≤ l.length) (j : Nat) : (l.take i ++ k :: l.drop i)[j]? = if j < i then l[j]? else if j = i then some k else l[j - 1]? := by
  have e : (l.take i).length = i := by rw [List.length_take]; omega
  rw [List.getElem?_append, e]
  split
  · rename_i h; rw [List.getElem?_take, if_pos h]
  · split
    · rename_i h1 h2; subst h2; simp
    · rw [show j - i = (j - i - 1) + 1 by omega, List.getElem?_cons_succ, List.getElem?_drop]
      congr 1
      omega
theorem G_new {w : World} {c0 : Con} {ins : List AObj} (h : InOk w c0 ins) (o : Nat) : c0.G w.heap.size o = none := by
  cases e : c0.G w.heap.size o with
  | none => rfl
  | some v =>
    have := h.imm _ _ _ e
    unfold World.cell? at this
    rw [show w.heap[w.heap.size]? = none by simp] at this
    cases this
theorem imm_keep {w w' : World} {c0 : Con} {ins : List AObj} {b : Nat} (h : InOk w c0 ins) (hG : ∀ o, c0.G b o = none) (hk : ∀ k, k < w.heap.size → k ≠ b → w'.heap[k]? = w.heap[k]?) : ∀ b o v, c0.G b o = some v → w'.cell? ⟨b, o, none⟩ = some v := fun b' o v hv => by
  have h1 := h.imm b' o v hv
  have hlt : b' < w.heap.size := by
    unfold World.cell? at h1
    split at h1
    · rename_i hh; exact (Array.getElem?_eq_some_iff.1 hh).1
    · cases h1
  have hne : b' ≠ b := fun e => by rw [e, hG] at hv; cases hv
  unfold World.cell? at h1 ⊢
  dsimp only at h1 ⊢
  rw [hk b' hlt hne]
  exact h1
theorem strs_get (l : List ByteArray) (j : Nat) (v : Value) (h : (l.map fun s => Value.string s)[j]? = some v) : ∃ s, l[j]? = some s ∧ v = .string s := by
  rw [List.getElem?_map] at h
  obtain ⟨s, hs, rfl⟩ := Option.map_eq_some_iff.1 h
  exact ⟨s, hs, rfl⟩
theorem one_strs (l : List ByteArray) : ∀ v ∈ l.map (fun s => Value.string s), v.oneCell' = true := by
  intro v hv
  obtain ⟨s, _, rfl⟩ := List.mem_map.1 hv
  rfl
theorem heap_new (w : World) (o : Obj) : (w.drew.alloc o).heap[w.heap.size]? = some o := by
  show (w.heap.push o)[w.heap.size]? = some o
  exact Array.getElem?_push_size
theorem heap_new' (w : World) (o : Obj) : (w.alloc o).drew.heap[w.heap.size]? = some o := heap_new w o
theorem heap_old (w : World) (o : Obj) (k : Nat) (hk : k < w.heap.size) : (w.drew.alloc o).heap[k]? = w.heap[k]? := by
  show (w.heap.push o)[k]? = _
  rw [Array.getElem?_push, if_neg (Nat.ne_of_lt hk)]
theorem heap_old' (w : World) (o : Obj) (k : Nat) (hk : k < w.heap.size) : (w.alloc o).drew.heap[k]? = w.heap[k]? := heap_old w o k hk
theorem heap_sz (w : World) (o : Obj) : w.heap.size ≤ (w.drew.alloc o).heap.size := by
  show w.heap.size ≤ (w.heap.push o).size
  rw [Array.size_push]
  exact Nat.le_succ _
theorem heap_sz' (w : World) (o : Obj) : w.heap.size ≤ (w.alloc o).drew.heap.size := heap_sz w o
theorem drawn_new (w : World) (o : Obj) : w.drawn ≤ (w.drew.alloc o).drawn := Nat.le_succ _
theorem zero_strs (n : Nat) : (Builtin.zeroCells (Value.string ⟨#[]⟩).cells n).size = n := by simp [Builtin.zeroCells, Value.cells]
theorem delete_spec (l : List ByteArray) (i : Nat) (hi : i < l.length) :
    Spec Try.prog 28 [.at (.row pinN 0), iv i, iv (i + 1)] [.row true 1 (l.map encS)] (.one (.at (.row (pinN + 1) 0))) [none, some (.row true 1 ((l.take i ++ l.drop (i + 1)).map encS))] := by
  intro w c0 vs hin hsz hargs
  obtain ⟨v, v1, v2, rfl⟩ : ∃ v v1 v2, vs = #[v, v1, v2] := by
    match vs, hsz with
    | ⟨[v, v1, v2]⟩, _ => exact ⟨v, v1, v2, rfl⟩
  have hv : v = _ := row_val (hargs 0 _ rfl)
  have hv1 : v1 = .int .i64 i := by have h : Rep c0.G (.int .i64 i) v1 := hargs 1 _ rfl; cases h; rfl
  have hv2 : v2 = .int .i64 ((i + 1 : Nat) : Int) := by have h : Rep c0.G (.int .i64 ((i : Int) + 1)) v2 := hargs 2 _ rfl; cases h; rfl
  rw [hv, hv1, hv2]
  rcases row_in hin with ⟨h1, h2, h3⟩ | ⟨b, cs, ty, h1, h2, h3, h4, h5, h6, h7⟩
  · obtain rfl : l = [] := by simpa using h2
    simp at hi
  · rw [h1]
    rw [List.length_map] at h3
    have hlen : (l.map encS).length = (l.map bl).length := by simp
    have hh := holds_S h2 (by omega) h6
    have hbl := (Array.getElem?_eq_some_iff.1 h2).1
    have hc := Any.slices_Delete_string Try.layDelete b 0 (c0.cp pinN) i (i + 1) (l.map bl) w hh (by rw [List.length_map]; exact h3.1) h3.2 (by omega) (by rw [List.length_map]; omega)
    rw [← hlen] at hc
    refine hc.mono ?_
    rintro e w' ⟨rfl, q, rfl⟩
    have hll : (l.take i ++ l.drop (i + 1)).length = l.length - 1 := by rw [List.length_append, List.length_take, List.length_drop]; omega
    obtain ⟨c, ho⟩ := out_moved (ys := (l.take i ++ l.drop (i + 1)).map encS) (v := .slice (some ⟨b, 0, none⟩) ((l.map encS).length - (i + 1 - i)) (c0.cp pinN)) hin h1 h7 (wrote_put hbl _ q #[]) (heap_put h2 _ q #[]) (by simp [putCells, h4]) (by rw [List.length_map, hll]; omega) (wide_S _) (put_rep ((l.map bl).take i ++ (l.map bl).drop (i + 1) ++ List.replicate (i + 1 - i) []) (l.take i ++ l.drop (i + 1)) (by
      have e1 : ((l.map bl).take i ++ (l.map bl).drop (i + 1)).length = (l.take i ++ l.drop (i + 1)).length := by rw [← List.map_take, ← List.map_drop, ← List.map_append, List.length_map]
      rw [← e1, List.take_left, ← List.map_take, ← List.map_drop, ← List.map_append, List.map_map]
      exact (List.map_id _).symm) (by simp; omega)) (by rw [List.length_map, List.length_map, hll, show i + 1 - i = 1 by omega])
    rw [grow_empty] at ho
    exact ⟨_, c, rfl, ho⟩
theorem insert_spec (l : List ByteArray) (i : Nat) (k : ByteArray) (hi : i ≤ l.length) (hl : l.length < 1000000000) :
    Spec Try.prog 62 [.at (.row pinN 0), iv i, .at (.row (pinN + 1) 0)] [.row true 1 (l.map encS), .row true 1 [encS k]] (.one (.at (.row (pinN + 2) 0))) [none, none, some (.row true 1 ((l.take i ++ k :: l.drop i).map encS))] := by
  intro w c0 vs hin hsz hargs
  obtain ⟨v, v1, v2, rfl⟩ : ∃ v v1 v2, vs = #[v, v1, v2] := by
    match vs, hsz with
    | ⟨[v, v1, v2]⟩, _ => exact ⟨v, v1, v2, rfl⟩
  have ho0 : alive (obsL [.row true 1 (l.map encS), .row true 1 [encS k]]) pinN 0 = some (.row true 1 (l.map encS)) := by
    unfold alive
    rw [show obsL [.row true 1 (l.map encS), .row true 1 [encS k]] pinN = (0, some (.row true 1 (l.map encS))) from obsL_at _ 0]
    rfl
  have ho1 : alive (obsL [.row true 1 (l.map encS), .row true 1 [encS k]]) (pinN + 1) 0 = some (.row true 1 [encS k]) := by
    unfold alive
    rw [obsL_at]
    rfl
  have hv : v = rowVal (c0.ρ pinN) l.length (c0.cp pinN) := by
    have h : RepAt (obsL [.row true 1 (l.map encS), .row true 1 [encS k]]) c0 (.row pinN 0) v := hargs 0 _ rfl
    exact h.2 _ (by rw [ho0]; simp [rowLen])
  have hv1 : v1 = .int .i64 i := by have h : Rep c0.G (.int .i64 i) v1 := hargs 1 _ rfl; cases h; rfl
  have hv2 : v2 = rowVal (c0.ρ (pinN + 1)) 1 (c0.cp (pinN + 1)) := by
    have h : RepAt (obsL [.row true 1 (l.map encS), .row true 1 [encS k]]) c0 (.row (pinN + 1) 0) v2 := hargs 2 _ rfl
    exact h.2 _ (by rw [ho1]; simp [rowLen])
  rw [hv, hv1, hv2]
  have hys : ((l.take i ++ k :: l.drop i).map encS).length = l.length + 1 := by rw [List.length_map, List.length_append, List.length_cons, List.length_take, List.length_drop]; omega
  rcases hin.obs 1 _ rfl with ⟨z1, z2, _⟩ | ⟨vb, vcs, vty, u1, u2, u3, u4, u5, u6, u7⟩
  · simp at z2
  have uv : vcs[0]? = some (.string k) := strs_rep (m := [k]) (by
    have q3 := u3.1
    have q4 := u4
    simp only [List.length_cons, List.length_nil, Nat.mul_one] at q3 q4 ⊢
    omega) u6 0 k rfl
  have hvs : ∀ j v, [Value.string k][j]? = some v → w.cell? ⟨vb, 0 + j, none⟩ = some v := fun j v hj => by
    match j, hj with
    | 0, hj => cases hj; rw [cell_of_blk u2]; exact uv
    | j + 1, hj => simp at hj
  have hv1c : ∀ v ∈ [Value.string k], v.oneCell' = true := one_strs [k]
  rw [u1]
  rcases hin.obs 0 _ rfl with ⟨h1, h2, h3⟩ | ⟨b, cs, ty, h1, h2, h3, h4, h5, h6, h7⟩
  · obtain rfl : l = [] := by simpa using h2
    obtain rfl : i = 0 := by simpa using hi
    have h1 : c0.ρ pinN = none := h1
    rw [h1]
    refine (Any2.slices_Insert_string_end_grow Try.layInsert none 0 0 vb 0 1 (c0.cp (pinN + 1)) [] [.string k] w (by omega) (by omega) (by omega) (by omega) rfl rfl (fun _ => rfl) (fun a h => by cases h) hvs hv1c).mono ?_
    rintro e w' ⟨rfl, rfl⟩
    generalize hgc : grownCap w _ _ _ = cap
    have hge := grownCap_ge w (0 + 1) 0 9
    have hle := grownCap_le_maxLen w (0 + 1) 0 9 (by decide)
    have hgc : grownCap w (0 + 1) 0 9 = cap := hgc
    rw [hgc] at hge hle
    obtain ⟨c, ho⟩ := out_row (b := w.heap.size) (cap := cap) (e := 1) (ys := [encS k]) (w' := w.drew.alloc (.cells (([] ++ [Value.string k]).toArray ++ Builtin.zeroCells (Value.string ⟨#[]⟩).cells (cap - (0 + 1))) 9)) (v := .slice (some ⟨w.heap.size, 0, none⟩) (0 + 1) cap) hin (.inl (Nat.le_refl _)) (G_new hin) ⟨rfl, rfl, rfl, heap_sz w _, fun k hk _ => heap_old w _ k hk, drawn_new w _⟩
      (imm_keep (b := w.heap.size) hin (G_new hin) fun k hk _ => heap_old w _ k hk) (cs' := _) (ty := _) (heap_new w _) (by rw [Array.size_append, zero_strs]; simp only [List.nil_append, List.size_toArray, List.length_cons, List.length_nil]; omega) ⟨by simp only [List.length_cons, List.length_nil]; omega, hle⟩ (wide_S [k]) (rep_strs (m := [k]) fun j s hj => by
        match j, hj with
        | 0, hj => cases hj; rw [Array.getElem?_append_left (by simp)]; rfl
        | j + 1, hj => simp at hj) rfl
    exact ⟨_, c, rfl, ho⟩
  · have h1 : c0.ρ pinN = some b := h1
    have h7 : ∀ o, c0.G b o = none := by simpa using h7
    have h4 : cs.size = c0.cp pinN * 1 := h4
    have h3 : (l.map encS).length ≤ c0.cp pinN ∧ c0.cp pinN ≤ 9223372036854775807 := h3
    rw [List.length_map] at h3
    rw [h1]
    have hold := strs_rep (by omega) h6
    have hcs : ∀ j v, (l.map fun s => Value.string s)[j]? = some v → w.cell? ⟨b, 0 + j, none⟩ = some v := fun j v hj => by
      obtain ⟨s, hs, rfl⟩ := strs_get l j v hj
      rw [cell_of_blk h2, Nat.zero_add]
      exact hold j s hs
    have hvb : vb ≠ b := fun e => by
      have := hin.sep 0 1 _ _ b rfl rfl rfl rfl h1 (e ▸ u1)
      omega
    have inb : blks [.row true 1 (l.map encS), .row true 1 [encS k]] c0 b := ⟨0, _, rfl, rfl, h1⟩
    have hin_place : ∀ (w' : World) (cs' : Array Value), w'.os = w.os → w'.tape = w.tape → w'.output = w.output → w'.heap.size = w.heap.size → w.drawn ≤ w'.drawn → (∀ k, k ≠ b → w'.heap[k]? = w.heap[k]?) → w'.heap[b]? = some (.cells cs' ty (0, 0)) → cs'.size = cs.size → l.length + 1 ≤ c0.cp pinN →
        (∀ (j : Nat) (s : ByteArray), (l.take i ++ k :: l.drop i)[j]? = some s → cs'[j]? = some (Value.string s)) → ∃ c, OutOk w c0 [.row true 1 (l.map encS), .row true 1 [encS k]] (.one (.at (.row (pinN + 2) 0))) [none, none, some (.row true 1 ((l.take i ++ k :: l.drop i).map encS))] (.slice (some ⟨b, 0, none⟩) (l.length + 1) (c0.cp pinN)) c w' :=
      fun w' cs' a1 a2 a3 a4 a5 a6 a7 a8 a9 a10 => out_row (b := b) (cap := c0.cp pinN) hin (.inr inb) h7 ⟨a1, a2, a3, by omega, fun k hk hn => a6 k fun e => hn (e ▸ inb), a5⟩ (imm_keep hin h7 fun k _ hn => a6 k hn) a7 (by rw [a8]; exact h4) ⟨by rw [hys]; exact a9, h3.2⟩ (wide_S _) (rep_strs a10) (by rw [hys])
    have hnew : ∀ (w' : World) (cs' : Array Value) (cap : Nat) (t : TypeId), w'.os = w.os → w'.tape = w.tape → w'.output = w.output → w.heap.size ≤ w'.heap.size → w.drawn ≤ w'.drawn → (∀ k, k < w.heap.size → w'.heap[k]? = w.heap[k]?) → w'.heap[w.heap.size]? = some (.cells cs' t (0, 0)) → cs'.size = cap → l.length + 1 ≤ cap → cap ≤ 9223372036854775807 →
        (∀ (j : Nat) (s : ByteArray), (l.take i ++ k :: l.drop i)[j]? = some s → cs'[j]? = some (Value.string s)) → ∃ c, OutOk w c0 [.row true 1 (l.map encS), .row true 1 [encS k]] (.one (.at (.row (pinN + 2) 0))) [none, none, some (.row true 1 ((l.take i ++ k :: l.drop i).map encS))] (.slice (some ⟨w.heap.size, 0, none⟩) (l.length + 1) cap) c w' :=
      fun w' cs' cap t a1 a2 a3 a4 a5 a6 a7 a8 a9 a10 a11 => out_row (b := w.heap.size) (cap := cap) hin (.inl (Nat.le_refl _)) (G_new hin) ⟨a1, a2, a3, a4, fun k hk hn => a6 k hk, a5⟩ (imm_keep (b := w.heap.size) hin (G_new hin) fun k hk hn => a6 k hk) a7 (by omega) ⟨by rw [hys]; exact a9, a10⟩ (wide_S _) (rep_strs a11) (by rw [hys])
    have hcl : (l.map fun s => Value.string s).length = l.length := by simp
    by_cases hroom : l.length + 1 ≤ c0.cp pinN
    · by_cases hend : i = l.length
      · subst hend
        refine (Any2.slices_Insert_string_end_room Try.layInsert b 0 l.length (c0.cp pinN) vb 0 1 (c0.cp (pinN + 1)) [.string k] w (by omega) hroom h3.2 rfl (fun j hj => by rw [cell_of_blk h2, Array.getElem?_eq_getElem (by omega)]; rfl) (fun j hj => frozen_blk h2) hvs hv1c).mono ?_
        rintro e w' ⟨rfl, rfl⟩
        obtain ⟨s1, s2, s3, s4, s5⟩ := setCells_os [Value.string k] w b (0 + l.length)
        obtain ⟨c, ho⟩ := hin_place _ _ s1 s2 s3 s4 (by omega) (fun k hk => setCells_other _ w b _ k hk) (setCells_self _ w b (0 + l.length) cs ty h2) (setMany_size _ _ _) hroom (fun j s hj => by
          rw [ins_get _ _ _ (Nat.le_refl _)] at hj
          rw [setMany_get _ _ _ _ (by simp; omega)]
          split at hj
          · rw [if_neg (by omega)]; exact hold j s hj
          · split at hj
            · rename_i e1 e2; subst e2; cases hj; rw [if_pos (by simp)]; simp
            · have := (List.getElem?_eq_some_iff.1 hj).1; omega)
        exact ⟨_, c, rfl, ho⟩
      · have hlt : i < l.length := by omega
        refine (Any2.slices_Insert_string_shift Try.layInsert b 0 l.length (c0.cp pinN) i vb 0 1 (c0.cp (pinN + 1)) (l.map fun s => Value.string s) [.string k] w hlt (by omega) hroom h3.2 hvb hcl rfl hcs (fun j hj => by rw [cell_of_blk h2, Array.getElem?_eq_getElem (by omega)]; rfl) (fun j hj => frozen_blk h2) hvs (one_strs l) hv1c
          vty ty vcs.size cs.size (by simp [World.shape?, u2]) (by simp [World.shape?, h2]) (by omega) (frozen_blk u2) (frozen_blk u2)).mono ?_
        rintro e w' ⟨rfl, rfl⟩
        have hd : ((l.map fun s => Value.string s).drop i).length = l.length - i := by rw [List.length_drop, hcl]
        obtain ⟨r1, r2, r3, r4, r5⟩ := setCells_os ((l.map fun s => Value.string s).drop i) w.drew b (0 + (i + 1))
        have g2 := setCells_self ((l.map fun s => Value.string s).drop i) w.drew b (0 + (i + 1)) cs ty h2
        obtain ⟨s1, s2, s3, s4, s5⟩ := setCells_os [Value.string k] (w.drew.setCells b (0 + (i + 1)) ((l.map fun s => Value.string s).drop i)) b (0 + i)
        have hdr : w.drawn ≤ w.drew.drawn := Nat.le_succ _
        obtain ⟨c, ho⟩ := hin_place _ _ (s1.trans r1) (s2.trans r2) (s3.trans r3) (s4.trans r4) (by omega) (fun k hk => (setCells_other _ _ b _ k hk).trans (setCells_other _ w.drew b _ k hk)) (setCells_self _ _ b (0 + i) _ ty g2) (by rw [setMany_size, setMany_size]) hroom (fun j s hj => by
          rw [ins_get _ _ _ (by omega)] at hj
          rw [setMany_get _ _ _ _ (by rw [setMany_size]; simp; omega), setMany_get _ _ _ _ (by omega)]
          split at hj
          · rw [if_neg (by omega), if_neg (by omega)]; exact hold j s hj
          · split at hj
            · rename_i e1 e2; subst e2; cases hj; rw [if_pos (by simp)]; simp
            · have hjl := (List.getElem?_eq_some_iff.1 hj).1
              rw [if_neg (by simp; omega), if_pos (by omega), List.getElem?_drop, List.getElem?_map, show i + (j - (0 + (i + 1))) = j - 1 by omega, hj]
              rfl)
        exact ⟨_, c, rfl, ho⟩
    · by_cases hend : i = l.length
      · subst hend
        refine (Any2.slices_Insert_string_end_grow Try.layInsert (some ⟨b, 0, none⟩) l.length (c0.cp pinN) vb 0 1 (c0.cp (pinN + 1)) (l.map fun s => Value.string s) [.string k] w (by omega) h3.1 (by omega) (by omega) hcl rfl (fun h => by cases h) (fun a ha j v hj => by cases ha; rw [Addr.add_lit]; exact hcs j v hj) hvs hv1c).mono ?_
        rintro e w' ⟨rfl, rfl⟩
        generalize hgc : grownCap w _ _ _ = cap
        have hge := grownCap_ge w (l.length + 1) (c0.cp pinN) 9
        have hle := grownCap_le_maxLen w (l.length + 1) (c0.cp pinN) 9 (by show _ ≤ 9223372036854775807; omega)
        have hgc : grownCap w (l.length + 1) (c0.cp pinN) 9 = cap := hgc
        rw [hgc] at hge hle
        obtain ⟨c, ho⟩ := hnew (w.drew.alloc (.cells (((l.map fun s => Value.string s) ++ [Value.string k]).toArray ++ Builtin.zeroCells (Value.string ⟨#[]⟩).cells (cap - (l.length + 1))) 9)) _ cap _ rfl rfl rfl (heap_sz w _) (drawn_new w _) (fun k hk => heap_old w _ k hk) (heap_new w _) (by rw [Array.size_append, zero_strs, List.size_toArray, List.length_append, hcl]; simp only [List.length_cons, List.length_nil]; omega) hge hle (fun j s hj => by
          rw [ins_get _ _ _ (Nat.le_refl _)] at hj
          rw [Array.getElem?_append_left (by
            split at hj
            · simp; omega
            · split at hj
              · simp; omega
              · have := (List.getElem?_eq_some_iff.1 hj).1; omega)]
          rw [List.getElem?_toArray, List.getElem?_append, hcl]
          split at hj
          · rename_i e1; rw [if_pos e1, List.getElem?_map, hj]; rfl
          · split at hj
            · rename_i e1 e2; subst e2; cases hj; rw [if_neg e1]; simp
            · have := (List.getElem?_eq_some_iff.1 hj).1; omega)
        exact ⟨_, c, rfl, ho⟩
      · have hlt : i < l.length := by omega
        refine (Any2.slices_Insert_string_grow Try.layInsert b 0 l.length (c0.cp pinN) i vb 0 1 (c0.cp (pinN + 1)) (l.map fun s => Value.string s) [.string k] w hlt (by omega) h3.1 (by omega) (by omega) hcl rfl hcs hvs (one_strs l) hv1c).mono ?_
        rintro e w' ⟨rfl, rfl⟩
        generalize hgc : grownCap w _ _ _ = cap
        have hge := grownCap_ge w (l.length + 1) (c0.cp pinN) 9
        have hle := grownCap_le_maxLen w (l.length + 1) (c0.cp pinN) 9 (by show _ ≤ 9223372036854775807; omega)
        have hgc : grownCap w (l.length + 1) (c0.cp pinN) 9 = cap := hgc
        rw [hgc] at hge hle
        obtain ⟨X, hX⟩ : ∃ X : Array Value, X = ((l.map fun s => Value.string s).take i).toArray ++ Builtin.zeroCells (Value.string ⟨#[]⟩).cells (l.length + 1 - i) ++ Builtin.zeroCells (Value.string ⟨#[]⟩).cells (cap - (l.length + 1)) := ⟨_, rfl⟩
        have hXs : X.size = cap := by rw [hX, Array.size_append, Array.size_append, zero_strs, zero_strs, List.size_toArray, List.length_take, hcl]; omega
        have hXg : ∀ j s, j < i → l[j]? = some s → X[j]? = some (.string s) := fun j s hj hs => by
          rw [hX, Array.append_assoc, Array.getElem?_append_left (by simp; omega), List.getElem?_toArray, List.getElem?_take, if_pos hj, List.getElem?_map, hs]
          rfl
        have hd : ((l.map fun s => Value.string s).drop i).length = l.length - i := by rw [List.length_drop, hcl]
        have q0 : (w.alloc (.cells X 9)).drew.heap[w.heap.size]? = some (.cells X 9 (0, 0)) := heap_new' w _
        have q1 : ∀ k, k < w.heap.size → (w.alloc (.cells X 9)).drew.heap[k]? = w.heap[k]? := fun k hk => heap_old' w _ k hk
        have g1 := setCells_self [Value.string k] _ w.heap.size i X _ q0
        have g2 := setCells_self ((l.map fun s => Value.string s).drop i) ((w.alloc (.cells X 9)).drew.setCells w.heap.size i [Value.string k]).drew w.heap.size (i + 1) _ _ g1
        obtain ⟨r1, r2, r3, r4, r5⟩ := setCells_os [Value.string k] (w.alloc (.cells X 9)).drew w.heap.size i
        obtain ⟨s1, s2, s3, s4, s5⟩ := setCells_os ((l.map fun s => Value.string s).drop i) ((w.alloc (.cells X 9)).drew.setCells w.heap.size i [Value.string k]).drew w.heap.size (i + 1)
        have hdr : w.drawn ≤ (w.alloc (.cells X 9)).drew.drawn := Nat.le_succ _
        have hdr2 : ((w.alloc (.cells X 9)).drew.setCells w.heap.size i [Value.string k]).drawn ≤ ((w.alloc (.cells X 9)).drew.setCells w.heap.size i [Value.string k]).drew.drawn := Nat.le_succ _
        have hhs : w.heap.size ≤ (w.alloc (.cells X 9)).drew.heap.size := heap_sz' w _
        rw [← hX]
        obtain ⟨c, ho⟩ := hnew _ _ cap _ (s1.trans r1) (s2.trans r2) (s3.trans r3) (by rw [s4]; show _ ≤ ((w.alloc _).drew.setCells w.heap.size i [Value.string k]).heap.size; rw [r4]; exact hhs) (by omega) (fun k hk => by
          rw [setCells_other _ _ _ _ k (by omega)]
          show ((w.alloc _).drew.setCells w.heap.size i [Value.string _]).heap[k]? = _
          rw [setCells_other _ _ _ _ k (by omega)]
          exact q1 k hk) g2 (by rw [setMany_size, setMany_size]; exact hXs) hge hle (fun j s hj => by
          rw [ins_get _ _ _ (by omega)] at hj
          rw [setMany_get _ _ _ _ (by rw [setMany_size]; omega), setMany_get _ _ _ _ (by simp; omega)]
          split at hj
          · rename_i e1; rw [if_neg (by omega), if_neg (by omega)]; exact hXg j s e1 hj
          · split at hj
            · rename_i e1 e2; subst e2; cases hj; rw [if_neg (by omega), if_pos (by simp)]; simp
            · have hjl := (List.getElem?_eq_some_iff.1 hj).1
              rw [if_pos (by omega), List.getElem?_drop, List.getElem?_map, show i + (j - (i + 1)) = j - 1 by omega, hj]
              rfl)
        exact ⟨_, c, rfl, ho⟩
noncomputable def libDelete : LibFn := fun _ => given (fun u : List ByteArray × Nat => u.2 < u.1.length) (fun u => [.at (.row pinN 0), iv u.2, iv (u.2 + 1)]) (fun u => rowS u.1) fun u => (.one (.at (.row (pinN + 1) 0)), [none, some (.row true 1 ((u.1.take u.2 ++ u.1.drop (u.2 + 1)).map encS))])
theorem good_delete : LibGood Try.prog 28 libDelete := libGood_given fun u h => delete_spec u.1 u.2 h
theorem delete_at (H : Hand) (l : List ByteArray) (i : Nat) (hi : i < l.length) : libDelete H [.at (.row pinN 0), iv i, iv (i + 1)] [.row true 1 (l.map encS)] = some (.one (.at (.row (pinN + 1) 0)), [none, some (.row true 1 ((l.take i ++ l.drop (i + 1)).map encS))]) :=
  given_at (ok := fun u : List ByteArray × Nat => u.2 < u.1.length) (i := (l, i)) (fun u v h h' => by
    have h1 : u.2 = v.2 := by simp at h; omega
    rw [rowS_inj h', h1]) hi
noncomputable def libInsert : LibFn := fun _ => given (fun u : List ByteArray × Nat × ByteArray => u.2.1 ≤ u.1.length ∧ u.1.length < 1000000000) (fun u => [.at (.row pinN 0), iv u.2.1, .at (.row (pinN + 1) 0)]) (fun u => [.row true 1 (u.1.map encS), .row true 1 [encS u.2.2]]) fun u => (.one (.at (.row (pinN + 2) 0)), [none, none, some (.row true 1 ((u.1.take u.2.1 ++ u.2.2 :: u.1.drop u.2.1).map encS))])
theorem good_insert : LibGood Try.prog 62 libInsert := libGood_given fun u h => insert_spec u.1 u.2.1 u.2.2 h.1 h.2
theorem insert_at (H : Hand) (l : List ByteArray) (i : Nat) (k : ByteArray) (hi : i ≤ l.length) (hl : l.length < 1000000000) : libInsert H [.at (.row pinN 0), iv i, .at (.row (pinN + 1) 0)] [.row true 1 (l.map encS), .row true 1 [encS k]] = some (.one (.at (.row (pinN + 2) 0)), [none, none, some (.row true 1 ((l.take i ++ k :: l.drop i).map encS))]) :=
  given_at (ok := fun u : List ByteArray × Nat × ByteArray => u.2.1 ≤ u.1.length ∧ u.1.length < 1000000000) (i := (l, i, k)) (fun u v h h' => by
    have h1 : u.2.1 = v.2.1 := by simp at h; omega
    simp only [List.cons.injEq, AObj.row.injEq, true_and, and_true, PV.str.injEq] at h'
    rw [encS_inj h'.1, h'.2, h1]) ⟨hi, hl⟩
end Go.E2.Lib
