import Derived.WalkKit
import Derived.ProofKit
import Derived.OpenShut
import Derived.ShutString
import Derived.ChangeOld
import Derived.SizedLaws
import Derived.Carry
import Derived.Below
import Derived.Calls
import Derived.Tactics
import Derived.Orders
import Derived.Deep.LoopGhost
import Derived.Deep.MidRow
import Derived.Deep.AppendSrc
import Derived.Laws.StructEq
import Derived.Deep.Draws
import Derived.Deep.AppendLies
import Derived.Maps.AppendAt
import Derived.OwnWalk
import Derived.Laws.BytesArg
import Derived.Laws.MakeOwn
import Derived.Laws.OwnMore
import Derived.Deep.OwnRows
import Derived.Lib.ConvBytes
import Derived.Laws.Slices
import Derived.KernelRfl
import Derived.RowKit3
import Derived.Deep.QuietTactic
import Derived.BigQuiet
import Derived.WideLaws
import Derived.Deep.DeepCutAuto
import Derived.Deep.CutBlock
import Derived.Deep.RegionHeld3
import Derived.Laws.Rows
import Derived.Lib.AppendStr
import Derived.ArgAppend
import Derived.Laws.IdiomCopy
import Derived.RowKit
import Derived.Deep.Upon
import Derived.Test.YtciiodbkhilkmaaQViewMore0
import Derived.Test.YtciiodbkhilkmaaQViewMoreE
/- ViewMore, part 33: EBridge. -/
namespace Go.Eng
open Go.RowKit Go.Proofs.YtciiodbkhilkmaaW.PrintWords
set_option linter.unusedVariables false
set_option linter.unusedSimpArgs false
variable {P : Program}
def newOf (w : World) (base : Nat) : Gh := fun b o => if base ≤ b then w.cell? ⟨b, o, none⟩ else none
def grow (G : Gh) (w : World) (base : Nat) : Gh := fun b o => if base ≤ b then w.cell? ⟨b, o, none⟩ else G b o
theorem newOf_le (G : Gh) (w : World) (base : Nat) : Gh.le (newOf w base) (grow G w base) := fun b o v h => by
  unfold newOf at h
  unfold grow
  split at h
  · rename_i hb; rw [if_pos hb]; exact h
  · cases h
structure KEnc {α : Type} (d : Kd α) (enc : α → List PV) (ok : α → Prop) : Prop where
  len : ∀ x, (enc x).length = d.sz
  pos : 0 < d.sz
  outM : ∀ {w : World} {base : Nat} {own : Nat → Prop} {x : α} {cs : List Value}, d.M w base own x cs → ∀ (i : Nat) (p : PV), (enc x)[i]? = some p → Rep (newOf w base) p (cs.getD i undef)
  inn : ∀ {G : Gh} {w : World} {x : α} {cs : List Value}, (∀ b o v, G b o = some v → w.cell? ⟨b, o, none⟩ = some v) → ok x → cs.length = d.sz → (∀ (i : Nat) (p : PV), (enc x)[i]? = some p → Rep G p (cs.getD i undef)) → d.K w x cs
theorem KEnc.scalar {α : Type} {e1 : α → Value} {h1 : ∀ x, (e1 x).oneCell' = true} {e2 : α → PV} (h : ∀ G x, Rep G (e2 x) (e1 x)) (hinv : ∀ G x v, Rep G (e2 x) v → v = e1 x) : KEnc (Kd.scalar e1 h1) (fun x => [e2 x]) fun _ => True where
  len _ := rfl
  pos := Nat.one_pos
  outM := by
    rintro w base own x cs rfl i p hp
    match i, hp with
    | 0, hp => simp at hp; subst hp; exact h _ _
  inn := by
    intro G w x cs himm _ hl hr
    have h0 := hinv _ _ _ (hr 0 _ rfl)
    match cs, hl with
    | [v], _ =>
      simp at h0
      rw [h0]
      rfl
theorem KEnc.int (k : IntKind) : KEnc (Kd.int k) (fun x => [.int k x]) fun _ => True := KEnc.scalar (fun G x => .int k x) fun G x v h => rep_int h
theorem KEnc.string : KEnc Kd.string (fun x => [.str x]) fun _ => True := KEnc.scalar (fun G x => .str x) fun G x v h => rep_str h
theorem KEnc.bool : KEnc Kd.bool (fun x => [.bool x]) fun _ => True := KEnc.scalar (fun G x => .bool x) fun G x v h => rep_bool h
theorem getD_app {l m : List Value} {i : Nat} : (l ++ m).getD i undef = if i < l.length then l.getD i undef else m.getD (i - l.length) undef := by
  rw [List.getD_eq_getElem?_getD, List.getElem?_append]
  split <;> rw [List.getD_eq_getElem?_getD]
theorem KEnc.pair {α β : Type} {a : Kd α} {b : Kd β} {ea : α → List PV} {eb : β → List PV} {oa : α → Prop} {ob : β → Prop} (ha : KEnc a ea oa) (hb : KEnc b eb ob) : KEnc (Kd.pair a b) (fun x => ea x.1 ++ eb x.2) fun x => oa x.1 ∧ ob x.2 where
  len x := by rw [List.length_append, ha.len, hb.len]; rfl
  pos := Nat.add_pos_left ha.pos _
  outM := by
    rintro w base own x cs ⟨c0, c1, rfl, h0, h1⟩ i p hp
    have hl := a.K_len (a.K_of_M h0)
    rw [List.getElem?_append, ha.len] at hp
    rw [getD_app, hl]
    split at hp
    · rename_i hi; rw [if_pos hi]; exact ha.outM h0 i p hp
    · rename_i hi; rw [if_neg hi]; exact hb.outM h1 _ p hp
  inn := by
    intro G w x cs himm hok hl hr
    have hl : cs.length = a.sz + b.sz := hl
    refine ⟨cs.take a.sz, cs.drop a.sz, (List.take_append_drop _ _).symm, ha.inn himm hok.1 (by rw [List.length_take]; omega) fun i p hp => ?_, hb.inn himm hok.2 (by rw [List.length_drop]; omega) fun i p hp => ?_⟩
    · have hi := (List.getElem?_eq_some_iff.1 hp).1
      have := hr i p (by rw [List.getElem?_append_left hi]; exact hp)
      rw [ha.len] at hi
      rw [List.getD_eq_getElem?_getD] at this ⊢
      rw [List.getElem?_take_of_lt hi]
      exact this
    · have := hr (a.sz + i) p (by rw [List.getElem?_append_right (by rw [ha.len]; omega), ha.len, Nat.add_sub_cancel_left]; exact hp)
      rw [List.getD_eq_getElem?_getD] at this ⊢
      rw [List.getElem?_drop]
      exact this
theorem KEnc.iso {α β : Type} {d : Kd α} {enc : α → List PV} {ok : α → Prop} (h : KEnc d enc ok) (f : β → α) : KEnc (Kd.iso d f) (fun x => enc (f x)) fun x => ok (f x) where
  len x := h.len _
  pos := h.pos
  outM := h.outM
  inn := h.inn
theorem KEnc.rep_R {α : Type} {d : Kd α} {enc : α → List PV} {ok : α → Prop} (h : KEnc d enc ok) {e : Nat} {w : World} {base : Nat} {own : Nat → Prop} {v : Value} {xs : List α} (hr : d.R e w base own v xs) : Rep (newOf w base) (.list d.sz (xs.map enc)) v := by
  obtain ⟨_, inner, ⟨hlen, hown⟩, hi, hreps⟩ := hr
  rcases hown with ⟨rfl, h0⟩ | ⟨g, cap, cur, rfl, hb, hg, hn, hm, hsz, htake⟩
  · obtain rfl : xs = [] := List.length_eq_zero_iff.1 h0
    exact .nil _ _ _
  · have hn' : xs.length = (xs.map enc).length := by simp
    rw [hn']
    have cell : ∀ (j : Nat) (x : α) (i : Nat) (p : PV), xs[j]? = some x → (enc x)[i]? = some p → ∃ u, newOf w base g (0 + j * d.sz + i) = some u ∧ Rep (newOf w base) p u := fun j x i p hx hp => by
      have hj := (List.getElem?_eq_some_iff.1 hx).1
      have hi2 := (List.getElem?_eq_some_iff.1 hp).1
      rw [h.len] at hi2
      have hle : j * d.sz + d.sz ≤ xs.length * d.sz := by
        have := Nat.mul_le_mul_right d.sz (show j + 1 ≤ xs.length by omega)
        rw [Nat.add_mul, Nat.one_mul] at this
        exact this
      have hK := h.outM (hreps j x hx) i p hp
      have hlt : j * d.sz + i < inner.length := by rw [hlen]; omega
      have e1 : ((inner.drop (j * d.sz)).take d.sz).getD i undef = inner[j * d.sz + i] := by
        rw [List.getD_eq_getElem?_getD, List.getElem?_take_of_lt hi2, List.getElem?_drop, List.getElem?_eq_getElem hlt]
        rfl
      rw [e1] at hK
      refine ⟨_, ?_, hK⟩
      unfold newOf
      rw [if_pos hb, Nat.zero_add]
      unfold World.cell?
      dsimp only
      rw [hg]
      have e2 : inner[j * d.sz + i]? = some inner[j * d.sz + i] := List.getElem?_eq_getElem hlt
      have e3 : cur[j * d.sz + i]? = inner[j * d.sz + i]? := by rw [← htake, List.getElem?_take_of_lt (by omega), Array.getElem?_toList]
      rw [← e2, ← e3]
      rfl
    refine Rep.list d.sz (xs.map enc) g 0 cap (fun j i => (newOf w base g (0 + j * d.sz + i)).getD undef) (by simpa using hn) (fun j y hy => ?_) (fun j y i p hy hp => ?_) fun j y i p hy hp => ?_
    · obtain ⟨x, _, rfl⟩ := map_get hy
      exact h.len x
    · obtain ⟨x, hx, rfl⟩ := map_get hy
      obtain ⟨u, hu, _⟩ := cell j x i p hx hp
      rw [hu]
      rfl
    · obtain ⟨x, hx, rfl⟩ := map_get hy
      obtain ⟨u, hu, hk⟩ := cell j x i p hx hp
      simp only [hu]
      exact hk
theorem KEnc.C_rep {α : Type} {d : Kd α} {enc : α → List PV} {ok : α → Prop} (h : KEnc d enc ok) {G : Gh} {w : World} {v : Value} {xs : List α} (himm : ∀ b o v, G b o = some v → w.cell? ⟨b, o, none⟩ = some v) (hb : xs.length ≤ 9223372036854775807)
    (hok : ∀ x ∈ xs, ok x) (hr : Rep G (.list d.sz (xs.map enc)) v) : ∃ A c, v = .slice A xs.length c ∧ xs.length ≤ c ∧ d.C w A xs.length xs := by
  generalize hq : PV.list d.sz (xs.map enc) = q at hr
  cases hr with
  | int => cases hq
  | bool => cases hq
  | str => cases hq
  | fn => cases hq
  | ref => cases hq
  | nil e A cap =>
    injection hq with _ h2
    obtain rfl : xs = [] := by simpa using h2
    exact ⟨A, cap, rfl, Nat.zero_le _, rfl, by simp, fun h => absurd h (Nat.lt_irrefl 0)⟩
  | list e ys g o cap f hc hw hg hrep =>
    injection hq with h1 h2
    subst h1 h2
    have hn : (xs.map enc).length = xs.length := by simp
    rw [hn] at hc ⊢
    refine ⟨_, cap, rfl, hc, rfl, hb, fun _ => ⟨_, rfl, fun j x hx => ?_⟩⟩
    have hy : (xs.map enc)[j]? = some (enc x) := by rw [List.getElem?_map, hx]; rfl
    refine ⟨(List.range d.sz).map (f j), by simp, h.inn himm (hok x (List.mem_of_getElem? hx)) (by simp) fun i p hp => ?_, fun i u hu => ?_⟩
    · have hi := (List.getElem?_eq_some_iff.1 hp).1
      rw [h.len] at hi
      have := hrep j _ i p hy hp
      rw [List.getD_eq_getElem?_getD, List.getElem?_map, List.getElem?_range hi]
      exact this
    · obtain ⟨z, hz, rfl⟩ := map_get hu
      have hi := (List.getElem?_eq_some_iff.1 hz).1
      simp at hi
      rw [List.getElem?_range hi] at hz
      cases hz
      have hp : ∃ p, (enc x)[i]? = some p := ⟨_, List.getElem?_eq_getElem (by rw [h.len]; exact hi)⟩
      obtain ⟨p, hp⟩ := hp
      have := himm _ _ _ (hg j _ i p hy hp)
      rw [add_mk, ← Nat.add_assoc]
      exact this
theorem KEnc.slice {α : Type} {d : Kd α} {enc : α → List PV} {ok : α → Prop} (h : KEnc d enc ok) (e : Nat) : KEnc (Kd.slice e d) (fun xs => [.list d.sz (xs.map enc)]) fun xs => xs.length ≤ 9223372036854775807 ∧ ∀ x ∈ xs, ok x where
  len _ := rfl
  pos := Nat.one_pos
  outM := by
    rintro w base own x cs ⟨v, rfl, hr⟩ i p hp
    match i, hp with
    | 0, hp => simp at hp; subst hp; exact h.rep_R hr
  inn := by
    intro G w xs cs himm hok hl hr
    match cs, hl with
    | [v], _ =>
      obtain ⟨A, c, h1, h2, h3⟩ := h.C_rep himm hok.1 hok.2 (hr 0 _ rfl)
      have h1 : v = .slice A xs.length c := h1
      subst h1
      exact ⟨A, c, rfl, h2, h3⟩
theorem ends_new {w w' : World} {G : Gh} {res : RT} {v : Value} (himm : ∀ b o v, G b o = some v → w.cell? ⟨b, o, none⟩ = some v) (hb : Below w.heap.size w w') (hno : ∀ key e xs, RA.row key e xs ∉ res.atoms)
    (hrep : ∀ c : Con, c.G = grow G w' w.heap.size → RepRT c res v) : ∃ c, Ends w G res v c w' := by
  have old : ∀ b o v, G b o = some v → b < w.heap.size := fun b o v h => by
    have := himm b o v h
    unfold World.cell? at this
    split at this
    · rename_i hh
      exact (Array.getElem?_eq_some_iff.1 hh).1
    · cases this
  refine ⟨⟨fun _ => none, fun _ => 0, grow G w' w.heap.size⟩, ⟨fun b o v h => ?_, fun b o v h => ?_, fun b o h => ?_, hb, hrep _ rfl, fun key e xs h => absurd h (hno key e xs), fun key e xs e' xs' h => absurd h (hno key e xs), fun key e xs key' e' xs' b h => absurd h (hno key e xs)⟩⟩
  · show grow G w' w.heap.size b o = some v
    have hlt := old b o v h
    unfold grow
    rw [if_neg (by omega)]
    exact h
  · unfold grow at h
    dsimp only at h
    split at h
    · exact h
    · have h1 := himm b o v h
      unfold World.cell? at h1 ⊢
      dsimp only at h1 ⊢
      rw [hb.block b (old b o v h)]
      exact h1
  · rcases Nat.lt_or_ge b w.heap.size with hlt | hge
    · exfalso
      apply h
      unfold grow
      dsimp only
      rw [if_neg (by omega)]
    · exact hge
structure KFlat {α : Type} (d : Kd α) (enc : α → List PV) : Prop where
  len : ∀ x, (enc x).length = d.sz
  pos : 0 < d.sz
  out : ∀ {G : Gh} {w : World} {x : α} {cs : List Value}, d.K w x cs → ∀ (i : Nat) (p : PV), (enc x)[i]? = some p → Rep G p (cs.getD i undef)
theorem KFlat.scalar {α : Type} {e1 : α → Value} {h1 : ∀ x, (e1 x).oneCell' = true} {e2 : α → PV} (h : ∀ G x, Rep G (e2 x) (e1 x)) : KFlat (Kd.scalar e1 h1) (fun x => [e2 x]) where
  len _ := rfl
  pos := Nat.one_pos
  out := by
    rintro G w x cs rfl i p hp
    match i, hp with
    | 0, hp => simp at hp; subst hp; exact h _ _
theorem KFlat.int (k : IntKind) : KFlat (Kd.int k) (fun x => [.int k x]) := KFlat.scalar fun G x => .int k x
theorem KFlat.string : KFlat Kd.string (fun x => [.str x]) := KFlat.scalar fun G x => .str x
theorem KFlat.bool : KFlat Kd.bool (fun x => [.bool x]) := KFlat.scalar fun G x => .bool x
theorem KFlat.pair {α β : Type} {a : Kd α} {b : Kd β} {ea : α → List PV} {eb : β → List PV} (ha : KFlat a ea) (hb : KFlat b eb) : KFlat (Kd.pair a b) (fun x => ea x.1 ++ eb x.2) where
  len x := by rw [List.length_append, ha.len, hb.len]; rfl
  pos := Nat.add_pos_left ha.pos _
  out := by
    rintro G w x cs ⟨c0, c1, rfl, h0, h1⟩ i p hp
    have hl := a.K_len h0
    rw [List.getElem?_append, ha.len] at hp
    rw [getD_app, hl]
    split at hp
    · rename_i hi; rw [if_pos hi]; exact ha.out h0 i p hp
    · rename_i hi; rw [if_neg hi]; exact hb.out h1 _ p hp
theorem KFlat.iso {α β : Type} {d : Kd α} {enc : α → List PV} (h : KFlat d enc) (f : β → α) : KFlat (Kd.iso d f) (fun x => enc (f x)) where
  len x := h.len _
  pos := h.pos
  out := h.out
theorem KFlat.rep_C {α : Type} {d : Kd α} {enc : α → List PV} (h : KFlat d enc) {w : World} {A : Option Addr} {n c : Nat} {xs : List α} (hC : d.C w A n xs) (hc : n ≤ c) : Rep (allOf w) (.list d.sz (xs.map enc)) (.slice A n c) := by
  obtain ⟨hn, _, hcell⟩ := hC
  rcases Nat.eq_zero_or_pos n with h0 | h0
  · subst h0
    obtain rfl : xs = [] := List.length_eq_zero_iff.1 hn
    exact .nil _ _ _
  · obtain ⟨ad, rfl, H⟩ := hcell h0
    obtain ⟨c0, hc0, _, hc2⟩ := H 0 _ (List.getElem?_eq_getElem (by omega))
    have hsp : ad = ⟨ad.block, ad.off, none⟩ := by
      have h1 := hc2 0 _ (List.getElem?_eq_getElem (by have := h.pos; omega))
      rw [Nat.zero_mul] at h1
      exact cell_spot (a := ad) (by simpa [Addr.add] using h1)
    have hn' : n = (xs.map enc).length := by simp [hn]
    subst hn
    rw [hsp, hn']
    have cell : ∀ (j : Nat) (x : α) (i : Nat) (p : PV), xs[j]? = some x → (enc x)[i]? = some p → ∃ u, allOf w ad.block (ad.off + j * d.sz + i) = some u ∧ Rep (allOf w) p u := fun j x i p hx hp => by
      obtain ⟨cs, h1, h2, h3⟩ := H j x hx
      have hi := (List.getElem?_eq_some_iff.1 hp).1
      rw [h.len] at hi
      have hr := h.out (G := allOf w) h2 i p hp
      have hget : cs[i]? = some (cs.getD i undef) := by rw [List.getD_eq_getElem?_getD, List.getElem?_eq_getElem (by omega)]; rfl
      have h4 := h3 i _ hget
      rw [hsp, add_mk, ← Nat.add_assoc] at h4
      exact ⟨_, h4, hr⟩
    refine Rep.list d.sz (xs.map enc) ad.block ad.off c (fun j i => (allOf w ad.block (ad.off + j * d.sz + i)).getD undef) (by rw [← hn']; exact hc) (fun j y hy => ?_) (fun j y i p hy hp => ?_) fun j y i p hy hp => ?_
    · obtain ⟨x, _, rfl⟩ := map_get hy
      exact h.len x
    · obtain ⟨x, hx, rfl⟩ := map_get hy
      obtain ⟨u, hu, _⟩ := cell j x i p hx hp
      rw [hu]
      rfl
    · obtain ⟨x, hx, rfl⟩ := map_get hy
      obtain ⟨u, hu, hk⟩ := cell j x i p hx hp
      simp only [hu]
      exact hk
theorem imm_below {w w' : World} {G : Gh} (himm : ∀ b o v, G b o = some v → w.cell? ⟨b, o, none⟩ = some v) (hb : Below w.heap.size w w') : ∀ b o v, G b o = some v → w'.cell? ⟨b, o, none⟩ = some v := fun b o v h => by
  have h1 := himm b o v h
  have hlt : b < w.heap.size := by
    unfold World.cell? at h1
    split at h1
    · rename_i hh; exact (Array.getElem?_eq_some_iff.1 hh).1
    · cases h1
  unfold World.cell? at h1 ⊢
  dsimp only at h1 ⊢
  rw [hb.block b hlt]
  exact h1
theorem ends_row {α : Type} {d : Kd α} {enc : α → List PV} (h : KFlat d enc) {e : Nat} {w w' : World} {G : Gh} {v : Value} {xs : List α} {own : Nat → Prop} (key : Nat) (himm : ∀ b o v, G b o = some v → w.cell? ⟨b, o, none⟩ = some v) (hb : Below w.heap.size w w')
    (hr : d.R e w' w.heap.size own v xs) : ∃ c, Ends w G (.one (.at (.row key d.sz (xs.map enc)))) v c w' := by
  have old : ∀ b o v, G b o = some v → b < w.heap.size := fun b o v h => by
    have := himm b o v h
    unfold World.cell? at this
    split at this
    · rename_i hh; exact (Array.getElem?_eq_some_iff.1 hh).1
    · cases this
  have mem : ∀ k e1 ys, RA.row k e1 ys ∈ (RT.one (R1.at (.row key d.sz (xs.map enc)))).atoms → k = key ∧ e1 = d.sz ∧ ys = xs.map enc := fun k e1 ys hm => by
    simp [RT.atoms, R1.atoms] at hm
    exact hm
  obtain ⟨_, inner, ⟨hlen, hown⟩, hi, hreps⟩ := hr
  rcases hown with ⟨rfl, h0⟩ | ⟨g, cap, cur, rfl, hbg, hg, hn, hm, hsz, htake⟩
  · obtain rfl : xs = [] := List.length_eq_zero_iff.1 h0
    refine ⟨⟨fun _ => none, fun _ => 0, G⟩, ⟨Gh.le_refl _, imm_below himm hb, fun b o hne => absurd rfl hne, hb, rfl, fun k e1 ys hm => ?_, fun k e1 ys e2 zs h1 h2 => ?_, fun k e1 ys k2 e2 zs b h1 h2 => ?_⟩⟩
    · obtain ⟨rfl, rfl, rfl⟩ := mem k e1 ys hm
      exact ⟨.inl ⟨rfl, rfl, rfl⟩, fun b hb => by cases hb⟩
    · obtain ⟨_, q1, q2⟩ := mem k e1 ys h1
      obtain ⟨_, q3, q4⟩ := mem k e2 zs h2
      exact ⟨q1.trans q3.symm, q2.trans q4.symm⟩
    · obtain ⟨q1, _⟩ := mem k e1 ys h1
      obtain ⟨q2, _⟩ := mem k2 e2 zs h2
      exact fun _ _ => q1.trans q2.symm
  · refine ⟨⟨fun _ => some g, fun _ => cap, G⟩, ⟨Gh.le_refl _, imm_below himm hb, fun b o hne => absurd rfl hne, hb, ?_, fun k e1 ys hm => ?_, fun k e1 ys e2 zs h1 h2 => ?_, fun k e1 ys k2 e2 zs b h1 h2 => ?_⟩⟩
    · show Value.slice _ _ _ = rowVal _ _ _
      simp [rowVal]
    · obtain ⟨rfl, rfl, rfl⟩ := mem k e1 ys hm
      refine ⟨.inr ⟨g, cur, e, rfl, hg, by simpa using hn, hsz, fun j y hy => ?_, fun j y i p hy hp => ?_, ?_⟩, fun b hb => by cases hb; exact hbg⟩
      · obtain ⟨x, _, rfl⟩ := map_get hy
        exact h.len x
      · obtain ⟨x, hx, rfl⟩ := map_get hy
        have hj := (List.getElem?_eq_some_iff.1 hx).1
        have hi2 := (List.getElem?_eq_some_iff.1 hp).1
        rw [h.len] at hi2
        have hle : j * d.sz + d.sz ≤ xs.length * d.sz := by
          have := Nat.mul_le_mul_right d.sz (show j + 1 ≤ xs.length by omega)
          rw [Nat.add_mul, Nat.one_mul] at this
          exact this
        have hK := h.out (G := G) (d.K_of_M (hreps j x hx)) i p hp
        have hlt : j * d.sz + i < inner.length := by rw [hlen]; omega
        rw [List.getD_eq_getElem?_getD, List.getElem?_take_of_lt hi2, List.getElem?_drop] at hK
        have e3 : cur[j * d.sz + i]? = inner[j * d.sz + i]? := by rw [← htake, List.getElem?_take_of_lt (by omega), Array.getElem?_toList]
        rw [Array.getD_eq_getD_getElem?, e3]
        exact hK
      · show ∀ o, G g o = none
        intro o
        cases hq : G g o with
        | none => rfl
        | some v => have := old g o v hq; omega
    · obtain ⟨_, q1, q2⟩ := mem k e1 ys h1
      obtain ⟨_, q3, q4⟩ := mem k e2 zs h2
      exact ⟨q1.trans q3.symm, q2.trans q4.symm⟩
    · obtain ⟨q1, _⟩ := mem k e1 ys h1
      obtain ⟨q2, _⟩ := mem k2 e2 zs h2
      exact fun _ _ => q1.trans q2.symm
end Go.Eng
