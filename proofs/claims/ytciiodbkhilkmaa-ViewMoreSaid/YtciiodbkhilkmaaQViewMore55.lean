import Derived.Shelf.SlGeneric
import Derived.Shelf.Sort.Plain
import Derived.Shelf.Slices.CompactS
import Derived.Shelf.Slices.In.SortNone
import Derived.Shelf.SlSortCmp.NoneTotal
import Derived.Ground.NamesProg
import Derived.Ground.SlsfProg
import Derived.Test.YtciiodbkhilkmaaProg
import Derived.Shelf.Abstract
import Derived.OrdersHeld
import Derived.Deep.RegionHeld3
import Derived.Laws.BitsLemmas
import Derived.RowKit
import Derived.Laws.StructEq
import Derived.Deep.LoopGhost
import Derived.WalkKit
import Derived.Deep.Upon
import Derived.Lib.Strings
import Derived.KernelRfl
import Derived.MapKept
import Derived.Below
import Derived.Calls
import Derived.Tactics
import Derived.Orders
import Derived.Sort.Walk0
import Derived.Lib.SliceRun
import Derived.Deep.Draws
import Derived.Deep.AppendLies
import Derived.Maps.AppendAt
import Derived.OwnWalk
import Derived.Laws.BytesArg
import Derived.Laws.MakeOwn
import Derived.Laws.OwnMore
import Derived.Deep.OwnRows
import Derived.Lib.ConvBytes
import Derived.Laws.Slices
import Derived.RowKit3
import Derived.Deep.QuietTactic
import Derived.BigQuiet
import Derived.WideLaws
import Derived.Deep.DeepCutAuto
import Derived.Deep.CutBlock
import Derived.Laws.Rows
import Derived.Lib.AppendStr
import Derived.ArgAppend
import Derived.Laws.IdiomCopy
import Derived.StillTailTactics
import Derived.Sort.Grow
import Derived.ProofKit
import Derived.OpenShut
import Derived.ShutString
import Derived.ChangeOld
import Derived.SizedLaws
import Derived.Carry
import Derived.Deep.MidRow
import Derived.Deep.AppendSrc
import Derived.Test.YtciiodbkhilkmaaQViewMore0
import Derived.Test.YtciiodbkhilkmaaQViewMoreE
import Derived.Test.YtciiodbkhilkmaaQViewMore21
import Derived.Test.YtciiodbkhilkmaaQViewMore22
import Derived.Test.YtciiodbkhilkmaaQViewMore23
import Derived.Test.YtciiodbkhilkmaaQViewMore24
import Derived.Test.YtciiodbkhilkmaaQViewMore25
import Derived.Test.YtciiodbkhilkmaaQViewMore26
import Derived.Test.YtciiodbkhilkmaaQViewMore27
import Derived.Test.YtciiodbkhilkmaaQViewMore28
import Derived.Test.YtciiodbkhilkmaaQViewMore29
import Derived.Test.YtciiodbkhilkmaaQViewMore30
import Derived.Test.YtciiodbkhilkmaaQViewMore31
import Derived.Test.YtciiodbkhilkmaaQViewMore33
import Derived.Test.YtciiodbkhilkmaaQViewMore34
import Derived.Test.YtciiodbkhilkmaaQViewMore35
import Derived.Test.YtciiodbkhilkmaaQViewMore36
import Derived.Test.YtciiodbkhilkmaaQViewMore37
import Derived.Test.YtciiodbkhilkmaaQViewMore38
import Derived.Test.YtciiodbkhilkmaaQViewMore39
import Derived.Test.YtciiodbkhilkmaaQViewMore40
import Derived.Test.YtciiodbkhilkmaaQViewMore41
import Derived.Test.YtciiodbkhilkmaaQViewMore42
import Derived.Test.YtciiodbkhilkmaaQViewMore43
import Derived.Test.YtciiodbkhilkmaaQViewMore44
import Derived.Test.YtciiodbkhilkmaaQViewMore45
import Derived.Test.YtciiodbkhilkmaaQViewMore46
import Derived.Test.YtciiodbkhilkmaaQViewMore47
import Derived.Test.YtciiodbkhilkmaaQViewMore48
import Derived.Test.YtciiodbkhilkmaaQViewMore49
import Derived.Test.YtciiodbkhilkmaaQViewMore50
import Derived.Test.YtciiodbkhilkmaaQViewMore51
import Derived.Test.YtciiodbkhilkmaaQViewMore52
import Derived.Test.YtciiodbkhilkmaaQViewMore53
import Derived.Test.YtciiodbkhilkmaaQViewMore54
/- ViewMore, part 55: EViewSpec. -/
namespace Go.Eng.View
open Go Go.Eng Go.RowKit Go.Proofs Go.Proofs.Ytciiodbkhilkmaa.F Go.Proofs.YtciiodbkhilkmaaW.PrintWords
set_option linter.unusedVariables false
set_option linter.unusedSimpArgs false
abbrev encI (x : S26) : List PV := [.str x.f0, .str x.f1, .int .i64 x.f2, .str x.f3, .int .i64 x.f4, .int .i64 x.f5.f0, .int .i64 x.f5.f1, .int .i64 x.f5.f2]
abbrev encS (x : ByteArray) : List PV := [.str x]
abbrev its (l : List S26) : PV := .list 8 (l.map encI)
abbrev sts (l : List ByteArray) : PV := .list 1 (l.map encS)
abbrev Vl := List ByteArray × List ByteArray × Int × Bool
abbrev encV (v : Vl) : List PV := [sts v.1, sts v.2.1, .int .i64 v.2.2.1, .bool v.2.2.2]
theorem KEnc.ok {α : Type} {d : Kd α} {enc : α → List PV} {ok ok' : α → Prop} (h : KEnc d enc ok) (hk : ∀ x, ok' x → ok x) : KEnc d enc ok' := ⟨h.len, h.pos, h.outM, fun himm hok => h.inn himm (hk _ hok)⟩
theorem kI : KEnc k26 encI fun _ => True := KEnc.ok (KEnc.iso (KEnc.pair KEnc.string (KEnc.pair KEnc.string (KEnc.pair (KEnc.int .i64) (KEnc.pair KEnc.string (KEnc.pair (KEnc.int .i64) (KEnc.iso (KEnc.pair (KEnc.int .i64) (KEnc.pair (KEnc.int .i64) (KEnc.int .i64))) (fun x : S24 => (x.f0, x.f1, x.f2)))))))) (fun x : S26 => (x.f0, x.f1, x.f2, x.f3, x.f4, x.f5))) fun _ _ => by simp
theorem fI : KFlat k26 encI := KFlat.iso (KFlat.pair KFlat.string (KFlat.pair KFlat.string (KFlat.pair (KFlat.int .i64) (KFlat.pair KFlat.string (KFlat.pair (KFlat.int .i64) (KFlat.iso (KFlat.pair (KFlat.int .i64) (KFlat.pair (KFlat.int .i64) (KFlat.int .i64))) (fun x : S24 => (x.f0, x.f1, x.f2)))))))) (fun x : S26 => (x.f0, x.f1, x.f2, x.f3, x.f4, x.f5))
theorem kS : KEnc Kd.string encS fun _ => True := KEnc.string
theorem vs1 {vs : Array Value} {v : Value} (h : vs.size = 1) (h0 : vs.getD 0 undef = v) : vs = #[v] := by
  subst h0
  match vs, h with
  | ⟨[v]⟩, _ => rfl
theorem vs2 {vs : Array Value} {v u : Value} (h : vs.size = 2) (h0 : vs.getD 0 undef = v) (h1 : vs.getD 1 undef = u) : vs = #[v, u] := by
  subst h0 h1
  match vs, h with
  | ⟨[v, u]⟩, _ => rfl
theorem vs3 {vs : Array Value} {v u x : Value} (h : vs.size = 3) (h0 : vs.getD 0 undef = v) (h1 : vs.getD 1 undef = u) (h2 : vs.getD 2 undef = x) : vs = #[v, u, x] := by
  subst h0 h1 h2
  match vs, h with
  | ⟨[v, u, x]⟩, _ => rfl
theorem no_row {res : RT} (h : ∀ x ∈ res.atoms, ∃ p, x = .pv p) : ∀ key e xs, RA.row key e xs ∉ res.atoms := fun key e xs hm => by
  obtain ⟨p, hp⟩ := h _ hm
  cases hp
theorem spec_bool {P : Program} {w w' : World} {G : Gh} {b : Bool} (himm : ∀ b o v, G b o = some v → w.cell? ⟨b, o, none⟩ = some v) (hb : Below w.heap.size w w') : ∃ v c, Ending.returned (.bool b) = .returned v ∧ Ends w G (.one (.at (.pv (.bool b)))) v c w' := by
  obtain ⟨c, hE⟩ := ends_new (res := .one (.at (.pv (.bool b)))) (v := .bool b) himm hb (no_row fun x hx => by simp [RT.atoms, R1.atoms] at hx; exact ⟨_, hx⟩) fun c _ => Rep.bool b
  exact ⟨_, c, rfl, hE⟩
theorem awake_spec : Spec Try.prog 16 [] (.one (.at (.pv (.bool true)))) := by
  intro w G vs himm hsz hargs
  obtain rfl : vs = #[] := Array.eq_empty_of_size_eq_zero hsz
  obtain ⟨k, hk⟩ := awakeV_ev.get
  refine (butterylaw11_awake.calls k _ w hk).mono ?_
  rintro e w' ⟨rfl, hb⟩
  exact spec_bool (P := Try.prog) himm hb
theorem short_spec (l : List S26) (hl : l.length ≤ 9223372036854775807) : Spec Try.prog 17 [.at (its l)] (.one (.at (.pv (.bool (shortI l))))) := by
  intro w G vs himm hsz hargs
  obtain ⟨A, c, e0, hlc, hC⟩ := kI.C_rep himm hl (fun _ _ => trivial) (hargs 0 _ rfl)
  obtain rfl := vs1 hsz e0
  obtain ⟨k, hk⟩ := (shortI_ev l).get
  refine (butteryref09_Short.calls k A c l _ w hC hlc hk).mono ?_
  rintro e w' ⟨rfl, hd⟩
  exact spec_bool (P := Try.prog) himm hd.below
theorem same_spec (l m : List ByteArray) (hl : l.length < 1000000) (hm : m.length ≤ 9223372036854775807) : Spec Try.prog 21 [.at (sts l), .at (sts m)] (.one (.at (.pv (.bool (decide (l = m)))))) := by
  intro w G vs himm hsz hargs
  obtain ⟨A, c, e0, hlc, hC⟩ := kS.C_rep himm (by omega) (fun _ _ => trivial) (hargs 0 _ rfl)
  obtain ⟨A1, c1, e1, hlc1, hC1⟩ := kS.C_rep himm hm (fun _ _ => trivial) (hargs 1 _ rfl)
  obtain rfl := vs2 hsz e0 e1
  obtain ⟨k, hk⟩ := (same_ev l m hl).get
  refine (butteryref08_Same.calls k A c l A1 c1 m _ w hC hlc hC1 hlc1 hk).mono ?_
  rintro e w' ⟨rfl, hd⟩
  exact spec_bool (P := Try.prog) himm hd.below
theorem once_spec (l : List ByteArray) (hl : l.length < 100000) : Spec Try.prog 22 [.at (sts l)] (.one (.at (.pv (sts (onceL l))))) := by
  intro w G vs himm hsz hargs
  obtain ⟨A, c, e0, hlc, hC⟩ := kS.C_rep himm (by omega) (fun _ _ => trivial) (hargs 0 _ rfl)
  obtain rfl := vs1 hsz e0
  obtain ⟨k, hk⟩ := (once_ev l hl).get
  refine (butteryref08_Once.calls k A c l _ w hC hlc hk).mono ?_
  rintro e w' ⟨v, rfl, hR, hb⟩
  obtain ⟨c, hE⟩ := ends_new (res := .one (.at (.pv (sts (onceL l))))) (v := v) himm hb (no_row fun x hx => by simp [RT.atoms, R1.atoms] at hx; exact ⟨_, hx⟩) fun c hc => (kS.rep_R hR).mono (by rw [hc]; exact newOf_le G w' _)
  exact ⟨_, c, rfl, hE⟩
theorem copy_spec (l : List S26) (key : Nat) (hl : l.length < 1000000) : Spec Try.prog 19 [.at (its l)] (.one (.at (.row key 8 (l.map encI)))) := by
  intro w G vs himm hsz hargs
  obtain ⟨A, c, e0, hlc, hC⟩ := kI.C_rep himm (by omega) (fun _ _ => trivial) (hargs 0 _ rfl)
  obtain rfl := vs1 hsz e0
  have hk : butteryref09_Copy.f l = some l := by
    unfold butteryref09_Copy.f
    simp only [Option.bind_some, List.nil_append, List.length_nil, Nat.zero_add]
    rw [if_pos (by omega)]
  refine (butteryref09_Copy.calls A c l _ w hC hlc hk).mono ?_
  rintro e w' ⟨v, rfl, hR, hb⟩
  obtain ⟨c, hE⟩ := ends_row fI key himm hb hR
  exact ⟨_, c, rfl, hE⟩
theorem field_spec (l : List S26) (key fld : ByteArray) (hl : l.length < 100000) (hw : ∀ x ∈ l, WfI x) : Spec Try.prog 18 [.at (its l), .at (.str key), .at (.str fld)] (.one (.agg ((encV (fieldV l key fld)).map .pv))) := by
  intro w G vs himm hsz hargs
  obtain ⟨A, c, e0, hlc, hC⟩ := kI.C_rep himm (by omega) (fun _ _ => trivial) (hargs 0 _ rfl)
  obtain rfl := vs3 hsz e0 (rep_str (hargs 1 _ rfl)) (rep_str (hargs 2 _ rfl))
  obtain ⟨k, hk⟩ := (field_ev l key fld hl hw).get
  refine (view_Field.calls k A c l key fld _ _ _ _ w hC hlc hk).mono ?_
  rintro e w' ⟨v0, v1, rfl, hR0, hR1, hb⟩
  obtain ⟨c, hE⟩ := ends_new (res := .one (.agg ((encV (fieldV l key fld)).map .pv))) (v := .agg #[v0, v1, .int .i64 (fieldV l key fld).2.2.1, .bool (fieldV l key fld).2.2.2]) himm hb (no_row fun x hx => by
      simp only [RT.atoms, R1.atoms, List.mem_map] at hx
      obtain ⟨p, _, rfl⟩ := hx
      exact ⟨_, rfl⟩) fun c hc => ⟨_, rfl, rfl, fun i x hx => by
      match i, hx with
      | 0, hx => cases hx; exact (kS.rep_R hR0).mono (by rw [hc]; exact newOf_le G w' _)
      | 1, hx => cases hx; exact (kS.rep_R hR1).mono (by rw [hc]; exact newOf_le G w' _)
      | 2, hx => cases hx; exact Rep.int _ _
      | 3, hx => cases hx; exact Rep.bool _⟩
  exact ⟨_, c, rfl, hE⟩
theorem agg4 {v : Value} {G : Gh} {a b : PV} {n : Int} {t : Bool} (h : RepPA G (.agg [a, b, .int .i64 n, .bool t]) v) : ∃ u0 u1, v = .agg #[u0, u1, .int .i64 n, .bool t] ∧ Rep G a u0 ∧ Rep G b u1 := by
  obtain ⟨cs, rfl, hsz, hr⟩ := h
  have h0 := hr 0 _ rfl
  have h1 := hr 1 _ rfl
  have h2 := rep_int (hr 2 _ rfl)
  have h3 := rep_bool (hr 3 _ rfl)
  match cs, hsz with
  | ⟨[u0, u1, u2, u3]⟩, _ =>
    have h2 : u2 = .int .i64 n := h2
    have h3 : u3 = .bool t := h3
    subst h2 h3
    exact ⟨u0, u1, rfl, h0, h1⟩
theorem vsame_spec (a b : Vl) (h1 : a.1.length < 1000000) (h2 : a.2.1.length < 1000000) (h3 : b.1.length < 1000000) (h4 : b.2.1.length < 1000000) : Spec Try.prog 20 [.agg (encV a), .agg (encV b)] (.one (.at (.pv (.bool (decide (a = b)))))) := by
  intro w G vs himm hsz hargs
  obtain ⟨u0, u1, e0, r0, r1⟩ := agg4 (hargs 0 _ rfl)
  obtain ⟨u2, u3, e1, r2, r3⟩ := agg4 (hargs 1 _ rfl)
  obtain ⟨A0, c0, rfl, l0, C0⟩ := kS.C_rep himm (by omega) (fun _ _ => trivial) r0
  obtain ⟨A1, c1, rfl, l1, C1⟩ := kS.C_rep himm (by omega) (fun _ _ => trivial) r1
  obtain ⟨A2, c2, rfl, l2, C2⟩ := kS.C_rep himm (by omega) (fun _ _ => trivial) r2
  obtain ⟨A3, c3, rfl, l3, C3⟩ := kS.C_rep himm (by omega) (fun _ _ => trivial) r3
  obtain rfl := vs2 hsz e0 e1
  obtain ⟨k, hk⟩ := (vsame_ev a b h1 h2).get
  refine (view_Same.calls k _ _ a.1 _ _ a.2.1 _ _ _ _ b.1 _ _ b.2.1 _ _ _ w C0 l0 C1 l1 C2 l2 C3 l3 hk).mono ?_
  rintro e w' ⟨rfl, hb⟩
  exact spec_bool (P := Try.prog) himm hb
end Go.Eng.View
