/- ViewMeans, part 12: GDelC. -/
import Derived.Lib.SliceRun
import Derived.OrdersHeld
import Derived.Deep.RegionHeld3
import Derived.Laws.BitsLemmas
import Derived.RowKit
import Derived.Test.YtciiodbkhilkmaaProg
import Derived.Below
import Derived.Deep.Draws
import Derived.Deep.AppendLies
import Derived.Maps.AppendAt
import Derived.OwnWalk
import Derived.Laws.BytesArg
import Derived.Laws.MakeOwn
import Derived.Laws.OwnMore
import Derived.Deep.OwnRows
import Derived.Tactics
import Derived.Lib.ConvBytes
import Derived.Laws.Slices
import Derived.WalkKit
import Derived.KernelRfl
import Derived.RowKit3
import Derived.Deep.LoopGhost
import Derived.Deep.QuietTactic
import Derived.BigQuiet
import Derived.WideLaws
import Derived.Deep.DeepCutAuto
import Derived.Deep.CutBlock
import Derived.Laws.Rows
import Derived.Lib.AppendStr
import Derived.ArgAppend
import Derived.Laws.IdiomCopy
import Derived.Shelf.Abstract
import Derived.Laws.StructEq
import Derived.Test.YtciiodbkhilkmaaQViewMeans0
import Derived.Test.YtciiodbkhilkmaaQViewMeans1
import Derived.Test.YtciiodbkhilkmaaQViewMeans2
import Derived.Test.YtciiodbkhilkmaaQViewMeans4
import Derived.Test.YtciiodbkhilkmaaQViewMeans5
import Derived.Test.YtciiodbkhilkmaaQViewMeans11
namespace Go.Proofs.Ytciiodbkhilkmaa.F
set_option linter.unusedVariables false
set_option linter.unusedSimpArgs false
open Go.RowKit Go.Proofs.YtciiodbkhilkmaaW.PrintWords Go.Proofs.YtciiodbkhilkmaaW.PrintLast Go.Proofs.YtciiodbkhilkmaaW.PrintMore
theorem item_ok {w : World} {base : Nat} {ok ok' : Nat → Prop} {v : Value} {l : List S26} (h : Kd.R k26 26 w base ok v l) (hk : ∀ k, v.ownBlock = some k → ok' k) : Kd.R k26 26 w base ok' v l := by
  obtain ⟨h0, inner, ho, hr⟩ := h
  exact ⟨hk, inner, ho, hr.imp_ (fun p c hp => by obtain rfl := k26_openM hp; exact k26_mkM _ _ _ _)⟩
def PostDS {σ : Type} (step : σ → S26 → Bool × σ) (Inv : σ → World → Prop) (S : Nat → Prop) (s0 : σ) (l : List S26) (base : Nat) (v : Value) (w : World) (e : Ending) (w' : World) : Prop :=
  ∃ v1, e = .returned v1 ∧ Kd.R k26 26 w' base (fun k => v.ownBlock = some k) v1 (keepS step s0 l).1 ∧ Inv (keepS step s0 l).2 w' ∧ Goes w w' (fun k => S k ∨ v.ownBlock = some k)
structure DelInv {σ : Type} (step : σ → S26 → Bool × σ) (Inv : σ → World → Prop) (S : Nat → Prop) (s0 : σ) (l : List S26) (base g cap : Nat) (w : World) (i j : Nat) (s : σ) (xs : List S26) (wr : World) : Prop where
  len : xs.length = l.length
  keep : xs.take i = (keepS step s0 (l.take j)).1
  ilen : (keepS step s0 (l.take j)).1.length = i
  st : s = (keepS step s0 (l.take j)).2
  rest : xs.drop j = l.drop j
  inv : Inv s wr
  goes : Goes w wr (fun k => S k ∨ k = g)
  own : Kd.R k26 26 wr base (fun k => k = g) (.slice (some ⟨g, 0, none⟩) l.length cap) xs
theorem DelInv.skip {σ : Type} {step : σ → S26 → Bool × σ} {Inv : σ → World → Prop} {S : Nat → Prop} {s0 : σ} {l : List S26} {base g cap : Nat} {w wr w' : World} {i j : Nat} {s s' : σ} {xs : List S26} {y : S26}
    (h : DelInv step Inv S s0 l base g cap w i j s xs wr) (hj : j < l.length) (hy : l[j] = y) (hs : step s y = (true, s')) (hi : Inv s' w') (hg : Goes wr w' S) (hS : ∀ k, S k → k ≠ g) : DelInv step Inv S s0 l base g cap w i (j + 1) s' xs w' := by
  have e : keepS step s0 (l.take (j + 1)) = ((keepS step s0 (l.take j)).1, s') := by
    rw [List.take_succ_eq_append_getElem hj, keepS_snoc, hy, ← h.st, hs]; simp
  refine ⟨h.len, by rw [e]; exact h.keep, by rw [e]; exact h.ilen, by rw [e], ?_, hi, h.goes.trans (hg.mono fun _ h => .inl h), Kd.R_kept h.own hg.kept (fun k hk hs => hS k hs hk)⟩
  have h1 := congrArg (List.drop 1) h.rest
  rwa [List.drop_drop, List.drop_drop] at h1
theorem DelInv.put {σ : Type} {step : σ → S26 → Bool × σ} {Inv : σ → World → Prop} {S : Nat → Prop} {s0 : σ} {l : List S26} {base g cap : Nat} {w wr w' : World} {i j : Nat} {s s' : σ} {xs : List S26} {y : S26}
    (h : DelInv step Inv S s0 l base g cap w i j s xs wr) (hj : j < l.length) (hij : i < j) (hy : l[j] = y) (hs : step s y = (false, s')) (hi : Inv s' w') (hg : Goes wr w' (fun k => S k ∨ k = g)) (ho : Kd.R k26 26 w' base (fun k => k = g) (.slice (some ⟨g, 0, none⟩) l.length cap) (xs.set i y)) : DelInv step Inv S s0 l base g cap w (i + 1) (j + 1) s' (xs.set i y) w' := by
  have e : keepS step s0 (l.take (j + 1)) = ((keepS step s0 (l.take j)).1 ++ [y], s') := by
    rw [List.take_succ_eq_append_getElem hj, keepS_snoc, hy, ← h.st, hs]; simp
  have hix : i < xs.length := by rw [h.len]; omega
  refine ⟨by rw [List.length_set]; exact h.len, ?_, by rw [e, List.length_append, h.ilen]; rfl, by rw [e], ?_, hi, h.goes.trans hg, ho⟩
  · rw [e, ← h.keep, List.take_succ_eq_append_getElem (by rw [List.length_set]; exact hix), List.getElem_set_self, List.take_set_of_le (Nat.le_refl _)]
  · have h1 := congrArg (List.drop 1) h.rest
    rw [List.drop_drop, List.drop_drop] at h1
    rw [List.drop_set_of_lt (by omega)]
    exact h1
theorem drop_head {α : Type} {xs l : List α} {j : Nat} (h : xs.drop j = l.drop j) (h1 : j < xs.length) (h2 : j < l.length) : l[j] = xs[j] := by
  have h3 := congrArg (fun z => z[0]?) h
  simp only [List.getElem?_drop, Nat.add_zero] at h3
  rw [List.getElem?_eq_getElem h1, List.getElem?_eq_getElem h2] at h3
  exact (Option.some.inj h3).symm
theorem item_z : ∀ w, (zeroValue 26).run Try.prog w = .ok (.agg #[(.string ⟨#[]⟩), (.string ⟨#[]⟩), (.int .i64 0), (.string ⟨#[]⟩), (.int .i64 0), (.int .i64 0), (.int .i64 0), (.int .i64 0)]) w := Try.zeroValue26
theorem deleteS_item_nil {σ : Type} (g : Nat) (lb : Array Value) (eg : EntersB g) (step : σ → S26 → Bool × σ) (Inv : σ → World → Prop) (S : Nat → Prop) (s0 : σ)
    (A0 : Option Addr) (c0 base : Nat) (w : World) (hI : Inv s0 w) (hcs : CallsS g lb encItem step Inv S) (ho : Kd.R k26 26 w base (fun k => (Value.slice A0 0 c0).ownBlock = some k) (.slice A0 0 c0) []) (hS : ∀ k, S k → (Value.slice A0 0 c0).ownBlock ≠ some k) :
    Calls Try.prog 76 #[.slice A0 0 c0, .func (.func g) #[] lb] w (PostDS step Inv S s0 [] base (.slice A0 0 c0) w) := by
  have hcall := indexS_item g lb eg step Inv S s0 A0 c0 [] w hI hcs (fun W' hg => by
    have h := (Kd.R_reads' (Kd.R_kept ho hg.kept (fun k hk hs => hS k hs hk))).2.2
    exact h)
  have HO := Aside0.mk ho
  have HS := Aside0.mk hS
  clear ho hcs hI hS
  go_enter Try.func76, Try.ntmps76
  go_wp2_with fail
  refine hcall.mono ?_
  rintro e w' ⟨i, s', rfl, hf, hi', hg'⟩
  have hff : i = -1 ∧ s0 = s' := by
    rcases hf with ⟨h1, h2⟩ | ⟨a, x, r, s1, h1, _⟩
    · exact ⟨h1, h2⟩
    · simp at h1
  clear hf
  obtain ⟨rfl, rfl⟩ := hff
  go_wp2
  go_ret
  exact ⟨_, rfl, Kd.R_kept HO.out hg'.kept (fun k hk hs => HS.out k hs hk), hi', hg'.mono fun _ h => .inl h⟩
set_option maxHeartbeats 2000000 in
set_option maxRecDepth 100000 in
theorem deleteS_item_some {σ : Type} (g : Nat) (lb : Array Value) (eg : EntersB g) (step : σ → S26 → Bool × σ) (Inv : σ → World → Prop) (S : Nat → Prop) (s0 : σ)
    (B cap base : Nat) (l : List S26) (w0 w : World) (hI : Inv s0 w) (hcs : CallsS g lb encItem step Inv S) (ho : Kd.R k26 26 w base (fun k => k = B) (.slice (some ⟨B, 0, none⟩) l.length cap) l) (hS : ∀ k, S k → k ≠ B) (hSlt : ∀ k, S k → k < w.heap.size)
    (hkeep : ∀ s W W', Inv s W → Goes W W' (fun k => k = B) → Inv s W') :
    Calls Try.prog 76 #[.slice (some ⟨B, 0, none⟩) l.length cap, .func (.func g) #[] lb] w (PostDS step Inv S s0 l base (.slice (some ⟨B, 0, none⟩) l.length cap) w) := by
  have hcall := indexS_item g lb eg step Inv S s0 (some ⟨B, 0, none⟩) cap l w hI hcs (fun W' hg => by
    have h := (Kd.R_reads' (Kd.R_kept ho hg.kept (fun k hk hs => hS k hs hk))).2.2
    exact h)
  have hob : ∀ k, (Value.slice (some ⟨B, 0, none⟩) l.length cap).ownBlock = some k ↔ k = B := fun k => by
    show some B = some k ↔ _
    constructor
    · intro h; injection h with h; exact h.symm
    · intro h; rw [h]
  have hlen : l.length ≤ 9223372036854775807 := (Kd.R_reads' ho).2.2.2.1
  have HO := Aside0.mk ho
  have HS := Aside0.mk hS
  have HSL := Aside0.mk hSlt
  have HC := Aside0.mk hcs
  have HK := Aside0.mk hkeep
  have HOB := Aside0.mk hob
  unfold EntersB at eg
  clear ho hcs hI hS hSlt hkeep hob
  go_enter Try.func76, Try.ntmps76
  go_wp2_with fail
  refine hcall.mono ?_
  rintro e w' ⟨i, s', rfl, hf, hi', hg'⟩
  have HOk : Aside0 (Kd.R k26 26 w' base (fun k => k = B) (.slice (some ⟨B, 0, none⟩) l.length cap) l) := ⟨Kd.R_kept HO.out hg'.kept (fun k hk hs => HS.out k hs hk)⟩
  have hf' := Aside0.mk hf
  clear hf
  by_cases hm : i = -1
  · subst hm
    go_wp2
    go_ret
    have hr : Runs step s0 l s' := by
      rcases hf'.out with ⟨_, h⟩ | ⟨a, x, r, s1, _, h, _⟩
      · exact h
      · omega
    have hk := keepS_runs step l s0 s' hr
    refine ⟨_, rfl, ?_, ?_, hg'.mono fun _ h => .inl h⟩
    · rw [hk]; exact item_ok HOk.out (fun k h => h)
    · rw [hk]; exact hi'
  · obtain ⟨i0, hi0⟩ : ∃ i0 : Nat, i = (i0 : Int) ∧ i0 < l.length ∧ DelInv step Inv S s0 l base B cap w i0 (i0 + 1) s' l w' := by
      rcases hf'.out with ⟨h, _⟩ | ⟨a, x, r, s1, h1, h2, h3, h4⟩
      · exact absurd h hm
      · have hk := keepS_runs step a s0 s1 h3
        have ht : l.take (a.length + 1) = a ++ [x] := by rw [h1, List.take_length_add_append]; simp
        have hks : keepS step s0 (l.take (a.length + 1)) = (a, s') := by
          rw [ht, keepS_snoc, hk, h4]; simp
        refine ⟨a.length, h2, by rw [h1]; simp, rfl, ?_, ?_, ?_, rfl, hi', hg'.mono fun _ h => .inl h, HOk.out⟩
        · rw [hks]; show l.take a.length = a; rw [h1, List.take_append_of_le_length (Nat.le_refl _), List.take_length]
        · rw [hks]
        · rw [hks]
    obtain ⟨rfl, hi0l, hd⟩ := hi0
    have HD := Aside0.mk hd
    have hne : ((i0 : Int) == -1) = false := beq_eq_false_iff_ne.2 (by omega)
    clear hd hm hcall
    go_wp2
    go_loopg [5, 6] l.length (fun gg s5 s6 wr => ∃ (i j : Nat) (s : σ) (xs : List S26), s5 = .int .i64 i ∧ s6 = .int .i64 j ∧ j ≤ l.length ∧ i < j ∧ l.length - j ≤ gg ∧ Aside0 (DelInv step Inv S s0 l base B cap w i j s xs wr))
    case atStart => exact ⟨i0, i0 + 1, s', l, rfl, by go_num, by omega, by omega, by omega, HD⟩
    case round =>
      obtain ⟨i, j, s, xs, rfl, rfl, hjl, hij, hgg, D⟩ := hrel
      by_cases hlt : j < l.length
      · have hltz : (j : Int) < (l.length : Int) := by omega
        have hxl := D.out.len
        have hjx : j < xs.length := by omega
        obtain ⟨ad, e0, h0, h1, h2, h3, h4, h5, h6, h7⟩ := at_T26 (Kd.R_reads' D.out.own).2.2 (j : Int) (by omega) (by omega)
        injection e0 with e0
        subst e0
        rw [rdItem_get xs j hjx, Int.toNat_natCast] at h0 h1 h2 h3 h4 h5 h6 h7
        clear hxl
        simp only [Addr.add_lit, Nat.zero_add] at h0 h1 h2 h3 h4 h5 h6 h7
        generalize hy : xs[j] = y at h0 h1 h2 h3 h4 h5 h6 h7
        have hcall := HC.out s (wr.alloc (.cells #[.string y.f0, .string y.f1, .int .i64 y.f2, .string y.f3, .int .i64 y.f4, .int .i64 y.f5.f0, .int .i64 y.f5.f1, .int .i64 y.f5.f2] 26)) y (HK.out s wr _ D.out.inv ((Goes.refl _ _).alloc _))
        unfold encItem at hcall
        have hgs := Aside0.mk (fun (k : Nat) (h : S k) => (show k < wr.heap.size from Nat.lt_of_lt_of_le (HSL.out k h) D.out.goes.kept.1))
        obtain ⟨b, s2, hsp0⟩ : ∃ b s2, step s y = (b, s2) := ⟨_, _, rfl⟩
        rw [hsp0] at hcall
        have hsp := Aside0.mk hsp0
        have hyl := Aside0.mk ((drop_head D.out.rest hjx hlt).trans hy)
        clear hsp0 hy
        cases b with
        | true =>
          go_wp2_with (go_at_fn g; refine hcall.mono ?_; rintro e w9 ⟨rfl, hi9, hb9⟩)
          go_roundg (l.length - (j + 1))
          case measure => omega
          case rel => exact ⟨i, j + 1, s2, xs, rfl, by go_num, by omega, by omega, Nat.le_refl _, ⟨D.out.skip hlt hyl.out hsp.out hi9 (((Goes.refl _ _).alloc _).trans hb9) HS.out⟩⟩
        | false =>
          go_wp2_with fail
          refine hcall.mono ?_
          rintro e w9 ⟨rfl, hi9, hb9⟩
          have hq : ∀ t v, (wr.alloc (.cells #[.string y.f0, .string y.f1, .int .i64 y.f2, .string y.f3, .int .i64 y.f4, .int .i64 y.f5.f0, .int .i64 y.f5.f1, .int .i64 y.f5.f2] 26)).cell? ⟨wr.heap.size, t, none⟩ = some v → w9.cell? ⟨wr.heap.size, t, none⟩ = some v := fun t v h => hb9.cell h (fun hs => Nat.lt_irrefl _ (hgs.out _ hs))
          have g0 := hq 0 (.string y.f0) (by simp)
          have g1 := hq 1 (.string y.f1) (by simp)
          have g2 := hq 2 (.int .i64 y.f2) (by simp)
          have g3 := hq 3 (.string y.f3) (by simp)
          have g4 := hq 4 (.int .i64 y.f4) (by simp)
          have g5 := hq 5 (.int .i64 y.f5.f0) (by simp)
          have g6 := hq 6 (.int .i64 y.f5.f1) (by simp)
          have g7 := hq 7 (.int .i64 y.f5.f2) (by simp)
          clear hq h0 h1 h2 h3 h4 h5 h6 h7
          have O9 : Aside0 (Kd.R k26 26 w9 base (fun k => k = B) (.slice (some ⟨B, 0, none⟩) l.length cap) xs) := ⟨Kd.R_kept (Kd.R_kept D.out.own ((Goes.refl wr S).alloc _).kept (fun k hk hs => HS.out k hs hk)) hb9.kept (fun k hk hs => HS.out k hs hk)⟩
          have G9 := Aside0.mk (((Goes.refl wr S).alloc (.cells #[.string y.f0, .string y.f1, .int .i64 y.f2, .string y.f3, .int .i64 y.f4, .int .i64 y.f5.f0, .int .i64 y.f5.f1, .int .i64 y.f5.f2] 26)).trans hb9)
          have I9 := Aside0.mk hi9
          have hix : i < l.length := by omega
          obtain ⟨adi, ci, ei, hcil, _, hcic0⟩ := Kd.C_get (Kd.R_reads' O9.out).2.2 z26 (i : Int) (by omega) (by have := D.out.len; omega)
          injection ei with ei
          subst ei
          have hcic : ∀ q u, ci[q]? = some u → w9.cell? ⟨B, (i : Int).toNat * 8 + q, none⟩ = some u := fun q u h => by have := hcic0 q u h; rwa [Addr.add_lit, Nat.zero_add] at this
          have HCI := Aside0.mk hcic
          clear hcic hcic0 hi9 hb9 hcall
          go_wp2_with ((with_reducible refine gate_store rfl ?_); refine Kd.R_store k26 (w0 := w9) base rfl rfl _ _ _ rfl 26 (g := B) (n := l.length) (cap := cap) (o' := i * 8) (i : Int) 0 xs y (.agg #[.string y.f0, .string y.f1, .int .i64 y.f2, .string y.f3, .int .i64 y.f4, .int .i64 y.f5.f0, .int .i64 y.f5.f1, .int .i64 y.f5.f2]) [.string y.f0, .string y.f1, .int .i64 y.f2, .string y.f3, .int .i64 y.f4, .int .i64 y.f5.f0, .int .i64 y.f5.f1, .int .i64 y.f5.f2] ci (fun k => k = B) (fun _ => False) rfl (by simp; rfl) rfl rfl ?ht ?h1 O9.out (by omega) (by omega) hcil HCI.out (by exact Nat.le_refl _) ?hM (fun _ h => h.elim) (Below.refl _ _) ?_; (case ht => rfl); (case h1 => intro q hq; simp at hq; rcases hq with rfl | rfl | rfl | rfl | rfl | rfl | rfl | rfl <;> rfl); (case hM => rw [List.drop_eq_nil_of_le (by rw [hcil]; exact Nat.le_refl _)]; exact k26_mkM _ _ _ _); intro w10 ho10 hb10 hg10; rw [Int.toNat_natCast] at ho10; have O10 := Aside0.mk ho10; have B10 := Aside0.mk hg10; clear ho10 hb10 hg10)
          go_roundg (l.length - (j + 1))
          case measure => omega
          case rel => exact ⟨i + 1, j + 1, s2, xs.set i y, by go_num, by go_num, by omega, by omega, Nat.le_refl _, ⟨D.out.put hlt hij hyl.out hsp.out (HK.out _ _ _ I9.out ((Goes.refl _ _).grown B10.out fun k h => by injection h with h; exact .inl h.symm)) ((G9.out.mono fun _ h => .inl h).grown B10.out fun k h => by injection h with h; exact .inl (.inr h.symm)) O10.out⟩⟩
      · have hj : j = l.length := by omega
        subst hj
        have hltz : ¬ (l.length : Int) < (l.length : Int) := by omega
        obtain ⟨hok, inner, hown, hreps⟩ := D.out.own
        obtain ⟨W', hrun, hown', hgr⟩ := own_clear (P := Try.prog) (t := 22) (z := .agg #[(.string ⟨#[]⟩), (.string ⟨#[]⟩), (.int .i64 0), (.string ⟨#[]⟩), (.int .i64 0), (.int .i64 0), (.int .i64 0), (.int .i64 0)]) (size := 8) (n := l.length) (i := i) (by have h := hown; rw [D.out.len] at h; exact h) hij Try.underlying22 item_z rfl (by intro v hv; simp [Value.cells] at hv; rcases hv with rfl | rfl | rfl | rfl | rfl | rfl | rfl | rfl <;> rfl)
        have hcl : ∀ ty c, (Builtin.clear_ #[22] ty #[.slice (some ⟨B, i * 8, none⟩) (l.length - i) c]).run Try.prog wr = .ok (.tuple #[]) W' := hrun
        have hR : Aside0 (Kd.R k26 26 W' base (fun k => k = B) (.slice (some ⟨B, 0, none⟩) i cap) (keepS step s0 l).1) := by
          have hk := D.out.keep
          rw [List.take_length] at hk
          have hil := D.out.ilen
          rw [List.take_length] at hil
          rw [← hk]
          refine ⟨hok, inner.take (i * 8), ?_, (Kd.reps_take hreps (by rw [D.out.len]; omega)).imp_ (fun p c hp => by obtain rfl := k26_openM hp; exact k26_mkM _ _ _ _)⟩
          rw [List.length_take, D.out.len, Nat.min_eq_left (Nat.le_of_lt hij)]
          exact hown'
        have hG := Aside0.mk hgr
        clear hown hreps hok hown' hgr hrun
        have hiz : (i : Int) < (l.length : Int) := by omega
        have hcap : l.length ≤ cap := (Kd.R_reads' D.out.own).2.1
        have hic : i < cap := by omega
        have hicz : (i : Int) < (cap : Int) := by omega
        have hne1 : ¬ i = cap := by omega
        have hne2 : ¬ cap = i := by omega
        go_wp2
        go_ret
        have hst := D.out.st
        rw [List.take_length] at hst
        refine ⟨_, rfl, ?_, ?_, ?_⟩
        · exact item_ok hR.out (fun k h => h)
        · rw [← hst]; exact HK.out _ _ _ D.out.inv ((Goes.refl _ _).grown hG.out fun k h => by injection h with h; exact .inl h.symm)
        · exact (D.out.goes.grown hG.out fun k h => by injection h with h; exact .inl (.inr h.symm)).mono fun k h => h.imp id (fun h => (HOB.out k).2 h)
end Go.Proofs.Ytciiodbkhilkmaa.F
