/- VZa: VZ1, VPZ. -/
import Derived.Test.YtiliffhopdiepaaGreatVIb
import Derived.Test.YtiliffhopdiepaaGreatVFb
/-! Zones: once, Norm, Right. -/
namespace Go.E2.S
open Go Go.E2 Go.RowKit Go.Proofs
open Go.E2.Lib (sortB compB)
set_option linter.unusedVariables false
set_option linter.unusedSimpArgs false
set_option maxHeartbeats 4000000
set_option maxRecDepth 10000
abbrev rS1 (l : List ByteArray) : AObj := .row true 1 (l.map encS)
theorem zoneOnce (l : List ByteArray) (hl : l.length < 100000) : A.fn 198 [pv (lS l)] [] = some (.one (pv (lS (onceL l))), []) := by
  have q := (lib_run hL L223 [pv (lS l)] []).trans (clone_at A.fn (xs := l.map encS) (by simp [appLim]; omega))
  have h1 := (lib_run hL L224 _ _).trans (Lib.sort_at A.fn l (by omega))
  have h2 := (lib_run hL L225 _ _).trans (Lib.compact_at A.fn (sortB l) (by rw [show (sortB l).length = l.length by simp [sortB]]; omega))
  rw [once_eq] at h2
  rw [fn_run hL Tryz.func198 rfl L198 (by rfl) rfl rfl rfl (by decide)]
  simp at q h1 h2
  simp [Tryz.f198, q, h1, h2]
def stepZ (out : List ByteArray) (p : ByteArray) : List ByteArray := if out = [] then out ++ [p] else if hasP p (out.getLastD ByteArray.empty) = true then out else out ++ [p]
def zoneN (l : List ByteArray) : List ByteArray × Int := if (onceL l).all pfx = true then (if 8 < ((onceL l).foldl stepZ []).length then ([], 4) else ((onceL l).foldl stepZ [], 0)) else ([], 2)
def rightZ (z : List ByteArray) : Bool := decide ((zoneN z).2 = 0) && decide ((zoneN z).1 = z)
theorem norm_loop (l : List ByteArray) (hl : l.length < 100000) (n : Nat) : ∀ (i : Nat) (out : List ByteArray), l.length = i + n → out.length ≤ i →
    ∃ r, A.lp 140 0 (hd140_0 [.at (.row 2000 0), pv (lS l), iv l.length, iv i] [(2000, 0, some (rS1 out))]) = some r ∧
      (((l.drop i).all pfx = true ∧ r = (.exit 0, ex140_0 [nov, nov, .at (.row 2000 0)] [(2000, 0, some (rS1 ((l.drop i).foldl stepZ out)))])) ∨
       ((l.drop i).all pfx = false ∧ ∃ out', r = (.ret, ex140_0 [.at .nil, iv 2, .at (.row 2000 0)] [(2000, 0, some (rS1 out'))]))) := by
  induction n with
  | zero =>
    intro i out hi ho
    refine ⟨_, ?_, .inl ⟨by rw [List.drop_of_length_le (by omega)]; rfl, rfl⟩⟩
    rw [lp_run hL Tryz.func140 rfl (by rfl) 0 rfl]
    obtain rfl : i = l.length := by omega
    simp
  | succ n ih =>
    intro i out hi ho
    have h1 : i < l.length := by omega
    have q := zprefix l[i]
    rw [List.drop_eq_getElem_cons h1, List.all_cons, List.foldl_cons]
    have w6 : IntKind.i64.wrap ((i : Int) + 1) = i + 1 := wr _ (by omega) (by omega)
    have hlim : (out.length + 1) * 17 ≤ 70368744177664 := by omega
    cases c : pfx l[i] with
    | false =>
      rw [c] at q
      refine ⟨_, ?_, .inr ⟨rfl, out, rfl⟩⟩
      rw [lp_run hL Tryz.func140 rfl (by rfl) 0 rfl]
      simp [rS1, h1, q]
    | true =>
      rw [c] at q
      rw [Bool.true_and]
      by_cases e : out = []
      · obtain ⟨r, r1, r2⟩ := ih (i + 1) (stepZ out l[i]) (by omega) (by unfold stepZ; rw [if_pos e, List.length_append, List.length_singleton]; omega)
        refine ⟨r, ?_, r2⟩
        unfold stepZ at r1
        rw [if_pos e] at r1
        subst e
        rw [lp_run hL Tryz.func140 rfl (by rfl) 0 rfl]
        simp [rS1] at r1
        simp [rS1, h1, q, w6]
        exact r1
      · have hp := List.length_pos_iff.2 e
        have q1 := last_get out e (by omega)
        have hw : IntKind.i64.wrap ((out.length : Int) - 1) = ((out.length - 1 : Nat) : Int) := by rw [wr _ (by omega) (by omega)]; omega
        have hlt : out.length - 1 < out.length := by omega
        have q2 := hasPrefix l[i] (out.getLastD ByteArray.empty)
        cases d : hasP l[i] (out.getLastD ByteArray.empty) with
        | true =>
          rw [d] at q2
          obtain ⟨r, r1, r2⟩ := ih (i + 1) (stepZ out l[i]) (by omega) (by unfold stepZ; rw [if_neg e, if_pos d]; omega)
          refine ⟨r, ?_, r2⟩
          unfold stepZ at r1
          rw [if_neg e, if_pos d] at r1
          generalize out.getLastD ByteArray.empty = y at *
          rw [lp_run hL Tryz.func140 rfl (by rfl) 0 rfl]
          simp [rS1] at r1
          simp [rS1, h1, q, e, hw, hlt, q1, q2, w6]
          exact r1
        | false =>
          rw [d] at q2
          obtain ⟨r, r1, r2⟩ := ih (i + 1) (stepZ out l[i]) (by omega) (by unfold stepZ; rw [if_neg e, if_neg (by rw [d]; exact Bool.false_ne_true), List.length_append, List.length_singleton]; omega)
          refine ⟨r, ?_, r2⟩
          unfold stepZ at r1
          rw [if_neg e, if_neg (by rw [d]; exact Bool.false_ne_true)] at r1
          generalize out.getLastD ByteArray.empty = y at *
          rw [lp_run hL Tryz.func140 rfl (by rfl) 0 rfl]
          simp [rS1] at r1
          simp [rS1, h1, q, e, hw, hlt, q1, q2, w6, hlim]
          exact r1
theorem zoneNorm (l : List ByteArray) (hl : l.length < 100000) : A.fn 140 [pv (lS l)] [] = some (.tup [pv (lS (zoneN l).1), iv (zoneN l).2], []) := by
  have q := zoneOnce l hl
  have hlen := onceL_len l
  obtain ⟨r, r1, r2⟩ := norm_loop (onceL l) (by omega) (onceL l).length 0 [] (by omega) (by simp)
  rw [List.drop_zero] at r2
  unfold zoneN
  rcases r2 with ⟨a, rfl⟩ | ⟨a, out', rfl⟩
  · rw [if_pos a]
    generalize (onceL l).foldl stepZ [] = z at *
    generalize onceL l = o at *
    by_cases c : 8 < z.length
    · have c' : (8 : Int) < z.length := by omega
      rw [if_pos c]
      rw [fn_run hL Tryz.func140 rfl L140 (by rfl) rfl rfl rfl (by decide)]
      simp [rS1] at r1
      simp [Tryz.f140, q, r1, c', rS1]
    · have c' : ¬ (8 : Int) < z.length := by omega
      rw [if_neg c]
      rw [fn_run hL Tryz.func140 rfl L140 (by rfl) rfl rfl rfl (by decide)]
      simp [rS1] at r1
      simp [Tryz.f140, q, r1, c', rS1, -Int.not_lt]
  · rw [if_neg (by simp [a])]
    generalize onceL l = o at *
    rw [fn_run hL Tryz.func140 rfl L140 (by rfl) rfl rfl rfl (by decide)]
    simp [rS1] at r1
    simp [Tryz.f140, q, r1]
theorem stepZ_len : ∀ (l out : List ByteArray), (l.foldl stepZ out).length ≤ out.length + l.length
  | [], out => by simp
  | p :: l, out => by
    rw [List.foldl_cons, List.length_cons]
    have h := stepZ_len l (stepZ out p)
    have h2 : (stepZ out p).length ≤ out.length + 1 := by
      unfold stepZ
      split
      · simp
      · split <;> simp
    omega
theorem zoneN_len (l : List ByteArray) : (zoneN l).1.length ≤ l.length := by
  have h1 := onceL_len l
  have h2 := stepZ_len (onceL l) []
  rw [List.length_nil] at h2
  unfold zoneN
  split
  · split
    · simp
    · show ((onceL l).foldl stepZ []).length ≤ _; omega
  · simp
theorem zoneRight (z : List ByteArray) (hl : z.length < 100000) : A.fn 63 [pv (lS z)] [] = some (.one (bv (rightZ z)), []) := by
  have q := zoneNorm z hl
  have hz := zoneN_len z
  have q2 := equal (zoneN z).1 z (by omega)
  unfold rightZ
  generalize zoneN z = r at *
  obtain ⟨r0, r1⟩ := r
  simp only at *
  rw [fn_run hL Tryz.func63 rfl L63 (by rfl) rfl rfl rfl (by decide)]
  by_cases c : r1 = 0
  · subst c
    simp [Tryz.f63, q, q2]
  · simp [Tryz.f63, q, q2, c]
end Go.E2.S
/-! Plain law: zones. -/
namespace Go.E2.S
open Go Go.E2 Go.RowKit Go.Proofs
set_option linter.unusedVariables false
set_option linter.unusedSimpArgs false
theorem blt_of {x y : List UInt8} (h : x ≤ y) (hne : x ≠ y) : x < y := Decidable.byContradiction fun c => hne (List.le_antisymm h (List.not_lt.1 c))
/-- Does s begin with p? -/
def hQ (p s : ByteArray) : Bool := hasP s p
theorem hQ_iff {p s : ByteArray} : hQ p s = true ↔ bl p <+: bl s := List.isPrefixOf_iff_prefix
theorem hQ_refl (p : ByteArray) : hQ p p = true := hQ_iff.2 (List.prefix_refl _)
theorem hQ_trans {p q s : ByteArray} (h : hQ p q = true) (h' : hQ q s = true) : hQ p s = true := hQ_iff.2 ((hQ_iff.1 h).trans (hQ_iff.1 h'))
theorem hQ_anti {p q : ByteArray} (h : hQ p q = true) (h' : hQ q p = true) : p = q :=
  bl_inj ((hQ_iff.1 h).eq_of_length (Nat.le_antisymm (hQ_iff.1 h).length_le (hQ_iff.1 h').length_le))
theorem prefix_le : ∀ {p s : List UInt8}, p <+: s → p ≤ s
  | [], s, _ => List.nil_le _
  | a :: p, s, h => by
    obtain ⟨r, rfl⟩ := h
    rw [List.cons_append, List.cons_le_cons_iff]
    exact .inr ⟨rfl, prefix_le ⟨r, rfl⟩⟩
theorem prefix_between : ∀ {p q s : List UInt8}, p <+: s → p ≤ q → q ≤ s → p <+: q
  | [], _, _, _, _, _ => List.nil_prefix
  | a :: p, [], _, _, h, _ => absurd h (by simp)
  | a :: p, b :: q, [], h, _, _ => absurd h (by simp)
  | a :: p, b :: q, c :: s, h, h1, h2 => by
    obtain ⟨rfl, h3⟩ := List.cons_prefix_cons.1 h
    rw [List.cons_le_cons_iff] at h1 h2
    rcases h1 with h1 | ⟨rfl, h1⟩
    · rcases h2 with h2 | ⟨rfl, h2⟩
      · exact absurd (Std.lt_trans h1 h2) (Std.lt_irrefl)
      · exact absurd h1 (Std.lt_irrefl)
    · rcases h2 with h2 | ⟨_, h2⟩
      · exact absurd h2 (Std.lt_irrefl)
      · exact List.cons_prefix_cons.2 ⟨rfl, prefix_between h3 h1 h2⟩
/-- Does a text of a list begin with no other one? -/
def minB (l : List ByteArray) (p : ByteArray) : Bool := !l.any fun q => bl q != bl p && hQ q p
theorem minB_iff {l : List ByteArray} {p : ByteArray} : minB l p = true ↔ ∀ q ∈ l, hQ q p = true → q = p := by
  unfold minB
  simp only [Bool.not_eq_true', List.any_eq_false, Bool.and_eq_true, bne_iff_ne, not_and]
  exact ⟨fun h q hq hp => Decidable.byContradiction fun c => h q hq (fun e => c (bl_inj e)) hp, fun h q hq c hp => c (congrArg bl (h q hq hp))⟩
theorem minB_congr {l m : List ByteArray} (h : ∀ x, x ∈ l ↔ x ∈ m) (p : ByteArray) : minB l p = minB m p := by
  rw [Bool.eq_iff_iff, minB_iff, minB_iff]
  exact ⟨fun g q hq => g q ((h q).2 hq), fun g q hq => g q ((h q).1 hq)⟩
theorem min_of (l : List ByteArray) : ∀ (n : Nat) (q : ByteArray), (bl q).length ≤ n → q ∈ l → ∃ p ∈ l, minB l p = true ∧ hQ p q = true
  | n, q, hn, hq => by
    by_cases h : minB l q = true
    · exact ⟨q, hq, h, hQ_refl q⟩
    have : ∃ p ∈ l, hQ p q = true ∧ p ≠ q := Decidable.byContradiction fun c => h (minB_iff.2 fun p hp hpq => Decidable.byContradiction fun e => c ⟨p, hp, hpq, e⟩)
    obtain ⟨p, hp, hpq, e⟩ := this
    have hlt : (bl p).length < (bl q).length := by
      rcases Nat.lt_or_ge (bl p).length (bl q).length with h | h
      · exact h
      · exact absurd (bl_inj ((hQ_iff.1 hpq).eq_of_length (Nat.le_antisymm (hQ_iff.1 hpq).length_le h))) e
    cases n with
    | zero => omega
    | succ n =>
      obtain ⟨r, hr, h1, h2⟩ := min_of l n p (by omega) hp
      exact ⟨r, hr, h1, hQ_trans h2 hpq⟩
theorem covers_iff {l : List ByteArray} {k : ByteArray} : coversL l k = true ↔ ∃ p ∈ l, hQ p k = true := by unfold coversL; exact List.any_eq_true
theorem covers_min (l : List ByteArray) (k : ByteArray) : coversL (l.filter (minB l)) k = coversL l k := by
  rw [Bool.eq_iff_iff, covers_iff, covers_iff]
  constructor
  · rintro ⟨p, hp, h⟩
    exact ⟨p, (List.mem_filter.1 hp).1, h⟩
  · rintro ⟨p, hp, h⟩
    obtain ⟨r, hr, h1, h2⟩ := min_of l _ p (Nat.le_refl _) hp
    exact ⟨r, List.mem_filter.2 ⟨hr, h1⟩, hQ_trans h2 h⟩
theorem covers_congr {l m : List ByteArray} (h : ∀ x, x ∈ l ↔ x ∈ m) (k : ByteArray) : coversL l k = coversL m k := by
  rw [Bool.eq_iff_iff, covers_iff, covers_iff]
  exact ⟨fun ⟨p, hp, g⟩ => ⟨p, (h p).1 hp, g⟩, fun ⟨p, hp, g⟩ => ⟨p, (h p).2 hp, g⟩⟩
/-- One after the other of a rising list, each that doesn't begin with the last one kept. -/
def keepZ : List ByteArray → List ByteArray → List ByteArray
  | out, [] => out
  | out, p :: r => if out ≠ [] ∧ hQ (out.getLastD ByteArray.empty) p = true then keepZ out r else keepZ (out ++ [p]) r
theorem keepZ_min (s : List ByteArray) (hs : Up s) : ∀ (r d : List ByteArray), d ++ r = s → keepZ (d.filter (minB s)) r = s.filter (minB s)
  | [], d, e => by rw [List.append_nil] at e; rw [e]; rfl
  | p :: r, d, e => by
    have hp : p ∈ s := by rw [← e]; simp
    have hd : ∀ q ∈ d, bl q < bl p := fun q hq => by
      rw [← e] at hs
      exact (List.pairwise_append.1 hs).2.2 q hq p (.head _)
    have hr : ∀ q ∈ r, bl p < bl q := fun q hq => by
      rw [← e] at hs
      exact (List.pairwise_cons.1 (List.pairwise_append.1 hs).2.1).1 q hq
    have ih := keepZ_min s hs r (d ++ [p]) (by rw [List.append_assoc]; exact e)
    rw [List.filter_append] at ih
    have key : (d.filter (minB s) ≠ [] ∧ hQ ((d.filter (minB s)).getLastD ByteArray.empty) p = true) ↔ ¬ minB s p = true := by
      constructor
      · rintro ⟨hn, hl⟩ hm
        have hmem : (d.filter (minB s)).getLastD ByteArray.empty ∈ d.filter (minB s) := by
          rw [List.getLastD_eq_getLast?, List.getLast?_eq_some_getLast hn]
          exact List.getLast_mem hn
        have hmd := (List.mem_filter.1 hmem).1
        have := minB_iff.1 hm _ (by have h := List.mem_append_left (p :: r) hmd; rw [e] at h; exact h) hl
        have h2 := hd _ hmd
        rw [this] at h2
        exact List.lt_irrefl _ h2
      · intro hm
        obtain ⟨q, hq, hqm, hqp⟩ := min_of s _ p (Nat.le_refl _) hp
        have hne : q ≠ p := fun e => hm (e ▸ hqm)
        have hqd : q ∈ d := by
          rw [← e, List.mem_append, List.mem_cons] at hq
          rcases hq with hq | rfl | hq
          · exact hq
          · exact absurd rfl hne
          · exact absurd (prefix_le (hQ_iff.1 hqp)) (List.not_le.2 (hr q hq))
        have hqf : q ∈ d.filter (minB s) := List.mem_filter.2 ⟨hqd, hqm⟩
        have hn : d.filter (minB s) ≠ [] := List.ne_nil_of_mem hqf
        refine ⟨hn, ?_⟩
        rw [List.getLastD_eq_getLast?, List.getLast?_eq_some_getLast hn]
        show hQ ((d.filter (minB s)).getLast hn) p = true
        have hmem := List.getLast_mem hn
        obtain ⟨hmd, hmm⟩ := List.mem_filter.1 hmem
        have hle : bl q ≤ bl ((d.filter (minB s)).getLast hn) := by
          have hup : Up (d.filter (minB s)) := by
            rw [← e] at hs
            exact Up.filter (List.pairwise_append.1 hs).1 _
          have ha := (List.dropLast_concat_getLast hn).symm
          generalize (d.filter (minB s)).getLast hn = b at ha
          rw [ha] at hup hqf
          rcases List.mem_append.1 hqf with h | h
          · exact List.le_of_lt ((List.pairwise_append.1 hup).2.2 q h b (.head _))
          · rw [List.mem_singleton.1 h]; exact List.le_refl _
        have hb := prefix_between (hQ_iff.1 hqp) hle (List.le_of_lt (hd _ hmd))
        have := minB_iff.1 hmm q hq (hQ_iff.2 hb)
        rw [← this]
        exact hqp
    unfold keepZ
    by_cases hm : minB s p = true
    · rw [if_neg (fun c => key.1 c hm)]
      simpa [hm] using ih
    · rw [if_pos (key.2 hm)]
      simpa [hm] using ih
theorem keepZ_all (s : List ByteArray) (hs : Up s) : keepZ [] s = s.filter (minB s) := keepZ_min s hs s [] rfl
/-- The texts of a list that begin with no other one, rising. -/
def mins (l : List ByteArray) : List ByteArray := (onceL l).filter (minB l)
theorem mins_up (l : List ByteArray) : Up (mins l) := (onceL_up l).filter _
theorem mins_mem {l : List ByteArray} {x : ByteArray} : x ∈ mins l ↔ x ∈ l ∧ minB l x = true := by unfold mins; rw [List.mem_filter, onceL_mem]
theorem mins_congr {l m : List ByteArray} (h : ∀ x, x ∈ l ↔ x ∈ m) : mins l = mins m := by
  unfold mins
  rw [onceL_congr h, show minB l = minB m from funext (minB_congr h)]
theorem mins_covers (l : List ByteArray) (k : ByteArray) : coversL (mins l) k = coversL l k := by
  unfold mins
  rw [← show minB (onceL l) = minB l from funext (minB_congr (onceL_mem l)), covers_min]
  exact covers_congr (onceL_mem l) k
theorem mins_of {l : List ByteArray} (hu : Up l) (hm : ∀ p ∈ l, minB l p = true) : mins l = l := by
  unfold mins
  rw [onceL_self hu, List.filter_eq_self.2 hm]
theorem mins_mins (l : List ByteArray) : mins (mins l) = mins l := mins_of (mins_up l) fun p hp => minB_iff.2 fun q hq h => minB_iff.1 (mins_mem.1 hp).2 q (mins_mem.1 hq).1 h
theorem right_min {l : List ByteArray} (h : mins l = l) : Up l ∧ ∀ p ∈ l, ∀ q ∈ l, hQ q p = true → q = p := by
  refine ⟨h ▸ mins_up l, fun p hp => ?_⟩
  rw [← h] at hp
  exact minB_iff.1 (mins_mem.1 hp).2

theorem fold_keepZ : ∀ (l out : List ByteArray), l.foldl stepZ out = keepZ out l
  | [], out => rfl
  | p :: l, out => by
    rw [List.foldl_cons, keepZ, fold_keepZ l, stepZ]
    by_cases h : out = []
    · simp [h]
    · rw [if_neg h]
      by_cases c : hasP p (out.getLastD ByteArray.empty) = true
      · have c' : hQ (out.getLastD ByteArray.empty) p = true := c
        rw [if_pos c, if_pos ⟨h, c'⟩]
      · have c' : ¬ hQ (out.getLastD ByteArray.empty) p = true := c
        rw [if_neg c, if_neg fun k => c' k.2]
theorem fold_mins (l : List ByteArray) : (onceL l).foldl stepZ [] = mins l := by
  rw [fold_keepZ, keepZ_all _ (onceL_up l)]
  unfold mins
  rw [show minB (onceL l) = minB l from funext (minB_congr (onceL_mem l))]
theorem all_mem {l m : List ByteArray} (h : ∀ x, x ∈ l ↔ x ∈ m) (p : ByteArray → Bool) : l.all p = m.all p := by
  rw [Bool.eq_iff_iff, List.all_eq_true, List.all_eq_true]
  exact ⟨fun g x hx => g x ((h x).2 hx), fun g x hx => g x ((h x).1 hx)⟩
theorem zoneN_eq (l : List ByteArray) : zoneN l = if l.all pfx = true then (if 8 < (mins l).length then ([], 4) else (mins l, 0)) else ([], 2) := by
  unfold zoneN
  rw [fold_mins, all_mem (onceL_mem l)]
theorem zoneN_of {l : List ByteArray} (h1 : ∀ p ∈ l, pfx p = true) (h2 : (mins l).length ≤ 8) : zoneN l = (mins l, 0) := by
  rw [zoneN_eq, if_pos (List.all_eq_true.2 h1), if_neg (by omega)]
theorem zoneN_ok {l : List ByteArray} (h : (zoneN l).2 = 0) : (∀ p ∈ l, pfx p = true) ∧ (mins l).length ≤ 8 ∧ zoneN l = (mins l, 0) := by
  rw [zoneN_eq] at h ⊢
  by_cases c : l.all pfx = true
  · rw [if_pos c] at h ⊢
    by_cases c2 : 8 < (mins l).length
    · rw [if_pos c2] at h; exact absurd h (by decide)
    · rw [if_neg c2]; exact ⟨List.all_eq_true.1 c, by omega, rfl⟩
  · rw [if_neg c] at h; exact absurd h (by decide)
theorem zoneN_bad {l : List ByteArray} (h : (zoneN l).2 ≠ 0) : (zoneN l).1 = [] := by
  rw [zoneN_eq] at h ⊢
  by_cases c : l.all pfx = true
  · rw [if_pos c] at h ⊢
    by_cases c2 : 8 < (mins l).length
    · rw [if_pos c2]
    · rw [if_neg c2] at h; exact absurd rfl h
  · rw [if_neg c]
theorem rightZ_iff {l : List ByteArray} : rightZ l = true ↔ (∀ p ∈ l, pfx p = true) ∧ mins l = l ∧ l.length ≤ 8 := by
  unfold rightZ
  rw [Bool.and_eq_true, decide_eq_true_iff, decide_eq_true_iff]
  constructor
  · rintro ⟨h, e⟩
    obtain ⟨h1, h2, h3⟩ := zoneN_ok h
    rw [h3] at e
    have e : mins l = l := e
    exact ⟨h1, e, e ▸ h2⟩
  · rintro ⟨h1, h2, h3⟩
    rw [zoneN_of h1 (by rw [h2]; exact h3)]
    exact ⟨rfl, h2⟩
theorem rightZ_norm {l : List ByteArray} (h : (zoneN l).2 = 0) : rightZ (zoneN l).1 = true := by
  obtain ⟨h1, h2, h3⟩ := zoneN_ok h
  rw [h3, rightZ_iff]
  exact ⟨fun p hp => h1 p (mins_mem.1 hp).1, mins_mins l, h2⟩
/-! ### What two zones have in common; a zone without another one -/
def both (p q : ByteArray) : List ByteArray := if hQ q p = true then [p] else if hQ p q = true then [q] else []
def interL (a b : List ByteArray) : List ByteArray := onceL (a.flatMap fun p => b.flatMap (both p))
theorem inter_mem {a b : List ByteArray} {x : ByteArray} : x ∈ interL a b ↔ (x ∈ a ∧ coversL b x = true) ∨ (x ∈ b ∧ coversL a x = true) := by
  unfold interL
  rw [onceL_mem]
  simp only [List.mem_flatMap, both, covers_iff]
  constructor
  · rintro ⟨p, h1, q, h2, h3⟩
    split at h3
    · rename_i h; obtain rfl := List.mem_singleton.1 h3; exact .inl ⟨h1, q, h2, h⟩
    · split at h3
      · rename_i h; obtain rfl := List.mem_singleton.1 h3; exact .inr ⟨h2, p, h1, h⟩
      · exact absurd h3 (by simp)
  · rintro (⟨h1, q, h2, h⟩ | ⟨h1, p, h2, h⟩)
    · exact ⟨x, h1, q, h2, by rw [if_pos h]; simp⟩
    · refine ⟨p, h2, x, h1, ?_⟩
      by_cases c : hQ x p = true
      · rw [if_pos c, hQ_anti h c]; simp
      · rw [if_neg c, if_pos h]; simp

def withoutZ (a b : List ByteArray) : List ByteArray := onceL (a.filter fun p => !coversL b p)
end Go.E2.S
