/- slices.Grow at nil and slices.Concat, over texts. -/
import Derived.Test.YtciiodbkhilkmaaGZoneW
namespace Go.Proofs.Ytciiodbkhilkmaa.F
set_option linter.unusedVariables false
set_option linter.unusedSimpArgs false
open Go.RowKit Go.Proofs.YtciiodbkhilkmaaW.PrintWords Go.Proofs.YtciiodbkhilkmaaW.PrintLast Go.Proofs.YtciiodbkhilkmaaW.PrintMore
set_option maxHeartbeats 1000000 in
set_option maxRecDepth 100000 in
theorem grow_str (n : Nat) (w : World) (hn : n < lim) :
    Calls Try.prog 102 #[.slice none 0 0, .int .i64 n] w fun e w' => ∃ v, e = .returned v ∧ Kd.R Kd.string 9 w' w.heap.size (fun _ => True) v [] ∧ Below w.heap.size w w' := by
  have hL : Aside0 (n * 16 ≤ 140737488355328) := ⟨by unfold lim at hn; omega⟩
  have hN : Aside0 ((n : Int) ≤ 1099511627776) := ⟨by unfold lim at hn; omega⟩
  have hnn : (n : Int) ≤ 9223372036854775807 := by have := hN.out; omega
  clear hn
  by_cases h0 : n = 0
  · subst h0
    go_enter Try.func102, Try.ntmps102
    go_wp2
    go_ret
    exact ⟨_, rfl, Kd.R_nil _ _ _ _ _, Below.refl _ _⟩
  · have hpos : 0 < (n : Int) := by omega
    have hw : IntKind.i64.wrap ((n : Int) - 0) = (n : Int) := by rw [Int.sub_zero]; exact IntWalk.i64_in _ (by omega)
    go_enter Try.func102, Try.ntmps102
    go_wp2_with ((with_reducible refine gate_builtin (b := .append) (xs := #[.tmp 20, .tmp 21]) rfl ?_); at_builtin; refine Kd.R_append_zeros Kd.string (w0 := w) w.heap.size rfl (.tmp 20) (.tmp 21) 29 3 9 (.string ⟨#[]⟩) 16 rfl Try.underlying29 Try.underlying3 cinfo_str rfl (by decide) (by omega) (.slice none 0 0) [] ⟨#[]⟩ (n : Int) (fun _ => True) rfl rfl (by show _ = _; rfl) (fun _ _ => trivial) (Kd.R_nil _ _ _ _ _) (by omega) (Below.refl _ _) (Nat.le_refl _) (by rw [List.length_nil, Nat.zero_add, Int.toNat_natCast]; exact hL.out) ?_; intro v1 w1 ho hb hg hat; rw [List.nil_append, Int.toNat_natCast] at ho; obtain ⟨A1, c1, rfl, hle1, _⟩ := Kd.R_reads ho; rw [List.length_replicate] at hle1; have HO := Aside0.mk ho; have HB := Aside0.mk hb; clear ho hb hg hat; try simp only [List.length_replicate])
    go_ret
    exact ⟨_, rfl, Kd.R_take (m := 0) HO.out (Nat.zero_le _), HB.out⟩

theorem flat_take {α : Type} (l : List (List α)) (k : Nat) (h : k < l.length) : (l.take (k + 1)).flatten = (l.take k).flatten ++ l[k] := by
  rw [List.take_succ_eq_append_getElem h, List.flatten_append]; simp
/-- How many elements the first k lists have. -/
def flatN {α : Type} (l : List (List α)) (k : Nat) : Nat := (l.take k).flatten.length
theorem flatN_succ {α : Type} (l : List (List α)) (k : Nat) (h : k < l.length) : flatN l (k + 1) = flatN l k + l[k].length := by
  unfold flatN; rw [flat_take l k h, List.length_append]
theorem flat_le {α : Type} (l : List (List α)) (k : Nat) : (l.take k).flatten.length ≤ l.flatten.length := by
  have h : l.flatten = (l.take k).flatten ++ (l.drop k).flatten := by rw [← List.flatten_append, List.take_append_drop]
  rw [h, List.length_append]
  omega
theorem at_rows {w : World} {A : Option Addr} {n : Nat} {l : List (List ByteArray)} (h : Kd.C (Kd.slice 9 Kd.string) w A n l) (k : Nat) (hk : k < l.length) (hn : k < n) :
    ∃ ad A1 c1, A = some ad ∧ w.cell? (ad.add k) = some (.slice A1 l[k].length c1) ∧ l[k].length ≤ c1 ∧ Kd.C Kd.string w A1 l[k].length l[k] := by
  obtain ⟨ad, c, e, _, hK, hc⟩ := Kd.C_get h [] (k : Int) (by omega) (by omega)
  rw [Int.toNat_natCast] at hK hc
  have hg : l.getD k [] = l[k] := by simp [List.getD, hk]
  rw [hg] at hK
  obtain ⟨A1, c1, rfl, hle, hr⟩ := hK
  have h0 := hc 0 _ rfl
  exact ⟨ad, A1, c1, e, by simpa [show (Kd.slice 9 Kd.string).sz = 1 from rfl] using h0, hle, hr⟩

def slices_Concat_string_string.f (l0 : List (List ByteArray)) : Option (List ByteArray) := if l0.flatten.length < lim then some l0.flatten else none
set_option maxHeartbeats 2000000 in
set_option maxRecDepth 100000 in
theorem slices_Concat_string_string.calls (A0 : Option Addr) (c0 : Nat) (l0 : List (List ByteArray)) (r : List ByteArray) (w : World) (hr0 : Kd.C (Kd.slice 9 Kd.string) w A0 l0.length l0) (_hc0 : l0.length ≤ c0) (h : slices_Concat_string_string.f l0 = some r) :
    Calls Try.prog 79 #[.slice A0 l0.length c0] w fun e w' => ∃ v0_ : Value, e = .returned (v0_) ∧ Kd.R Kd.string 9 w' w.heap.size (fun _ => True) v0_ r ∧ Below w.heap.size w w' := by
  unfold slices_Concat_string_string.f at h
  split at h
  case isFalse => cases h
  rename_i hl
  obtain rfl := Option.some.inj h
  clear h
  have hlen : l0.length ≤ 9223372036854775807 := hr0.2.1
  have hgr := fun W => grow_str (flatN l0 l0.length) W (by unfold flatN; rw [List.take_length]; exact hl)
  have HL : Aside0 (l0.flatten.length < 1099511627776) := ⟨hl⟩
  have HR := Aside0.mk hr0
  have HG := Aside0.mk hgr
  clear hl hr0 hgr
  go_enter Try.func79, Try.ntmps79
  go_wp2
  go_loopg [3, 11] l0.length (fun gg s3 s11 wr => ∃ kk : Nat, kk ≤ l0.length ∧ l0.length - kk ≤ gg ∧ s11 = .int .i64 kk ∧ s3 = .int .i64 (flatN l0 kk : Int) ∧ w = wr)
  case atStart => exact ⟨0, Nat.zero_le _, by omega, rfl, rfl, rfl⟩
  case round =>
    obtain ⟨kk, hkk, hg, rfl, rfl, rfl⟩ := hrel
    by_cases hlt : kk < l0.length
    · have hltz : (kk : Int) < (l0.length : Int) := by omega
      obtain ⟨ad, A1, c1, rfl, hc, hle, hr⟩ := at_rows HR.out kk hlt hlt
      have hfl : flatN l0 (kk + 1) ≤ l0.flatten.length := flat_le l0 (kk + 1)
      have HF := Aside0.mk (flatN_succ l0 kk hlt)
      rw [HF.out] at hfl
      have hb1 : (flatN l0 kk : Int) + (l0[kk].length : Int) ≤ 9223372036854775807 := by have := HL.out; omega
      have hq0 : 0 ≤ (flatN l0 kk : Int) := by omega
      clear hfl hr hle
      generalize l0[kk] = y at hc hb1 HF
      go_wp2
      go_roundg (l0.length - (kk + 1))
      case measure => omega
      case rel => exact ⟨kk + 1, by omega, by omega, by go_num, by rw [HF.out]; go_num, rfl⟩
    · have hltz : ¬ (kk : Int) < (l0.length : Int) := by omega
      have e : kk = l0.length := by omega
      subst e
      go_wp2_with fail
      refine (HG.out _).mono ?_
      rintro e w1 ⟨v1, rfl, ho1, hb1⟩
      have HO := Aside0.mk ho1
      have HB := Aside0.mk hb1
      clear ho1 hb1
      go_wp2
      go_loopg [6, 27] l0.length (fun gg s6 s27 wr => ∃ (kk : Nat), kk ≤ l0.length ∧ l0.length - kk ≤ gg ∧ s27 = .int .i64 kk ∧ Aside0 (Kd.R Kd.string 9 wr w.heap.size (fun _ => True) s6 (l0.take kk).flatten) ∧ Aside0 (Below w.heap.size w wr))
      case atStart => exact ⟨0, Nat.zero_le _, by omega, rfl, HO, HB⟩
      case round =>
        obtain ⟨kk, hkk, hg, rfl, O, BB⟩ := hrel
        by_cases hlt : kk < l0.length
        · have hltz : (kk : Int) < (l0.length : Int) := by omega
          obtain ⟨ad, A1, c1, rfl, hc, hle, hr⟩ := at_rows (Kd.C_below HR.out BB.out) kk hlt hlt
          have hf := flat_take l0 kk hlt
          have hfl := flat_le l0 (kk + 1)
          rw [hf, List.length_append] at hfl
          have hb1 : Aside0 (((l0.take kk).flatten.length + l0[kk].length) * 16 ≤ 140737488355328) := ⟨by have := HL.out; omega⟩
          have HF := Aside0.mk hf
          have HRR := Aside0.mk hr
          clear hf hfl hr hle
          generalize (l0.take kk).flatten = p at hb1 HF O
          generalize l0[kk] = y at hc hb1 HF HRR
          go_wp2_with ((with_reducible refine gate_builtin (b := .append) (xs := #[.tmp 31, .tmp 32]) rfl ?_); at_builtin; refine Kd.R_append_rows Kd.string (w0 := w) w.heap.size rfl (.tmp 31) (.tmp 32) 29 9 (.string ⟨#[]⟩) 16 rfl Try.underlying29 cinfo_str rfl (by decide) (by omega) _ p y A1 y.length c1 (fun _ => True) (fun _ => False) rfl rfl O.out HRR.out (fun _ _ h => h) (fun _ h => h.elim) (fun _ _ => trivial) BB.out (below_size BB.out) hb1.out ?_; intro v2 w2 ho hb hg hat; have HO2 := Aside0.mk ho; have HB2 := Aside0.mk hb; clear ho hb hg hat)
          go_roundg (l0.length - (kk + 1))
          case measure => omega
          case rel => exact ⟨kk + 1, by omega, by omega, by go_num, by rw [HF.out]; exact HO2, HB2⟩
        · have hltz : ¬ (kk : Int) < (l0.length : Int) := by omega
          have e : kk = l0.length := by omega
          subst e
          go_wp2
          go_ret
          refine ⟨_, rfl, ?_, BB.out⟩
          have h := O.out
          rw [List.take_length] at h
          exact h
end Go.Proofs.Ytciiodbkhilkmaa.F
