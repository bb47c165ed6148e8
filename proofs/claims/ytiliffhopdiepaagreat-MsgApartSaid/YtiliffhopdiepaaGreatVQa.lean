/- VQa: VQ1, VQ2. -/
import Derived.Test.YtiliffhopdiepaaGreatVFa
import Derived.Test.YtiliffhopdiepaaGreatVVa
import Derived.Test.YtiliffhopdiepaaGreatVBa
import Derived.Test.YtiliffhopdiepaaGreatVTa
/-! The document's vectors and texts of bytes: Equal, At, Trim; Same, Copy. -/
namespace Go.E2.S
open Go Go.E2 Go.RowKit Go.Proofs
set_option linter.unusedVariables false
set_option linter.unusedSimpArgs false
set_option maxHeartbeats 4000000
set_option maxRecDepth 10000
theorem rsameU (a b : List UInt8) (ha : a.length < 1000000000000) : A.fn 19 [pv (lU a), pv (lU b)] [] = some (.one (bv (decide (a = b))), []) := by
  by_cases hl : a.length = b.length
  · have h := lpAll (a.zip b) (fun p => decide (p.1 = p.2)) (f := 19) (id := 0) (fun i => hd19_0 [pv (lU a), pv (lU b), iv i] [])
      (some (.exit 0, ex19_0 [nov] [])) (some (.ret, ex19_0 [bv false] [])) (fun i hi => by
        have h1 : i < a.length := by rw [zip_len hl] at hi; exact hi
        have h2 : i < b.length := by omega
        have w6 : IntKind.i64.wrap ((i : Int) + 1) = i + 1 := wr _ (by omega) (by omega)
        rw [List.getElem_zip]
        have e : decide (a[i] = b[i]) = decide (a[i].toNat = b[i].toNat) := by rw [Bool.eq_iff_iff]; simp [UInt8.toNat_inj]
        rw [lp_run hL Tryz.func19 rfl (by rfl) 0 rfl]
        by_cases c : a[i].toNat = b[i].toNat
        · simp [h1, h2, c, e, w6]
        · have c' : ¬ (a[i].toNat : Int) = b[i].toNat := by omega
          simp [h1, h2, c, c', e, w6]) (by
        rw [zip_len hl]
        rw [lp_run hL Tryz.func19 rfl (by rfl) 0 rfl]
        simp [hl])
    rw [zip_all a b hl] at h
    rw [fn_run hL Tryz.func19 rfl L19 (by rfl) rfl rfl rfl (by decide)]
    by_cases c : a = b
    · subst c
      simp at h
      simp [Tryz.f19, h]
    · simp [c] at h
      simp [Tryz.f19, h, c, hl]
  · have hl' : ¬ (a.length : Int) = b.length := by omega
    have h : ¬ a = b := fun e => hl (by rw [e])
    rw [fn_run hL Tryz.func19 rfl L19 (by rfl) rfl rfl rfl (by decide)]
    simp [Tryz.f19, hl', h]
theorem rcopyU (a : List UInt8) (ha : a.length < 10000000000) : A.fn 23 [pv (lU a)] [] = some (.one (.at (.row pinN 0)), [some (rU a)]) := by
  have hlim : a.length * 2 ≤ 70368744177664 := by omega
  rw [fn_run hL Tryz.func23 rfl L23 (by rfl) rfl rfl rfl (by decide)]
  simp [Tryz.f23, hlim]
theorem requalZ (a b : List Int) (ha : a.length < 1000000000000) : A.fn 38 [pv (lZ a), pv (lZ b)] [] = some (.one (bv (decide (a = b))), []) := by
  by_cases hl : a.length = b.length
  · have h := lpAll (a.zip b) (fun p => decide (p.1 = p.2)) (f := 38) (id := 0) (fun i => hd38_0 [pv (lZ a), pv (lZ b), iv i] [])
      (some (.exit 0, ex38_0 [nov] [])) (some (.ret, ex38_0 [bv false] [])) (fun i hi => by
        have h1 : i < a.length := by rw [zip_len hl] at hi; exact hi
        have h2 : i < b.length := by omega
        have w6 : IntKind.i64.wrap ((i : Int) + 1) = i + 1 := wr _ (by omega) (by omega)
        rw [List.getElem_zip]
        rw [lp_run hL Tryz.func38 rfl (by rfl) 0 rfl]
        by_cases c : a[i] = b[i]
        · simp [h1, h2, c, w6]
        · simp [h1, h2, c, w6]) (by
        rw [zip_len hl]
        rw [lp_run hL Tryz.func38 rfl (by rfl) 0 rfl]
        simp [hl])
    rw [zip_all a b hl] at h
    rw [fn_run hL Tryz.func38 rfl L38 (by rfl) rfl rfl rfl (by decide)]
    by_cases c : a = b
    · subst c
      simp at h
      simp [Tryz.f38, h]
    · simp [c] at h
      simp [Tryz.f38, h, c, hl]
  · have hl' : ¬ (a.length : Int) = b.length := by omega
    have h : ¬ a = b := fun e => hl (by rw [e])
    rw [fn_run hL Tryz.func38 rfl L38 (by rfl) rfl rfl rfl (by decide)]
    simp [Tryz.f38, hl', h]
theorem rvecAt (v : List Int) (n : Int) (hv : v.length < 1000000000000) : A.fn 74 [pv (lZ v), iv n] [] = some (.one (iv (atV v n)), []) := by
  have h := lpAny (List.range v.length) (fun i => decide ((i : Int) = n) && decide (0 < v.getD i 0)) (f := 74) (id := 0) (fun i => hd74_0 [pv (lZ v), iv n, iv i] [])
      (some (.exit 0, ex74_0 [nov] [])) (some (.ret, ex74_0 [iv (atV v n)] [])) (fun i hi => by
        have h1 : i < v.length := by simpa using hi
        have w6 : IntKind.i64.wrap ((i : Int) + 1) = i + 1 := wr _ (by omega) (by omega)
        have g : v.getD i 0 = v[i] := by rw [List.getD_eq_getElem?_getD, List.getElem?_eq_getElem h1]; rfl
        rw [List.getElem_range, g]
        rw [lp_run hL Tryz.func74 rfl (by rfl) 0 rfl]
        by_cases c1 : (i : Int) = n
        · by_cases c2 : 0 < v[i]
          · have e : atV v n = v[i] := by
              subst c1
              unfold atV pos0
              rw [if_neg (by omega), Int.toNat_natCast, g, if_neg (by omega)]
            rw [e]
            subst c1
            simp [h1, c2, w6]
          · subst c1
            simp [h1, c2, w6, -Int.not_lt]
        · simp [h1, c1, w6]) (by
        rw [List.length_range]
        rw [lp_run hL Tryz.func74 rfl (by rfl) 0 rfl]
        simp)
  have e0 : ((List.range v.length).any fun i => decide ((i : Int) = n) && decide (0 < v.getD i 0)) = false → atV v n = 0 := by
    intro c
    unfold atV
    split
    · rfl
    · rename_i hn
      have := List.any_eq_false.1 c n.toNat (by rw [List.mem_range]; omega)
      simp only [Bool.and_eq_true, decide_eq_true_eq] at this
      unfold pos0
      split
      · rfl
      · omega
  cases c : (List.range v.length).any fun i => decide ((i : Int) = n) && decide (0 < v.getD i 0) with
  | true =>
    rw [c] at h
    simp at h
    rw [fn_run hL Tryz.func74 rfl L74 (by rfl) rfl rfl rfl (by decide)]
    simp [Tryz.f74, h]
  | false =>
    rw [c] at h
    rw [e0 c] at h ⊢
    simp at h
    rw [fn_run hL Tryz.func74 rfl L74 (by rfl) rfl rfl rfl (by decide)]
    simp [Tryz.f74, h]
theorem rvecTrim (v : List Int) (hv : v.length < 1000000000) : A.fn 151 [pv (lZ v)] [] = some (.one (pv (lZ (trimV v))), []) := by
  have h1 := lpGo (f := 151) (id := 0) v.length (fun i => hd151_0 [pv (lZ v), iv ((cutN v i : Int) - 1), iv i] []) (some (.exit 0, ex151_0 [pv (lZ v), iv ((cutN v v.length : Int) - 1)] [])) (fun i h1 => by
      have w6 : IntKind.i64.wrap ((i : Int) + 1) = i + 1 := wr _ (by omega) (by omega)
      have g : v.getD i 0 = v[i] := by rw [List.getD_eq_getElem?_getD, List.getElem?_eq_getElem h1]; rfl
      rw [cutN, g]
      rw [lp_run hL Tryz.func151 rfl (by rfl) 0 rfl]
      by_cases c : 0 < v[i]
      · rw [if_neg (by omega)]
        simp [h1, c, w6]
      · rw [if_pos (by omega)]
        simp [h1, c, w6, -Int.not_lt]) (by
      rw [lp_run hL Tryz.func151 rfl (by rfl) 0 rfl]
      simp)
  have hc := cutN_le v v.length
  have h2 := lpGo (f := 151) (id := 2) (cutN v v.length) (fun i => hd151_2 [pv (lZ v), iv ((cutN v v.length : Int) - 1), .at (.row 2000 0), iv i] [(2000, 0, some (rZ ((v.take i).map pos0)))])
      (some (.exit 2, ex151_2 [.at (.row 2000 0)] [(2000, 0, some (rZ (trimV v)))])) (fun i hi => by
      have h1 : i < v.length := by omega
      have h2 : (i : Int) ≤ (cutN v v.length : Int) - 1 := by omega
      have w6 : IntKind.i64.wrap ((i : Int) + 1) = i + 1 := wr _ (by omega) (by omega)
      have q := rvecAt v i (by omega)
      have e : atV v i = pos0 v[i] := by
        unfold atV
        rw [if_neg (by omega), Int.toNat_natCast, List.getD_eq_getElem?_getD, List.getElem?_eq_getElem h1]
        rfl
      rw [e] at q
      have hlim := lim_le (n := ((v.take i).map pos0).length) (by simp; omega)
      rw [List.take_succ_eq_append_getElem h1, List.map_append]
      generalize (v.take i).map pos0 = out at *
      rw [lp_run hL Tryz.func151 rfl (by rfl) 2 rfl]
      simp [h2, q, w6, hlim, rZ]) (by
      rw [lp_run hL Tryz.func151 rfl (by rfl) 2 rfl]
      have h2 : ¬ (cutN v v.length : Int) ≤ (cutN v v.length : Int) - 1 := by omega
      simp [h2, trimV, rZ])
  simp [rZ] at h1 h2
  simp [cutN] at h1
  rw [fn_run hL Tryz.func151 rfl L151 (by rfl) rfl rfl rfl (by decide)]
  simp [Tryz.f151, h1, h2]
end Go.E2.S
/-! The document's vectors: Lay, Same, Within, With; order: Ready, Next. -/
namespace Go.E2.S
open Go Go.E2 Go.RowKit Go.Proofs
set_option linter.unusedVariables false
set_option linter.unusedSimpArgs false
set_option maxHeartbeats 4000000
set_option maxRecDepth 10000
theorem range_snoc (g : Nat → Int) (i : Nat) : (List.range (i + 1)).map g = (List.range i).map g ++ [g i] := by rw [List.range_succ, List.map_append]; rfl
theorem rvecLay (up : Bool) (a b : List Int) (ha : a.length < 1000000000) (hb : b.length < 1000000000) : A.fn 110 [pv (lZ a), pv (lZ b), bv up] [] = some (.one (pv (lZ (layV up a b))), []) := by
  have h := lpGo (f := 110) (id := 0) (max a.length b.length) (fun i => hd110_0 [pv (lZ a), pv (lZ b), bv up, .at (.row 2000 0), iv i] [(2000, 0, some (rZ ((List.range i).map fun (i : Nat) => if up = true then max (atV a i) (atV b i) else min (atV a i) (atV b i))))])
      (some (.exit 0, ex110_0 [.at (.row 2000 0)] [(2000, 0, some (rZ ((List.range (max a.length b.length)).map fun (i : Nat) => if up = true then max (atV a i) (atV b i) else min (atV a i) (atV b i))))])) (fun i hi => by
      have w6 : IntKind.i64.wrap ((i : Int) + 1) = i + 1 := wr _ (by omega) (by omega)
      have q1 := rvecAt a i (by omega)
      have q2 := rvecAt b i (by omega)
      have hlim := lim_le (n := i) (by omega)
      rw [range_snoc]
      have hr : ((List.range i).map fun (i : Nat) => if up = true then max (atV a i) (atV b i) else min (atV a i) (atV b i)).length = i := by simp
      generalize ((List.range i).map fun (i : Nat) => if up = true then max (atV a i) (atV b i) else min (atV a i) (atV b i)) = out at *
      generalize atV a i = x at *
      generalize atV b i = y at *
      rw [lp_run hL Tryz.func110 rfl (by rfl) 0 rfl]
      by_cases c1 : i < a.length
      · cases up
        · by_cases c : x < y
          · have e : min x y = x := by omega
            simp [c1, q1, q2, c, w6, hr, hlim, rZ, e]
          · have e : min x y = y := by omega
            simp [c1, q1, q2, c, w6, hr, hlim, rZ, e, -Int.not_lt]
        · by_cases c : x < y
          · have e : max x y = y := by omega
            simp [c1, q1, q2, c, w6, hr, hlim, rZ, e]
          · have e : max x y = x := by omega
            simp [c1, q1, q2, c, w6, hr, hlim, rZ, e, -Int.not_lt]
      · have c2 : i < b.length := by omega
        cases up
        · by_cases c : x < y
          · have e : min x y = x := by omega
            simp [c1, c2, q1, q2, c, w6, hr, hlim, rZ, e]
          · have e : min x y = y := by omega
            simp [c1, c2, q1, q2, c, w6, hr, hlim, rZ, e, -Int.not_lt]
        · by_cases c : x < y
          · have e : max x y = y := by omega
            simp [c1, c2, q1, q2, c, w6, hr, hlim, rZ, e]
          · have e : max x y = x := by omega
            simp [c1, c2, q1, q2, c, w6, hr, hlim, rZ, e, -Int.not_lt]) (by
      have c1 : ¬ max a.length b.length < a.length := by omega
      have c2 : ¬ max a.length b.length < b.length := by omega
      generalize max a.length b.length = k at *
      rw [lp_run hL Tryz.func110 rfl (by rfl) 0 rfl]
      simp [c1, c2, rZ, -Nat.not_lt])
  have q := rvecTrim ((List.range (max a.length b.length)).map fun (i : Nat) => if up = true then max (atV a i) (atV b i) else min (atV a i) (atV b i)) (by simp; omega)
  unfold layV
  generalize ((List.range (max a.length b.length)).map fun (i : Nat) => if up = true then max (atV a i) (atV b i) else min (atV a i) (atV b i)) = r at *
  simp [rZ] at h
  rw [fn_run hL Tryz.func110 rfl L110 (by rfl) rfl rfl rfl (by decide)]
  simp [Tryz.f110, h, q]
theorem rvecSame (a b : List Int) (ha : a.length < 1000000000) (hb : b.length < 1000000000) : A.fn 196 [pv (lZ a), pv (lZ b)] [] = some (.one (bv (sameV a b)), []) := by
  have h := lpAll (List.range (max a.length b.length)) (fun i => decide (atV a i = atV b i)) (f := 196) (id := 0) (fun i => hd196_0 [pv (lZ a), pv (lZ b), iv i] [])
      (some (.exit 0, ex196_0 [nov] [])) (some (.ret, ex196_0 [bv false] [])) (fun i hi => by
        have hi : i < max a.length b.length := by simpa using hi
        have w6 : IntKind.i64.wrap ((i : Int) + 1) = i + 1 := wr _ (by omega) (by omega)
        have q1 := rvecAt a i (by omega)
        have q2 := rvecAt b i (by omega)
        rw [List.getElem_range]
        generalize atV a i = x at *
        generalize atV b i = y at *
        rw [lp_run hL Tryz.func196 rfl (by rfl) 0 rfl]
        by_cases c1 : i < a.length
        · by_cases c : x = y <;> simp [c1, q1, q2, c, w6]
        · have c2 : i < b.length := by omega
          by_cases c : x = y <;> simp [c1, c2, q1, q2, c, w6]) (by
        rw [List.length_range]
        have c1 : ¬ max a.length b.length < a.length := by omega
        have c2 : ¬ max a.length b.length < b.length := by omega
        generalize max a.length b.length = k at *
        rw [lp_run hL Tryz.func196 rfl (by rfl) 0 rfl]
        simp [c1, c2, rZ, -Nat.not_lt])
  unfold sameV
  cases c : (List.range (max a.length b.length)).all (fun i => decide (atV a i = atV b i)) with
  | true =>
    rw [c] at h
    simp at h
    rw [fn_run hL Tryz.func196 rfl L196 (by rfl) rfl rfl rfl (by decide)]
    simp [Tryz.f196, h]
  | false =>
    rw [c] at h
    simp at h
    rw [fn_run hL Tryz.func196 rfl L196 (by rfl) rfl rfl rfl (by decide)]
    simp [Tryz.f196, h]
theorem layV_len (up : Bool) (a b : List Int) : (layV up a b).length ≤ max a.length b.length := by
  unfold layV
  refine Nat.le_trans (trimV_len _) ?_
  simp
theorem rvecWithin (a b : List Int) (ha : a.length < 100000000) (hb : b.length < 100000000) : A.fn 130 [pv (lZ a), pv (lZ b)] [] = some (.one (bv (withinV a b)), []) := by
  have q1 := rvecLay true a b (by omega) (by omega)
  have hl := layV_len true a b
  have q2 := rvecSame (layV true a b) b (by omega) (by omega)
  rw [within_lay] at q2
  rw [fn_run hL Tryz.func130 rfl L130 (by rfl) rfl rfl rfl (by decide)]
  simp [Tryz.f130, q1, q2]
theorem rvecWith (v : List Int) (node n : Int) (hv : v.length < 100000000) : A.fn 161 [pv (lZ v), iv node, iv n] [] = some (.tup [pv (lZ (withV v node n)), iv (if badW node n = true then 1 else 0)], []) := by
  cases hb : badW node n with
  | true =>
    unfold withV
    rw [hb]
    simp only [badW, Bool.or_eq_true, decide_eq_true_eq] at hb
    rw [fn_run hL Tryz.func161 rfl L161 (by rfl) rfl rfl rfl (by decide)]
    by_cases c1 : node < 0
    · simp [Tryz.f161, c1]
    · by_cases c2 : 7 < node
      · simp [Tryz.f161, c1, c2, -Int.not_lt]
      · by_cases c3 : n < 0
        · simp [Tryz.f161, c1, c2, c3, -Int.not_lt]
        · have c4 : 1073741824 < n := by omega
          simp [Tryz.f161, c1, c2, c3, c4, -Int.not_lt]
  | false =>
    rw [with_lay hb]
    simp only [badW, Bool.or_eq_false_iff, decide_eq_false_iff_not] at hb
    obtain ⟨⟨⟨c1, c2⟩, c3⟩, c4⟩ := hb
    obtain ⟨m, rfl⟩ : ∃ m : Nat, node = m := ⟨node.toNat, by omega⟩
    have c2' : ¬ (7 : Int) < m := by omega
    have h := lpGo (f := 161) (id := 0) (max v.length (m + 1)) (fun i => hd161_0 [pv (lZ v), iv m, iv n, .at (.row 2000 0), iv i] [(2000, 0, some (rZ ((List.range i).map fun (i : Nat) => if (i : Int) = m then n else atV v i)))])
      (some (.exit 0, ex161_0 [.at (.row 2000 0)] [(2000, 0, some (rZ ((List.range (max v.length (m + 1))).map fun (i : Nat) => if (i : Int) = m then n else atV v i)))])) (fun i hi => by
      have w6 : IntKind.i64.wrap ((i : Int) + 1) = i + 1 := wr _ (by omega) (by omega)
      have q1 := rvecAt v i (by omega)
      have hlim := lim_le (n := i) (by omega)
      rw [range_snoc]
      have hr : ((List.range i).map fun (i : Nat) => if (i : Int) = m then n else atV v i).length = i := by simp
      generalize ((List.range i).map fun (i : Nat) => if (i : Int) = m then n else atV v i) = out at *
      generalize atV v i = x at *
      rw [lp_run hL Tryz.func161 rfl (by rfl) 0 rfl]
      by_cases g1 : i < v.length
      · by_cases c : i = m
        · subst c
          simp [g1, q1, w6, hr, hlim, rZ]
        · have c' : ¬ (i : Int) = m := by omega
          simp [g1, q1, c, c', w6, hr, hlim, rZ]
      · have k2 : i ≤ m := by omega
        by_cases c : i = m
        · subst c
          simp [g1, q1, w6, hr, hlim, rZ]
        · have c' : ¬ (i : Int) = m := by omega
          simp [g1, k2, q1, c, c', w6, hr, hlim, rZ]) (by
      have k1 : ¬ max v.length (m + 1) < v.length := by omega
      have k2 : ¬ max v.length (m + 1) ≤ m := by omega
      generalize max v.length (m + 1) = k at *
      rw [lp_run hL Tryz.func161 rfl (by rfl) 0 rfl]
      simp [k1, k2, rZ, -Nat.not_lt, -Nat.not_le])
    have q := rvecTrim ((List.range (max v.length (m + 1))).map fun (i : Nat) => if (i : Int) = m then n else atV v i) (by simp; omega)
    rw [Int.toNat_natCast]
    generalize ((List.range (max v.length (m + 1))).map fun (i : Nat) => if (i : Int) = m then n else atV v i) = r at *
    simp [rZ] at h
    rw [fn_run hL Tryz.func161 rfl L161 (by rfl) rfl rfl rfl (by decide)]
    simp [Tryz.f161, c1, c2', c3, c4, h, q, -Int.not_lt, -Int.not_le]
theorem rorderReady (v : List Int) (t : Txn) (h1 : t.f1 ≤ 9223372036854775807) (h2 : t.f2.length < 100000000) (h3 : v.length < 100000000) : A.fn 78 [pv (lZ v), ag (encT t)] [] = some (.one (bv (readyT v t)), []) := by
  have q1 := rvecAt v t.f0 (by omega)
  have q2 := rvecWithin t.f2 v h2 h3
  unfold readyT
  generalize atV v t.f0 = x at *
  generalize withinV t.f2 v = y at *
  rw [fn_run hL Tryz.func78 rfl L78 (by rfl) rfl rfl rfl (by decide)]
  by_cases c : 0 < t.f1
  · have w : IntKind.i64.wrap (t.f1 - 1) = t.f1 - 1 := wr _ (by omega) (by omega)
    have c1 : 1 ≤ t.f1 := by omega
    by_cases c2 : x = t.f1 - 1
    · have c3 : t.f1 - 1 = x := c2.symm
      have e3 := eq_true c3
      cases y <;> (simp [Tryz.f78, q1, q2, c, c1, c2, w]; try (rw [if_pos ?q]; (case q => kernel_rfl); simp [Tryz.f78, q1, q2, c, c1, c2, w]))
    · have c3 : ¬ t.f1 - 1 = x := fun e => c2 e.symm
      (simp [Tryz.f78, q1, q2, c, c1, c2, c3, w]; try (rw [if_pos ?q]; (case q => kernel_rfl); simp [Tryz.f78, q1, q2, c, c1, c2, c3, w]))
  · have c1 : ¬ 1 ≤ t.f1 := by omega
    (simp [Tryz.f78, q1, q2, c, c1, -Int.not_lt, -Int.not_le]; try (rw [if_pos ?q]; (case q => kernel_rfl); simp [Tryz.f78, q1, q2, c, c1, -Int.not_lt, -Int.not_le]))
theorem rorderNext (v : List Int) (t : Txn) (hv : v.length < 100000000) : A.fn 81 [pv (lZ v), ag (encT t)] [] = some (.one (pv (lZ (nextV v t))), []) := by
  have q1 := rvecWith v t.f0 t.f1 hv
  have q2 := rvecTrim v (by omega)
  unfold nextV
  cases c : badW t.f0 t.f1 with
  | true =>
    rw [c] at q1
    rw [fn_run hL Tryz.func81 rfl L81 (by rfl) rfl rfl rfl (by decide)]
    simp [Tryz.f81, q1, q2]
  | false =>
    rw [c] at q1
    rw [fn_run hL Tryz.func81 rfl L81 (by rfl) rfl rfl rfl (by decide)]
    simp [Tryz.f81, q1, q2]
end Go.E2.S
