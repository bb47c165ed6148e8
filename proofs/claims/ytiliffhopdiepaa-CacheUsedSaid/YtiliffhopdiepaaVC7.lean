/- Chapter 21: the layer is awake; CacheOldest. -/
import Derived.Test.YtiliffhopdiepaaVC6
import Derived.Test.YtiliffhopdiepaaVF3
namespace Go.E2.S
open Go Go.E2 Go.RowKit Go.Proofs
set_option linter.unusedVariables false
set_option linter.unusedSimpArgs false
set_option maxHeartbeats 4000000
set_option maxRecDepth 10000
def tA : ByteArray := ⟨#[97]⟩
def tB : ByteArray := ⟨#[98]⟩
def iA : Item := ⟨tA, ⟨#[]⟩, 1, ⟨#[120]⟩, 0, ⟨0, 1, 0⟩⟩
def iB : Item := ⟨tB, ⟨#[]⟩, 1, ⟨#[120]⟩, 0, ⟨0, 2, 0⟩⟩
def iX (k : ByteArray) : Item := ⟨k, ⟨#[]⟩, 1, ⟨#[121]⟩, 0, ⟨0, 3, 0⟩⟩
theorem norm_AB : normL [iA, iB] = [iA, iB] := normL_self (by unfold UpI; decide)
theorem norm_ABX : normL [iA, iB, iX tB] = [iA, iB, iX tB] := normL_self (by unfold UpI; decide)
theorem norm_ABY : normL [iA, iB, iX tA] = [iA, iX tA, iB] := by
  rw [normL_congr (m := [iA, iX tA, iB]) (fun x => by simp only [List.mem_cons, List.not_mem_nil, or_false]; constructor <;> (rintro (h | h | h) <;> simp [h]))]
  exact normL_self (by unfold UpI; decide)
theorem keys_ab {l : List Item} (h : ∀ x, x ∈ l.map Item.f0 ↔ x ∈ [tA, tB]) : keysL l = [tA, tB] := by
  unfold keysL
  rw [onceL_congr h]
  exact onceL_self (by unfold Up; decide)
theorem keys_AB : keysL [iA, iB] = [tA, tB] := keys_ab fun x => Iff.rfl
theorem keys_ABX : keysL [iA, iB, iX tB] = [tA, tB] := keys_ab fun x => by
  show x ∈ [tA, tB, tB] ↔ _
  simp only [List.mem_cons, List.not_mem_nil, or_false]
  constructor
  · rintro (h | h | h) <;> simp [h]
  · rintro (h | h) <;> simp [h]
theorem keys_ABY : keysL [iA, iX tA, iB] = [tA, tB] := keys_ab fun x => by
  show x ∈ [tA, tA, tB] ↔ _
  simp only [List.mem_cons, List.not_mem_nil, or_false]
  constructor
  · rintro (h | h | h) <;> simp [h]
  · rintro (h | h) <;> simp [h]
theorem newInv (b : Int) : InvC (newL b) := by
  unfold newL
  split <;> exact ⟨List.Pairwise.nil, List.nodup_nil, fun k => by simp, List.Pairwise.nil, fun x hx => by simp at hx, fun x hx => by simp at hx⟩
theorem newLen (b : Int) : Len (newL b) 0 0 := by
  unfold newL
  split <;> exact ⟨Nat.le_refl _, Nat.le_refl _, Nat.le_refl _⟩
def c0A : Cac := ⟨[iB], [tB], [tA], 30⟩
theorem load_awake : loadL (newL 30) [iA, iB] [] = c0A := by
  unfold loadL
  rw [norm_AB, keys_AB]
  decide
theorem awake21 : A.fn 7 [] [] = some (.one (bv true), []) := by
  have q1 := newC 30
  rw [show badC 30 = false by decide] at q1
  have q2 := loadC (newL 30) [iA, iB] [] (newInv 30) (by decide) (by decide) (by decide) (by decide) (by decide) (by decide)
  rw [load_awake] at q2
  have q3 := getC c0A tA (by decide) (by decide)
  rw [show getL c0A tA = [] by decide, show inS c0A.f2 tA = true by decide] at q3
  have q4 := same08 [tB] [tB] (by decide)
  rw [show newL 30 = ⟨[], [], [], 30⟩ by decide] at q1 q2
  rw [fn_run hL Try.func7 rfl L7 (by rfl) rfl rfl rfl (by decide)]
  simp [ag, encC, lI, lS, encI, c0A, iA, iB, tA, tB] at q1 q2 q3 q4
  simp [Try.f7, -seqK.eq_2, -finK.eq_3, -turnK.eq_2, -condK.eq_3, -ex_region, -ex_drawn, -drawK.eq_1, -drawK.eq_2, -ops_cons, -pure_cons, -up_cons, -upC.eq_1, -absPick, ex_regionL, ex_drawnL, drawK_p, drawK_u, ops_gT, pure_gT, up_gT, upR_eq, gT_n, gT_s, gU_s, gX_1, gX_0, gX_t, gW_tt, gW_ff, gW_tf, gW_ft, pick_val, pkD_t, pkD_f, seqK_x, seqK_r, turnK_x, turnK_r, seqK_br, blkK_br, turnK_br, finK_br, regK_br, upC_br, meet_n, meet_e, meet_st, meet_eff, meet_b, meet_i, meet_s, mgL_cons, mgL_nil, q1, q2, q3, q4]
def c1A : Cac := ⟨[iA, iB], [tA, tB], [], 52⟩
theorem load_old : loadL (newL 52) [iA, iB] [] = c1A := by
  unfold loadL
  rw [norm_AB, keys_AB]
  decide
def c1B : Cac := ⟨[iA, iB], [tB, tA], [], 52⟩
theorem use_a : useL c1A tA = c1B := by decide
theorem use_b : useL c1A tB = c1A := by decide
theorem chg_b : changeL c1A [iA, iB, iX tB] [] = ⟨[iB, iX tB], [tB], [tA], 52⟩ := by
  have e : leftL c1A [iA, iB, iX tB] = [iA, iB, iX tB] := by unfold leftL; rw [norm_ABX]; decide
  unfold changeL
  rw [e, keys_ABX]
  decide
theorem chg_a : changeL c1B [iA, iB, iX tA] [] = ⟨[iA, iX tA], [tA], [tB], 52⟩ := by
  have e : leftL c1B [iA, iB, iX tA] = [iA, iX tA, iB] := by unfold leftL; rw [norm_ABY]; decide
  unfold changeL
  rw [e, keys_ABY]
  decide
theorem oldest (b : Bool) : A.fn 3 [bv b] [] = some (.one (bv true), []) := by
  have q0 := awake21
  have q1 := newC 52
  rw [show badC 52 = false by decide] at q1
  have q2 := loadC (newL 52) [iA, iB] [] (newInv 52) (by decide) (by decide) (by decide) (by decide) (by decide) (by decide)
  have i1 := InvC.load (newInv 52) (l := [iA, iB]) (by decide) []
  rw [load_old] at q2 i1
  rw [show newL 52 = ⟨[], [], [], 52⟩ by decide] at q1 q2
  have q5 := copy09 [iA, iB] (by decide)
  cases b with
  | true =>
    have q3 := useC c1A tA (by decide) (by decide) (by decide)
    rw [use_a] at q3
    have i2 := i1.use tA
    rw [use_a] at i2
    have q4 := changeC c1B [iA, iB, iX tA] [] i2 (by decide) (by decide) (by decide) (by decide) (by decide) (by decide)
    rw [chg_a] at q4
    have q6 := same08 [tA] [tA] (by decide)
    rw [fn_run hL Try.func3 rfl L3 (by rfl) rfl rfl rfl (by decide)]
    simp [ag, encC, lI, lS, encI, c1A, c1B, iA, iB, iX, tA, tB] at q1 q2 q3 q4 q5 q6
    simp [Try.f3, -seqK.eq_2, -finK.eq_3, -turnK.eq_2, -condK.eq_3, -ex_region, -ex_drawn, -drawK.eq_1, -drawK.eq_2, -ops_cons, -pure_cons, -up_cons, -upC.eq_1, -absPick, ex_regionL, ex_drawnL, drawK_p, drawK_u, ops_gT, pure_gT, up_gT, upR_eq, gT_n, gT_s, gU_s, gX_1, gX_0, gX_t, gW_tt, gW_ff, gW_tf, gW_ft, pick_val, pkD_t, pkD_f, seqK_x, seqK_r, turnK_x, turnK_r, seqK_br, blkK_br, turnK_br, finK_br, regK_br, upC_br, meet_n, meet_e, meet_st, meet_eff, meet_b, meet_i, meet_s, mgL_cons, mgL_nil, q0, q1, q2, q3, q4, q5, q6]
    repeat (rw [upC_ok ?q]; case q => kernel_rfl)
    simp [Try.f3, -seqK.eq_2, -finK.eq_3, -turnK.eq_2, -condK.eq_3, -ex_region, -ex_drawn, -drawK.eq_1, -drawK.eq_2, -ops_cons, -pure_cons, -up_cons, -upC.eq_1, -absPick, ex_regionL, ex_drawnL, drawK_p, drawK_u, ops_gT, pure_gT, up_gT, upR_eq, gT_n, gT_s, gU_s, gX_1, gX_0, gX_t, gW_tt, gW_ff, gW_tf, gW_ft, pick_val, pkD_t, pkD_f, seqK_x, seqK_r, turnK_x, turnK_r, seqK_br, blkK_br, turnK_br, finK_br, regK_br, upC_br, meet_n, meet_e, meet_st, meet_eff, meet_b, meet_i, meet_s, mgL_cons, mgL_nil, q0, q1, q2, q3, q4, q5, q6]
  | false =>
    have q3 := useC c1A tB (by decide) (by decide) (by decide)
    rw [use_b] at q3
    have q4 := changeC c1A [iA, iB, iX tB] [] i1 (by decide) (by decide) (by decide) (by decide) (by decide) (by decide)
    rw [chg_b] at q4
    have q6 := same08 [tB] [tB] (by decide)
    rw [fn_run hL Try.func3 rfl L3 (by rfl) rfl rfl rfl (by decide)]
    simp [ag, encC, lI, lS, encI, c1A, iA, iB, iX, tA, tB] at q1 q2 q3 q4 q5 q6
    simp [Try.f3, -seqK.eq_2, -finK.eq_3, -turnK.eq_2, -condK.eq_3, -ex_region, -ex_drawn, -drawK.eq_1, -drawK.eq_2, -ops_cons, -pure_cons, -up_cons, -upC.eq_1, -absPick, ex_regionL, ex_drawnL, drawK_p, drawK_u, ops_gT, pure_gT, up_gT, upR_eq, gT_n, gT_s, gU_s, gX_1, gX_0, gX_t, gW_tt, gW_ff, gW_tf, gW_ft, pick_val, pkD_t, pkD_f, seqK_x, seqK_r, turnK_x, turnK_r, seqK_br, blkK_br, turnK_br, finK_br, regK_br, upC_br, meet_n, meet_e, meet_st, meet_eff, meet_b, meet_i, meet_s, mgL_cons, mgL_nil, q0, q1, q2, q3, q4, q5, q6]
    repeat (rw [upC_ok ?q]; case q => kernel_rfl)
    simp [Try.f3, -seqK.eq_2, -finK.eq_3, -turnK.eq_2, -condK.eq_3, -ex_region, -ex_drawn, -drawK.eq_1, -drawK.eq_2, -ops_cons, -pure_cons, -up_cons, -upC.eq_1, -absPick, ex_regionL, ex_drawnL, drawK_p, drawK_u, ops_gT, pure_gT, up_gT, upR_eq, gT_n, gT_s, gU_s, gX_1, gX_0, gX_t, gW_tt, gW_ff, gW_tf, gW_ft, pick_val, pkD_t, pkD_f, seqK_x, seqK_r, turnK_x, turnK_r, seqK_br, blkK_br, turnK_br, finK_br, regK_br, upC_br, meet_n, meet_e, meet_st, meet_eff, meet_b, meet_i, meet_s, mgL_cons, mgL_nil, q0, q1, q2, q3, q4, q5, q6]
end Go.E2.S
