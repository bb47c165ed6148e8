/- VWa: VW1, VW2, VW3, VW4, VW5, VW6. -/
import Derived.Test.YtiliffhopdiepaaGreatVBa
import Derived.Test.YtiliffhopdiepaaGreatVTa
import Derived.Test.YtiliffhopdiepaaGreatVTc
/-! Writers: msg.writer.num, text, vec, zone; txn.Put's closures. -/
namespace Go.E2.S
open Go Go.E2 Go.RowKit Go.Proofs
set_option linter.unusedVariables false
set_option linter.unusedSimpArgs false
set_option maxHeartbeats 4000000
set_option maxRecDepth 10000
abbrev bB (b : List UInt8) : AObj := .blk [.pv (lU b)]
theorem putL_len (b : List UInt8) (n : Int) : (putL b n).length ≤ b.length + 8 := by
  unfold putL
  split
  · simp
  · have := numF_len 7 n.toNat
    simp [numB]
    omega
theorem puts_len : ∀ (l : List Int) (b : List UInt8), (l.foldl putL b).length ≤ b.length + 8 * l.length
  | [], b => by simp
  | x :: l, b => by
    have h1 := puts_len l (putL b x)
    have h2 := putL_len b x
    simp only [List.foldl_cons, List.length_cons]
    omega
/-- A writer behind a call: its bytes are a row of its own, but if nothing was written. -/
abbrev oB (b : List UInt8) : List (Option AObj) := [some (.blk [.row (pinN + 1) 0]), some (rU b)]
abbrev uB (b : List UInt8) : List Upd := [(pinN, 0, some (.blk [.row 2001 0])), (2001, 0, some (rU b))]
theorem wnum_loop (l : List Int) (hl : l.length < 1000000) (n : Nat) : ∀ (i : Nat) (b : List UInt8), l.length = i + n → b.length + 8 * n < 1000000000 →
    A.lp 55 0 (hd55_0 [.at (.ptr pinN 0 0), pv (lZ l), iv l.length, iv i] (uB b)) = some (.exit 0, ex55_0 [.at (.ptr pinN 0 0)] (uB ((l.drop i).foldl putL b))) := by
  induction n with
  | zero =>
    intro i b hi hb
    rw [lp_run hL Tryz.func55 rfl (by rfl) 0 rfl]
    obtain rfl : i = l.length := by omega
    simp
  | succ n ih =>
    intro i b hi hb
    have h2 : i < l.length := by omega
    have hp := putL_len b l[i]
    have ih := ih (i + 1) (putL b l[i]) (by omega) (by omega)
    have w6 : IntKind.i64.wrap ((i : Int) + 1) = i + 1 := wr _ (by omega) (by omega)
    have q1 := putNum b l[i] (by omega)
    rw [List.drop_eq_getElem_cons h2, List.foldl_cons]
    generalize putL b l[i] = b2 at *
    simp [rU] at q1
    rw [lp_run hL Tryz.func55 rfl (by rfl) 0 rfl]
    simp [h2, q1, w6]
    simp at ih
    exact ih
theorem wnum_loop0 (x : Int) (l : List Int) (hl : l.length + 1 < 1000000) (b : List UInt8) (hb : b.length + 8 * (l.length + 1) < 1000000000) :
    A.lp 55 0 (hd55_0 [.at (.ptr pinN 0 0), pv (lZ (x :: l)), iv ((x :: l).length), iv 0] [(pinN, 0, some (bB b))]) = some (.exit 0, ex55_0 [.at (.ptr pinN 0 0)] (uB (l.foldl putL (putL b x)))) := by
  have hp := putL_len b x
  have ih := wnum_loop (x :: l) (by simp; omega) l.length 1 (putL b x) (by simp; omega) (by omega)
  have w6 : IntKind.i64.wrap (1 : Int) = 1 := wr _ (by omega) (by omega)
  have q1 := putNum b x (by omega)
  rw [List.drop_succ_cons, List.drop_zero] at ih
  generalize putL b x = b2 at *
  simp [rU] at q1
  rw [lp_run hL Tryz.func55 rfl (by rfl) 0 rfl]
  simp [q1, w6]
  simp at ih
  exact ih
theorem wNum (x : Int) (l : List Int) (b : List UInt8) (hl : l.length + 1 < 1000000) (hb : b.length + 8 * (l.length + 1) < 1000000000) :
    A.fn 55 [.at (.ptr pinN 0 0), pv (lZ (x :: l))] [bB b] = some (.tup [], oB ((x :: l).foldl putL b)) := by
  have h := wnum_loop0 x l hl b hb
  simp at h
  rw [fn_run hL Tryz.func55 rfl L55 (by rfl) rfl rfl rfl (by decide)]
  simp [Tryz.f55, h]
theorem wNum0 (b : List UInt8) : A.fn 55 [.at (.ptr pinN 0 0), pv (lZ [])] [bB b] = some (.tup [], [some (bB b)]) := by
  have h : A.lp 55 0 (hd55_0 [.at (.ptr pinN 0 0), pv (lZ []), iv 0, iv 0] [(pinN, 0, some (bB b))]) = some (.exit 0, ex55_0 [.at (.ptr pinN 0 0)] [(pinN, 0, some (bB b))]) := by
    rw [lp_run hL Tryz.func55 rfl (by rfl) 0 rfl]
    simp
  simp at h
  rw [fn_run hL Tryz.func55 rfl L55 (by rfl) rfl rfl rfl (by decide)]
  simp [Tryz.f55, h]
theorem wText (s : ByteArray) (b : List UInt8) (hb : b.length < 100000000) :
    A.fn 58 [.at (.ptr pinN 0 0), sv s] [bB b] = some (.tup [], oB (putT b s)) := by
  have q := putText b s hb
  simp [rU] at q
  rw [fn_run hL Tryz.func58 rfl L58 (by rfl) rfl rfl rfl (by decide)]
  simp [Tryz.f58, q]
def wV (b : List UInt8) (v : List Int) : List UInt8 := v.foldl putL (putL b v.length)
theorem wVecN (b : List UInt8) (hb : b.length + 16 < 1000000000) :
    A.fn 56 [.at (.ptr pinN 0 0), pv (lZ [])] [bB b] = some (.tup [], [some (bB (wV b []))]) := by
  have hp := putL_len b 0
  have q1 := wNum 0 [] b (by simp) (by simp; omega)
  unfold wV
  simp only [List.foldl_cons, List.foldl_nil, List.length_nil] at q1 ⊢
  show _ = some (AV.tup [], [some (bB (putL b 0))])
  generalize putL b 0 = b2 at *
  have q2 := wNum0 b2
  simp [rU, lZ, encZ] at q1
  rw [fn_run hL Tryz.func56 rfl L56 (by rfl) rfl rfl rfl (by decide)]
  simp [Tryz.f56, q1, q2]
theorem wVecC (x : Int) (l : List Int) (b : List UInt8) (hl : l.length + 2 < 1000000) (hb : b.length + 8 * (l.length + 3) < 1000000000) :
    A.fn 56 [.at (.ptr pinN 0 0), pv (lZ (x :: l))] [bB b] = some (.tup [], oB (wV b (x :: l))) := by
  have hp := putL_len b (x :: l).length
  have q1 := wNum (x :: l).length [] b (by simp) (by simp; omega)
  unfold wV
  simp only [List.foldl_cons, List.foldl_nil] at q1 ⊢
  generalize putL b (x :: l).length = b2 at *
  have q2 := wNum x l b2 (by omega) (by omega)
  simp [rU] at q2
  simp [lZ, encZ] at q1
  rw [fn_run hL Tryz.func56 rfl L56 (by rfl) rfl rfl rfl (by decide)]
  simp [Tryz.f56, q1, q2]
def wZ (b : List UInt8) (z : List ByteArray) : List UInt8 := z.foldl putT (putL b z.length)
theorem putT_len (b : List UInt8) (s : ByteArray) : (putT b s).length ≤ b.length + 65544 := by
  unfold putT
  split
  · simp
  · have := numF_len 7 s.size
    have : (bl s).length = s.size := by simp [bl]
    simp only [List.length_append, numB]
    omega
theorem wzone_loop (z : List ByteArray) (hl : z.length < 1000000) (n : Nat) : ∀ (i : Nat) (b : List UInt8), z.length = i + n → b.length + 65544 * n < 100000000 →
    A.lp 57 0 (hd57_0 [.at (.ptr pinN 0 0), pv (lS z), iv z.length, iv i] (uB b)) = some (.exit 0, ex57_0 [.at (.ptr pinN 0 0)] (uB ((z.drop i).foldl putT b))) := by
  induction n with
  | zero =>
    intro i b hi hb
    rw [lp_run hL Tryz.func57 rfl (by rfl) 0 rfl]
    obtain rfl : i = z.length := by omega
    simp
  | succ n ih =>
    intro i b hi hb
    have h2 : i < z.length := by omega
    have hp := putT_len b z[i]
    have ih := ih (i + 1) (putT b z[i]) (by omega) (by omega)
    have w6 : IntKind.i64.wrap ((i : Int) + 1) = i + 1 := wr _ (by omega) (by omega)
    have q1 := wText z[i] b (by omega)
    rw [List.drop_eq_getElem_cons h2, List.foldl_cons]
    generalize putT b z[i] = b2 at *
    simp [rU] at q1
    rw [lp_run hL Tryz.func57 rfl (by rfl) 0 rfl]
    simp [h2, q1, w6]
    simp at ih
    exact ih
theorem wZone (z : List ByteArray) (b : List UInt8) (hl : z.length < 1000000) (hb : b.length + 8 + 65544 * z.length < 100000000) :
    A.fn 57 [.at (.ptr pinN 0 0), pv (lS z)] [bB b] = some (.tup [], oB (wZ b z)) := by
  have hp := putL_len b z.length
  have q1 := wNum z.length [] b (by simp) (by simp; omega)
  have h := wzone_loop z hl z.length 0 (putL b z.length) (by omega) (by omega)
  unfold wZ
  rw [List.drop_zero] at h
  simp only [List.foldl_cons, List.foldl_nil] at q1 h
  generalize putL b z.length = b2 at *
  simp [lZ, encZ] at q1
  simp [rU] at h
  rw [fn_run hL Tryz.func57 rfl L57 (by rfl) rfl rfl rfl (by decide)]
  simp [Tryz.f57, q1, h]
theorem p1_loop (l : List Int) (hl : l.length < 1000000) (n : Nat) : ∀ (i : Nat) (b : List UInt8), l.length = i + n → b.length + 8 * n < 1000000000 →
    A.lp 137 0 (hd137_0 [.at (.ptr pinN 0 0), pv (lZ l), iv l.length, iv i] (uB b)) = some (.exit 0, ex137_0 [.at (.ptr pinN 0 0)] (uB ((l.drop i).foldl putL b))) := by
  induction n with
  | zero =>
    intro i b hi hb
    rw [lp_run hL Tryz.func137 rfl (by rfl) 0 rfl]
    obtain rfl : i = l.length := by omega
    simp
  | succ n ih =>
    intro i b hi hb
    have h2 : i < l.length := by omega
    have hp := putL_len b l[i]
    have ih := ih (i + 1) (putL b l[i]) (by omega) (by omega)
    have w6 : IntKind.i64.wrap ((i : Int) + 1) = i + 1 := wr _ (by omega) (by omega)
    have q1 := putNum b l[i] (by omega)
    rw [List.drop_eq_getElem_cons h2, List.foldl_cons]
    generalize putL b l[i] = b2 at *
    simp [rU] at q1
    rw [lp_run hL Tryz.func137 rfl (by rfl) 0 rfl]
    simp [h2, q1, w6]
    simp at ih
    exact ih
theorem p1_loop0 (x : Int) (l : List Int) (hl : l.length + 1 < 1000000) (b : List UInt8) (hb : b.length + 8 * (l.length + 1) < 1000000000) :
    A.lp 137 0 (hd137_0 [.at (.ptr pinN 0 0), pv (lZ (x :: l)), iv ((x :: l).length), iv 0] [(pinN, 0, some (bB b))]) = some (.exit 0, ex137_0 [.at (.ptr pinN 0 0)] (uB (l.foldl putL (putL b x)))) := by
  have hp := putL_len b x
  have ih := p1_loop (x :: l) (by simp; omega) l.length 1 (putL b x) (by simp; omega) (by omega)
  have w6 : IntKind.i64.wrap (1 : Int) = 1 := wr _ (by omega) (by omega)
  have q1 := putNum b x (by omega)
  rw [List.drop_succ_cons, List.drop_zero] at ih
  generalize putL b x = b2 at *
  simp [rU] at q1
  rw [lp_run hL Tryz.func137 rfl (by rfl) 0 rfl]
  simp [q1, w6]
  simp at ih
  exact ih
theorem tNum (x : Int) (l : List Int) (b : List UInt8) (hl : l.length + 1 < 1000000) (hb : b.length + 8 * (l.length + 1) < 1000000000) :
    A.fn 137 [pv (lZ (x :: l)), .at (.ptr pinN 0 0)] [bB b] = some (.tup [], oB ((x :: l).foldl putL b)) := by
  have h := p1_loop0 x l hl b hb
  simp at h
  rw [fn_run hL Tryz.func137 rfl L137 (by rfl) rfl rfl rfl (by decide)]
  simp [Tryz.f137, h]
theorem tNum0 (b : List UInt8) : A.fn 137 [pv (lZ []), .at (.ptr pinN 0 0)] [bB b] = some (.tup [], [some (bB b)]) := by
  have h : A.lp 137 0 (hd137_0 [.at (.ptr pinN 0 0), pv (lZ []), iv 0, iv 0] [(pinN, 0, some (bB b))]) = some (.exit 0, ex137_0 [.at (.ptr pinN 0 0)] [(pinN, 0, some (bB b))]) := by
    rw [lp_run hL Tryz.func137 rfl (by rfl) 0 rfl]
    simp
  simp at h
  rw [fn_run hL Tryz.func137 rfl L137 (by rfl) rfl rfl rfl (by decide)]
  simp [Tryz.f137, h]
theorem tText (s : ByteArray) (b : List UInt8) (hb : b.length < 100000000) :
    A.fn 138 [sv s, .at (.ptr pinN 0 0)] [bB b] = some (.tup [], oB (putT b s)) := by
  have q := putText b s hb
  simp [rU] at q
  rw [fn_run hL Tryz.func138 rfl L138 (by rfl) rfl rfl rfl (by decide)]
  simp [Tryz.f138, q]
end Go.E2.S
/-! txn.Put. -/
namespace Go.E2.S
open Go Go.E2 Go.RowKit Go.Proofs
set_option linter.unusedVariables false
set_option linter.unusedSimpArgs false
set_option maxHeartbeats 4000000
set_option maxRecDepth 10000
def dropB (b : List UInt8) (d : Dot) : List UInt8 := [d.f0, d.f1, d.f2].foldl putL b
def effB (b : List UInt8) (e : Eff) : List UInt8 := e.f6.foldl dropB (putL (putT (putL (putT (putT (putL b e.f0) e.f1) e.f2) e.f3) e.f4 ++ intL e.f5) e.f6.length)
def txnB (b : List UInt8) (t : Txn) : List UInt8 := t.f3.foldl effB (putL (t.f2.foldl putL ([t.f0, t.f1, t.f2.length].foldl putL b)) t.f3.length)
/- Txn.Put's closures where the captured bytes are a row of the caller's own. -/
abbrev fU (a : List UInt8) : AObj := .row false 1 (a.map encU)
abbrev oB2 (a b : List UInt8) : List (Option AObj) := [some (fU a), some (.blk [.row (pinN + 2) 0]), some (rU b)]
abbrev uB2 (a b : List UInt8) : List Upd := [(pinN, 0, some (fU a)), (pinN + 1, 0, some (.blk [.row 2002 0])), (2002, 0, some (rU b))]
theorem tText2 (s : ByteArray) (b : List UInt8) (hb : b.length < 100000000) :
    A.fn 138 [sv s, .at (.ptr (pinN + 1) 0 0)] [rU b, .blk [.row pinN 0]] = some (.tup [], oB2 b (putT b s)) := by
  have q := putText b s hb
  simp [rU] at q
  rw [fn_run hL Tryz.func138 rfl L138 (by rfl) rfl rfl rfl (by decide)]
  simp [Tryz.f138, q]
theorem p1_loop2 (a : List UInt8) (l : List Int) (hl : l.length < 1000000) (n : Nat) : ∀ (i : Nat) (b : List UInt8), l.length = i + n → b.length + 8 * n < 1000000000 →
    A.lp 137 0 (hd137_0 [.at (.ptr (pinN + 1) 0 0), pv (lZ l), iv l.length, iv i] (uB2 a b)) = some (.exit 0, ex137_0 [.at (.ptr (pinN + 1) 0 0)] (uB2 a ((l.drop i).foldl putL b))) := by
  induction n with
  | zero =>
    intro i b hi hb
    rw [lp_run hL Tryz.func137 rfl (by rfl) 0 rfl]
    obtain rfl : i = l.length := by omega
    simp
  | succ n ih =>
    intro i b hi hb
    have h2 : i < l.length := by omega
    have hp := putL_len b l[i]
    have ih := ih (i + 1) (putL b l[i]) (by omega) (by omega)
    have w6 : IntKind.i64.wrap ((i : Int) + 1) = i + 1 := wr _ (by omega) (by omega)
    have q1 := putNum b l[i] (by omega)
    rw [List.drop_eq_getElem_cons h2, List.foldl_cons]
    generalize putL b l[i] = b2 at *
    simp [rU] at q1
    rw [lp_run hL Tryz.func137 rfl (by rfl) 0 rfl]
    simp [h2, q1, w6]
    simp at ih
    exact ih
theorem p1_loop20 (x : Int) (l : List Int) (hl : l.length + 1 < 1000000) (b : List UInt8) (hb : b.length + 8 * (l.length + 1) < 1000000000) :
    A.lp 137 0 (hd137_0 [.at (.ptr (pinN + 1) 0 0), pv (lZ (x :: l)), iv ((x :: l).length), iv 0] [(pinN, 0, some (rU b)), (pinN + 1, 0, some (.blk [.row pinN 0]))]) = some (.exit 0, ex137_0 [.at (.ptr (pinN + 1) 0 0)] (uB2 b (l.foldl putL (putL b x)))) := by
  have hp := putL_len b x
  have ih := p1_loop2 b (x :: l) (by simp; omega) l.length 1 (putL b x) (by simp; omega) (by omega)
  have w6 : IntKind.i64.wrap (1 : Int) = 1 := wr _ (by omega) (by omega)
  have q1 := putNum b x (by omega)
  rw [List.drop_succ_cons, List.drop_zero] at ih
  generalize putL b x = b2 at *
  simp [rU] at q1
  rw [lp_run hL Tryz.func137 rfl (by rfl) 0 rfl]
  simp [q1, w6]
  simp at ih
  exact ih
theorem tNum2 (x : Int) (l : List Int) (b : List UInt8) (hl : l.length + 1 < 1000000) (hb : b.length + 8 * (l.length + 1) < 1000000000) :
    A.fn 137 [pv (lZ (x :: l)), .at (.ptr (pinN + 1) 0 0)] [rU b, .blk [.row pinN 0]] = some (.tup [], oB2 b ((x :: l).foldl putL b)) := by
  have h := p1_loop20 x l hl b hb
  simp at h
  rw [fn_run hL Tryz.func137 rfl L137 (by rfl) rfl rfl rfl (by decide)]
  simp [Tryz.f137, h]
theorem tNum20 (b : List UInt8) : A.fn 137 [pv (lZ []), .at (.ptr (pinN + 1) 0 0)] [rU b, .blk [.row pinN 0]] = some (.tup [], [some (rU b), some (.blk [.row pinN 0])]) := by
  have h : A.lp 137 0 (hd137_0 [.at (.ptr (pinN + 1) 0 0), pv (lZ []), iv 0, iv 0] [(pinN, 0, some (rU b)), (pinN + 1, 0, some (.blk [.row pinN 0]))]) = some (.exit 0, ex137_0 [.at (.ptr (pinN + 1) 0 0)] [(pinN, 0, some (rU b)), (pinN + 1, 0, some (.blk [.row pinN 0]))]) := by
    rw [lp_run hL Tryz.func137 rfl (by rfl) 0 rfl]
    simp
  simp at h
  rw [fn_run hL Tryz.func137 rfl L137 (by rfl) rfl rfl rfl (by decide)]
  simp [Tryz.f137, h]
theorem put_l2 (e : Eff) (r : List Eff) (j : Nat) (hl : e.f6.length < 1000000) (n : Nat) : ∀ (i : Nat) (b : List UInt8), e.f6.length = i + n → b.length + 24 * n < 1000000000 →
    A.lp 60 2 (hd60_2 [.at (.ptr 2000 0 0), .at (.ptr 2000 0 (cloN * (137 + 2))), .at (.ptr 2000 0 (cloN * (138 + 2))), pv (lE r), iv r.length, iv j, pv (lD e.f6), iv e.f6.length, iv i] [(2000, 0, some (bB b))]) =
      some (.exit 2, ex60_2 [.at (.ptr 2000 0 0), .at (.ptr 2000 0 (cloN * (137 + 2))), .at (.ptr 2000 0 (cloN * (138 + 2))), pv (lE r), iv r.length, iv j] [(2000, 0, some (bB ((e.f6.drop i).foldl dropB b)))]) := by
  induction n with
  | zero =>
    intro i b hi hb
    rw [lp_run hL Tryz.func60 rfl (by rfl) 2 rfl]
    obtain rfl : i = e.f6.length := by omega
    simp
  | succ n ih =>
    intro i b hi hb
    have h2 : i < e.f6.length := by omega
    have hp := puts_len [e.f6[i].f0, e.f6[i].f1, e.f6[i].f2] b
    simp only [List.length_cons, List.length_nil] at hp
    have hdr : dropB b e.f6[i] = [e.f6[i].f0, e.f6[i].f1, e.f6[i].f2].foldl putL b := rfl
    have ih := ih (i + 1) (dropB b e.f6[i]) (by omega) (by rw [hdr]; omega)
    have w6 : IntKind.i64.wrap ((i : Int) + 1) = i + 1 := wr _ (by omega) (by omega)
    have q1 := tNum e.f6[i].f0 [e.f6[i].f1, e.f6[i].f2] b (by simp) (by simp; omega)
    rw [List.drop_eq_getElem_cons h2, List.foldl_cons]
    rw [← hdr] at q1
    generalize dropB b e.f6[i] = b2 at *
    simp [rU, lZ, encZ] at q1
    rw [lp_run hL Tryz.func60 rfl (by rfl) 2 rfl]
    simp [h2, q1, w6]
    simp at ih
    exact ih
end Go.E2.S
/-! txn.Put. -/
namespace Go.E2.S
open Go Go.E2 Go.RowKit Go.Proofs
set_option linter.unusedVariables false
set_option linter.unusedSimpArgs false
set_option maxHeartbeats 4000000
set_option maxRecDepth 10000
def SmE (e : Eff) : Prop := e.f1.size ≤ 16 ∧ e.f2.size ≤ 16 ∧ e.f4.size ≤ 32 ∧ e.f6.length ≤ 64
def SmT (t : Txn) : Prop := t.f2.length ≤ 8 ∧ t.f3.length ≤ 8 ∧ ∀ e ∈ t.f3, SmE e
theorem putT_len2 (b : List UInt8) (s : ByteArray) : (putT b s).length ≤ b.length + 8 + s.size := by
  unfold putT
  split
  · simp
  · have := numF_len 7 s.size
    have : (bl s).length = s.size := by simp [bl]
    simp only [List.length_append, numB]
    omega
theorem drops_len : ∀ (l : List Dot) (b : List UInt8), (l.foldl dropB b).length ≤ b.length + 24 * l.length
  | [], b => by simp
  | d :: l, b => by
    have h1 := drops_len l (dropB b d)
    have h2 := puts_len [d.f0, d.f1, d.f2] b
    have hdr : dropB b d = [d.f0, d.f1, d.f2].foldl putL b := rfl
    rw [← hdr] at h2
    simp only [List.foldl_cons, List.length_cons, List.length_nil] at h1 h2 ⊢
    omega
theorem effB_len (b : List UInt8) (e : Eff) (h : SmE e) : (effB b e).length ≤ b.length + 1656 := by
  obtain ⟨h1, h2, h3, h4⟩ := h
  unfold effB
  have k1 := putL_len b e.f0
  generalize putL b e.f0 = b1 at *
  have k2 := putT_len2 b1 e.f1
  generalize putT b1 e.f1 = b2 at *
  have k3 := putT_len2 b2 e.f2
  generalize putT b2 e.f2 = b3 at *
  have k4 := putL_len b3 e.f3
  generalize putL b3 e.f3 = b4 at *
  have k5 := putT_len2 b4 e.f4
  generalize putT b4 e.f4 = b5 at *
  have k6 : (b5 ++ intL e.f5).length = b5.length + 8 := by rw [List.length_append, intL_len]
  generalize b5 ++ intL e.f5 = b6 at *
  have k7 := putL_len b6 e.f6.length
  generalize putL b6 e.f6.length = b7 at *
  have k8 := drops_len e.f6 b7
  omega
theorem put_l0 (l : List Eff) (hl : l.length < 1000) (hs : ∀ e ∈ l, SmE e) (n : Nat) : ∀ (i : Nat) (b : List UInt8), l.length = i + n → b.length + 1656 * n < 100000000 →
    A.lp 60 0 (hd60_0 [.at (.ptr 2000 0 0), .at (.ptr 2000 0 (cloN * (137 + 2))), .at (.ptr 2000 0 (cloN * (138 + 2))), pv (lE l), iv l.length, iv i] [(2000, 0, some (bB b))]) =
      some (.exit 0, ex60_0 [.at (.ptr 2000 0 0)] [(2000, 0, some (bB ((l.drop i).foldl effB b)))]) := by
  induction n with
  | zero =>
    intro i b hi hb
    rw [lp_run hL Tryz.func60 rfl (by rfl) 0 rfl]
    obtain rfl : i = l.length := by omega
    simp
  | succ n ih =>
    intro i b hi hb
    have h2 : i < l.length := by omega
    have hE := effB_len b l[i] (hs _ (List.getElem_mem h2))
    have ih := ih (i + 1) (effB b l[i]) (by omega) (by omega)
    have w6 : IntKind.i64.wrap ((i : Int) + 1) = i + 1 := wr _ (by omega) (by omega)
    obtain ⟨h1, h2', h3, h4⟩ := hs _ (List.getElem_mem h2)
    rw [List.drop_eq_getElem_cons h2, List.foldl_cons]
    unfold effB at hE ih ⊢
    have k1 := putL_len b l[i].f0
    have q1 := tNum l[i].f0 [] b (by simp) (by simp; omega)
    simp only [List.foldl_cons, List.foldl_nil] at q1
    generalize putL b l[i].f0 = b1 at *
    have k2 := putT_len2 b1 l[i].f1
    have q2 := tText2 l[i].f1 b1 (by omega)
    generalize putT b1 l[i].f1 = b2 at *
    have k3 := putT_len2 b2 l[i].f2
    have q3 := tText2 l[i].f2 b2 (by omega)
    generalize putT b2 l[i].f2 = b3 at *
    have k4 := putL_len b3 l[i].f3
    have q4 := tNum2 l[i].f3 [] b3 (by simp) (by simp; omega)
    simp only [List.foldl_cons, List.foldl_nil] at q4
    generalize putL b3 l[i].f3 = b4 at *
    have k5 := putT_len2 b4 l[i].f4
    have q5 := tText2 l[i].f4 b4 (by omega)
    generalize putT b4 l[i].f4 = b5 at *
    have q6 := putInt b5 l[i].f5 (by omega)
    have k6 : (b5 ++ intL l[i].f5).length = b5.length + 8 := by rw [List.length_append, intL_len]
    generalize b5 ++ intL l[i].f5 = b6 at *
    have k7 := putL_len b6 l[i].f6.length
    have q7 := tNum2 l[i].f6.length [] b6 (by simp) (by simp; omega)
    simp only [List.foldl_cons, List.foldl_nil] at q7
    generalize putL b6 l[i].f6.length = b7 at *
    have q8 := put_l2 l[i] l i (by omega) l[i].f6.length 0 b7 (by omega) (by omega)
    rw [List.drop_zero] at q8
    generalize l[i].f6.foldl dropB b7 = b8 at *
    clear k1 k2 k3 k4 k5 k6 k7
    simp [rU, lZ, encZ] at q1 q4 q7
    simp [rU, fU] at q2 q3 q5 q6 q8
    rw [lp_run hL Tryz.func60 rfl (by rfl) 0 rfl]
    simp [h2, q1, q2, q3, q4, q5, q6, q7, q8, w6]
    simp at ih
    exact ih
theorem effs_len : ∀ (l : List Eff) (b : List UInt8), (∀ e ∈ l, SmE e) → (l.foldl effB b).length ≤ b.length + 1656 * l.length
  | [], b, h => by simp
  | e :: l, b, h => by
    have h1 := effs_len l (effB b e) fun x hx => h x (List.mem_cons_of_mem _ hx)
    have h2 := effB_len b e (h e (List.mem_cons_self ..))
    simp only [List.foldl_cons, List.length_cons]
    omega
theorem txnB_len (b : List UInt8) (t : Txn) (h : SmT t) : (txnB b t).length ≤ b.length + 13344 := by
  obtain ⟨h1, h2, h3⟩ := h
  unfold txnB
  have k1 := puts_len [t.f0, t.f1, t.f2.length] b
  simp only [List.length_cons, List.length_nil] at k1
  generalize [t.f0, t.f1, (t.f2.length : Int)].foldl putL b = b1 at *
  have k2 := puts_len t.f2 b1
  generalize t.f2.foldl putL b1 = b2 at *
  have k3 := putL_len b2 t.f3.length
  generalize putL b2 t.f3.length = b3 at *
  have k4 := effs_len t.f3 b3 h3
  omega
theorem txnPut0 (t : Txn) (hw : WfT t) (hf : formedT t = false) (b : List UInt8) : A.fn 60 [pv (lU b), ag (encT t)] [] = some (.tup [pv (lU []), iv 2], []) := by
  have q0 := txnFormed t hw
  rw [hf] at q0
  simp [ag, encT] at q0
  rw [fn_run hL Tryz.func60 rfl L60 (by rfl) rfl rfl rfl (by decide)]
  simp [Tryz.f60, q0]
theorem txnPut1 (t : Txn) (hw : WfT t) (hf : formedT t = true) (hs : SmT t) (b : List UInt8) (hb : b.length + 13344 < 100000000) : A.fn 60 [pv (lU b), ag (encT t)] [] = some (.tup [pv (lU (txnB b t)), iv 0], []) := by
  have q0 := txnFormed t hw
  have q1 := cloneU b (by omega)
  rw [hf] at q0
  obtain ⟨h1, h2, h3⟩ := hs
  unfold txnB
  have k1 := puts_len [t.f0, t.f1, t.f2.length] b
  have q2 := tNum2 t.f0 [t.f1, t.f2.length] b (by simp) (by simp; omega)
  simp only [List.length_cons, List.length_nil] at k1
  generalize [t.f0, t.f1, (t.f2.length : Int)].foldl putL b = b1 at *
  simp [ag, encT] at q0
  simp [rU, lZ, encZ] at q1 q2
  cases hd : t.f2 with
  | nil =>
    have q3 := tNum20 b1
    rw [List.foldl_nil]
    have k3 := putL_len b1 t.f3.length
    have q4 := tNum2 t.f3.length [] b1 (by simp) (by simp; omega)
    simp only [List.foldl_cons, List.foldl_nil] at q4
    generalize putL b1 t.f3.length = b3 at *
    have q5 := put_l0 t.f3 (by omega) h3 t.f3.length 0 b3 (by omega) (by omega)
    rw [List.drop_zero] at q5
    generalize t.f3.foldl effB b3 = b4 at *
    simp [rU, lZ, encZ] at q4
    simp [rU] at q3 q5
    rw [hd] at q0 q2
    simp at q0 q2
    rw [fn_run hL Tryz.func60 rfl L60 (by rfl) rfl rfl rfl (by decide)]
    simp [Tryz.f60, q0, q1, q2, q3, q4, q5, hd]
  | cons x l =>
    rw [hd] at h1
    have k2 := puts_len (x :: l) b1
    have q3 := tNum2 x l b1 (by simp at h1; omega) (by simp at h1; omega)
    generalize (x :: l).foldl putL b1 = b2 at *
    have k3 := putL_len b2 t.f3.length
    have q4 := tNum2 t.f3.length [] b2 (by simp) (by simp; omega)
    simp only [List.foldl_cons, List.foldl_nil] at q4
    generalize putL b2 t.f3.length = b3 at *
    have q5 := put_l0 t.f3 (by omega) h3 t.f3.length 0 b3 (by omega) (by omega)
    rw [List.drop_zero] at q5
    generalize t.f3.foldl effB b3 = b4 at *
    simp [rU, lZ, encZ] at q4
    simp [rU, fU] at q3 q5
    rw [hd] at q0 q2
    simp at q0 q2
    rw [fn_run hL Tryz.func60 rfl L60 (by rfl) rfl rfl rfl (by decide)]
    simp [Tryz.f60, q0, q1, q2, q3, q4, q5, hd]
end Go.E2.S
/-! msg.Put. -/
namespace Go.E2.S
open Go Go.E2 Go.RowKit Go.Proofs
set_option linter.unusedVariables false
set_option linter.unusedSimpArgs false
set_option maxHeartbeats 4000000
set_option maxRecDepth 10000
def SmI (x : Item) : Prop := x.f0.size ≤ 16 ∧ x.f1.size ≤ 16 ∧ x.f3.size ≤ 32
def itemB (b : List UInt8) (x : Item) : List UInt8 := [x.f5.f0, x.f5.f1, x.f5.f2].foldl putL (putT (putL (putT (putT b x.f0) x.f1) x.f2) x.f3 ++ intL x.f4)
theorem itemB_len (b : List UInt8) (x : Item) (h : SmI x) : (itemB b x).length ≤ b.length + 136 := by
  obtain ⟨h1, h2, h3⟩ := h
  unfold itemB
  have k2 := putT_len2 b x.f0
  generalize putT b x.f0 = b2 at *
  have k3 := putT_len2 b2 x.f1
  generalize putT b2 x.f1 = b3 at *
  have k4 := putL_len b3 x.f2
  generalize putL b3 x.f2 = b4 at *
  have k5 := putT_len2 b4 x.f3
  generalize putT b4 x.f3 = b5 at *
  have k6 : (b5 ++ intL x.f4).length = b5.length + 8 := by rw [List.length_append, intL_len]
  generalize b5 ++ intL x.f4 = b6 at *
  have k7 := puts_len [x.f5.f0, x.f5.f1, x.f5.f2] b6
  simp only [List.length_cons, List.length_nil] at k7
  omega
theorem items_len : ∀ (l : List Item) (b : List UInt8), (∀ e ∈ l, SmI e) → (l.foldl itemB b).length ≤ b.length + 136 * l.length
  | [], b, h => by simp
  | e :: l, b, h => by
    have h1 := items_len l (itemB b e) fun x hx => h x (List.mem_cons_of_mem _ hx)
    have h2 := itemB_len b e (h e (List.mem_cons_self ..))
    simp only [List.foldl_cons, List.length_cons]
    omega
abbrev oW (m : Msg) (b : List UInt8) : List Upd := [(2000, 0, some (.blk ((encM m).map .pv))), (2001, 0, some (bB b))]
theorem mput_l0 (m : Msg) (l : List Item) (hl : l.length < 100000) (hs : ∀ x ∈ l, SmI x) (n : Nat) : ∀ (i : Nat) (b : List UInt8), l.length = i + n → b.length + 136 * n < 50000000 →
    A.lp 16 0 (hd16_0 [.at (.ptr 2000 0 0), .at (.ptr 2001 0 0), pv (lI l), iv l.length, iv i] (oW m b)) =
      some (.exit 0, ex16_0 [.at (.ptr 2000 0 0), .at (.ptr 2001 0 0)] (oW m ((l.drop i).foldl itemB b))) := by
  induction n with
  | zero =>
    intro i b hi hb
    rw [lp_run hL Tryz.func16 rfl (by rfl) 0 rfl]
    obtain rfl : i = l.length := by omega
    simp
  | succ n ih =>
    intro i b hi hb
    have h2 : i < l.length := by omega
    have hE := itemB_len b l[i] (hs _ (List.getElem_mem h2))
    have ih := ih (i + 1) (itemB b l[i]) (by omega) (by omega)
    have w6 : IntKind.i64.wrap ((i : Int) + 1) = i + 1 := wr _ (by omega) (by omega)
    obtain ⟨h1, h2', h3⟩ := hs _ (List.getElem_mem h2)
    rw [List.drop_eq_getElem_cons h2, List.foldl_cons]
    unfold itemB at hE ih ⊢
    have k2 := putT_len2 b l[i].f0
    have q2 := wText l[i].f0 b (by omega)
    generalize putT b l[i].f0 = b2 at *
    have k3 := putT_len2 b2 l[i].f1
    have q3 := wText l[i].f1 b2 (by omega)
    generalize putT b2 l[i].f1 = b3 at *
    have k4 := putL_len b3 l[i].f2
    have q4 := wNum l[i].f2 [] b3 (by simp) (by simp; omega)
    simp only [List.foldl_cons, List.foldl_nil] at q4
    generalize putL b3 l[i].f2 = b4 at *
    have k5 := putT_len2 b4 l[i].f3
    have q5 := wText l[i].f3 b4 (by omega)
    generalize putT b4 l[i].f3 = b5 at *
    have q6 := putInt b5 l[i].f4 (by omega)
    have k6 : (b5 ++ intL l[i].f4).length = b5.length + 8 := by rw [List.length_append, intL_len]
    generalize b5 ++ intL l[i].f4 = b6 at *
    have k7 := puts_len [l[i].f5.f0, l[i].f5.f1, l[i].f5.f2] b6
    have q7 := wNum l[i].f5.f0 [l[i].f5.f1, l[i].f5.f2] b6 (by simp) (by simp; omega)
    generalize [l[i].f5.f0, l[i].f5.f1, l[i].f5.f2].foldl putL b6 = b7 at *
    clear k2 k3 k4 k5 k6 k7
    simp [rU, lZ, encZ] at q4 q7
    simp [rU, bB] at q2 q3 q5 q6
    rw [lp_run hL Tryz.func16 rfl (by rfl) 0 rfl]
    simp [h2, q2, q3, q4, q5, q6, q7, w6]
    rw [if_pos ?q]
    (case q => kernel_rfl)
    simp [h2, q2, q3, q4, q5, q6, q7, w6]
    simp [encM] at ih ⊢
    exact ih
end Go.E2.S
/-! msg.Put. -/
namespace Go.E2.S
open Go Go.E2 Go.RowKit Go.Proofs
set_option linter.unusedVariables false
set_option linter.unusedSimpArgs false
set_option maxHeartbeats 4000000
set_option maxRecDepth 10000
theorem txns_len : ∀ (l : List Txn) (b : List UInt8), (∀ e ∈ l, SmT e) → (l.foldl txnB b).length ≤ b.length + 13344 * l.length
  | [], b, h => by simp
  | e :: l, b, h => by
    have h1 := txns_len l (txnB b e) fun x hx => h x (List.mem_cons_of_mem _ hx)
    have h2 := txnB_len b e (h e (List.mem_cons_self ..))
    simp only [List.foldl_cons, List.length_cons]
    omega
theorem mput_l2 (l : List Txn) (hl : l.length < 100000) (hw : ∀ t ∈ l, WfT t) (hf : ∀ t ∈ l, formedT t = true) (hs : ∀ t ∈ l, SmT t) (n : Nat) : ∀ (i : Nat) (b : List UInt8), l.length = i + n → b.length + 13344 * n < 100000000 →
    A.lp 16 2 (hd16_2 [.at (.ptr 2000 0 0), pv (lT l), iv l.length, iv i] [(2000, 0, some (bB b))]) =
      some (.exit 2, ex16_2 [.at (.ptr 2000 0 0)] [(2000, 0, some (bB ((l.drop i).foldl txnB b)))]) := by
  induction n with
  | zero =>
    intro i b hi hb
    rw [lp_run hL Tryz.func16 rfl (by rfl) 2 rfl]
    obtain rfl : i = l.length := by omega
    simp
  | succ n ih =>
    intro i b hi hb
    have h2 : i < l.length := by omega
    have hE := txnB_len b l[i] (hs _ (List.getElem_mem h2))
    have ih := ih (i + 1) (txnB b l[i]) (by omega) (by omega)
    have w6 : IntKind.i64.wrap ((i : Int) + 1) = i + 1 := wr _ (by omega) (by omega)
    have hmem := List.getElem_mem h2
    have hq : b.length + 13344 < 100000000 := by
      clear ih w6 hE hf hw hs
      rw [Nat.mul_succ] at hb
      generalize b.length = x at *
      generalize 13344 * n = y at *
      exact Nat.lt_of_le_of_lt (Nat.add_le_add_left (Nat.le_add_left _ _) _) hb
    have q1 := txnPut1 l[i] (hw _ hmem) (hf _ hmem) (hs _ hmem) b hq
    rw [List.drop_eq_getElem_cons h2, List.foldl_cons]
    generalize txnB b l[i] = b2 at *
    simp [ag, encT] at q1
    rw [lp_run hL Tryz.func16 rfl (by rfl) 2 rfl]
    simp [h2, q1, w6]
    rw [if_pos ?q]
    (case q => kernel_rfl)
    simp [h2, q1, w6]
    simp at ih
    exact ih
def SmM (m : Msg) : Prop := m.f3.length ≤ 8 ∧ m.f4.length ≤ 8 ∧ m.f5.length ≤ 8 ∧ m.f6.length ≤ 8 ∧ m.f7.length ≤ 32768 ∧ m.f8.length ≤ 4096 ∧ (∀ x ∈ m.f7, SmI x) ∧ (∀ t ∈ m.f8, SmT t) ∧ (∀ t ∈ m.f8, formedT t = true)
def wh (m : Msg) : Int := if m.f2 = true then 1 else 0
def headB (m : Msg) : List UInt8 := wZ (wZ (wV (wV ([m.f0, m.f1, wh m].foldl putL []) m.f3) m.f4) m.f5) m.f6
def msgB (m : Msg) : List UInt8 := m.f8.foldl txnB (putL (m.f7.foldl itemB (putL (headB m) m.f7.length)) m.f8.length)
theorem wV_len (b : List UInt8) (v : List Int) : (wV b v).length ≤ b.length + 8 + 8 * v.length := by
  have h1 := putL_len b v.length
  have h2 := puts_len v (putL b v.length)
  unfold wV
  omega
theorem wZ_len (b : List UInt8) (v : List ByteArray) : (wZ b v).length ≤ b.length + 8 + 65544 * v.length := by
  have h1 := putL_len b v.length
  have h2 : ∀ (l : List ByteArray) (b : List UInt8), (l.foldl putT b).length ≤ b.length + 65544 * l.length := by
    intro l
    induction l with
    | nil => intro b; simp
    | cons x l ih =>
      intro b
      have h3 := ih (putT b x)
      have h4 := putT_len b x
      simp only [List.foldl_cons, List.length_cons]
      omega
  have h3 := h2 v (putL b v.length)
  unfold wZ
  omega
theorem msgPut0 (m : Msg) (hf : formedM m = false) (hw : WfM m) (h3 : m.f3.length < 1000000) (h4 : m.f4.length < 1000000) (h5 : m.f5.length < 100000) (h6 : m.f6.length < 100000) (h7 : m.f7.length < 1000000000) (h8 : m.f8.length < 1000000)
    (hb : ∀ t ∈ m.f8, t.f1 ≤ 9223372036854775807 ∧ t.f2.length < 1000000000 ∧ t.f3.length < 1000000000) : A.fn 16 [ag (encM m)] [] = some (.tup [pv (lU []), iv 2], []) := by
  have q0 := msgFormed m hw h3 h4 h5 h6 h7 h8 hb
  rw [hf] at q0
  simp [ag, encM] at q0
  rw [fn_run hL Tryz.func16 rfl L16 (by rfl) rfl rfl rfl (by decide)]
  simp [Tryz.f16, q0]
end Go.E2.S
/-! msg.Put of a message. -/
namespace Go.E2.S
open Go Go.E2 Go.RowKit Go.Proofs
set_option linter.unusedVariables false
set_option linter.unusedSimpArgs false
set_option maxHeartbeats 4000000
set_option maxRecDepth 10000
def outV (b : List UInt8) (v : List Int) : List (Option AObj) := if v = [] then [some (bB (wV b v))] else oB (wV b v)
theorem wVec (v : List Int) (b : List UInt8) (hl : v.length + 1 < 1000000) (hb : b.length + 8 * (v.length + 2) < 1000000000) :
    A.fn 56 [.at (.ptr pinN 0 0), pv (lZ v)] [bB b] = some (.tup [], outV b v) := by
  unfold outV
  cases v with
  | nil =>
    rw [if_pos rfl]
    exact wVecN b (by simp at hb; omega)
  | cons x l =>
    rw [if_neg (by simp)]
    exact wVecC x l b (by simp at hl; omega) (by simp at hb; omega)
theorem msgPut1 (m : Msg) (hf : formedM m = true) (hs : SmM m) (hw : WfM m)
    (hb : ∀ t ∈ m.f8, t.f1 ≤ 9223372036854775807 ∧ t.f2.length < 1000000000 ∧ t.f3.length < 1000000000) : A.fn 16 [ag (encM m)] [] = some (.tup [pv (lU (msgB m)), iv 0], []) := by
  obtain ⟨s3, s4, s5, s6, s7, s8, s9, s10, s11⟩ := hs
  have q0 := msgFormed m hw (by omega) (by omega) (by omega) (by omega) (by omega) (by omega) hb
  rw [hf] at q0
  unfold msgB headB
  have k1 := puts_len [m.f0, m.f1, wh m] []
  have q1 := wNum m.f0 [m.f1, wh m] [] (by simp) (by simp)
  simp only [List.length_cons, List.length_nil] at k1
  have hwh : wh m = if m.f2 = true then 1 else 0 := rfl
  generalize [m.f0, m.f1, wh m].foldl putL [] = b1 at *
  have k2 := wV_len b1 m.f3
  have q2 := wVec m.f3 b1 (by omega) (by omega)
  unfold outV at q2
  generalize wV b1 m.f3 = b2 at *
  have k3 := wV_len b2 m.f4
  have q3 := wVec m.f4 b2 (by omega) (by omega)
  unfold outV at q3
  generalize wV b2 m.f4 = b3 at *
  have k4 := wZ_len b3 m.f5
  have q4 := wZone m.f5 b3 (by omega) (by omega)
  generalize wZ b3 m.f5 = b4 at *
  have k5 := wZ_len b4 m.f6
  have q5 := wZone m.f6 b4 (by omega) (by omega)
  generalize wZ b4 m.f6 = b5 at *
  have k6 := putL_len b5 m.f7.length
  have q6 := wNum m.f7.length [] b5 (by simp) (by simp; omega)
  simp only [List.foldl_cons, List.foldl_nil] at q6
  generalize putL b5 m.f7.length = b6 at *
  have k7 := items_len m.f7 b6 s9
  have q7 := mput_l0 m m.f7 (by omega) s9 m.f7.length 0 b6 (by omega) (by omega)
  rw [List.drop_zero] at q7
  generalize m.f7.foldl itemB b6 = b7 at *
  have k8 := putL_len b7 m.f8.length
  have q8 := wNum m.f8.length [] b7 (by simp) (by simp; omega)
  simp only [List.foldl_cons, List.foldl_nil] at q8
  generalize putL b7 m.f8.length = b8 at *
  have hb8 : b8.length < 12000000 := by omega
  have hb9 : b8.length + 13344 * m.f8.length < 100000000 := by
    have := Nat.mul_le_mul_left 13344 s8
    omega
  have q9 := mput_l2 m.f8 (by omega) hw s11 s10 m.f8.length 0 b8 (by omega) hb9
  rw [List.drop_zero] at q9
  generalize m.f8.foldl txnB b8 = b9 at *
  clear k1 k2 k3 k4 k5 k6 k7 k8 hb8 hb9 s9 s10 s11
  simp [ag, encM] at q0
  simp [rU, bB, lU, lZ, encZ] at q1
  simp [rU, lZ, encZ] at q6 q8
  simp [rU, encM, oW] at q4 q5 q7 q9
  have c2 : m.f2 = true ∨ m.f2 = false := by cases m.f2 <;> simp
  by_cases c3 : m.f3 = []
  · rw [if_pos c3] at q2
    by_cases c4 : m.f4 = []
    · rw [if_pos c4] at q3
      simp [rU] at q2 q3
      rw [fn_run hL Tryz.func16 rfl L16 (by rfl) rfl rfl rfl (by decide)]
      rcases c2 with c2 | c2 <;> (simp [c2] at hwh q0 q7; rw [hwh] at q1; simp [Tryz.f16, q0, q1, q2, q3, q4, q5, q6, q7, q8, q9, c2])
    · rw [if_neg c4] at q3
      simp [rU] at q2 q3
      rw [fn_run hL Tryz.func16 rfl L16 (by rfl) rfl rfl rfl (by decide)]
      rcases c2 with c2 | c2 <;> (simp [c2] at hwh q0 q7; rw [hwh] at q1; simp [Tryz.f16, q0, q1, q2, q3, q4, q5, q6, q7, q8, q9, c2])
  · rw [if_neg c3] at q2
    by_cases c4 : m.f4 = []
    · rw [if_pos c4] at q3
      simp [rU] at q2 q3
      rw [fn_run hL Tryz.func16 rfl L16 (by rfl) rfl rfl rfl (by decide)]
      rcases c2 with c2 | c2 <;> (simp [c2] at hwh q0 q7; rw [hwh] at q1; simp [Tryz.f16, q0, q1, q2, q3, q4, q5, q6, q7, q8, q9, c2])
    · rw [if_neg c4] at q3
      simp [rU] at q2 q3
      rw [fn_run hL Tryz.func16 rfl L16 (by rfl) rfl rfl rfl (by decide)]
      rcases c2 with c2 | c2 <;> (simp [c2] at hwh q0 q7; rw [hwh] at q1; simp [Tryz.f16, q0, q1, q2, q3, q4, q5, q6, q7, q8, q9, c2])
end Go.E2.S
