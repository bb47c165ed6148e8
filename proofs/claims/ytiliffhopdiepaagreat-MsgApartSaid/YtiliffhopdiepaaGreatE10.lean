/- The engine, part 10: VEval. -/
import Derived.Sort.Walk0
import Derived.Test.YtiliffhopdiepaaGreatE9
namespace Go.E2
open Go.RowKit
set_option linter.unusedVariables false
set_option linter.unusedSimpArgs false
attribute [simp] absEqS pvsOf eqS1 eqS2 absOp absG absMove absPick absBinO absUn absLoad retLoad absAlloc absFieldAddr absField absIndexAddr absIndexArr absConv absIndex absSlice absExtract absLen absAppend absMin absEqB appLim opnd srcRM opndInt optInt
  call_eq bslice_eq build_eq mkfn_eq box_eq store_eq
  bslice1.eq_1 bslice1.eq_2 bslice2.eq_1 bslice2.eq_2 bslice3.eq_1 bslice3.eq_2 build1.eq_1 build1.eq_2 build2.eq_1 build2.eq_2 build3.eq_1 build3.eq_2 allKnown putParts mkfn2.eq_1 mkfn2.eq_2 box2.eq_1 box2.eq_2 store3.eq_1 store3.eq_2 store4.eq_1 store4.eq_2 store5.eq_1 store5.eq_2
  v1cells sureD sureAllD rowLen rowE isVar gone look lay RM.val constV constAt AV.any absO outOf
  frzD refD atPVD consP atPVsD atPVsD1 partD partsD partsD1 isOne valsD valsD1 capD capsD capsD1 opndsD opndsD1
  rowF tailF frzF nilF rowD ptrF blkF varF consF canLD canLD1 canAtD atF aggF canVD canVsD canVsD1 bsD hasGlobal isGlobal call1.eq_1 call1.eq_2 call2.eq_1 call2.eq_2 call3.eq_1 call3.eq_2 call4.eq_1 call4.eq_2 call5.eq_1 call5.eq_2 call6
  pinN CM.sub findS Frm.at rowOnly blkOnly allSome keysN Frm.key Frm.src Frm.obOf alive bsAt distinct backAV backV1 backAt backU backO modesOf callN loopN
  pinS pinF pinB pinD pinD1 pinD2 whole1.eq_1 whole1.eq_2 whole2.eq_1 whole2.eq_2 whole3 whole4 liveS wholeD slotsD slotsD1 mkS norm1.eq_1 norm1.eq_2 norm2.eq_1 norm2.eq_2 norm_eq effV.eq_1 effV.eq_2 resD ressD ressD1 resAV rmodes fin1.eq_1 fin1.eq_2 fin2.eq_1 fin2.eq_2 finD
  regK.eq_1 regK.eq_2 opsK.eq_1 opsK.eq_2 seqK.eq_1 seqK.eq_2 condK.eq_1 condK.eq_2 condK.eq_3 blkK.eq_1 blkK.eq_2 loopK.eq_1 loopK.eq_2 headO exitK.eq_1 exitK.eq_2 exitO turnK.eq_1 turnK.eq_2 turnK.eq_3 finK.eq_1 finK.eq_2 finK.eq_3 drawK.eq_1 drawK.eq_2 exUp_eq up_nil up_cons upK.eq_1 upK.eq_2 upF.eq_1 upF.eq_2 upC.eq_1 upC.eq_2 footU footB.eq_1 footB.eq_2 footB.eq_3 gslot namesOf reach_nil reach.eq_2 avNames.eq_1 avNames.eq_2 v1Names atNames.eq_1 atNames.eq_2 atNames.eq_3 objNames upUses pureUses opT optT opsT pure_nil pure_cons pure_some ops_nil ops_cons ex_skip ex_region ex_drawn ex_seq ex_cond ex_block ex_loop ex_exit ex_ret
  entryN mkObs pinsOf getS setS putS layAll slot_mk ob_mk app_mk lays_mk List.replicate
  cloN storeE_eq storeE1.eq_1 storeE1.eq_2 storeE0.eq_1 storeE2.eq_1 storeE3.eq_1 storeE4.eq_1 storeE4.eq_2 absCut absClear zeroPVs absMakeMap absLookup absUpdate keyOf absMakeOwn Env.cuts absNil absMakeSl absBStr srcB zeroPVs
  varB varO varD consV varsD varsD1 frz1 frz_eq frzU stayO
@[simp] theorem fms_nil (e : Nat) (l : List Frm) : (Frm.nil e :: l).filterMap Frm.src = l.filterMap Frm.src := rfl
@[simp] theorem fms_obj (q g : Nat) (l : List Frm) : (Frm.obj q g :: l).filterMap Frm.src = q :: l.filterMap Frm.src := rfl
@[simp] theorem fms_blk (q g : Nat) (c : List At) (l : List Frm) : (Frm.blk q g c :: l).filterMap Frm.src = q :: l.filterMap Frm.src := rfl
@[simp] theorem bin_add (k : IntKind) (a b : Int) : absBin .add (.int k a) (.int k b) = some (.int k (k.wrap (a + b))) := by simp [absBin]
@[simp] theorem bin_sub (k : IntKind) (a b : Int) : absBin .sub (.int k a) (.int k b) = some (.int k (k.wrap (a - b))) := by simp [absBin]
@[simp] theorem bin_mul (k : IntKind) (a b : Int) : absBin .mul (.int k a) (.int k b) = some (.int k (k.wrap (a * b))) := by simp [absBin]
@[simp] theorem bin_eql (k : IntKind) (a b : Int) : absBin .eql (.int k a) (.int k b) = some (.bool (decide (a = b))) := by
  by_cases h : a = b <;> simp [absBin, h]
@[simp] theorem bin_neq (k : IntKind) (a b : Int) : absBin .neq (.int k a) (.int k b) = some (.bool (!decide (a = b))) := by
  by_cases h : a = b <;> simp [absBin, h]
@[simp] theorem bin_lss (k : IntKind) (a b : Int) : absBin .lss (.int k a) (.int k b) = some (.bool (decide (a < b))) := by simp [absBin]
@[simp] theorem bin_leq (k : IntKind) (a b : Int) : absBin .leq (.int k a) (.int k b) = some (.bool (decide (a ≤ b))) := by simp [absBin]
@[simp] theorem bin_gtr (k : IntKind) (a b : Int) : absBin .gtr (.int k a) (.int k b) = some (.bool (decide (b < a))) := by simp [absBin]
@[simp] theorem bin_geq (k : IntKind) (a b : Int) : absBin .geq (.int k a) (.int k b) = some (.bool (decide (b ≤ a))) := by simp [absBin]
def andI (k : IntKind) (a b : Int) : Int := k.wrap ((BitVec.ofInt k.bits a &&& BitVec.ofInt k.bits b).toNat : Int)
def orI (k : IntKind) (a b : Int) : Int := k.wrap ((BitVec.ofInt k.bits a ||| BitVec.ofInt k.bits b).toNat : Int)
@[simp] theorem bin_and (k : IntKind) (a b : Int) : absBin .and (.int k a) (.int k b) = some (.int k (andI k a b)) := by simp [absBin, andI]
@[simp] theorem bin_or (k : IntKind) (a b : Int) : absBin .or (.int k a) (.int k b) = some (.int k (orI k a b)) := by simp [absBin, orI]
@[simp] theorem bin_shr (k k' : IntKind) (a b : Int) : absBin .shr (.int k a) (.int k' b) = if b < 0 then none else some (.int k (a.fdiv (2 ^ (min b.toNat k.bits)))) := rfl
@[simp] theorem bin_shl (k k' : IntKind) (a b : Int) : absBin .shl (.int k a) (.int k' b) = if b < 0 then none else some (.int k (k.wrap (a * 2 ^ (min b.toNat k.bits)))) := rfl
@[simp] theorem bits_64 : IntKind.i64.bits = 64 := rfl
@[simp] theorem bits_u64 : IntKind.u64.bits = 64 := rfl
@[simp] theorem bits_u8 : IntKind.u8.bits = 8 := rfl
@[simp] theorem bin_rem (k : IntKind) (a b : Int) : absBin .rem (.int k a) (.int k b) = if b = 0 then none else some (.int k (a.tmod b)) := by simp [absBin]
@[simp] theorem atPV_pv {α : Type} (e : Nat) (p : PV) (k : PV → List Upd → RM α) : atPV e (.pv p) k = k p [] := rfl
@[simp] theorem atPV_nil {α : Type} (e : Nat) (k : PV → List Upd → RM α) : atPV e .nil k = k (.list e []) [] := rfl
@[simp] theorem atPV_row {α : Type} {σ : St} (e q g : Nat) (k : PV → List Upd → RM α) : (atPV e (.row q g) k).val σ = (frzD q g (gone g (σ.ob q))).bind fun r => (k r.1 r.2).val σ := atPVD_eq e _ k
@[simp] theorem names_pv (p : PV) : atNames (.pv p) = [] := rfl
@[simp] theorem names_nil : atNames .nil = [] := rfl
@[simp] theorem names_any : atNames .any = [] := rfl
theorem toList_bytes (a : ByteArray) : a.toList = a.data.toList := ByteArray.toList_eq a
theorem toList_inj {a b : ByteArray} : a.toList = b.toList ↔ a = b := by
  rw [toList_bytes, toList_bytes]
  constructor
  · intro h
    cases a; cases b
    congr
    exact Array.toList_inj.1 h
  · rintro rfl; rfl
theorem toList_beq (a b : ByteArray) : (a.toList == b.toList) = decide (a = b) := by
  by_cases h : a = b
  · subst h; simp
  · rw [decide_eq_false h]
    exact beq_eq_false_iff_ne.2 fun e => h (toList_inj.1 e)
@[simp] theorem bin_str_eql (a b : ByteArray) : absBin .eql (.str a) (.str b) = some (.bool (decide (a = b))) := by rw [← toList_beq]; rfl
@[simp] theorem bin_str_neq (a b : ByteArray) : absBin .neq (.str a) (.str b) = some (.bool (!decide (a = b))) := by rw [← toList_beq]; rfl
def bl (x : ByteArray) : List UInt8 := x.data.toList
theorem bl_inj {a b : ByteArray} (h : bl a = bl b) : a = b := by
  cases a; cases b
  congr
  exact Array.toList_inj.1 h
theorem blt_of {x y : List UInt8} (h : x ≤ y) (hne : x ≠ y) : x < y := Decidable.byContradiction fun c => hne (List.le_antisymm h (List.not_lt.1 c))
theorem less_bl (x y : ByteArray) : (Op.bytesLess x.toList y.toList = true) ↔ bl x < bl y := by
  rw [Go.Proofs.bytesLess_eq, toList_bytes, toList_bytes]; simp [bl]
theorem less_bool (x y : ByteArray) : Op.bytesLess x.toList y.toList = decide (bl x < bl y) := by
  rw [Bool.eq_iff_iff, less_bl]; simp
theorem le_bool (a b : ByteArray) : (Op.bytesLess a.toList b.toList || a.toList == b.toList) = decide (bl a ≤ bl b) := by
  rw [less_bool, toList_beq, Bool.eq_iff_iff]
  simp only [Bool.or_eq_true, decide_eq_true_eq]
  constructor
  · rintro (h | h)
    · exact List.le_of_lt h
    · subst h; exact List.le_refl _
  · intro h
    by_cases e : a = b
    · exact .inr e
    · exact .inl (blt_of h fun c => e (bl_inj c))
@[simp] theorem bin_str_lss (a b : ByteArray) : absBin .lss (.str a) (.str b) = some (.bool (decide (bl a < bl b))) := by rw [← less_bool]; rfl
@[simp] theorem bin_str_leq (a b : ByteArray) : absBin .leq (.str a) (.str b) = some (.bool (decide (bl a ≤ bl b))) := by rw [← le_bool]; rfl
theorem not_lt_d (a b : List UInt8) : decide (a < b) = !decide (b ≤ a) := by
  by_cases h : a < b
  · rw [decide_eq_true h, decide_eq_false (List.not_le.2 h)]; rfl
  · rw [decide_eq_false h, decide_eq_true (List.not_lt.1 h)]; rfl
@[simp] theorem bin_str_gtr (a b : ByteArray) : absBin .gtr (.str a) (.str b) = some (.bool (decide (bl b < bl a))) := by rw [not_lt_d, ← le_bool]; rfl
@[simp] theorem bin_str_geq (a b : ByteArray) : absBin .geq (.str a) (.str b) = some (.bool (!decide (bl a < bl b))) := by rw [← less_bool]; rfl
@[simp] theorem eqTags_nil : eqTags [] [] [] = some true := rfl
@[simp] theorem eqTags_b (l : List Tag) (x y : Bool) (xs ys : List PV) : eqTags (.b :: l) (.bool x :: xs) (.bool y :: ys) = (eqTags l xs ys).map (decide (x = y) && ·) := by
  rw [eqTags]; cases x <;> cases y <;> rfl
@[simp] theorem eqTags_i (l : List Tag) (k : IntKind) (x y : Int) (xs ys : List PV) : eqTags (.i :: l) (.int k x :: xs) (.int k y :: ys) = (eqTags l xs ys).map (decide (x = y) && ·) := by
  rw [eqTags, if_pos rfl, show (x == y) = decide (x = y) by by_cases h : x = y <;> simp [h]]
@[simp] theorem eqTags_s (l : List Tag) (x y : ByteArray) (xs ys : List PV) : eqTags (.s :: l) (.str x :: xs) (.str y :: ys) = (eqTags l xs ys).map (decide (x = y) && ·) := by
  rw [eqTags, toList_beq]
theorem w64 (n : Int) (h0 : -4611686018427387904 ≤ n) (h1 : n < 4611686018427387904) : IntKind.i64.wrap n = n := by simp [IntKind.wrap, IntKind.bits, IntKind.signed]; omega
@[simp] theorem nat_neg (i : Nat) : ((i : Int) < 0) = False := by simp
end Go.E2
