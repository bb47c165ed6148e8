/- ViewMore, part 21: GBase. -/
import Derived.Test.YtciiodbkhilkmaaProg
import Derived.WalkKit
namespace Go.Proofs.Ytciiodbkhilkmaa.F
set_option linter.unusedVariables false
set_option linter.unusedSimpArgs false
theorem bytesLess_tri : ∀ a b : List UInt8, (!(Op.bytesLess a b || a == b)) = Op.bytesLess b a
  | [], [] => by simp [Op.bytesLess]
  | _ :: _, [] => by simp [Op.bytesLess]
  | [], _ :: _ => by simp [Op.bytesLess]
  | x :: a, y :: b => by
    have h := bytesLess_tri a b
    by_cases hxy : x < y
    · have h1 : ¬ y < x := by rw [UInt8.lt_iff_toNat_lt] at *; omega
      have h2 : ¬ y = x := by intro e; subst e; exact h1 hxy
      simp [Op.bytesLess, hxy, h1, h2]
    · by_cases e : x = y
      · subst e
        simp [Op.bytesLess, hxy, ← h]
      · have h1 : y < x := by
          rw [UInt8.lt_iff_toNat_lt] at *
          have : x.toNat ≠ y.toNat := fun h => e (UInt8.toNat_inj.1 h)
          omega
        simp [Op.bytesLess, hxy, e, h1]
@[go_sem] theorem binOp_gtr_str (t : TypeId) (a b : ByteArray) : binOp .gtr t (.string a) (.string b) = pure (.bool (Op.bytesLess b.toList a.toList)) := by
  rw [← bytesLess_tri]
  simp [binOp, Op.stringOp]
end Go.Proofs.Ytciiodbkhilkmaa.F
