/- What is known of a message that comes as data. -/
import Derived.Test.YtiliffhopdiepaaGreatVOpenM
import Derived.Test.YtiliffhopdiepaaGreatVPp
namespace Go.E2.S
open Go Go.E2 Go.RowKit Go.Proofs
theorem WfMg.items {m : Msg} (w : WfMg m) : ∀ x ∈ m.f7, WfJ x := w.2.2.2.2.2.2.1
theorem WfMg.txns {m : Msg} (w : WfMg m) : ∀ t ∈ m.f8, WfTq t := w.2.2.2.2.2.2.2
theorem WfMg.mi {m : Msg} (w : WfMg m) : WfMi m := ⟨fun x hx => (w.items x hx).1.2.1, fun t ht e he => ((w.txns t ht).2.2.2 e he).2.2.2.2.2.1⟩
theorem WfMg.seq {m : Msg} (w : WfMg m) : ∀ t ∈ m.f8, t.f1 ≤ 9223372036854775807 := fun t ht => (w.txns t ht).2.1.2
end Go.E2.S
