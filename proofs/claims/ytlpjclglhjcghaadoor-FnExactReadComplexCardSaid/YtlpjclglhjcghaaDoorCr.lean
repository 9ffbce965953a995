/- The program is laid out: what the cut's rows need. No condition. -/
import Derived.Test.YtlpjclglhjcghaaDoorChecked
import Derived.WalkKit
import Derived.ProofKit
import Derived.Deep.Draws
namespace Go.Proofs.YtlpjclglhjcghaaDoor
open Go.RowKit
theorem cutRowed : laidOutB Tryd.prog = true := by kernel_rfl
theorem below_trans {a b c : World} (h : Below a.heap.size a b) (k : Below b.heap.size b c) : Below a.heap.size a c := h.trans (k.mono h.size)
theorem below_dN {B : Nat} {a w : World} (h : Below B a w) (n : Nat) : Below B a (w.drewN n) := ⟨h.os, h.tape, h.output, h.size, h.block⟩
end Go.Proofs.YtlpjclglhjcghaaDoor
