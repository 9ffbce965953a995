/- What math's functions without a Go body give: the bits of a float, the float of some bits. No condition. -/
import Derived.Test.YtcopmlpjlmhafaaFl
import Derived.Test.YtcopmlpjlmhafaaChecked
import Derived.KernelRfl
namespace Go.Proofs.Ytcopmlpjlmhafaa
open Go.RowKit Go.Proofs.Ytcopmlpjlmhafaa.Fl
@[go_sem] theorem run_f32bits (b : Nat) (w : World) : (callFunc 27 #[.float .f32 b]).run Try.prog w = .ok (.value (.int .u32 b)) w := by rw [run_callFunc_extern (e := Extern.MathFloatBits.float32bits) Try.func27 (by kernel_rfl) (by kernel_rfl) (by kernel_rfl) (by kernel_rfl)]; rfl
@[go_sem] theorem run_f64bits (b : Nat) (w : World) : (callFunc 34 #[.float .f64 b]).run Try.prog w = .ok (.value (.int .u64 b)) w := by rw [run_callFunc_extern (e := Extern.MathFloatBits.float64bits) Try.func34 (by kernel_rfl) (by kernel_rfl) (by kernel_rfl) (by kernel_rfl)]; rfl
@[go_sem] theorem run_f64from (n : Int) (w : World) : (callFunc 33 #[.int .u64 n]).run Try.prog w = .ok (.value (.float .f64 n.toNat)) w := by rw [run_callFunc_extern (e := Extern.MathFloatBits.float64frombits) Try.func33 (by kernel_rfl) (by kernel_rfl) (by kernel_rfl) (by kernel_rfl)]; rfl
end Go.Proofs.Ytcopmlpjlmhafaa
