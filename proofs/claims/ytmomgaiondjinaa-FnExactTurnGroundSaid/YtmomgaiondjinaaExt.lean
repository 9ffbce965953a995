/- What math's functions without a Go body give: the bits of a float, the float of some bits. No condition. -/
import Derived.Test.YtmomgaiondjinaaFl
import Derived.Test.YtmomgaiondjinaaChecked
import Derived.KernelRfl
namespace Go.Proofs.Ytmomgaiondjinaa
open Go.RowKit Go.Proofs.Ytmomgaiondjinaa.Fl
@[go_sem] theorem run_f32bits (b : Nat) (w : World) : (callFunc 126 #[.float .f32 b]).run Try.prog w = .ok (.value (.int .u32 b)) w := by rw [run_callFunc_extern (e := Extern.MathFloatBits.float32bits) Try.func126 (by kernel_rfl) (by kernel_rfl) (by kernel_rfl) (by kernel_rfl)]; rfl
theorem run_sqrtE (b : Nat) (w : World) : (callFunc 125 #[.float .f64 b]).run Try.prog w = ((Extern.MathSqrt.sqrt #[.float .f64 b]).run Try.prog w).andThen fun v w' => .ok (.value v) w' := run_callFunc_extern (e := Extern.MathSqrt.sqrt) Try.func125 (by kernel_rfl) (by kernel_rfl) (by kernel_rfl) (by kernel_rfl) _ _
end Go.Proofs.Ytmomgaiondjinaa
