/- What math's functions without a Go body give: the bits of a float, the float of some bits. No condition. -/
import Derived.Test.YtocclddnaaaohaaFl
import Derived.Test.YtocclddnaaaohaaChecked
import Derived.KernelRfl
namespace Go.Proofs.Ytocclddnaaaohaa
open Go.RowKit Go.Proofs.Ytocclddnaaaohaa.Fl
@[go_sem] theorem run_f32bits (b : Nat) (w : World) : (callFunc 40 #[.float .f32 b]).run Try.prog w = .ok (.value (.int .u32 b)) w := by rw [run_callFunc_extern (e := Extern.MathFloatBits.float32bits) Try.func40 (by kernel_rfl) (by kernel_rfl) (by kernel_rfl) (by kernel_rfl)]; rfl
@[go_sem] theorem run_f64bits (b : Nat) (w : World) : (callFunc 26 #[.float .f64 b]).run Try.prog w = .ok (.value (.int .u64 b)) w := by rw [run_callFunc_extern (e := Extern.MathFloatBits.float64bits) Try.func26 (by kernel_rfl) (by kernel_rfl) (by kernel_rfl) (by kernel_rfl)]; rfl
@[go_sem] theorem run_f64from (n : Int) (w : World) : (callFunc 25 #[.int .u64 n]).run Try.prog w = .ok (.value (.float .f64 n.toNat)) w := by rw [run_callFunc_extern (e := Extern.MathFloatBits.float64frombits) Try.func25 (by kernel_rfl) (by kernel_rfl) (by kernel_rfl) (by kernel_rfl)]; rfl
theorem run_sqrtE (b : Nat) (w : World) : (callFunc 36 #[.float .f64 b]).run Try.prog w = ((Extern.MathSqrt.sqrt #[.float .f64 b]).run Try.prog w).andThen fun v w' => .ok (.value v) w' := run_callFunc_extern (e := Extern.MathSqrt.sqrt) Try.func36 (by kernel_rfl) (by kernel_rfl) (by kernel_rfl) (by kernel_rfl) _ _
theorem run_truncE (b : Nat) (w : World) : (callFunc 34 #[.float .f64 b]).run Try.prog w = ((Extern.MathFloor.toIntegral "math.archTrunc" .zero #[.float .f64 b]).run Try.prog w).andThen fun v w' => .ok (.value v) w' := run_callFunc_extern (e := Extern.MathFloor.toIntegral "math.archTrunc" .zero) Try.func34 (by kernel_rfl) (by kernel_rfl) (by kernel_rfl) (by kernel_rfl) _ _
theorem run_floorE (b : Nat) (w : World) : (callFunc 31 #[.float .f64 b]).run Try.prog w = ((Extern.MathFloor.toIntegral "math.archFloor" .down #[.float .f64 b]).run Try.prog w).andThen fun v w' => .ok (.value v) w' := run_callFunc_extern (e := Extern.MathFloor.toIntegral "math.archFloor" .down) Try.func31 (by kernel_rfl) (by kernel_rfl) (by kernel_rfl) (by kernel_rfl) _ _
end Go.Proofs.Ytocclddnaaaohaa
