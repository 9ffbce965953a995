/- What math's functions without a Go body give: the bits of a float, the float of some bits. No condition. -/
import Derived.Test.YthckidnmmmfjbaaFl
import Derived.Test.YthckidnmmmfjbaaChecked
import Derived.KernelRfl
namespace Go.Proofs.Ythckidnmmmfjbaa
open Go.RowKit Go.Proofs.Ythckidnmmmfjbaa.Fl
@[go_sem] theorem run_f32bits (b : Nat) (w : World) : (callFunc 80 #[.float .f32 b]).run Try.prog w = .ok (.value (.int .u32 b)) w := by rw [run_callFunc_extern (e := Extern.MathFloatBits.float32bits) Try.func80 (by kernel_rfl) (by kernel_rfl) (by kernel_rfl) (by kernel_rfl)]; rfl
@[go_sem] theorem run_f64bits (b : Nat) (w : World) : (callFunc 67 #[.float .f64 b]).run Try.prog w = .ok (.value (.int .u64 b)) w := by rw [run_callFunc_extern (e := Extern.MathFloatBits.float64bits) Try.func67 (by kernel_rfl) (by kernel_rfl) (by kernel_rfl) (by kernel_rfl)]; rfl
@[go_sem] theorem run_f32from (n : Int) (w : World) : (callFunc 38 #[.int .u32 n]).run Try.prog w = .ok (.value (.float .f32 n.toNat)) w := by rw [run_callFunc_extern (e := Extern.MathFloatBits.float32frombits) Try.func38 (by kernel_rfl) (by kernel_rfl) (by kernel_rfl) (by kernel_rfl)]; rfl
@[go_sem] theorem run_f64from (n : Int) (w : World) : (callFunc 66 #[.int .u64 n]).run Try.prog w = .ok (.value (.float .f64 n.toNat)) w := by rw [run_callFunc_extern (e := Extern.MathFloatBits.float64frombits) Try.func66 (by kernel_rfl) (by kernel_rfl) (by kernel_rfl) (by kernel_rfl)]; rfl
theorem run_sqrtE (b : Nat) (w : World) : (callFunc 69 #[.float .f64 b]).run Try.prog w = ((Extern.MathSqrt.sqrt #[.float .f64 b]).run Try.prog w).andThen fun v w' => .ok (.value v) w' := run_callFunc_extern (e := Extern.MathSqrt.sqrt) Try.func69 (by kernel_rfl) (by kernel_rfl) (by kernel_rfl) (by kernel_rfl) _ _
theorem run_truncE (b : Nat) (w : World) : (callFunc 86 #[.float .f64 b]).run Try.prog w = ((Extern.MathFloor.toIntegral "math.archTrunc" .zero #[.float .f64 b]).run Try.prog w).andThen fun v w' => .ok (.value v) w' := run_callFunc_extern (e := Extern.MathFloor.toIntegral "math.archTrunc" .zero) Try.func86 (by kernel_rfl) (by kernel_rfl) (by kernel_rfl) (by kernel_rfl) _ _
theorem run_floorE (b : Nat) (w : World) : (callFunc 74 #[.float .f64 b]).run Try.prog w = ((Extern.MathFloor.toIntegral "math.archFloor" .down #[.float .f64 b]).run Try.prog w).andThen fun v w' => .ok (.value v) w' := run_callFunc_extern (e := Extern.MathFloor.toIntegral "math.archFloor" .down) Try.func74 (by kernel_rfl) (by kernel_rfl) (by kernel_rfl) (by kernel_rfl) _ _
end Go.Proofs.Ythckidnmmmfjbaa
