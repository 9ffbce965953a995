/- What math's functions without a Go body give: the bits of a float, the float of some bits. No condition. -/
import Derived.Test.YtlpjclglhjcghaaDoorFl
import Derived.Test.YtlpjclglhjcghaaDoorChecked
import Derived.KernelRfl
namespace Go.Proofs.YtlpjclglhjcghaaDoor
open Go.RowKit Go.Proofs.YtlpjclglhjcghaaDoor.Fl
@[go_sem] theorem run_f32bits (b : Nat) (w : World) : (callFunc 86 #[.float .f32 b]).run Tryd.prog w = .ok (.value (.int .u32 b)) w := by rw [run_callFunc_extern (e := Extern.MathFloatBits.float32bits) Tryd.func86 (by kernel_rfl) (by kernel_rfl) (by kernel_rfl) (by kernel_rfl)]; rfl
@[go_sem] theorem run_f32from (n : Int) (w : World) : (callFunc 68 #[.int .u32 n]).run Tryd.prog w = .ok (.value (.float .f32 n.toNat)) w := by rw [run_callFunc_extern (e := Extern.MathFloatBits.float32frombits) Tryd.func68 (by kernel_rfl) (by kernel_rfl) (by kernel_rfl) (by kernel_rfl)]; rfl
end Go.Proofs.YtlpjclglhjcghaaDoor
