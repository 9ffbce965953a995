/- The walks of IsSubnormal, of the program and of the reference. No condition. -/
import Derived.Test.YtocclddnaaaohaaAbs
import Derived.Test.YtocclddnaaaohaaBits
namespace Go.Proofs.Ytocclddnaaaohaa
open Go.RowKit Go.Proofs.Ytocclddnaaaohaa.Fl

theorem sub64 (x : Nat) : x % 2 ^ 63 < 2 ^ 64 := by omega

/-- Is it subnormal? -/
def subV (x : Nat) : Bool := (FloatKind.f32.format.order x 0 != some .eq) && subE x

end Go.Proofs.Ytocclddnaaaohaa
