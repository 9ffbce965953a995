/- Tenths of decibels of products of small numbers, by the kernel's evaluation (part 1). No program. No condition. -/
import Derived.Test.YtocclddnaaaohaaKt
namespace Go.Proofs.Ytocclddnaaaohaa.Fl
theorem cA29 : chkA 29 = true := by decide +kernel
theorem cA31 : chkA 31 = true := by decide +kernel
theorem cA33 : chkA 33 = true := by decide +kernel
theorem cA35 : chkA 35 = true := by decide +kernel
theorem cA37 : chkA 37 = true := by decide +kernel
theorem cA39 : chkA 39 = true := by decide +kernel
theorem cA41 : chkA 41 = true := by decide +kernel
theorem cA43 : chkA 43 = true := by decide +kernel
theorem cA45 : chkA 45 = true := by decide +kernel
theorem cA47 : chkA 47 = true := by decide +kernel
theorem cA49 : chkA 49 = true := by decide +kernel
theorem cA51 : chkA 51 = true := by decide +kernel
theorem cA53 : chkA 53 = true := by decide +kernel
theorem cA55 : chkA 55 = true := by decide +kernel
theorem cA57 : chkA 57 = true := by decide +kernel
theorem cA59 : chkA 59 = true := by decide +kernel
theorem cA61 : chkA 61 = true := by decide +kernel
end Go.Proofs.Ytocclddnaaaohaa.Fl
