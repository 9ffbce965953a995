/- Tenths of decibels of products of small numbers, by the kernel's evaluation (part 0). No program. No condition. -/
import Derived.Test.YtocclddnaaaohaaKt
namespace Go.Proofs.Ytocclddnaaaohaa.Fl
theorem cA1 : chkA 1 = true := by decide +kernel
theorem cA3 : chkA 3 = true := by decide +kernel
theorem cA5 : chkA 5 = true := by decide +kernel
theorem cA7 : chkA 7 = true := by decide +kernel
theorem cA9 : chkA 9 = true := by decide +kernel
theorem cA11 : chkA 11 = true := by decide +kernel
theorem cA13 : chkA 13 = true := by decide +kernel
theorem cA15 : chkA 15 = true := by decide +kernel
theorem cA17 : chkA 17 = true := by decide +kernel
theorem cA19 : chkA 19 = true := by decide +kernel
theorem cA21 : chkA 21 = true := by decide +kernel
theorem cA23 : chkA 23 = true := by decide +kernel
theorem cA25 : chkA 25 = true := by decide +kernel
theorem cA27 : chkA 27 = true := by decide +kernel
end Go.Proofs.Ytocclddnaaaohaa.Fl
