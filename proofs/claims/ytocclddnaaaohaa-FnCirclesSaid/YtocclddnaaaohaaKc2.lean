/- Tenths of decibels of products of small numbers, by the kernel's evaluation (part 2). No program. No condition. -/
import Derived.Test.YtocclddnaaaohaaKt
namespace Go.Proofs.Ytocclddnaaaohaa.Fl
theorem cA63 : chkA 63 = true := by decide +kernel
theorem cA65 : chkA 65 = true := by decide +kernel
theorem cA67 : chkA 67 = true := by decide +kernel
theorem cA69 : chkA 69 = true := by decide +kernel
theorem cA71 : chkA 71 = true := by decide +kernel
theorem cA73 : chkA 73 = true := by decide +kernel
theorem cA75 : chkA 75 = true := by decide +kernel
theorem cA77 : chkA 77 = true := by decide +kernel
theorem cA79 : chkA 79 = true := by decide +kernel
theorem cA81 : chkA 81 = true := by decide +kernel
theorem cA83 : chkA 83 = true := by decide +kernel
theorem cA85 : chkA 85 = true := by decide +kernel
theorem cA87 : chkA 87 = true := by decide +kernel
theorem cA89 : chkA 89 = true := by decide +kernel
theorem cA91 : chkA 91 = true := by decide +kernel
theorem cA93 : chkA 93 = true := by decide +kernel
theorem cA95 : chkA 95 = true := by decide +kernel
theorem cA97 : chkA 97 = true := by decide +kernel
theorem cA99 : chkA 99 = true := by decide +kernel
theorem cA101 : chkA 101 = true := by decide +kernel
theorem cA103 : chkA 103 = true := by decide +kernel
theorem cA105 : chkA 105 = true := by decide +kernel
theorem cA107 : chkA 107 = true := by decide +kernel
end Go.Proofs.Ytocclddnaaaohaa.Fl
