/- Products of phasors, by the kernel's evaluation (part 0). No condition. -/
import Derived.Test.YtocclddnaaaohaaCp
namespace Go.Proofs.Ytocclddnaaaohaa
theorem rK0 : rowK 0 = true := by decide +kernel
theorem rK1 : rowK 1 = true := by decide +kernel
theorem rK2 : rowK 2 = true := by decide +kernel
theorem rK3 : rowK 3 = true := by decide +kernel
theorem rK4 : rowK 4 = true := by decide +kernel
theorem rK5 : rowK 5 = true := by decide +kernel
theorem rK6 : rowK 6 = true := by decide +kernel
theorem rK7 : rowK 7 = true := by decide +kernel
theorem rK8 : rowK 8 = true := by decide +kernel
theorem rK9 : rowK 9 = true := by decide +kernel
theorem rK10 : rowK 10 = true := by decide +kernel
theorem rK11 : rowK 11 = true := by decide +kernel
theorem rK12 : rowK 12 = true := by decide +kernel
theorem rK13 : rowK 13 = true := by decide +kernel
theorem rK14 : rowK 14 = true := by decide +kernel
theorem rK15 : rowK 15 = true := by decide +kernel
end Go.Proofs.Ytocclddnaaaohaa
