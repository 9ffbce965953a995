/- Products of phasors, by the kernel's evaluation (part 1). No condition. -/
import Derived.Test.YtocclddnaaaohaaCp
namespace Go.Proofs.Ytocclddnaaaohaa
theorem rK16 : rowK 16 = true := by decide +kernel
theorem rK17 : rowK 17 = true := by decide +kernel
theorem rK18 : rowK 18 = true := by decide +kernel
theorem rK19 : rowK 19 = true := by decide +kernel
theorem rK20 : rowK 20 = true := by decide +kernel
theorem rK21 : rowK 21 = true := by decide +kernel
theorem rK22 : rowK 22 = true := by decide +kernel
theorem rK23 : rowK 23 = true := by decide +kernel
theorem rK24 : rowK 24 = true := by decide +kernel
theorem rK25 : rowK 25 = true := by decide +kernel
theorem rK26 : rowK 26 = true := by decide +kernel
theorem rK27 : rowK 27 = true := by decide +kernel
theorem rK28 : rowK 28 = true := by decide +kernel
theorem rK29 : rowK 29 = true := by decide +kernel
theorem rK30 : rowK 30 = true := by decide +kernel
theorem rK31 : rowK 31 = true := by decide +kernel
end Go.Proofs.Ytocclddnaaaohaa
