/- Products of phasors, by the kernel's evaluation (part 3). No condition. -/
import Derived.Test.YtocclddnaaaohaaCp
namespace Go.Proofs.Ytocclddnaaaohaa
theorem rK48 : rowK 48 = true := by decide +kernel
theorem rK49 : rowK 49 = true := by decide +kernel
theorem rK50 : rowK 50 = true := by decide +kernel
theorem rK51 : rowK 51 = true := by decide +kernel
theorem rK52 : rowK 52 = true := by decide +kernel
theorem rK53 : rowK 53 = true := by decide +kernel
theorem rK54 : rowK 54 = true := by decide +kernel
theorem rK55 : rowK 55 = true := by decide +kernel
theorem rK56 : rowK 56 = true := by decide +kernel
theorem rK57 : rowK 57 = true := by decide +kernel
theorem rK58 : rowK 58 = true := by decide +kernel
theorem rK59 : rowK 59 = true := by decide +kernel
theorem rK60 : rowK 60 = true := by decide +kernel
theorem rK61 : rowK 61 = true := by decide +kernel
theorem rK62 : rowK 62 = true := by decide +kernel
theorem rK63 : rowK 63 = true := by decide +kernel
end Go.Proofs.Ytocclddnaaaohaa
