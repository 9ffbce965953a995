/- Products of phasors, by the kernel's evaluation (part 2). No condition. -/
import Derived.Test.YtocclddnaaaohaaCp
namespace Go.Proofs.Ytocclddnaaaohaa
theorem rK32 : rowK 32 = true := by decide +kernel
theorem rK33 : rowK 33 = true := by decide +kernel
theorem rK34 : rowK 34 = true := by decide +kernel
theorem rK35 : rowK 35 = true := by decide +kernel
theorem rK36 : rowK 36 = true := by decide +kernel
theorem rK37 : rowK 37 = true := by decide +kernel
theorem rK38 : rowK 38 = true := by decide +kernel
theorem rK39 : rowK 39 = true := by decide +kernel
theorem rK40 : rowK 40 = true := by decide +kernel
theorem rK41 : rowK 41 = true := by decide +kernel
theorem rK42 : rowK 42 = true := by decide +kernel
theorem rK43 : rowK 43 = true := by decide +kernel
theorem rK44 : rowK 44 = true := by decide +kernel
theorem rK45 : rowK 45 = true := by decide +kernel
theorem rK46 : rowK 46 = true := by decide +kernel
theorem rK47 : rowK 47 = true := by decide +kernel
end Go.Proofs.Ytocclddnaaaohaa
