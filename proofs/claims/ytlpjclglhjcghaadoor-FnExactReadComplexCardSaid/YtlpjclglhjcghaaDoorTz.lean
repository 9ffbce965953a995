/- What the rows' lists give of the table of trailing zeros. No condition. -/
import Derived.Test.YtlpjclglhjcghaaDoorCmn
namespace Go.Proofs.YtlpjclglhjcghaaDoor
open Go Go.RowKit Go.ChangeShapes Go.WideShapes
theorem gTz : Tryd.prog.globalNamed "math/bits.deBruijn64tab" = some 8 := by kernel_rfl
theorem gTzType : (Tryd.prog.globals[8]?).map (·.type) = some 157 := by kernel_rfl
theorem cellsTz : Tryd.prog.cellsOf 157 = 64 := by kernel_rfl
theorem cellsU8 : Tryd.prog.cellsOf 5 = 1 := by kernel_rfl
def tzTab : List Int := [0, 1, 56, 2, 57, 49, 28, 3, 61, 58, 42, 50, 38, 29, 17, 4, 62, 47, 59, 36, 45, 43, 51, 22, 53, 39, 33, 30, 24, 18, 12, 5, 63, 55, 48, 27, 60, 41, 37, 16, 46, 35, 44, 21, 52, 32, 23, 11, 54, 26, 40, 15, 34, 20, 31, 10, 25, 14, 19, 9, 13, 8, 7, 6]
theorem tzIs {W : World} {rest : List (String × DataW Unit)} (h : laidMet Tryd.prog (("math/bits.deBruijn64tab", Rows.laid_math_bits_deBruijn64tab) :: rest) W) : W.cell? ⟨8, 15, none⟩ = some (.int .u8 4) :=
  Lib.TabIs.cell (Lib.tabIs_of_head (k := .u8) (zs := tzTab) (rest := rest) gTz gTzType Tryd.underlying157 Tryd.underlying5 cellsU8 cellsTz h) gTz 15 (by decide)
end Go.Proofs.YtlpjclglhjcghaaDoor
