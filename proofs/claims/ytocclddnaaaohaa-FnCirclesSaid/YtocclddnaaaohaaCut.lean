/- The facts of the cut that its head's words decide. No condition. -/
import Derived.Test.YtocclddnaaaohaaChecked
import Derived.WalkKit
import Derived.ProofKit
namespace Go.Proofs.Ytocclddnaaaohaa
open Go.RowKit
set_option maxRecDepth 100000 in
theorem signs : ∃ r, behindMainWord (wordsSigns Try.prog.initOrder.toList) = "cut".toList :: r := by
  refine ⟨(behindMainWord (wordsSigns Try.prog.initOrder.toList)).tail, ?_⟩
  have h : Try.prog.initOrder = String.ofList _ := rfl
  rw [h, String.toList_ofList]
  clear h
  show _ = _
  kernel_rfl
theorem strips (r : List (List Char)) : stripLifts liftWords ("cut".toList :: r) = ([], "cut".toList :: r) := by rfl
theorem make_of {P : Program} {r : List (List Char)} (h : behindMainWord (wordsSigns P.initOrder.toList) = "cut".toList :: r) : P.make = some .cut := by
  unfold Program.make
  rw [h]
  rfl
theorem lifts_of {P : Program} {r : List (List Char)} (h : behindMainWord (wordsSigns P.initOrder.toList) = "cut".toList :: r) : P.liftsFinal = false := by
  unfold Program.liftsFinal Program.headLifts
  simp only [h, strips]
  rfl
theorem enter_of {P : Program} {r : List (List Char)} (h : behindMainWord (wordsSigns P.initOrder.toList) = "cut".toList :: r) (h1 : P.laysLater = false) (h2 : P.bearsReflect = false) (h3 : P.doorFits [] = true) : P.mayEnter = true := by
  unfold Program.mayEnter
  rw [h]
  simp only [strips, h1, h2, h3]
  rfl
theorem noLater : Try.prog.laysLater = false := by kernel_rfl
theorem noReflect : Try.prog.bearsReflect = false := by kernel_rfl
theorem doorOk : Try.prog.doorFits [] = true := by kernel_rfl
theorem cutMake : Try.prog.make = some .cut := by
  obtain ⟨r, h⟩ := signs
  exact make_of h
theorem cutLifts : Try.prog.liftsFinal = false := by
  obtain ⟨r, h⟩ := signs
  exact lifts_of h
theorem cutEnter : Try.prog.mayEnter = true := by
  obtain ⟨r, h⟩ := signs
  exact enter_of h noLater noReflect doorOk
theorem cutRowed : laidOutB Try.prog = true := by kernel_rfl
theorem cutMaps : mapsRowed Try.prog = true := by kernel_rfl
end Go.Proofs.Ytocclddnaaaohaa
