/- The facts of the cut that its head's words decide. No condition. -/
import Derived.Test.YtmomgaiondjinaaChecked
import Derived.WalkKit
import Derived.ProofKit
namespace Go.Proofs.Ytmomgaiondjinaa
open Go.RowKit
set_option maxRecDepth 100000 in
theorem signs : ∃ r, behindMainWord (wordsSigns Try.prog.initOrder.toList) = "cut".toList :: r := by
  refine ⟨(behindMainWord (wordsSigns Try.prog.initOrder.toList)).tail, ?_⟩
  have h : Try.prog.initOrder = String.ofList _ := rfl
  rw [h, String.toList_ofList]
  clear h
  show _ = _
  kernel_rfl
theorem strips (r : List (List Char)) : stripLifts liftWords ("cut".toList :: r) = ([], "cut".toList :: r) := by rfl
theorem cutMake : Try.prog.make = some .cut := by
  obtain ⟨r, h⟩ := signs
  unfold Program.make
  rw [h]
  rfl
theorem cutLifts : Try.prog.liftsFinal = false := by
  obtain ⟨r, h⟩ := signs
  unfold Program.liftsFinal Program.headLifts
  simp only [h, strips]
  rfl
theorem noLater : Try.prog.laysLater = false := by kernel_rfl
theorem noReflect : Try.prog.bearsReflect = false := by kernel_rfl
theorem doorOk : Try.prog.doorFits [] = true := by kernel_rfl
theorem cutEnter : Try.prog.mayEnter = true := by
  obtain ⟨r, h⟩ := signs
  unfold Program.mayEnter
  rw [h]
  simp only [strips, noLater, noReflect, doorOk]
  rfl
theorem cutRowed : laidOutB Try.prog = true := by kernel_rfl
theorem cutMaps : mapsRowed Try.prog = true := by kernel_rfl
end Go.Proofs.Ytmomgaiondjinaa
