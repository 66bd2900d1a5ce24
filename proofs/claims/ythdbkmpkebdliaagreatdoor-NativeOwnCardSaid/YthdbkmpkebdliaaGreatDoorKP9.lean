/- Part of the proof: own text. -/
import Derived.Test.YthdbkmpkebdliaaGreatDoorKP2
import Derived.Test.YthdbkmpkebdliaaGreatDoorKP8
set_option linter.all false
set_option maxHeartbeats 20000000
namespace Go.Proofs.YthdbkmpkebdliaaGreatDoor
open Go.ChangeShapes Go.WideShapes Go.ChangeAt Go.RowKit Go.Deep Go.ChangeMaps
theorem over : Rows.NativeOwnSaid :=
  OpenClaim.holds_of_wide 13 Tryz.f13 rfl rfl rfl rfl rfl rfl rfl ⟨rfl, rfl, rfl, rfl, rfl⟩ rfl rfl rfl rfl rfl o1 Tryz.func13 o2 o3 o4 (fun os started H enc _ => lifted os started H enc)
theorem q1 : Rows.nativeOwnRow.wfByText (OpenSpec.ofChange Rows.nativeOwnSpec) = true := by kernel_rfl
theorem q2 : Tryz.prog.mainIs = some (true, "daa3e84377c37ee9aa9370375b9bf02a9b048f9791c5dfe582e5228de482010f".toList) := by kernel_rfl
theorem q3 : true = Tryz.prog.looks [] := by kernel_rfl
theorem q4 : ([2].all fun u => !Tryz.prog.wantsStandIn u) = true := by kernel_rfl
theorem q5 : false = Rows.nativeOwnRow.goesBy Tryz.prog := by kernel_rfl
end Go.Proofs.YthdbkmpkebdliaaGreatDoor
