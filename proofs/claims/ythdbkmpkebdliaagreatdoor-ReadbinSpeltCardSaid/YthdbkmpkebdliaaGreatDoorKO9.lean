/- Part of the proof: own text. -/
import Derived.Test.YthdbkmpkebdliaaGreatDoorKO2
import Derived.Test.YthdbkmpkebdliaaGreatDoorKO8
set_option linter.all false
set_option maxHeartbeats 20000000
namespace Go.Proofs.YthdbkmpkebdliaaGreatDoor
open Go.ChangeShapes Go.WideShapes Go.ChangeAt Go.RowKit Go.Deep Go.ChangeMaps
theorem over : Rows.ReadbinSpeltSaid :=
  OpenClaim.holds_of_wide 10 Tryz.f10 rfl rfl rfl rfl rfl rfl rfl ⟨rfl, rfl, rfl, rfl, rfl⟩ rfl rfl rfl rfl rfl o1 Tryz.func10 o2 o3 o4 (fun os started H enc _ => lifted os started H enc)
theorem q1 : Rows.readbinSpeltRow.wfByText (OpenSpec.ofChange Rows.readbinSpeltSpec) = true := by kernel_rfl
theorem q2 : Tryz.prog.mainIs = some (true, "daa3e84377c37ee9aa9370375b9bf02a9b048f9791c5dfe582e5228de482010f".toList) := by kernel_rfl
theorem q3 : true = Tryz.prog.looks [] := by kernel_rfl
theorem q4 : ([3, 3, 22, 58, 5, 4].all fun u => !Tryz.prog.wantsStandIn u) = true := by kernel_rfl
theorem q5 : false = Rows.readbinSpeltRow.goesBy Tryz.prog := by kernel_rfl
end Go.Proofs.YthdbkmpkebdliaaGreatDoor
