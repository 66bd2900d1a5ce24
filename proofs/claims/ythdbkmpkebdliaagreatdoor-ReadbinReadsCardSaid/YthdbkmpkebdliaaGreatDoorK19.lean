/- Part 19 of the proof: own text. -/
import Derived.Test.YthdbkmpkebdliaaGreatDoorK12
import Derived.Test.YthdbkmpkebdliaaGreatDoorK18
set_option linter.all false
set_option maxHeartbeats 20000000
namespace Go.Proofs.YthdbkmpkebdliaaGreatDoor
open Go.ChangeShapes Go.WideShapes Go.ChangeAt Go.RowKit Go.Deep Go.ChangeMaps
theorem over : Rows.ReadbinReadsSaid :=
  OpenClaim.holds_of_wide 7 Tryz.f7 rfl rfl rfl rfl rfl rfl rfl ⟨rfl, rfl, rfl, rfl, rfl⟩ rfl rfl rfl rfl rfl o1 Tryz.func7 o2 o3 o4 (fun os started H enc _ => lifted os started H enc)
theorem q1 : Rows.readbinReadsRow.wfByText (OpenSpec.ofChange Rows.readbinReadsSpec) = true := by kernel_rfl
theorem q2 : Tryz.prog.mainIs = some (true, "daa3e84377c37ee9aa9370375b9bf02a9b048f9791c5dfe582e5228de482010f".toList) := by kernel_rfl
theorem q3 : true = Tryz.prog.looks [] := by kernel_rfl
theorem q4 : ([3, 3, 9].all fun u => !Tryz.prog.wantsStandIn u) = true := by kernel_rfl
theorem q5 : false = Rows.readbinReadsRow.goesBy Tryz.prog := by kernel_rfl
end Go.Proofs.YthdbkmpkebdliaaGreatDoor
