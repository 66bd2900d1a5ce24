/- Part of the proof: own text. -/
import Derived.Test.YthdbkmpkebdliaaGreatDoorKN2
import Derived.Test.YthdbkmpkebdliaaGreatDoorKN8
set_option linter.all false
set_option maxHeartbeats 20000000
namespace Go.Proofs.YthdbkmpkebdliaaGreatDoor
open Go.ChangeShapes Go.WideShapes Go.ChangeAt Go.RowKit Go.Deep Go.ChangeMaps
theorem over : Rows.ReadbinExactSaid :=
  OpenClaim.holds_of_wide 9 Tryz.f9 rfl rfl rfl rfl rfl rfl rfl ⟨rfl, rfl, rfl, rfl, rfl⟩ rfl rfl rfl rfl rfl o1 Tryz.func9 o2 o3 o4 (fun os started H enc _ => lifted os started H enc)
theorem q1 : Rows.readbinExactRow.wfByText (OpenSpec.ofChange Rows.readbinExactSpec) = true := by kernel_rfl
theorem q2 : Tryz.prog.mainIs = some (true, "daa3e84377c37ee9aa9370375b9bf02a9b048f9791c5dfe582e5228de482010f".toList) := by kernel_rfl
theorem q3 : true = Tryz.prog.looks [] := by kernel_rfl
theorem q4 : ([3, 24, 3].all fun u => !Tryz.prog.wantsStandIn u) = true := by kernel_rfl
theorem q5 : false = Rows.readbinExactRow.goesBy Tryz.prog := by kernel_rfl
end Go.Proofs.YthdbkmpkebdliaaGreatDoor
