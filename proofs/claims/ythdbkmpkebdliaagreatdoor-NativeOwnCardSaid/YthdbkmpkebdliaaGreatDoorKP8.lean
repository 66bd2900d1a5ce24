/- Part of the proof: own text. -/
import Derived.Test.YthdbkmpkebdliaaGreatDoorKP3
import Derived.Test.YthdbkmpkebdliaaGreatDoorKP4
import Derived.Test.YthdbkmpkebdliaaGreatDoorKP5
import Derived.Test.YthdbkmpkebdliaaGreatDoorKP6
import Derived.Test.YthdbkmpkebdliaaGreatDoorKP7
set_option linter.all false
set_option maxHeartbeats 20000000
namespace Go.Proofs.YthdbkmpkebdliaaGreatDoor
open Go.ChangeShapes Go.WideShapes Go.ChangeAt Go.RowKit Go.Deep Go.ChangeMaps
theorem o1 : Tryz.prog.funcNamed "caliper/caliperlaw21.NativeOwn" = some 13 := by kernel_rfl
theorem o2 : joinedFacts Tryz.prog 13 Tryz.f13 Rows.nativeOwnSpec Rows.nativeOwnRow = true := by
  unfold joinedFacts
  rw [j0, j1, j2, j3, j4, j5, j6, j7, j8, j9, j10, j11, j12, j13, j14, j15, j16, j17, j18, j19, j20, j21, j22, j23, j24, j25, j26, j27, j29, j30, j31]
  kernel_rfl
theorem o3 : Tryz.f13.isInstance Tryz.prog Rows.nativeOwnRow.origin Rows.nativeOwnRow.targs := of_decide_eq_true (by kernel_rfl)
theorem o4 : Tryz.f13.isWrapper Tryz.prog Rows.nativeOwnRow.wrapper Rows.nativeOwnRow.mainSum := by unfold Func.isWrapper; first | (rw [if_pos (by decide +kernel)]; kernel_rfl) | (rw [if_neg (by decide +kernel)]; exact ⟨rfl, rfl⟩)
end Go.Proofs.YthdbkmpkebdliaaGreatDoor
