/- Part 18 of the proof: own text. -/
import Derived.Test.YthdbkmpkebdliaaGreatDoorK13
import Derived.Test.YthdbkmpkebdliaaGreatDoorK14
import Derived.Test.YthdbkmpkebdliaaGreatDoorK15
import Derived.Test.YthdbkmpkebdliaaGreatDoorK16
import Derived.Test.YthdbkmpkebdliaaGreatDoorK17
set_option linter.all false
set_option maxHeartbeats 20000000
namespace Go.Proofs.YthdbkmpkebdliaaGreatDoor
open Go.ChangeShapes Go.WideShapes Go.ChangeAt Go.RowKit Go.Deep Go.ChangeMaps
theorem o1 : Tryz.prog.funcNamed "caliper/caliperlaw08.ReadbinReads" = some 7 := by kernel_rfl
theorem o2 : joinedFacts Tryz.prog 7 Tryz.f7 Rows.readbinReadsSpec Rows.readbinReadsRow = true := by
  unfold joinedFacts
  rw [j0, j1, j2, j3, j4, j5, j6, j7, j8, j9, j10, j11, j12, j13, j14, j15, j16, j17, j18, j19, j20, j21, j22, j23, j24, j25, j26, j27, j29, j30, j31]
  kernel_rfl
theorem o3 : Tryz.f7.isInstance Tryz.prog Rows.readbinReadsRow.origin Rows.readbinReadsRow.targs := of_decide_eq_true (by kernel_rfl)
theorem o4 : Tryz.f7.isWrapper Tryz.prog Rows.readbinReadsRow.wrapper Rows.readbinReadsRow.mainSum := by unfold Func.isWrapper; first | (rw [if_pos (by decide +kernel)]; kernel_rfl) | (rw [if_neg (by decide +kernel)]; exact ⟨rfl, rfl⟩)
end Go.Proofs.YthdbkmpkebdliaaGreatDoor
