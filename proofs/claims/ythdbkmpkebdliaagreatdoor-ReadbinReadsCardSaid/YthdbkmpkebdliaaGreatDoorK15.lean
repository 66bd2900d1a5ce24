/- Part 15 of the proof: own text. -/
import Derived.Test.YthdbkmpkebdliaaGreatDoorTie
import Derived.WalkKit
set_option maxHeartbeats 20000000
namespace Go.Proofs.YthdbkmpkebdliaaGreatDoor
theorem j11 : ((Rows.readbinReadsRow.recurses == Tryz.prog.recurses 7)) = true := by kernel_rfl
end Go.Proofs.YthdbkmpkebdliaaGreatDoor
