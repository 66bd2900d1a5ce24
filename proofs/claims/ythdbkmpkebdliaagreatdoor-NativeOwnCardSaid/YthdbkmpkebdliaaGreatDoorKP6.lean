/- Part of the proof: own text. -/
import Derived.Test.YthdbkmpkebdliaaGreatDoorTie
import Derived.Test.YthdbkmpkebdliaaGreatDoorCards
import Derived.WalkKit
import Derived.ProofKit
import Derived.OpenShut
import Derived.LaidMore
import Derived.Stop.Joined
import Derived.Laws.IdiomArrays
import Derived.Lib.LaidTab
import Derived.Lib.LaidU8
import Derived.Deep.Strs
import Derived.SevenTiedAt
import Derived.ChangeMaps5
set_option linter.all false
set_option maxHeartbeats 20000000
namespace Go.Proofs.YthdbkmpkebdliaaGreatDoor
open Go.ChangeShapes Go.WideShapes Go.ChangeAt Go.RowKit Go.Deep Go.ChangeMaps
theorem j12 : ((Rows.nativeOwnRow.named == Tryz.prog.varsNamed 13)) = true := by kernel_rfl
end Go.Proofs.YthdbkmpkebdliaaGreatDoor
