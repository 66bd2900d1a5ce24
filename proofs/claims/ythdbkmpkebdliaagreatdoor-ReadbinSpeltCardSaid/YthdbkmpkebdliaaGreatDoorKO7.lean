/- Part of the proof: own text. -/
import Derived.Test.YthdbkmpkebdliaaGreatDoorTie
import Derived.Test.YthdbkmpkebdliaaGreatDoorCards
import Derived.WalkKit
import Derived.ProofKit
import Derived.OpenShut
import Derived.LaidMore
import Derived.Stop.Joined
import Derived.Laws.IdiomArrays
import Derived.Lib.LaidTab
import Derived.Lib.LaidU8
import Derived.Deep.Strs
import Derived.SevenTiedAt
import Derived.ChangeMaps5
set_option linter.all false
set_option maxHeartbeats 20000000
namespace Go.Proofs.YthdbkmpkebdliaaGreatDoor
open Go.ChangeShapes Go.WideShapes Go.ChangeAt Go.RowKit Go.Deep Go.ChangeMaps
theorem j13 : ((Rows.readbinSpeltRow.maps == (Tryz.f10.params.toList ++ Rows.readbinSpeltSpec.plain.varTypes Tryz.prog).any (Tryz.prog.mapsRec ·))) = true := by kernel_rfl
theorem j14 : ((Rows.readbinSpeltRow.ifaces == (Tryz.f10.params.toList ++ Rows.readbinSpeltSpec.plain.varTypes Tryz.prog).any (Tryz.prog.ifacesRec ·))) = true := by kernel_rfl
theorem j15 : ((Rows.readbinSpeltRow.mapsOut == Tryz.prog.mapsAmong Tryz.f10.resultTypes.toList)) = true := by kernel_rfl
theorem j16 : ((Rows.readbinSpeltRow.loops == (Tryz.f10.params.toList ++ Rows.readbinSpeltSpec.plain.varTypes Tryz.prog).any (Tryz.prog.loopsFrom ·))) = true := by kernel_rfl
theorem j17 : ((Rows.readbinSpeltRow.wideKeys == (Tryz.f10.params.toList ++ Rows.readbinSpeltSpec.plain.varTypes Tryz.prog ++ Tryz.f10.resultTypes.toList).any (Tryz.prog.wideKeysFrom ·))) = true := by kernel_rfl
theorem j18 : (Rows.readbinSpeltSpec.vars.all (Tryz.prog.varReadable ·)) = true := by kernel_rfl
theorem j19 : (Tryz.f10.resultTypes.all (fun t => Tryz.prog.readableRec t && decide (t < Tryz.prog.types.size))) = true := by kernel_rfl
theorem j20 : ((Rows.readbinSpeltRow.ifacesOut == Tryz.f10.resultTypes.toList.any (Tryz.prog.ifacesRec ·))) = true := by kernel_rfl
theorem j21 : ((Rows.readbinSpeltRow.loopsOut == Tryz.f10.resultTypes.toList.any (Tryz.prog.loopsFrom ·))) = true := by kernel_rfl
theorem j22 : ((Rows.readbinSpeltRow.plainKeys == Tryz.prog.plainKeys)) = true := by kernel_rfl
theorem j23 : (Rows.readbinSpeltRow.shortTexts.isNone) = true := by kernel_rfl
theorem j24 : (Tryz.prog.stopsHeard) = true := by kernel_rfl
theorem j25 : (Tryz.prog.mayEnter) = true := by kernel_rfl
theorem j26 : ((Rows.readbinSpeltRow.lifted == Tryz.prog.liftsFinal)) = true := by kernel_rfl
theorem j27 : ((Tryz.prog.make == some Rows.readbinSpeltRow.make)) = true := by kernel_rfl
theorem j29 : ((Rows.readbinSpeltRow.pinned == Rows.readbinSpeltRow.pinnedBy)) = true := by kernel_rfl
theorem j30 : ((Rows.readbinSpeltRow.veiled == (Tryz.f10.params.toList ++ Rows.readbinSpeltSpec.plain.varTypes Tryz.prog ++ Tryz.f10.resultTypes.toList).any (Tryz.prog.veiledRec ·))) = true := by kernel_rfl
theorem j31 : (Rows.readbinSpeltRow.veiledFits Tryz.prog Tryz.f10.params.toList (Tryz.f10.params.toList ++ Rows.readbinSpeltSpec.plain.varTypes Tryz.prog ++ Tryz.f10.resultTypes.toList)) = true := by kernel_rfl
end Go.Proofs.YthdbkmpkebdliaaGreatDoor
