/- Part 11 of the proof: own text. -/
import Derived.Test.YthdbkmpkebdliaaGreatDoorTie
import Derived.Test.YthdbkmpkebdliaaGreatDoorCards
import Derived.WalkKit
import Derived.ProofKit
import Derived.OpenShut
import Derived.LaidMore
import Derived.Stop.Joined
import Derived.Laws.IdiomArrays
import Derived.Lib.LaidTab
import Derived.Lib.LaidU8
import Derived.Deep.Strs
import Derived.SevenTiedAt
import Derived.ChangeMaps5
import Derived.Test.YthdbkmpkebdliaaGreatDoorK6
set_option linter.all false
set_option maxHeartbeats 20000000
namespace Go.Proofs.YthdbkmpkebdliaaGreatDoor
open Go.ChangeShapes Go.WideShapes Go.ChangeAt Go.RowKit Go.Deep Go.ChangeMaps
theorem own : ownKnob Tryz.prog.godebug = none := by kernel_rfl
theorem gTab : Tryz.prog.globalNamed "internal/strconv.uint64pow10" = some 3 := by kernel_rfl
theorem tTab : (Tryz.prog.globals[3]?).map (·.type) = some 247 := by kernel_rfl
theorem c22 : Tryz.prog.cellsOf 22 = 1 := by kernel_rfl
theorem cTP : Tryz.prog.cellsOf 247 = 20 := by kernel_rfl
theorem uTP : Tryz.prog.underlying 247 = some (.array 20 22) := by kernel_rfl
theorem u8 : Lays.n260 Tryz.prog Tryz.lays161_ren := { Tryz.lays161 with }
theorem u8x : U8Extra Tryz.prog Tryz.lays161_ren := ⟨by kernel_rfl, by kernel_rfl, by kernel_rfl, by kernel_rfl, by kernel_rfl, by kernel_rfl, by kernel_rfl⟩
def TT (W : World) : Prop := Lib.Utf8Tabs 7 8 W ∧ Lib.TabIs Tryz.prog W "internal/strconv.uint64pow10" .u64 Lib.pow10Tab
noncomputable def door (os : Os) : World :=
  let w := World.doorLaid Tryz.prog 400 os
  let g := (Tryz.prog.globalNamed "unicode/utf8.first").getD 0
  { w with heap := w.heap.set! g (.cells (Go.Pinned.utf8FirstZ.map fun (z : Nat) => Value.int .u8 (z : Int)).toArray (((Tryz.prog.globals[g]?).map (·.type)).getD 0) (0, 0)) }
theorem door_met (os : Os) (args : Array Value) : laidMetH Tryz.prog Rows.readbinReadsRow.laid ((door os).forCall (fun _ _ => 0) ⟨#[], args, []⟩).memory :=
  laidMetH_of_parts3 (fuel := 8) (laidMet_of_run' 8 (by kernel_rfl) (by kernel_rfl)) (by kernel_rfl) (by kernel_rfl)
theorem tab_of_reads {W : World} (h : Lib.VarReads Tryz.prog W "internal/strconv.uint64pow10" (Lib.tabData .u64 Lib.pow10Tab)) : Lib.TabIs Tryz.prog W "internal/strconv.uint64pow10" .u64 Lib.pow10Tab := by
  obtain ⟨g, t, cs, fuel, p, hg, ht, hv, hd⟩ := h
  obtain rfl := Option.some.inj (gTab.symm.trans hg)
  obtain rfl := Option.some.inj (tTab.symm.trans ht)
  unfold Lib.TabIs
  rw [hv, ← Lib.cells_of_tab uTP Tryz.underlying22 c22 cTP hd]
set_option maxRecDepth 100000 in
theorem of_laid {W : World} (h : laidMetH Tryz.prog Rows.readbinReadsRow.laid W) : TT W := by
  rw [MakeChecks.laidMetH_plain _ _ _ (by kernel_rfl)] at h
  exact ⟨utf8Tabs_of_reads (ρ := Tryz.lays161_ren) u8 u8x (Lib.laidMet.reads h (.tail _ (.tail _ (.tail _ (.tail _ (.tail _ (.tail _ (.head _)))))))) (Lib.laidMet.reads h (.tail _ (.tail _ (.tail _ (.head _))))), tab_of_reads (Lib.laidMet.reads h (.tail _ (.tail _ (.head _))))⟩
end Go.Proofs.YthdbkmpkebdliaaGreatDoor
