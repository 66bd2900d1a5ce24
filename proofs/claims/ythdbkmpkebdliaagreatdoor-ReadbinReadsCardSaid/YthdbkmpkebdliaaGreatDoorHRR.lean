import Derived.Test.YthdbkmpkebdliaaGreatDoorK19
set_option linter.all false
namespace Go.Proofs.YthdbkmpkebdliaaGreatDoor
open Go.ChangeShapes Go.WideShapes Go.ChangeAt Go.RowKit Go.Deep Go.ChangeMaps
theorem readbinReads : Rows.ReadbinReadsCardSaid :=
  Claim7.holds_tied_plain_at .later [] [.data, .data, .data, .data, .sentinel, .sentinel, .pinned] true (true, "daa3e84377c37ee9aa9370375b9bf02a9b048f9791c5dfe582e5228de482010f") true
    over (fun _ h => by cases h) q1 (fun _ h => by cases h) readbinReads_row_tie rfl ⟨rfl, rfl⟩ q2 rfl
    (fun f fn hf hfn => by
      obtain rfl : f = 7 := Option.some.inj (o1.symm.trans hf) |>.symm
      obtain rfl : fn = Tryz.f7 := (Option.some.inj (Tryz.func7.symm.trans hfn)).symm
      exact ⟨q3, fun j t ht => by
        rw [Tryz.params7] at ht
        have hm : t ∈ [3, 3, 9] := by simpa using Array.mem_of_getElem? ht
        exact (show Tryz.prog.wantsStandIn t = false by simpa using List.all_eq_true.1 q4 t hm)⟩)
    q5
#print axioms readbinReads
end Go.Proofs.YthdbkmpkebdliaaGreatDoor
