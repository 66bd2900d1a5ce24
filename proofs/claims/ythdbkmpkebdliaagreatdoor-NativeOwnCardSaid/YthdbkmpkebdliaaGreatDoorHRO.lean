import Derived.Test.YthdbkmpkebdliaaGreatDoorKP9
set_option linter.all false
namespace Go.Proofs.YthdbkmpkebdliaaGreatDoor
open Go.ChangeShapes Go.WideShapes Go.ChangeAt Go.RowKit Go.Deep Go.ChangeMaps
theorem nativeOwn : Rows.NativeOwnCardSaid :=
  Claim7.holds_tied_plain_at .later [] [.data, .data, .data, .data, .sentinel, .sentinel, .pinned] true (true, "daa3e84377c37ee9aa9370375b9bf02a9b048f9791c5dfe582e5228de482010f") true
    over (fun _ h => by cases h) q1 (fun _ h => by cases h) nativeOwn_row_tie rfl ⟨rfl, rfl⟩ q2 rfl
    (fun f fn hf hfn => by
      obtain rfl : f = 13 := Option.some.inj (o1.symm.trans hf) |>.symm
      obtain rfl : fn = Tryz.f13 := (Option.some.inj (Tryz.func13.symm.trans hfn)).symm
      exact ⟨q3, fun j t ht => by
        rw [Tryz.params13] at ht
        have hm : t ∈ [2] := by simpa using Array.mem_of_getElem? ht
        exact (show Tryz.prog.wantsStandIn t = false by simpa using List.all_eq_true.1 q4 t hm)⟩)
    q5
#print axioms nativeOwn
end Go.Proofs.YthdbkmpkebdliaaGreatDoor
