/- HexformWrites: for every input the law answers true. Conditions: the tables that the row lists (tied to the program's text by the card). -/
import Derived.Test.YtknejocjkjpfmaaGreatDoorK0
import Derived.Test.YtknejocjkjpfmaaGreatDoorK1
import Derived.Test.YtknejocjkjpfmaaGreatDoorK2
import Derived.Test.YtknejocjkjpfmaaGreatDoorK3
import Derived.Test.YtknejocjkjpfmaaGreatDoorK4
import Derived.Test.YtknejocjkjpfmaaGreatDoorK5
import Derived.Test.YtknejocjkjpfmaaGreatDoorK6
import Derived.Test.YtknejocjkjpfmaaGreatDoorK7
import Derived.Test.YtknejocjkjpfmaaGreatDoorK8
import Derived.Test.YtknejocjkjpfmaaGreatDoorK9
import Derived.Test.YtknejocjkjpfmaaGreatDoorK10
import Derived.Test.YtknejocjkjpfmaaGreatDoorTie
import Derived.Test.YtknejocjkjpfmaaGreatDoorCards
import Derived.WalkKit
import Derived.ProofKit
import Derived.OpenShut
import Derived.LaidMore
import Derived.Stop.Joined
import Derived.Laws.IdiomArrays
import Derived.Lib.LaidTab
import Derived.SevenTiedAt
set_option linter.all false
namespace Go.Proofs.YtknejocjkjpfmaaGreatDoor
open Go.ChangeShapes Go.WideShapes Go.ChangeAt Go.RowKit
theorem own : ownKnob Tryz.prog.godebug = none := by kernel_rfl
theorem gTab : Tryz.prog.globalNamed "internal/strconv.uint64pow10" = some 2 := by kernel_rfl
theorem tTab : (Tryz.prog.globals[2]?).map (·.type) = some 128 := by kernel_rfl
theorem c22 : Tryz.prog.cellsOf 22 = 1 := by kernel_rfl
theorem c24 : Tryz.prog.cellsOf 24 = 4 := by kernel_rfl
theorem c128 : Tryz.prog.cellsOf 128 = 20 := by kernel_rfl
theorem u24 : Tryz.prog.underlying 24 = some (.array 4 22) := by kernel_rfl
theorem u128 : Tryz.prog.underlying 128 = some (.array 20 22) := by kernel_rfl
theorem list4 {α : Type} (l : List α) (h : (⟨l⟩ : Array α).size = 4) : ∃ a b c d, l = [a, b, c, d] := by
  match l, h with
  | [a, b, c, d], _ => exact ⟨a, b, c, d, rfl⟩
theorem walk (n b0 b1 b2 b3 : Int) (w0 : (Lit.int .u64 b0).wf = true) (w1 : (Lit.int .u64 b1).wf = true) (w2 : (Lit.int .u64 b2).wf = true) (w3 : (Lit.int .u64 b3).wf = true) (w : World)
    (hT : Lib.TabIs Tryz.prog w "internal/strconv.uint64pow10" .u64 Lib.pow10Tab) :
    Calls Tryz.prog 3 #[.int .i64 n, .agg #[.int .u64 b0, .int .u64 b1, .int .u64 b2, .int .u64 b3]] w fun e w' => e = .returned (.bool true) ∧ Below w.heap.size w w' := by
  obtain ⟨fn, h1, h2, h3, h4⟩ := Go.Proofs.AMT.sound_3
  have a0 := bounds_u64 w0
  have a1 := bounds_u64 w1
  have a2 := bounds_u64 w2
  have a3 := bounds_u64 w3
  have h := h4 [.v (.int .i64 n), .v (.agg #[.int .u64 b0, .int .u64 b1, .int .u64 b2, .int .u64 b3])] _ _ rfl ⟨⟨by omega, by omega⟩, ⟨by omega, by omega⟩, ⟨by omega, by omega⟩, by omega, by omega⟩ w
    [.int .i64 n, .agg #[.int .u64 b0, .int .u64 b1, .int .u64 b2, .int .u64 b3]] hT ⟨rfl, rfl, trivial⟩
  refine h.mono fun e w' ⟨v, he, hb, hr⟩ => ?_
  have hv : v = .bool true := hr
  subst hv
  exact ⟨he, hb⟩
noncomputable def door (os : Os) : World :=
  let w := World.doorLaid Tryz.prog 400 os
  let g := (Tryz.prog.globalNamed "unicode/utf8.first").getD 0
  { w with heap := w.heap.set! g (.cells (Go.Pinned.utf8FirstZ.map fun (z : Nat) => Value.int .u8 (z : Int)).toArray (((Tryz.prog.globals[g]?).map (·.type)).getD 0) (0, 0)) }
theorem door_met (os : Os) (args : Array Value) : laidMetH Tryz.prog Rows.hexformWritesRow.laid ((door os).forCall (fun _ _ => 0) ⟨#[], args, []⟩).memory :=
  laidMetH_of_parts3 (fuel := 8) (laidMet_of_run' 8 (by kernel_rfl) (by kernel_rfl)) (by kernel_rfl) (by kernel_rfl)
theorem of_laid {W : World} (h : laidMetH Tryz.prog Rows.hexformWritesRow.laid W) : Lib.TabIs Tryz.prog W "internal/strconv.uint64pow10" .u64 Lib.pow10Tab := by
  rw [MakeChecks.laidMetH_plain _ _ _ (by kernel_rfl)] at h
  obtain ⟨ps, hl, -⟩ := h
  obtain ⟨_, _, _, _, _, _, -, -, -, -, hl, -⟩ := hl
  obtain ⟨_, _, _, _, _, _, -, -, -, -, hl, -⟩ := hl
  obtain ⟨g, t, cs, fuel, p, q, hg, ht, hv, hd, -, -⟩ := hl
  obtain rfl := Option.some.inj (gTab.symm.trans hg)
  obtain rfl := Option.some.inj (tTab.symm.trans ht)
  have hd' : DataW.trod (fun _ => ()) Tryz.prog W 0 (fun _ => true) false fuel 128 cs.toList = some (Lib.tabData .u64 Lib.pow10Tab, p) := hd
  unfold Lib.TabIs
  rw [hv, ← Lib.cells_of_tab u128 Tryz.underlying22 c22 c128 hd']
set_option maxHeartbeats 400000 in
set_option maxRecDepth 100000 in
theorem lifted (os : Os) (started : os.Started) (H : Type) (enc : TypeId × Value → H) :
    ReturnsInHanded {} Tryz.checked os 3 .any (fun w args => (Rows.hexformWritesSpec.pre enc Tryz.prog Tryz.f3 [] false w args ∧ laidMetH Tryz.prog Rows.hexformWritesRow.laid w) ∧ sizedMet enc Tryz.prog Tryz.f3 (OpenSpec.ofChange Rows.hexformWritesSpec) false w args)
      (Rows.hexformWritesSpec.post enc Tryz.prog Tryz.f3 false true false false) := by
  refine returnsInHanded_of_change_and (C := Tryz.checked) (X := fun w _ => laidMetH Tryz.prog Rows.hexformWritesRow.laid w) (fun _ _ _ hh h => h.of_heap hh) own started (by kernel_rfl) Tryz.func3
    (ChangeSpec.witness_shaped (enc := enc) (C := Tryz.checked) (os := os) (X := fun w _ => laidMetH Tryz.prog Rows.hexformWritesRow.laid w) false (door os) #[.int .i64 0, .agg #[.int .u64 0, .int .u64 0, .int .u64 0, .int .u64 0]] 8 rfl (World.shaped_of_RefB (by kernel_rfl) (by kernel_rfl)) (by kernel_rfl) (by kernel_rfl) (by kernel_rfl) (door_met os _)) ?_
  intro W base args ds gs before hval0 hW _ _ hL _
  have hval : ∀ (j : Nat) t v, Tryz.f3.params[j]? = some t → args[j]? = some v → Value.okWide Tryz.prog W .any base t v := hval0
  have hW' := hW
  obtain ⟨p, q, hA0, hV, rfl, hfz, hnd⟩ := hW
  have hA : DataW.TrodAll enc Tryz.prog W 0 (fun _ => true) true Tryz.f3.params.toList args.toList ds p := hA0
  rw [Tryz.params3] at hA hval
  obtain ⟨v0, v1, d0, d1, p0, p1, rfl, rfl, rfl, h0, h1⟩ := trodAll_two hA
  obtain ⟨rfl, rfl⟩ := trodVars_none hV
  obtain ⟨n, rfl, rfl, rfl, wn⟩ := open_int Tryz.underlying3 (hval 0 3 v0 rfl rfl) h0
  obtain ⟨cs, rfl, hsz, _⟩ : ∃ cs, v1 = .agg cs ∧ cs.size = Tryz.prog.cellsOf 24 ∧ Row.okWide Tryz.prog W .any base 24 cs := by
    have := hval 1 24 v1 rfl rfl
    simpa [Value.okWide, u24] using this
  rw [c24] at hsz
  obtain ⟨l⟩ := cs
  obtain ⟨e0, e1, e2, e3, rfl⟩ := list4 l hsz
  obtain ⟨fuel, hf⟩ := h1
  obtain ⟨y0, y1, y2, y3, m, hx, hy0, hy1, hy2, hy3⟩ := trod_array4 u24 c22 hf
  obtain ⟨x0, q0, rfl, w0⟩ := DataW.trod_int Tryz.underlying22 hy0
  obtain ⟨x1, q1, rfl, w1⟩ := DataW.trod_int Tryz.underlying22 hy1
  obtain ⟨x2, q2, rfl, w2⟩ := DataW.trod_int Tryz.underlying22 hy2
  obtain ⟨x3, q3, rfl, w3⟩ := DataW.trod_int Tryz.underlying22 hy3
  simp at q0 q1 q2 q3
  subst q0 q1 q2 q3
  simp only [Prod.mk.injEq] at hx
  obtain ⟨rfl, rfl⟩ := hx
  clear hA0 hval0
  simp only [List.append_nil] at hW'
  have rdA : ∀ (W' : World) (sp : Nat → Bool), DataW.Trod enc Tryz.prog W' 0 sp true 24 (.agg #[.int .u64 x0, .int .u64 x1, .int .u64 x2, .int .u64 x3]) (DataW.agg [.lit (.int .u64 x0), .lit (.int .u64 x1), .lit (.int .u64 x2), .lit (.int .u64 x3)]) [] := fun W' sp => ⟨2, by simp [DataW.trod, Value.cells, u24, Tryz.underlying22, c24, c22, w0, w1, w2, w3, show List.range 4 = [0, 1, 2, 3] from rfl]⟩
  refine (walk n x0 x1 x2 x3 w0 w1 w2 w3 W (of_laid hL)).mono fun e W' ⟨he, hb⟩ => ?_
  subst he
  exact ⟨_, rfl, _, _, _, [], _, [], hW', trodAll_mk1 (shut_bool Tryz.underlying4 _), trodAll_cons_mk (shut_int Tryz.underlying3 wn) (trodAll_cons_mk (rdA _ _) trodAll_mk0), rfl, hb.frame _, fun h => by cases h⟩
theorem over : Rows.HexformWritesSaid :=
  OpenClaim.holds_of_wide 3 Tryz.f3 rfl rfl rfl rfl rfl rfl rfl ⟨rfl, rfl, rfl, rfl, rfl⟩ rfl rfl rfl rfl rfl (by kernel_rfl) Tryz.func3 (by kernel_rfl)
    (of_decide_eq_true (by kernel_rfl)) (by unfold Func.isWrapper; first | (rw [if_pos (by decide +kernel)]; kernel_rfl) | (rw [if_neg (by decide +kernel)]; exact ⟨rfl, rfl⟩))
    (fun os started H enc _ => lifted os started H enc)
theorem hexformWrites : Rows.HexformWritesCardSaid :=
  Claim7.holds_tied_plain_at .later [] [.data, .data, .data, .data, .pinned] true (true, "d194d05c450727eff7b34aeee72e065408ac9580a72a00845e505bd9b3a1ddcd") false
    over (fun _ h => by cases h) (by kernel_rfl) (fun _ h => by cases h) hexformWrites_row_tie rfl ⟨rfl, rfl⟩ (by kernel_rfl) rfl
    (fun f fn hf hfn => by
      obtain rfl : f = 3 := Option.some.inj ((show Tryz.prog.funcNamed "caliper/caliperlaw11.HexformWrites" = some 3 by kernel_rfl).symm.trans hf) |>.symm
      obtain rfl : fn = Tryz.f3 := (Option.some.inj (Tryz.func3.symm.trans hfn)).symm
      exact ⟨by kernel_rfl, fun j t ht => by
        rw [Tryz.params3] at ht
        have hm : t ∈ [3, 24] := by simpa using Array.mem_of_getElem? ht
        have hall : ([3, 24].all fun u => !Tryz.prog.wantsStandIn u) = true := by kernel_rfl
        exact (show Tryz.prog.wantsStandIn t = false by simpa using List.all_eq_true.1 hall t hm)⟩)
    (by kernel_rfl)
#print axioms hexformWrites
end Go.Proofs.YtknejocjkjpfmaaGreatDoor
