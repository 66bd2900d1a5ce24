/- NativeHalves: for every input the law answers true. Conditions: none beyond the given statement. -/
import Derived.Test.YtknejocjkjpfmaaK0
import Derived.Test.YtknejocjkjpfmaaK1
import Derived.Test.YtknejocjkjpfmaaK2
import Derived.Test.YtknejocjkjpfmaaK3
import Derived.Test.YtknejocjkjpfmaaK4
import Derived.Test.YtknejocjkjpfmaaK5
import Derived.Test.YtknejocjkjpfmaaK6
import Derived.Test.YtknejocjkjpfmaaK7
import Derived.Test.YtknejocjkjpfmaaK8
import Derived.Test.YtknejocjkjpfmaaK9
import Derived.Test.YtknejocjkjpfmaaK10
import Derived.Test.YtknejocjkjpfmaaRows
import Derived.WalkKit
import Derived.ProofKit
import Derived.OpenShut
set_option linter.all false
namespace Go.Proofs.Ytknejocjkjpfmaa
open Go.ChangeShapes Go.WideShapes Go.ChangeAt Go.RowKit
theorem own : ownKnob Try.prog.godebug = none := by kernel_rfl
theorem walk (y : Int) (wy : (Lit.int .u32 y).wf = true) (w : World) :
    Calls Try.prog 7 #[.int .u32 y] w fun e w' => e = .returned (.bool true) ∧ Below w.heap.size w w' := by
  obtain ⟨fn, h1, h2, h3, h4⟩ := Go.Proofs.AMT.sound_7
  have b0 := bounds_u32 wy
  have h := h4 [.v (.int .u32 y)] _ _ rfl ⟨by omega, by omega⟩ w
    [.int .u32 y] ⟨rfl, trivial⟩
  refine h.mono fun e w' ⟨v, he, hb, hr⟩ => ?_
  have hv : v = .bool true := hr
  subst hv
  exact ⟨he, hb⟩
set_option maxRecDepth 100000 in
theorem lifted (os : Os) (started : os.Started) (H : Type) (enc : TypeId × Value → H) :
    ReturnsInHanded {} Try.checked os 7 .any (Rows.nativeHalvesSpec.pre6 enc Try.prog Try.f7 Rows.nativeHalvesRow.domain false) (Rows.nativeHalvesSpec.post enc Try.prog Try.f7 false true false false) := by
  refine returnsInHanded_of_change (C := Try.checked) own started (by kernel_rfl) Try.func7
    (ChangeSpec.witness6 (enc := enc) (C := Try.checked) false ⟨#[], #[.int .u32 0], []⟩ 8 (by kernel_rfl) (by kernel_rfl) (by kernel_rfl) (by kernel_rfl)) ?_
  intro W base args ds gs before hval0 hW hcnd _
  have hval : ∀ (j : Nat) t v, Try.f7.params[j]? = some t → args[j]? = some v → Value.okWide Try.prog W .any base t v := hval0
  have hW' := hW
  obtain ⟨p, q, hA0, hV, rfl, hfz, hnd⟩ := hW
  have hA : DataW.TrodAll enc Try.prog W 0 (fun _ => true) true Try.f7.params.toList args.toList ds p := hA0
  rw [Try.params7] at hA hval
  obtain ⟨v0, vs0, d0, ds0, p0, q0, hargs, rfl, rfl, h0, r0⟩ := trodAll_cons hA
  obtain ⟨rfl, rfl, rfl⟩ := trodAll_nil r0
  obtain rfl : args = #[v0] := by cases args; simp_all
  obtain ⟨rfl, rfl⟩ := trodVars_none hV
  obtain ⟨y, rfl, rfl, rfl, w0⟩ := open_int Try.underlying22 (hval 0 22 v0 rfl rfl) h0
  clear hA0 hval0
  simp only [List.append_nil] at hW'
  refine (walk y w0 W).mono fun e W' ⟨he, hb⟩ => ?_
  subst he
  exact ⟨_, rfl, _, _, _, [], _, [], hW', trodAll_mk1 (shut_bool Try.underlying4 _), trodAll_cons_mk (shut_int Try.underlying22 w0) trodAll_mk0, rfl, hb.frame _, fun h => by cases h⟩
theorem over : Rows.nativeHalvesRow.holds Try.pinned (OpenSpec.ofChange Rows.nativeHalvesSpec) :=
  OpenClaim.holds_of_wide 7 Try.f7 rfl rfl rfl rfl rfl rfl rfl ⟨rfl, rfl, rfl, rfl, rfl⟩ rfl rfl rfl rfl rfl (by kernel_rfl) Try.func7 (by kernel_rfl)
    (of_decide_eq_true (by kernel_rfl)) (by unfold Func.isWrapper; first | (rw [if_pos (by decide +kernel)]; kernel_rfl) | (rw [if_neg (by decide +kernel)]; exact ⟨rfl, rfl⟩))
    (fun os started H enc _ => lifted os started H enc)
theorem nativeHalves : Rows.NativeHalvesSaid := over
end Go.Proofs.Ytknejocjkjpfmaa
