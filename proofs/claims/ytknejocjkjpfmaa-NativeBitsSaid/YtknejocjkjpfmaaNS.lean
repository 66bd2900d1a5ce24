/- Part NS of the proof: own text. -/
import Derived.Test.YtknejocjkjpfmaaND
set_option linter.all false
set_option maxRecDepth 100000
namespace Go.Proofs.AMT
open Go.AM
theorem drX : DrawOk Try.prog ty GX := drawOk_ok (by kernel_rfl) tysOk GX_ok
theorem sound_19 : Sound Try.prog 19 .body sF19 := by
  refine sound_body Try.func19 (show Try.f19.body = some (code Try.f19) from rfl) (by kernel_rfl) tysOk GX_ok drX (by kernel_rfl) fun ds p r hs p => ?_
  unfold sF19 at hs
  split at hs
  · cases hs; exact ⟨Nat.le_of_ble_eq_true (by kernel_rfl), w19 _⟩
  · cases hs
theorem sound_20 : Sound Try.prog 20 .body sF20 := by
  refine sound_body Try.func20 (show Try.f20.body = some (code Try.f20) from rfl) (by kernel_rfl) tysOk GX_ok drX (by kernel_rfl) fun ds p r hs p => ?_
  unfold sF20 at hs
  split at hs
  · cases hs; exact ⟨Nat.le_of_ble_eq_true (by kernel_rfl), w20 _ p⟩
  · cases hs
theorem sound_17 : Sound Try.prog 17 .body sF17 := by
  refine sound_body Try.func17 (show Try.f17.body = some (code Try.f17) from rfl) (by kernel_rfl) tysOk GX_ok drX (by kernel_rfl) fun ds p r hs p => ?_
  unfold sF17 at hs
  split at hs
  · cases hs; exact ⟨Nat.le_of_ble_eq_true (by kernel_rfl), w17 _ _ _ _⟩
  · cases hs
theorem sound_18 : Sound Try.prog 18 .body sF18 := by
  refine sound_body Try.func18 (show Try.f18.body = some (code Try.f18) from rfl) (by kernel_rfl) tysOk GX_ok drX (by kernel_rfl) fun ds p r hs p => ?_
  unfold sF18 at hs
  split at hs
  · cases hs; exact ⟨Nat.le_of_ble_eq_true (by kernel_rfl), w18 _ _ _ _ p⟩
  · cases hs
theorem GL_ok : GamOk Try.prog GL := by
  intro f fk spec h
  have h := lk_mem h
  simp only [GL, GX, List.cons_append, List.nil_append, List.mem_cons, Prod.mk.injEq, List.not_mem_nil, or_false] at h
  rcases h with ⟨rfl, rfl, rfl⟩ | ⟨rfl, rfl, rfl⟩ | ⟨rfl, rfl, rfl⟩ | ⟨rfl, rfl, rfl⟩ | ⟨rfl, rfl, rfl⟩ | ⟨rfl, rfl, rfl⟩ | ⟨rfl, rfl, rfl⟩ | ⟨rfl, rfl, rfl⟩ | ⟨rfl, rfl, rfl⟩
  · exact sound_8
  · exact sound_17
  · exact sound_18
  · exact sound_19
  · exact sound_20
  · exact ext_9
  · exact ext_11
  · exact ext_12
  · exact ext_14
theorem dr : DrawOk Try.prog ty GL := drawOk_ok (by kernel_rfl) tysOk GL_ok
def sLaw : CSpec := fun ds => match ds with
  | [.v (.int .u64 x), .v (.int .u32 y), .v (.agg ⟨[.int .u64 a0, .int .u64 a1, .int .u64 a2, .int .u64 a3]⟩)] => some ((0 ≤ x ∧ x < 18446744073709551616) ∧ (0 ≤ y ∧ y < 4294967296) ∧ (0 ≤ a0 ∧ a0 < 18446744073709551616), .one (.v (.bool true)))
  | _ => none
theorem sound_6 : Sound Try.prog 6 .body sLaw := by
  refine sound_body Try.func6 (show Try.f6.body = some (code Try.f6) from rfl) (by kernel_rfl) tysOk GL_ok dr (by kernel_rfl) fun ds p r hs hp => ?_
  unfold sLaw at hs
  split at hs
  · cases hs; exact ⟨Nat.le_of_ble_eq_true (by kernel_rfl), w6 _ _ _ _ _ _ hp.1 hp.2.1 hp.2.2⟩
  · cases hs
end Go.Proofs.AMT
