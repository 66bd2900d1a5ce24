/- Part 10 of the proof: own text (FnativeFloat32, FnativeFromFloat64, FnativeNarrow, FnativeFromFloat32, FmathAbs, FmathIsInf, NA, Fcaliperlaw21NativeHalves). -/
import Derived.Test.YtknejocjkjpfmaaK0
import Derived.Test.YtknejocjkjpfmaaK1
import Derived.Test.YtknejocjkjpfmaaK2
import Derived.Test.YtknejocjkjpfmaaK3
import Derived.Test.YtknejocjkjpfmaaK4
import Derived.Test.YtknejocjkjpfmaaK5
import Derived.Test.YtknejocjkjpfmaaK6
import Derived.Test.YtknejocjkjpfmaaK7
import Derived.Test.YtknejocjkjpfmaaK8
import Derived.Test.YtknejocjkjpfmaaK9
set_option linter.all false
set_option maxRecDepth 20000
namespace Go.Proofs.AMT
open Go.AM Go.AM.LN
attribute [local congr] bindO_congr bindS_congr bindG_congr awpOps_congr aOne_congr awp_congr aCond_congr awpD_congr dOne_congr keysB_congr nOne_congr thenP_congr blockP_congr Chk_congr Brk_congr
noncomputable def s18 : CSpec := fun ds => match ds with
  | [.v (.agg ⟨[.int .u64 b0, .int .u64 b1, .int .u64 b2, .int .u64 b3]⟩)] => some ((0 ≤ b0 ∧ b0 < 4294967296) ∧ b1 = 0 ∧ b2 = 0 ∧ b3 = 0, .many [.v (.float .f32 b0.toNat), .v (.int .i64 0)])
  | _ => none
theorem s18_eq (b0 b1 b2 b3 : Int) : norm s18 [.v (.agg #[.int .u64 b0, .int .u64 b1, .int .u64 b2, .int .u64 b3])] = some ((0 ≤ b0 ∧ b0 < 4294967296) ∧ b1 = 0 ∧ b2 = 0 ∧ b3 = 0, .many [.v (.float .f32 b0.toNat), .v (.int .i64 0)]) := rfl
noncomputable def G18 : Gam := [(9, .ext, sF32from)]
theorem G18_ok : GamOk Try.prog G18 := gamOk_cons ext_9 gamOk_nil
theorem k18_9 : lk G18 9 = some (.ext, sF32from) := rfl
set_option maxHeartbeats 20000000 in
theorem w18 (b0 b1 b2 b3 : Int) (hp : (0 ≤ b0 ∧ b0 < 4294967296) ∧ b1 = 0 ∧ b2 = 0 ∧ b3 = 0) : awp ty G18 (code Try.f18) (retP ty Try.f18.results.toList (.many [.v (.float .f32 b0.toNat), .v (.int .i64 0)])) (entry 0 [.v (.agg #[.int .u64 b0, .int .u64 b1, .int .u64 b2, .int .u64 b3])]) [] := by
  unfold code
  simp only [Try.f18, Option.getD_some]
  obtain ⟨hb, rfl, rfl, rfl⟩ := hp
  have hA := and32i hb
  have h32 : b0 % 4294967296 = b0 := by omega
  all_goals repeat' (first
    | ((first
       | (with_reducible refine ops_k ?_; intro X hX)
       | (with_reducible refine opsN_k ?_; intro X hX)
       | (with_reducible show awp _ _ _ _ (keepL _ _) _)
       | with_reducible refine awp_cond_k ?_
       | (with_reducible refine Brk_i ?_ ?_ <;> intro hb <;> (try simp only [hb]) <;> have hq := hb <;> try simp only [decide_eq_true_eq, decide_eq_false_iff_not, gt_iff_lt, ge_iff_le, Int.not_lt, Int.not_le, beq_iff_eq, beq_eq_false_iff_ne, Bool.not_eq_true', Bool.not_eq_false', Bool.and_eq_true, Bool.or_eq_true, Bool.and_eq_false_imp, Bool.or_eq_false_iff, ne_eq, Classical.not_not] at hq)
       | with_reducible refine retP_ret_i ?_
       | with_reducible refine retP_normal_i ?_
       | (with_reducible (show bindG _ _ _ _ _); simp only [hall])) <;> try simp only [Go.AM.S1, Go.AM.S2, Go.AM.S3, Go.AM.S4, Go.AM.S5, Go.AM.S6, Go.AM.S7, Go.AM.S8, Go.AM.S9, Nat.reduceAdd, Nat.reduceMul, Nat.reduceSub, ↓reduceIte, Nat.reduceEqDiff, Nat.reduceLT, Nat.reduceLeDiff, reduceCtorEq, Int.reduceBEq, Int.reduceBNe, Nat.reduceBEq, Int.reduceEq, Int.reduceToNat, Int.reduceLE, Int.reduceLT, Nat.reduceDiv, Int.reduceAdd, Int.reduceSub, Int.reduceMul, Int.reduceNeg, Int.reduceGT, Int.reduceGE, Nat.reduceMod, k18_9, sF32from_eq, ty_22, ty_26, ty_28, hA, h32])
    | (with_reducible refine hX _ _ ?_; clear hX X)
    | (with_reducible refine ops_nil_i ?_; try clear hall all)
    | (with_reducible refine opsN_nil_i ?_; try clear hall all)
    | (with_reducible refine hK _ _ ?_; clear hK K)
    | with_reducible refine thenP_normal_i ?_
    | (with_reducible refine zzr3 _ _ ?_; try clear zzr3 Kzzr3)
    | (with_reducible refine zzsr1 _ _ ?_; try clear zzsr1 Kzzsr1)
    | (with_reducible refine zzr2 _ _ ?_; try clear zzr2 Kzzr2)
    | (with_reducible refine zzr1 _ _ ?_; try clear zzr1 Kzzr1)
    | (with_reducible refine zzr0 _ _ ?_; try clear zzr0 Kzzr0)
    | (with_reducible refine awp_seq_l (a := .region 3 _ _) [2, 3] ?_; intro Kzzr3 zzr3)
    | (with_reducible refine awp_seq_l (a := .seq (.region 1 _ _) _) [1] ?_; intro Kzzsr1 zzsr1)
    | (with_reducible refine awp_seq_l (a := .region 2 _ _) [2, 3] ?_; intro Kzzr2 zzr2)
    | (with_reducible refine awp_seq_l (a := .region 1 _ _) [1, 9] ?_; intro Kzzr1 zzr1)
    | (with_reducible refine awp_seq_l (a := .region 0 _ _) [1] ?_; intro Kzzr0 zzr0)
    | (with_reducible refine awp_seq_k ?_; intro K hK)
    | (with_reducible refine awp_region_a ?_; intro all hall K hK)
    | (with_reducible refine awp_draw_n ?_ ?_; kernel_rfl; intro all hall K hK)
    | (with_reducible refine Chk_i ?_ ?_)
    | (with_reducible refine keysC_i ?_; kernel_rfl)
    | (with_reducible first | refine awp_block_i ?_ | refine awp_skip_i ?_ | refine awp_ret_i ?_ | refine awp_exit_i ?_ | refine thenP_ret_i ?_ | refine thenP_exit_i ?_ | refine lpP_ret_i ?_ | refine lpP_exit_i ?_ | refine unrP_succ_i ?_ | refine unrP_ret_i ?_ | refine unrP_exit_i ?_ | refine blockP_normal_i ?_ | refine blockP_ret_i ?_)
    | (with_reducible refine blockP_exit_i ?_; simp only [↓reduceIte, Nat.reduceEqDiff])
    | with_reducible refine lpP_normal_i ?_)
  all_goals (try clear zzr0; try clear Kzzr0)
  all_goals (try clear zzr1; try clear Kzzr1)
  all_goals (try clear zzr2; try clear Kzzr2)
  all_goals (try clear zzsr1; try clear Kzzsr1)
  all_goals (try clear zzr3; try clear Kzzr3)
  all_goals (try simp only [inR])
  all_goals first
    | omega
    | skip
theorem sound_18 : Sound Try.prog 18 .body (norm s18) := by
  refine sound_norm (sound_body Try.func18 (show Try.f18.body = some (code Try.f18) from rfl) (by kernel_rfl) tysOk G18_ok (drawOk_ok (by kernel_rfl) tysOk G18_ok) (by kernel_rfl) fun ds p r hs hp => ?_)
  unfold s18 at hs
  split at hs
  · cases hs; exact ⟨Nat.le_of_ble_eq_true (by kernel_rfl), w18 _ _ _ _ hp⟩
  · cases hs
end Go.Proofs.AMT
set_option maxRecDepth 20000
namespace Go.Proofs.AMT
open Go.AM Go.AM.LN
attribute [local congr] bindO_congr bindS_congr bindG_congr awpOps_congr aOne_congr awp_congr aCond_congr awpD_congr dOne_congr keysB_congr nOne_congr thenP_congr blockP_congr Chk_congr Brk_congr
noncomputable def s19 : CSpec := fun ds => match ds with
  | [.v (.float .f64 b)] => some (True, .one (.v (.agg #[.int .u64 b, .int .u64 0, .int .u64 0, .int .u64 0])))
  | _ => none
theorem s19_eq (b : Nat) : norm s19 [.v (.float .f64 b)] = some (True, .one (.v (.agg #[.int .u64 b, .int .u64 0, .int .u64 0, .int .u64 0]))) := rfl
noncomputable def G19 : Gam := [(11, .ext, sF64bits)]
theorem G19_ok : GamOk Try.prog G19 := gamOk_cons ext_11 gamOk_nil
theorem k19_11 : lk G19 11 = some (.ext, sF64bits) := rfl
set_option maxHeartbeats 20000000 in
theorem w19 (b : Nat) (hp : True) : awp ty G19 (code Try.f19) (retP ty Try.f19.results.toList (.one (.v (.agg #[.int .u64 b, .int .u64 0, .int .u64 0, .int .u64 0])))) (entry 0 [.v (.float .f64 b)]) [] := by
  unfold code
  simp only [Try.f19, Option.getD_some]
  all_goals repeat' (first
    | ((first
       | (with_reducible refine ops_k ?_; intro X hX)
       | (with_reducible refine opsN_k ?_; intro X hX)
       | (with_reducible show awp _ _ _ _ (keepL _ _) _)
       | with_reducible refine awp_cond_k ?_
       | (with_reducible refine Brk_i ?_ ?_ <;> intro hb <;> (try simp only [hb]) <;> have hq := hb <;> try simp only [decide_eq_true_eq, decide_eq_false_iff_not, gt_iff_lt, ge_iff_le, Int.not_lt, Int.not_le, beq_iff_eq, beq_eq_false_iff_ne, Bool.not_eq_true', Bool.not_eq_false', Bool.and_eq_true, Bool.or_eq_true, Bool.and_eq_false_imp, Bool.or_eq_false_iff, ne_eq, Classical.not_not] at hq)
       | with_reducible refine retP_ret_i ?_
       | with_reducible refine retP_normal_i ?_
       | (with_reducible (show bindG _ _ _ _ _); simp only [hall])) <;> try simp only [Go.AM.S1, Go.AM.S2, Go.AM.S3, Go.AM.S4, Go.AM.S5, Go.AM.S6, Go.AM.S7, Go.AM.S8, Go.AM.S9, Nat.reduceAdd, Nat.reduceMul, Nat.reduceSub, ↓reduceIte, Nat.reduceEqDiff, Nat.reduceLT, Nat.reduceLeDiff, reduceCtorEq, Int.reduceBEq, Int.reduceBNe, Nat.reduceBEq, Int.reduceEq, Int.reduceToNat, Int.reduceLE, Int.reduceLT, Nat.reduceDiv, Int.reduceAdd, Int.reduceSub, Int.reduceMul, Int.reduceNeg, Int.reduceGT, Int.reduceGE, Nat.reduceMod, k19_11, sF64bits_eq, ty_26, ty_28, ty_33])
    | (with_reducible refine hX _ _ ?_; clear hX X)
    | (with_reducible refine ops_nil_i ?_; try clear hall all)
    | (with_reducible refine opsN_nil_i ?_; try clear hall all)
    | (with_reducible refine hK _ _ ?_; clear hK K)
    | with_reducible refine thenP_normal_i ?_
    | (with_reducible refine zzr1 _ _ ?_; try clear zzr1 Kzzr1)
    | (with_reducible refine zzr0 _ _ ?_; try clear zzr0 Kzzr0)
    | (with_reducible refine awp_seq_l (a := .region 1 _ _) [2] ?_; intro Kzzr1 zzr1)
    | (with_reducible refine awp_seq_l (a := .region 0 _ _) [0, 2] ?_; intro Kzzr0 zzr0)
    | (with_reducible refine awp_seq_k ?_; intro K hK)
    | (with_reducible refine awp_region_a ?_; intro all hall K hK)
    | (with_reducible refine awp_draw_n ?_ ?_; kernel_rfl; intro all hall K hK)
    | (with_reducible refine Chk_i ?_ ?_)
    | (with_reducible refine keysC_i ?_; kernel_rfl)
    | (with_reducible first | refine awp_block_i ?_ | refine awp_skip_i ?_ | refine awp_ret_i ?_ | refine awp_exit_i ?_ | refine thenP_ret_i ?_ | refine thenP_exit_i ?_ | refine lpP_ret_i ?_ | refine lpP_exit_i ?_ | refine unrP_succ_i ?_ | refine unrP_ret_i ?_ | refine unrP_exit_i ?_ | refine blockP_normal_i ?_ | refine blockP_ret_i ?_)
    | (with_reducible refine blockP_exit_i ?_; simp only [↓reduceIte, Nat.reduceEqDiff])
    | with_reducible refine lpP_normal_i ?_)
  all_goals (try clear zzr0; try clear Kzzr0)
  all_goals (try clear zzr1; try clear Kzzr1)
  all_goals (try simp only [inR])
  all_goals first
    | omega
    | skip
theorem sound_19 : Sound Try.prog 19 .body (norm s19) := by
  refine sound_norm (sound_body Try.func19 (show Try.f19.body = some (code Try.f19) from rfl) (by kernel_rfl) tysOk G19_ok (drawOk_ok (by kernel_rfl) tysOk G19_ok) (by kernel_rfl) fun ds p r hs hp => ?_)
  unfold s19 at hs
  split at hs
  · cases hs; exact ⟨Nat.le_of_ble_eq_true (by kernel_rfl), w19 _ hp⟩
  · cases hs
end Go.Proofs.AMT
set_option maxRecDepth 20000
namespace Go.Proofs.AMT
open Go.AM Go.AM.LN
attribute [local congr] bindO_congr bindS_congr bindG_congr awpOps_congr aOne_congr awp_congr aCond_congr awpD_congr dOne_congr keysB_congr nOne_congr thenP_congr blockP_congr Chk_congr Brk_congr
noncomputable def s13 : CSpec := fun ds => match ds with
  | [.v (.float .f64 b)] => some (b < 18446744073709551616 ∧ okB 4 b = true ∧ uC 4 b = 1 ∧ uV 4 b ≠ 0 ∧ (rndV 3 0 (uS 4 b) (uV 4 b) 1 (uX 4 b)) < 4294967296, .many [.v (.float .f32 (rndV 3 0 (uS 4 b) (uV 4 b) 1 (uX 4 b))), .v (.int .i64 (rndF 3 0 (uS 4 b) (uV 4 b) 1 (uX 4 b)))])
  | _ => none
theorem s13_eq (b : Nat) : norm s13 [.v (.float .f64 b)] = some (b < 18446744073709551616 ∧ okB 4 b = true ∧ uC 4 b = 1 ∧ uV 4 b ≠ 0 ∧ (rndV 3 0 (uS 4 b) (uV 4 b) 1 (uX 4 b)) < 4294967296, .many [.v (.float .f32 (rndV 3 0 (uS 4 b) (uV 4 b) 1 (uX 4 b))), .v (.int .i64 (rndF 3 0 (uS 4 b) (uV 4 b) 1 (uX 4 b)))]) := rfl
noncomputable def G13 : Gam := [(10, .body, norm s10), (18, .body, norm s18), (19, .body, norm s19)]
theorem G13_ok : GamOk Try.prog G13 := gamOk_cons sound_10 (gamOk_cons sound_18 (gamOk_cons sound_19 gamOk_nil))
theorem k13_10 : lk G13 10 = some (.body, norm s10) := rfl
theorem k13_18 : lk G13 18 = some (.body, norm s18) := rfl
theorem k13_19 : lk G13 19 = some (.body, norm s19) := rfl
set_option maxHeartbeats 20000000 in
theorem w13 (b : Nat) (hp : b < 18446744073709551616 ∧ okB 4 b = true ∧ uC 4 b = 1 ∧ uV 4 b ≠ 0 ∧ (rndV 3 0 (uS 4 b) (uV 4 b) 1 (uX 4 b)) < 4294967296) : awp ty G13 (code Try.f13) (retP ty Try.f13.results.toList (.many [.v (.float .f32 (rndV 3 0 (uS 4 b) (uV 4 b) 1 (uX 4 b))), .v (.int .i64 (rndF 3 0 (uS 4 b) (uV 4 b) 1 (uX 4 b)))])) (entry 0 [.v (.float .f64 b)]) [] := by
  unfold code
  simp only [Try.f13, Option.getD_some]
  obtain ⟨hb, hO, hc, h0, hR⟩ := hp
  obtain ⟨R, hR0⟩ : ∃ R, (rndV 3 0 (uS 4 b) (uV 4 b) 1 (uX 4 b)) = R := ⟨_, rfl⟩
  rw [hR0] at hR ⊢
  obtain ⟨w0, w1, w2, w3⟩ := w4_lo (R := R) (by omega)
  all_goals repeat' (first
    | ((first
       | (with_reducible refine ops_k ?_; intro X hX)
       | (with_reducible refine opsN_k ?_; intro X hX)
       | (with_reducible show awp _ _ _ _ (keepL _ _) _)
       | with_reducible refine awp_cond_k ?_
       | (with_reducible refine Brk_i ?_ ?_ <;> intro hb <;> (try simp only [hb]) <;> have hq := hb <;> try simp only [decide_eq_true_eq, decide_eq_false_iff_not, gt_iff_lt, ge_iff_le, Int.not_lt, Int.not_le, beq_iff_eq, beq_eq_false_iff_ne, Bool.not_eq_true', Bool.not_eq_false', Bool.and_eq_true, Bool.or_eq_true, Bool.and_eq_false_imp, Bool.or_eq_false_iff, ne_eq, Classical.not_not] at hq)
       | with_reducible refine retP_ret_i ?_
       | with_reducible refine retP_normal_i ?_
       | (with_reducible (show bindG _ _ _ _ _); simp only [hall])) <;> try simp only [Go.AM.S1, Go.AM.S2, Go.AM.S3, Go.AM.S4, Go.AM.S5, Go.AM.S6, Go.AM.S7, Go.AM.S8, Go.AM.S9, Nat.reduceAdd, Nat.reduceMul, Nat.reduceSub, ↓reduceIte, Nat.reduceEqDiff, Nat.reduceLT, Nat.reduceLeDiff, reduceCtorEq, Int.reduceBEq, Int.reduceBNe, Nat.reduceBEq, Int.reduceEq, Int.reduceToNat, Int.reduceLE, Int.reduceLT, Nat.reduceDiv, Int.reduceAdd, Int.reduceSub, Int.reduceMul, Int.reduceNeg, Int.reduceGT, Int.reduceGE, Nat.reduceMod, k13_10, s10_eq, k13_18, s18_eq, k13_19, s19_eq, ty_3, ty_26, ty_28, ty_33, V4_x, hR0, w0, w1, w2, w3])
    | (with_reducible refine hX _ _ ?_; clear hX X)
    | (with_reducible refine ops_nil_i ?_; try clear hall all)
    | (with_reducible refine opsN_nil_i ?_; try clear hall all)
    | (with_reducible refine hK _ _ ?_; clear hK K)
    | with_reducible refine thenP_normal_i ?_
    | (with_reducible refine zzr3 _ _ ?_; try clear zzr3 Kzzr3)
    | (with_reducible refine zzr2 _ _ ?_; try clear zzr2 Kzzr2)
    | (with_reducible refine zzr1 _ _ ?_; try clear zzr1 Kzzr1)
    | (with_reducible refine zzr0 _ _ ?_; try clear zzr0 Kzzr0)
    | (with_reducible refine awp_seq_l (a := .region 3 _ _) [2, 3] ?_; intro Kzzr3 zzr3)
    | (with_reducible refine awp_seq_l (a := .region 2 _ _) [5, 7] ?_; intro Kzzr2 zzr2)
    | (with_reducible refine awp_seq_l (a := .region 1 _ _) [4, 5] ?_; intro Kzzr1 zzr1)
    | (with_reducible refine awp_seq_l (a := .region 0 _ _) [0] ?_; intro Kzzr0 zzr0)
    | (with_reducible refine awp_seq_k ?_; intro K hK)
    | (with_reducible refine awp_region_a ?_; intro all hall K hK)
    | (with_reducible refine awp_draw_n ?_ ?_; kernel_rfl; intro all hall K hK)
    | (with_reducible refine Chk_i ?_ ?_)
    | (with_reducible refine keysC_i ?_; kernel_rfl)
    | (with_reducible first | refine awp_block_i ?_ | refine awp_skip_i ?_ | refine awp_ret_i ?_ | refine awp_exit_i ?_ | refine thenP_ret_i ?_ | refine thenP_exit_i ?_ | refine lpP_ret_i ?_ | refine lpP_exit_i ?_ | refine unrP_succ_i ?_ | refine unrP_ret_i ?_ | refine unrP_exit_i ?_ | refine blockP_normal_i ?_ | refine blockP_ret_i ?_)
    | (with_reducible refine blockP_exit_i ?_; simp only [↓reduceIte, Nat.reduceEqDiff])
    | with_reducible refine lpP_normal_i ?_)
  all_goals (try clear zzr0; try clear Kzzr0)
  all_goals (try clear zzr1; try clear Kzzr1)
  all_goals (try clear zzr2; try clear Kzzr2)
  all_goals (try clear zzr3; try clear Kzzr3)
  all_goals clear w0 w1 w2 w3
  all_goals (try simp only [inR])
  all_goals first
    | omega
    | exact ⟨⟨by omega, by omega⟩, hO, hc, h0⟩
    | skip
theorem sound_13 : Sound Try.prog 13 .body (norm s13) := by
  refine sound_norm (sound_body Try.func13 (show Try.f13.body = some (code Try.f13) from rfl) (by kernel_rfl) tysOk G13_ok (drawOk_ok (by kernel_rfl) tysOk G13_ok) (by kernel_rfl) fun ds p r hs hp => ?_)
  unfold s13 at hs
  split at hs
  · cases hs; exact ⟨Nat.le_of_ble_eq_true (by kernel_rfl), w13 _ hp⟩
  · cases hs
end Go.Proofs.AMT
set_option maxRecDepth 20000
namespace Go.Proofs.AMT
open Go.AM Go.AM.LN
attribute [local congr] bindO_congr bindS_congr bindG_congr awpOps_congr aOne_congr awp_congr aCond_congr awpD_congr dOne_congr keysB_congr nOne_congr thenP_congr blockP_congr Chk_congr Brk_congr
noncomputable def s20 : CSpec := fun ds => match ds with
  | [.v (.float .f32 b)] => some (b < 4294967296, .one (.v (.agg #[.int .u64 b, .int .u64 0, .int .u64 0, .int .u64 0])))
  | _ => none
theorem s20_eq (b : Nat) : norm s20 [.v (.float .f32 b)] = some (b < 4294967296, .one (.v (.agg #[.int .u64 b, .int .u64 0, .int .u64 0, .int .u64 0]))) := rfl
noncomputable def G20 : Gam := [(14, .ext, sF32bits)]
theorem G20_ok : GamOk Try.prog G20 := gamOk_cons ext_14 gamOk_nil
theorem k20_14 : lk G20 14 = some (.ext, sF32bits) := rfl
set_option maxHeartbeats 20000000 in
theorem w20 (b : Nat) (hp : b < 4294967296) : awp ty G20 (code Try.f20) (retP ty Try.f20.results.toList (.one (.v (.agg #[.int .u64 b, .int .u64 0, .int .u64 0, .int .u64 0])))) (entry 0 [.v (.float .f32 b)]) [] := by
  unfold code
  simp only [Try.f20, Option.getD_some]
  have h64 : (b : Int) % 18446744073709551616 = (b : Int) := by omega
  all_goals repeat' (first
    | ((first
       | (with_reducible refine ops_k ?_; intro X hX)
       | (with_reducible refine opsN_k ?_; intro X hX)
       | (with_reducible show awp _ _ _ _ (keepL _ _) _)
       | with_reducible refine awp_cond_k ?_
       | (with_reducible refine Brk_i ?_ ?_ <;> intro hb <;> (try simp only [hb]) <;> have hq := hb <;> try simp only [decide_eq_true_eq, decide_eq_false_iff_not, gt_iff_lt, ge_iff_le, Int.not_lt, Int.not_le, beq_iff_eq, beq_eq_false_iff_ne, Bool.not_eq_true', Bool.not_eq_false', Bool.and_eq_true, Bool.or_eq_true, Bool.and_eq_false_imp, Bool.or_eq_false_iff, ne_eq, Classical.not_not] at hq)
       | with_reducible refine retP_ret_i ?_
       | with_reducible refine retP_normal_i ?_
       | (with_reducible (show bindG _ _ _ _ _); simp only [hall])) <;> try simp only [Go.AM.S1, Go.AM.S2, Go.AM.S3, Go.AM.S4, Go.AM.S5, Go.AM.S6, Go.AM.S7, Go.AM.S8, Go.AM.S9, Nat.reduceAdd, Nat.reduceMul, Nat.reduceSub, ↓reduceIte, Nat.reduceEqDiff, Nat.reduceLT, Nat.reduceLeDiff, reduceCtorEq, Int.reduceBEq, Int.reduceBNe, Nat.reduceBEq, Int.reduceEq, Int.reduceToNat, Int.reduceLE, Int.reduceLT, Nat.reduceDiv, Int.reduceAdd, Int.reduceSub, Int.reduceMul, Int.reduceNeg, Int.reduceGT, Int.reduceGE, Nat.reduceMod, k20_14, sF32bits_eq, ty_22, ty_24, ty_26, ty_28, h64])
    | (with_reducible refine hX _ _ ?_; clear hX X)
    | (with_reducible refine ops_nil_i ?_; try clear hall all)
    | (with_reducible refine opsN_nil_i ?_; try clear hall all)
    | (with_reducible refine hK _ _ ?_; clear hK K)
    | with_reducible refine thenP_normal_i ?_
    | (with_reducible refine zzr1 _ _ ?_; try clear zzr1 Kzzr1)
    | (with_reducible refine zzr0 _ _ ?_; try clear zzr0 Kzzr0)
    | (with_reducible refine awp_seq_l (a := .region 1 _ _) [2] ?_; intro Kzzr1 zzr1)
    | (with_reducible refine awp_seq_l (a := .region 0 _ _) [0, 2] ?_; intro Kzzr0 zzr0)
    | (with_reducible refine awp_seq_k ?_; intro K hK)
    | (with_reducible refine awp_region_a ?_; intro all hall K hK)
    | (with_reducible refine awp_draw_n ?_ ?_; kernel_rfl; intro all hall K hK)
    | (with_reducible refine Chk_i ?_ ?_)
    | (with_reducible refine keysC_i ?_; kernel_rfl)
    | (with_reducible first | refine awp_block_i ?_ | refine awp_skip_i ?_ | refine awp_ret_i ?_ | refine awp_exit_i ?_ | refine thenP_ret_i ?_ | refine thenP_exit_i ?_ | refine lpP_ret_i ?_ | refine lpP_exit_i ?_ | refine unrP_succ_i ?_ | refine unrP_ret_i ?_ | refine unrP_exit_i ?_ | refine blockP_normal_i ?_ | refine blockP_ret_i ?_)
    | (with_reducible refine blockP_exit_i ?_; simp only [↓reduceIte, Nat.reduceEqDiff])
    | with_reducible refine lpP_normal_i ?_)
  all_goals (try clear zzr0; try clear Kzzr0)
  all_goals (try clear zzr1; try clear Kzzr1)
  all_goals (try simp only [inR])
  all_goals first
    | omega
    | skip
theorem sound_20 : Sound Try.prog 20 .body (norm s20) := by
  refine sound_norm (sound_body Try.func20 (show Try.f20.body = some (code Try.f20) from rfl) (by kernel_rfl) tysOk G20_ok (drawOk_ok (by kernel_rfl) tysOk G20_ok) (by kernel_rfl) fun ds p r hs hp => ?_)
  unfold s20 at hs
  split at hs
  · cases hs; exact ⟨Nat.le_of_ble_eq_true (by kernel_rfl), w20 _ hp⟩
  · cases hs
end Go.Proofs.AMT
set_option maxRecDepth 20000
namespace Go.Proofs.AMT
open Go.AM Go.AM.LN
attribute [local congr] bindO_congr bindS_congr bindG_congr awpOps_congr aOne_congr awp_congr aCond_congr awpD_congr dOne_congr keysB_congr nOne_congr thenP_congr blockP_congr Chk_congr Brk_congr
noncomputable def s34 : CSpec := fun ds => match ds with
  | [.v (.float .f64 b)] => some (b < 9223372036854775808, .one (.v (.float .f64 b)))
  | _ => none
theorem s34_eq (b : Nat) : norm s34 [.v (.float .f64 b)] = some (b < 9223372036854775808, .one (.v (.float .f64 b))) := rfl
noncomputable def G34 : Gam := [(11, .ext, sF64bits), (12, .ext, sF64from)]
theorem G34_ok : GamOk Try.prog G34 := gamOk_cons ext_11 (gamOk_cons ext_12 gamOk_nil)
theorem k34_11 : lk G34 11 = some (.ext, sF64bits) := rfl
theorem k34_12 : lk G34 12 = some (.ext, sF64from) := rfl
set_option maxHeartbeats 20000000 in
theorem w34 (b : Nat) (hp : b < 9223372036854775808) : awp ty G34 (code Try.f34) (retP ty Try.f34.results.toList (.one (.v (.float .f64 b)))) (entry 0 [.v (.float .f64 b)]) [] := by
  unfold code
  simp only [Try.f34, Option.getD_some]
  have hA : AM.bits .andNot .u64 (b : Int) 9223372036854775808 = (b : Int) := by rw [andNot63 ⟨by omega, by omega⟩]; omega
  all_goals repeat' (first
    | ((first
       | (with_reducible refine ops_k ?_; intro X hX)
       | (with_reducible refine opsN_k ?_; intro X hX)
       | (with_reducible show awp _ _ _ _ (keepL _ _) _)
       | with_reducible refine awp_cond_k ?_
       | (with_reducible refine Brk_i ?_ ?_ <;> intro hb <;> (try simp only [hb]) <;> have hq := hb <;> try simp only [decide_eq_true_eq, decide_eq_false_iff_not, gt_iff_lt, ge_iff_le, Int.not_lt, Int.not_le, beq_iff_eq, beq_eq_false_iff_ne, Bool.not_eq_true', Bool.not_eq_false', Bool.and_eq_true, Bool.or_eq_true, Bool.and_eq_false_imp, Bool.or_eq_false_iff, ne_eq, Classical.not_not] at hq)
       | with_reducible refine retP_ret_i ?_
       | with_reducible refine retP_normal_i ?_
       | (with_reducible (show bindG _ _ _ _ _); simp only [hall])) <;> try simp only [Go.AM.S1, Go.AM.S2, Go.AM.S3, Go.AM.S4, Go.AM.S5, Go.AM.S6, Go.AM.S7, Go.AM.S8, Go.AM.S9, Nat.reduceAdd, Nat.reduceMul, Nat.reduceSub, ↓reduceIte, Nat.reduceEqDiff, Nat.reduceLT, Nat.reduceLeDiff, reduceCtorEq, Int.reduceBEq, Int.reduceBNe, Nat.reduceBEq, Int.reduceEq, Int.reduceToNat, Int.reduceLE, Int.reduceLT, Nat.reduceDiv, Int.reduceAdd, Int.reduceSub, Int.reduceMul, Int.reduceNeg, Int.reduceGT, Int.reduceGE, Nat.reduceMod, k34_11, sF64bits_eq, k34_12, sF64from_eq, ty_26, ty_33, hA])
    | (with_reducible refine hX _ _ ?_; clear hX X)
    | (with_reducible refine ops_nil_i ?_; try clear hall all)
    | (with_reducible refine opsN_nil_i ?_; try clear hall all)
    | (with_reducible refine hK _ _ ?_; clear hK K)
    | with_reducible refine thenP_normal_i ?_
    | (with_reducible refine zzr1 _ _ ?_; try clear zzr1 Kzzr1)
    | (with_reducible refine zzr0 _ _ ?_; try clear zzr0 Kzzr0)
    | (with_reducible refine awp_seq_l (a := .region 1 _ _) [2] ?_; intro Kzzr1 zzr1)
    | (with_reducible refine awp_seq_l (a := .region 0 _ _) [0] ?_; intro Kzzr0 zzr0)
    | (with_reducible refine awp_seq_k ?_; intro K hK)
    | (with_reducible refine awp_region_a ?_; intro all hall K hK)
    | (with_reducible refine awp_draw_n ?_ ?_; kernel_rfl; intro all hall K hK)
    | (with_reducible refine Chk_i ?_ ?_)
    | (with_reducible refine keysC_i ?_; kernel_rfl)
    | (with_reducible first | refine awp_block_i ?_ | refine awp_skip_i ?_ | refine awp_ret_i ?_ | refine awp_exit_i ?_ | refine thenP_ret_i ?_ | refine thenP_exit_i ?_ | refine lpP_ret_i ?_ | refine lpP_exit_i ?_ | refine unrP_succ_i ?_ | refine unrP_ret_i ?_ | refine unrP_exit_i ?_ | refine blockP_normal_i ?_ | refine blockP_ret_i ?_)
    | (with_reducible refine blockP_exit_i ?_; simp only [↓reduceIte, Nat.reduceEqDiff])
    | with_reducible refine lpP_normal_i ?_)
  all_goals (try clear zzr0; try clear Kzzr0)
  all_goals (try clear zzr1; try clear Kzzr1)
  all_goals (try simp only [inR])
  all_goals first
    | omega
    | skip
theorem sound_34 : Sound Try.prog 34 .body (norm s34) := by
  refine sound_norm (sound_body Try.func34 (show Try.f34.body = some (code Try.f34) from rfl) (by kernel_rfl) tysOk G34_ok (drawOk_ok (by kernel_rfl) tysOk G34_ok) (by kernel_rfl) fun ds p r hs hp => ?_)
  unfold s34 at hs
  split at hs
  · cases hs; exact ⟨Nat.le_of_ble_eq_true (by kernel_rfl), w34 _ hp⟩
  · cases hs
end Go.Proofs.AMT
set_option maxRecDepth 20000
namespace Go.Proofs.AMT
open Go.AM Go.AM.LN
attribute [local congr] bindO_congr bindS_congr bindG_congr awpOps_congr aOne_congr awp_congr aCond_congr awpD_congr dOne_congr keysB_congr nOne_congr thenP_congr blockP_congr Chk_congr Brk_congr
noncomputable def s21 : CSpec := fun ds => match ds with
  | [.v (.float .f64 b), .v (.int .i64 d)] => some (b < 9223372036854775808 ∧ d = 0, .one (.v (.bool (FloatKind.f64.format.order b 9218868437227405311 == some .gt))))
  | _ => none
theorem s21_eq (b : Nat) (d : Int) : norm s21 [.v (.float .f64 b), .v (.int .i64 d)] = some (b < 9223372036854775808 ∧ d = 0, .one (.v (.bool (FloatKind.f64.format.order b 9218868437227405311 == some .gt)))) := rfl
noncomputable def G21 : Gam := [(34, .body, norm s34)]
theorem G21_ok : GamOk Try.prog G21 := gamOk_cons sound_34 gamOk_nil
theorem k21_34 : lk G21 34 = some (.body, norm s34) := rfl
set_option maxHeartbeats 20000000 in
theorem w21 (b : Nat) (d : Int) (hp : b < 9223372036854775808 ∧ d = 0) : awp ty G21 (code Try.f21) (retP ty Try.f21.results.toList (.one (.v (.bool (FloatKind.f64.format.order b 9218868437227405311 == some .gt))))) (entry 0 [.v (.float .f64 b), .v (.int .i64 d)]) [] := by
  unfold code
  simp only [Try.f21, Option.getD_some]
  obtain ⟨hb, rfl⟩ := hp
  all_goals repeat' (first
    | ((first
       | (with_reducible refine ops_k ?_; intro X hX)
       | (with_reducible refine opsN_k ?_; intro X hX)
       | (with_reducible show awp _ _ _ _ (keepL _ _) _)
       | with_reducible refine awp_cond_k ?_
       | (with_reducible refine Brk_i ?_ ?_ <;> intro hb <;> (try simp only [hb]) <;> have hq := hb <;> try simp only [decide_eq_true_eq, decide_eq_false_iff_not, gt_iff_lt, ge_iff_le, Int.not_lt, Int.not_le, beq_iff_eq, beq_eq_false_iff_ne, Bool.not_eq_true', Bool.not_eq_false', Bool.and_eq_true, Bool.or_eq_true, Bool.and_eq_false_imp, Bool.or_eq_false_iff, ne_eq, Classical.not_not] at hq)
       | with_reducible refine retP_ret_i ?_
       | with_reducible refine retP_normal_i ?_
       | (with_reducible (show bindG _ _ _ _ _); simp only [hall])) <;> try simp only [Go.AM.S1, Go.AM.S2, Go.AM.S3, Go.AM.S4, Go.AM.S5, Go.AM.S6, Go.AM.S7, Go.AM.S8, Go.AM.S9, Nat.reduceAdd, Nat.reduceMul, Nat.reduceSub, ↓reduceIte, Nat.reduceEqDiff, Nat.reduceLT, Nat.reduceLeDiff, reduceCtorEq, Int.reduceBEq, Int.reduceBNe, Nat.reduceBEq, Int.reduceEq, Int.reduceToNat, Int.reduceLE, Int.reduceLT, Nat.reduceDiv, Int.reduceAdd, Int.reduceSub, Int.reduceMul, Int.reduceNeg, Int.reduceGT, Int.reduceGE, Nat.reduceMod, k21_34, s34_eq, ty_3, ty_33])
    | (with_reducible refine hX _ _ ?_; clear hX X)
    | (with_reducible refine ops_nil_i ?_; try clear hall all)
    | (with_reducible refine opsN_nil_i ?_; try clear hall all)
    | (with_reducible refine hK _ _ ?_; clear hK K)
    | with_reducible refine thenP_normal_i ?_
    | (with_reducible refine zzr5 _ _ ?_; try clear zzr5 Kzzr5)
    | (with_reducible refine zzsr1 _ _ ?_; try clear zzsr1 Kzzsr1)
    | (with_reducible refine zzr3 _ _ ?_; try clear zzr3 Kzzr3)
    | (with_reducible refine zzr1 _ _ ?_; try clear zzr1 Kzzr1)
    | (with_reducible refine zzr0 _ _ ?_; try clear zzr0 Kzzr0)
    | (with_reducible refine awp_seq_l (a := .region 5 _ _) [4] ?_; intro Kzzr5 zzr5)
    | (with_reducible refine awp_seq_l (a := .seq (.region 1 _ _) _) [0] ?_; intro Kzzsr1 zzsr1)
    | (with_reducible refine awp_seq_l (a := .region 3 _ _) [0, 10] ?_; intro Kzzr3 zzr3)
    | (with_reducible refine awp_seq_l (a := .region 1 _ _) [0, 1, 6] ?_; intro Kzzr1 zzr1)
    | (with_reducible refine awp_seq_l (a := .region 0 _ _) [0, 1] ?_; intro Kzzr0 zzr0)
    | (with_reducible refine awp_seq_k ?_; intro K hK)
    | (with_reducible refine awp_region_a ?_; intro all hall K hK)
    | (with_reducible refine awp_draw_n ?_ ?_; kernel_rfl; intro all hall K hK)
    | (with_reducible refine Chk_i ?_ ?_)
    | (with_reducible refine keysC_i ?_; kernel_rfl)
    | (with_reducible first | refine awp_block_i ?_ | refine awp_skip_i ?_ | refine awp_ret_i ?_ | refine awp_exit_i ?_ | refine thenP_ret_i ?_ | refine thenP_exit_i ?_ | refine lpP_ret_i ?_ | refine lpP_exit_i ?_ | refine unrP_succ_i ?_ | refine unrP_ret_i ?_ | refine unrP_exit_i ?_ | refine blockP_normal_i ?_ | refine blockP_ret_i ?_)
    | (with_reducible refine blockP_exit_i ?_; simp only [↓reduceIte, Nat.reduceEqDiff])
    | with_reducible refine lpP_normal_i ?_)
  all_goals (try clear zzr0; try clear Kzzr0)
  all_goals (try clear zzr1; try clear Kzzr1)
  all_goals (try clear zzr3; try clear Kzzr3)
  all_goals (try clear zzsr1; try clear Kzzsr1)
  all_goals (try clear zzr5; try clear Kzzr5)
  all_goals (try simp only [inR])
  all_goals first
    | omega
    | skip
theorem sound_21 : Sound Try.prog 21 .body (norm s21) := by
  refine sound_norm (sound_body Try.func21 (show Try.f21.body = some (code Try.f21) from rfl) (by kernel_rfl) tysOk G21_ok (drawOk_ok (by kernel_rfl) tysOk G21_ok) (by kernel_rfl) fun ds p r hs hp => ?_)
  unfold s21 at hs
  split at hs
  · cases hs; exact ⟨Nat.le_of_ble_eq_true (by kernel_rfl), w21 _ _ hp⟩
  · cases hs
end Go.Proofs.AMT
set_option maxRecDepth 100000
namespace Go.Proofs.AMT
open Go.AM
noncomputable def awakeR : Option (Prop × Res) := (lk (GamN ty 1000 bodies extB 25) 8).bind fun s => s.2 []
theorem awake_run : awakeR = some (True, .one (.v (.bool true))) := by kernel_rfl
def sAwake : CSpec := fun ds => match ds with
  | [] => some (True, .one (.v (.bool true)))
  | _ => none
theorem sAwake_eq : sAwake [] = some (True, .one (.v (.bool true))) := rfl
theorem sound_8 : Sound Try.prog 8 .body sAwake := by
  have hg := (GamN_ok (fuel := 1000) (P := Try.prog) (by kernel_rfl) tysOk extB_ok extB_free bodies_ok bodies_some 25).1
  have h := awake_run
  unfold awakeR at h
  obtain ⟨⟨fk, spec⟩, h1, h2⟩ := Option.bind_eq_some_iff.1 h
  have hs := hg 8 fk spec h1
  have hfk : fk = .body := by
    have : (lk (GamN ty 1000 bodies extB 25) 8).map (·.1) = some .body := by kernel_rfl
    rw [h1] at this
    exact Option.some.inj this
  subst hfk
  refine sound_weaken hs fun ds p r h3 h4 => ?_
  unfold sAwake at h3
  split at h3
  · cases h3; exact ⟨True, h2, trivial⟩
  · cases h3
end Go.Proofs.AMT
set_option maxRecDepth 20000
namespace Go.Proofs.AMT
open Go.AM Go.AM.LN
attribute [local congr] bindO_congr bindS_congr bindG_congr awpOps_congr aOne_congr awp_congr aCond_congr awpD_congr dOne_congr keysB_congr nOne_congr thenP_congr blockP_congr Chk_congr Brk_congr
noncomputable def s7 : CSpec := fun ds => match ds with
  | [.v (.int .u32 y)] => some (0 ≤ y ∧ y < 4294967296, .one (.v (.bool true)))
  | _ => none
theorem s7_eq (y : Int) : norm s7 [.v (.int .u32 y)] = some (0 ≤ y ∧ y < 4294967296, .one (.v (.bool true))) := rfl
noncomputable def G7 : Gam := [(8, .body, sAwake), (9, .ext, sF32from), (13, .body, norm s13), (14, .ext, sF32bits), (20, .body, norm s20), (21, .body, norm s21), (22, .body, norm s22)]
theorem G7_ok : GamOk Try.prog G7 := gamOk_cons sound_8 (gamOk_cons ext_9 (gamOk_cons sound_13 (gamOk_cons ext_14 (gamOk_cons sound_20 (gamOk_cons sound_21 (gamOk_cons sound_22 gamOk_nil))))))
theorem k7_8 : lk G7 8 = some (.body, sAwake) := rfl
theorem k7_9 : lk G7 9 = some (.ext, sF32from) := rfl
theorem k7_13 : lk G7 13 = some (.body, norm s13) := rfl
theorem k7_14 : lk G7 14 = some (.ext, sF32bits) := rfl
theorem k7_20 : lk G7 20 = some (.body, norm s20) := rfl
theorem k7_21 : lk G7 21 = some (.body, norm s21) := rfl
theorem k7_22 : lk G7 22 = some (.body, norm s22) := rfl
set_option maxHeartbeats 20000000 in
theorem w7 (y : Int) (hp : 0 ≤ y ∧ y < 4294967296) : awp ty G7 (code Try.f7) (retP ty Try.f7.results.toList (.one (.v (.bool true)))) (entry 0 [.v (.int .u32 y)]) [] := by
  unfold code
  simp only [Try.f7, Option.getD_some]
  have ha := andNot31 hp
  obtain ⟨z, hz⟩ : ∃ z : Nat, y % 2147483648 = (z : Int) := ⟨(y % 2147483648).toNat, by omega⟩
  have hzl : z < 2147483648 := by omega
  rw [hz] at ha
  have hz1n : (((z : Int) + 1) % 4294967296).toNat = z + 1 := by omega
  have hcase : 2139095040 < z ∨ z = 2139095040 ∨ z + 1 = 2139095040 ∨ (z + 1 < 2139095040 ∧ z % 2 = 0) ∨ (z + 1 < 2139095040 ∧ z % 2 = 1) := by omega
  rcases hcase with h | h | h | ⟨h, hpar⟩ | ⟨h, hpar⟩
  case' inl =>
    have gF : (FloatKind.f32.format.order z z == some .eq) = false := by rw [ordN32 h hzl]; rfl
    have gG : decide ((4 : Int) ≥ 5) = false := rfl
    have hwF : decide ((4 : Int) ≥ 5) = false := rfl
    have hwG : decide ((4 : Int) ≥ 5) = false := rfl
    have hiF : decide ((4 : Int) ≥ 5) = false := rfl
    have hiG : decide ((4 : Int) ≥ 5) = false := rfl
    have hadd : decide ((4 : Int) ≥ 5) = false := rfl
    have hdiv : decide ((4 : Int) ≥ 5) = false := rfl
    have hR : decide ((4 : Int) ≥ 5) = false := rfl
    have hFl : decide ((4 : Int) ≥ 5) = false := rfl
    have hfa : decide ((4 : Int) ≥ 5) = false := rfl
    have hdc3 : decide ((4 : Int) ≥ 5) = false := rfl
    have hrem : decide ((4 : Int) ≥ 5) = false := rfl
    have hgA : decide ((4 : Int) ≥ 5) = false := rfl
    have hgB : decide ((4 : Int) ≥ 5) = false := rfl
  case' inr.inl =>
    have gF : (FloatKind.f32.format.order z z == some .eq) = true := by rw [h]; decide
    have gG : (FloatKind.f32.format.order (z + 1) (z + 1) == some .eq) = false := by rw [ordN32 (by omega) (by omega)]; rfl
    have hwF : decide ((4 : Int) ≥ 5) = false := rfl
    have hwG : decide ((4 : Int) ≥ 5) = false := rfl
    have hiF : decide ((4 : Int) ≥ 5) = false := rfl
    have hiG : decide ((4 : Int) ≥ 5) = false := rfl
    have hadd : decide ((4 : Int) ≥ 5) = false := rfl
    have hdiv : decide ((4 : Int) ≥ 5) = false := rfl
    have hR : decide ((4 : Int) ≥ 5) = false := rfl
    have hFl : decide ((4 : Int) ≥ 5) = false := rfl
    have hfa : decide ((4 : Int) ≥ 5) = false := rfl
    have hdc3 : decide ((4 : Int) ≥ 5) = false := rfl
    have hrem : decide ((4 : Int) ≥ 5) = false := rfl
    have hgA : decide ((4 : Int) ≥ 5) = false := rfl
    have hgB : decide ((4 : Int) ≥ 5) = false := rfl
  case' inr.inr.inl =>
    have gF : (FloatKind.f32.format.order z z == some .eq) = true := by rw [ord32 (by omega)]; rfl
    have gG : (FloatKind.f32.format.order (z + 1) (z + 1) == some .eq) = true := by rw [h]; decide
    have hwF := widen (z := z) (by omega)
    have hwG : floatToFloatBits .f32 (z + 1) .f64 = some 9218868437227405312 := by rw [h]; decide
    have hiF : (FloatKind.f64.format.order (wrd (sm z) (se z)) 9218868437227405311 == some .gt) = false := not_gt (by omega)
    have hiG : (FloatKind.f64.format.order 9218868437227405312 9218868437227405311 == some .gt) = true := by decide
    have hadd : decide ((4 : Int) ≥ 5) = false := rfl
    have hdiv : decide ((4 : Int) ≥ 5) = false := rfl
    have hR : decide ((4 : Int) ≥ 5) = false := rfl
    have hFl : decide ((4 : Int) ≥ 5) = false := rfl
    have hfa : decide ((4 : Int) ≥ 5) = false := rfl
    have hdc3 : decide ((4 : Int) ≥ 5) = false := rfl
    have hrem : decide ((4 : Int) ≥ 5) = false := rfl
    have hgA : decide ((4 : Int) ≥ 5) = false := rfl
    have hgB : decide ((4 : Int) ≥ 5) = false := rfl
  all_goals first
    | (have h0 := hgA)
    | (have gF : (FloatKind.f32.format.order z z == some .eq) = true := by rw [ord32 (by omega)]; rfl
       have gG : (FloatKind.f32.format.order (z + 1) (z + 1) == some .eq) = true := by rw [ord32 h]; rfl
       have hwF := widen (z := z) (by omega)
       have hwG := widen (z := z + 1) h
       have hiF : (FloatKind.f64.format.order (wrd (sm z) (se z)) 9218868437227405311 == some .gt) = false := not_gt (by omega)
       have hiG : (FloatKind.f64.format.order (wrd (sm (z + 1)) (se (z + 1))) 9218868437227405311 == some .gt) = false := not_gt h
       obtain ⟨S, hS1, hS2⟩ := mid_ok h
       have hadd : floatBits .add .f64 (wrd (sm z) (se z)) (wrd (sm (z + 1)) (se (z + 1))) = some S := hS1
       have hdiv : floatBits .quo .f64 S 4611686018427387904 = some (mid z) := hS2
       have hb := sm_b (z := z) (by omega)
       obtain ⟨k1, k2, k3, k4, k5, k6⟩ := rung_unpack (U := 2 * sm z + 1) (q := se z - 1) (by omega) (blen_le53 (by omega)) (by omega) (by omega)
       obtain ⟨m1, m2⟩ := mid_round h rfl rfl
       have hk : uV 4 (mid z) ≠ 0 := by
         show uV 4 (rung (2 * sm z + 1) (se z - 1)) ≠ 0
         rw [k5]
         exact Nat.mul_ne_zero (by omega) (by have := Nat.two_pow_pos (53 - blen (2 * sm z + 1)); omega)
       have hO4 : okB 4 (mid z) = true := k1
       have hC4 : uC 4 (mid z) = 1 := k2
       have hS4 : uS 4 (mid z) = false := k3
       have hM4 : mid z < 9218868437227405312 := k6
       have hdc3 : dC 3 (ev z) = 1 := by
         have hc := uC3 (R := ev z) (by unfold ev; split <;> omega)
         unfold dC; rw [if_pos hc.1, hc.2]
       obtain ⟨Fl, hFl⟩ : ∃ Fl, rndF 3 0 false (uV 4 (mid z)) 1 (uX 4 (mid z)) = Fl := ⟨_, rfl⟩
       rw [hFl] at m2
       have hfa : AM.bits .and .i64 Fl 8 = 8 := by rcases m2 with rfl | rfl <;> decide
       have hR := m1
       rw [← hS4] at hR hFl)
  case' inr.inr.inr.inl =>
    have he : ev z = z := if_pos hpar
    rw [he] at hR hdc3
    have hrem : (z : Int).tmod 2 = 0 := by rw [Int.tmod_eq_emod_of_nonneg (by omega)]; omega
    have hgA : (FloatKind.f32.format.order z z == some .eq) = true := gF
    have hgB : decide ((4 : Int) ≥ 5) = false := rfl
  case' inr.inr.inr.inr =>
    have he : ev z = z + 1 := if_neg (by omega)
    rw [he] at hR hdc3
    have hrem : ((z + 1 : Nat) : Int).tmod 2 = 0 := by rw [Int.tmod_eq_emod_of_nonneg (by omega)]; omega
    have hgA : decide ((4 : Int) ≥ 5) = false := rfl
    have hgB : (FloatKind.f32.format.order (z + 1) (z + 1) == some .eq) = true := gG
  all_goals repeat' (first
    | ((first
       | (with_reducible refine ops_k ?_; intro X hX)
       | (with_reducible refine opsN_k ?_; intro X hX)
       | (with_reducible show awp _ _ _ _ (keepL _ _) _)
       | with_reducible refine awp_cond_k ?_
       | (with_reducible refine Brk_i ?_ ?_ <;> intro hb <;> (try simp only [hb]) <;> have hq := hb <;> try simp only [decide_eq_true_eq, decide_eq_false_iff_not, gt_iff_lt, ge_iff_le, Int.not_lt, Int.not_le, beq_iff_eq, beq_eq_false_iff_ne, Bool.not_eq_true', Bool.not_eq_false', Bool.and_eq_true, Bool.or_eq_true, Bool.and_eq_false_imp, Bool.or_eq_false_iff, ne_eq, Classical.not_not] at hq)
       | with_reducible refine retP_ret_i ?_
       | with_reducible refine retP_normal_i ?_
       | (with_reducible (show bindG _ _ _ _ _); simp only [hall])) <;> try simp only [Go.AM.S1, Go.AM.S2, Go.AM.S3, Go.AM.S4, Go.AM.S5, Go.AM.S6, Go.AM.S7, Go.AM.S8, Go.AM.S9, Nat.reduceAdd, Nat.reduceMul, Nat.reduceSub, ↓reduceIte, Nat.reduceEqDiff, Nat.reduceLT, Nat.reduceLeDiff, reduceCtorEq, Int.reduceBEq, Int.reduceBNe, Nat.reduceBEq, Int.reduceEq, Int.reduceToNat, Int.reduceLE, Int.reduceLT, Nat.reduceDiv, Int.reduceAdd, Int.reduceSub, Int.reduceMul, Int.reduceNeg, Int.reduceGT, Int.reduceGE, Nat.reduceMod, k7_8, sAwake_eq, k7_9, sF32from_eq, k7_13, s13_eq, k7_14, sF32bits_eq, k7_20, s20_eq, k7_21, s21_eq, k7_22, s22_eq, ty_3, ty_4, ty_22, ty_24, ty_26, ty_28, ty_33, ty_53, ha, hz1n, gF, gG, hwF, hwG, hiF, hiG, hadd, hdiv, hR, hFl, hfa, hdc3, hrem, hgA, hgB, V4_x])
    | (with_reducible refine hX _ _ ?_; clear hX X)
    | (with_reducible refine ops_nil_i ?_; try clear hall all)
    | (with_reducible refine opsN_nil_i ?_; try clear hall all)
    | (with_reducible refine hK _ _ ?_; clear hK K)
    | with_reducible refine thenP_normal_i ?_
    | (with_reducible refine zzr10 _ _ ?_; try clear zzr10 Kzzr10)
    | (with_reducible refine zzr9 _ _ ?_; try clear zzr9 Kzzr9)
    | (with_reducible refine zzr8 _ _ ?_; try clear zzr8 Kzzr8)
    | (with_reducible refine zzr7 _ _ ?_; try clear zzr7 Kzzr7)
    | (with_reducible refine zzsr5 _ _ ?_; try clear zzsr5 Kzzsr5)
    | (with_reducible refine zzr6 _ _ ?_; try clear zzr6 Kzzr6)
    | (with_reducible refine zzr5 _ _ ?_; try clear zzr5 Kzzr5)
    | (with_reducible refine zzr4 _ _ ?_; try clear zzr4 Kzzr4)
    | (with_reducible refine zzr3 _ _ ?_; try clear zzr3 Kzzr3)
    | (with_reducible refine zzsr1 _ _ ?_; try clear zzsr1 Kzzsr1)
    | (with_reducible refine zzr2 _ _ ?_; try clear zzr2 Kzzr2)
    | (with_reducible refine zzr1 _ _ ?_; try clear zzr1 Kzzr1)
    | (with_reducible refine zzr0 _ _ ?_; try clear zzr0 Kzzr0)
    | (with_reducible refine awp_seq_l (a := .region 10 _ _) [2] ?_; intro Kzzr10 zzr10)
    | (with_reducible refine awp_seq_l (a := .region 9 _ _) [3, 4, 6, 7, 8] ?_; intro Kzzr9 zzr9)
    | (with_reducible refine awp_seq_l (a := .region 8 _ _) [3, 4, 6, 7] ?_; intro Kzzr8 zzr8)
    | (with_reducible refine awp_seq_l (a := .region 7 _ _) [3, 4, 5] ?_; intro Kzzr7 zzr7)
    | (with_reducible refine awp_seq_l (a := .seq (.region 5 _ _) _) [3, 4] ?_; intro Kzzsr5 zzsr5)
    | (with_reducible refine awp_seq_l (a := .region 6 _ _) [2] ?_; intro Kzzr6 zzr6)
    | (with_reducible refine awp_seq_l (a := .region 5 _ _) [3, 4, 36] ?_; intro Kzzr5 zzr5)
    | (with_reducible refine awp_seq_l (a := .region 4 _ _) [3, 4] ?_; intro Kzzr4 zzr4)
    | (with_reducible refine awp_seq_l (a := .region 3 _ _) [0, 3] ?_; intro Kzzr3 zzr3)
    | (with_reducible refine awp_seq_l (a := .seq (.region 1 _ _) _) [0] ?_; intro Kzzsr1 zzsr1)
    | (with_reducible refine awp_seq_l (a := .region 2 _ _) [2] ?_; intro Kzzr2 zzr2)
    | (with_reducible refine awp_seq_l (a := .region 1 _ _) [0, 11] ?_; intro Kzzr1 zzr1)
    | (with_reducible refine awp_seq_l (a := .region 0 _ _) [0] ?_; intro Kzzr0 zzr0)
    | (with_reducible refine awp_seq_k ?_; intro K hK)
    | (with_reducible refine awp_region_a ?_; intro all hall K hK)
    | (with_reducible refine awp_draw_n ?_ ?_; kernel_rfl; intro all hall K hK)
    | (with_reducible refine Chk_i ?_ ?_)
    | (with_reducible refine keysC_i ?_; kernel_rfl)
    | (with_reducible first | refine awp_block_i ?_ | refine awp_skip_i ?_ | refine awp_ret_i ?_ | refine awp_exit_i ?_ | refine thenP_ret_i ?_ | refine thenP_exit_i ?_ | refine lpP_ret_i ?_ | refine lpP_exit_i ?_ | refine unrP_succ_i ?_ | refine unrP_ret_i ?_ | refine unrP_exit_i ?_ | refine blockP_normal_i ?_ | refine blockP_ret_i ?_)
    | (with_reducible refine blockP_exit_i ?_; simp only [↓reduceIte, Nat.reduceEqDiff])
    | with_reducible refine lpP_normal_i ?_)
  all_goals (try clear zzr0; try clear Kzzr0)
  all_goals (try clear zzr1; try clear Kzzr1)
  all_goals (try clear zzr2; try clear Kzzr2)
  all_goals (try clear zzsr1; try clear Kzzsr1)
  all_goals (try clear zzr3; try clear Kzzr3)
  all_goals (try clear zzr4; try clear Kzzr4)
  all_goals (try clear zzr5; try clear Kzzr5)
  all_goals (try clear zzr6; try clear Kzzr6)
  all_goals (try clear zzsr5; try clear Kzzsr5)
  all_goals (try clear zzr7; try clear Kzzr7)
  all_goals (try clear zzr8; try clear Kzzr8)
  all_goals (try clear zzr9; try clear Kzzr9)
  all_goals (try clear zzr10; try clear Kzzr10)
  all_goals (try simp only [inR])
  all_goals first
    | omega
    | exact Nat.lt_trans (wrd_lt (by omega)) (by omega)
    | exact ⟨by omega, hO4, hC4, hk, by omega⟩
    | skip
theorem sound_7 : Sound Try.prog 7 .body (norm s7) := by
  refine sound_norm (sound_body Try.func7 (show Try.f7.body = some (code Try.f7) from rfl) (by kernel_rfl) tysOk G7_ok (drawOk_ok (by kernel_rfl) tysOk G7_ok) (by kernel_rfl) fun ds p r hs hp => ?_)
  unfold s7 at hs
  split at hs
  · cases hs; exact ⟨Nat.le_of_ble_eq_true (by kernel_rfl), w7 _ hp⟩
  · cases hs
end Go.Proofs.AMT
