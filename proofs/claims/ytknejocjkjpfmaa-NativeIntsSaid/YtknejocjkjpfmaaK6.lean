/- Part 6 of the proof: own text (Fbinaryor, FbinaryLay, FbinaryOf, Fbinaryis, FbinaryPack, FnatLen, FnatShl, LN24, LN25, LN26, Froundscaled, FnatCmp, FbinaryLargest, FroundInfinite, Froundoverflow). -/
import Derived.Test.YtknejocjkjpfmaaK0
import Derived.Test.YtknejocjkjpfmaaK1
import Derived.Test.YtknejocjkjpfmaaK2
import Derived.Test.YtknejocjkjpfmaaK3
import Derived.Test.YtknejocjkjpfmaaK4
import Derived.Test.YtknejocjkjpfmaaK5
set_option linter.all false
set_option maxRecDepth 20000
namespace Go.Proofs.AMT
open Go.AM Go.AM.LN
attribute [local congr] bindO_congr bindS_congr bindG_congr awpOps_congr aOne_congr awp_congr aCond_congr awpD_congr dOne_congr keysB_congr nOne_congr thenP_congr blockP_congr Chk_congr Brk_congr
noncomputable def s64 : CSpec := fun ds => match ds with
  | [.v (.agg ⟨[.int .u64 a0, .int .u64 a1, .int .u64 a2, .int .u64 a3]⟩), .v (.agg ⟨[.int .u64 b0, .int .u64 b1, .int .u64 b2, .int .u64 b3]⟩)] => some (True, .one (.v (.agg #[.int .u64 (AM.bits .or .u64 a0 b0), .int .u64 (AM.bits .or .u64 a1 b1), .int .u64 (AM.bits .or .u64 a2 b2), .int .u64 (AM.bits .or .u64 a3 b3)])))
  | _ => none
theorem s64_eq (a0 a1 a2 a3 : Int) (b0 b1 b2 b3 : Int) : norm s64 [.v (.agg #[.int .u64 a0, .int .u64 a1, .int .u64 a2, .int .u64 a3]), .v (.agg #[.int .u64 b0, .int .u64 b1, .int .u64 b2, .int .u64 b3])] = some (True, .one (.v (.agg #[.int .u64 (AM.bits .or .u64 a0 b0), .int .u64 (AM.bits .or .u64 a1 b1), .int .u64 (AM.bits .or .u64 a2 b2), .int .u64 (AM.bits .or .u64 a3 b3)]))) := rfl
noncomputable def G64 : Gam := []
theorem G64_ok : GamOk Try.prog G64 := gamOk_nil
set_option maxHeartbeats 20000000 in
theorem w64 (a0 a1 a2 a3 : Int) (b0 b1 b2 b3 : Int) (hp : True) : awp ty G64 (code Try.f64) (retP ty Try.f64.results.toList (.one (.v (.agg #[.int .u64 (AM.bits .or .u64 a0 b0), .int .u64 (AM.bits .or .u64 a1 b1), .int .u64 (AM.bits .or .u64 a2 b2), .int .u64 (AM.bits .or .u64 a3 b3)])))) (entry 0 [.v (.agg #[.int .u64 a0, .int .u64 a1, .int .u64 a2, .int .u64 a3]), .v (.agg #[.int .u64 b0, .int .u64 b1, .int .u64 b2, .int .u64 b3])]) [] := by
  unfold code
  simp only [Try.f64, Option.getD_some]
  all_goals repeat' (first
    | ((first
       | (with_reducible refine ops_k ?_; intro X hX)
       | (with_reducible refine opsN_k ?_; intro X hX)
       | (with_reducible show awp _ _ _ _ (keepL _ _) _)
       | (with_reducible refine hX _ _ _ _ ?_; clear hX X)
       | (with_reducible refine opsD_k ?_; intro X hX)
       | with_reducible refine awp_cond_k ?_
       | (with_reducible refine Brk_i ?_ ?_ <;> intro hb <;> (try simp only [hb]) <;> have hq := hb <;> try simp only [decide_eq_true_eq, decide_eq_false_iff_not, gt_iff_lt, ge_iff_le, Int.not_lt, Int.not_le, beq_iff_eq, beq_eq_false_iff_ne, Bool.not_eq_true', Bool.not_eq_false', Bool.and_eq_true, Bool.or_eq_true, Bool.and_eq_false_imp, Bool.or_eq_false_iff, ne_eq, Classical.not_not] at hq)
       | with_reducible refine retP_ret_i ?_
       | with_reducible refine retP_normal_i ?_
       | (with_reducible (show bindG _ _ _ _ _); simp only [hall])) <;> try simp only [Go.AM.S1, Go.AM.S2, Go.AM.S3, Go.AM.S4, Go.AM.S5, Go.AM.S6, Go.AM.S7, Go.AM.S8, Go.AM.S9, Nat.reduceAdd, Nat.reduceMul, Nat.reduceSub, ↓reduceIte, Nat.reduceEqDiff, Nat.reduceLT, Nat.reduceLeDiff, reduceCtorEq, Int.reduceBEq, Int.reduceBNe, Nat.reduceBEq, Int.reduceEq, Int.reduceToNat, Int.reduceLE, Int.reduceLT, Nat.reduceDiv, Int.reduceAdd, Int.reduceSub, Int.reduceMul, Int.reduceNeg, Int.reduceGT, Int.reduceGE, Nat.reduceMod, ty_3, ty_26, ty_28])
    | (with_reducible refine hX _ _ ?_; clear hX X)
    | (with_reducible refine opsD_nil_i ?_; try clear hall all)
    | (with_reducible refine keysB_i ?_; kernel_rfl)
    | ((with_reducible show clashK _ _ _ = true); kernel_rfl)
    | (with_reducible refine ops_nil_i ?_; try clear hall all)
    | (with_reducible refine opsN_nil_i ?_; try clear hall all)
    | (with_reducible refine hK _ _ ?_; clear hK K)
    | with_reducible refine thenP_normal_i ?_
    | (with_reducible refine zzr6 _ _ ?_; try clear zzr6 Kzzr6)
    | (with_reducible refine zzsr1 _ _ ?_; try clear zzsr1 Kzzsr1)
    | (with_reducible refine zzb1 _ _ ?_; try clear zzb1 Kzzb1)
    | (with_reducible refine zzr3 _ _ ?_; try clear zzr3 Kzzr3)
    | (with_reducible refine zzctmp7 _ _ ?_; try clear zzctmp7 Kzzctmp7)
    | (with_reducible refine zzr2 _ _ ?_; try clear zzr2 Kzzr2)
    | (with_reducible refine zzr1 _ _ ?_; try clear zzr1 Kzzr1)
    | (with_reducible refine zzr0 _ _ ?_; try clear zzr0 Kzzr0)
    | (with_reducible refine awp_unroll (Nat.succ (Nat.succ (Nat.succ (Nat.succ (Nat.succ Nat.zero))))) ?_)
    | (with_reducible refine awp_seq_l (a := .region 6 _ _) [4] ?_; intro Kzzr6 zzr6)
    | (with_reducible refine awp_seq_l (a := .seq (.region 1 _ _) _) [2, 4] ?_; intro Kzzsr1 zzsr1)
    | (with_reducible refine awp_seq_l (a := .block 1 _) [2, 3, 4, 6] ?_; intro Kzzb1 zzb1)
    | (with_reducible refine awp_seq_l (a := .region 3 _ _) [2, 3, 4, 5, 6] ?_; intro Kzzr3 zzr3)
    | (with_reducible refine awp_seq_l (a := .cond (.tmp 7) _ _) [2, 3, 4, 6] ?_; intro Kzzctmp7 zzctmp7)
    | (with_reducible refine awp_seq_l (a := .region 2 _ _) [2, 3, 4, 6, 7] ?_; intro Kzzr2 zzr2)
    | (with_reducible refine awp_seq_l (a := .region 1 _ _) [2, 3, 4, 6] ?_; intro Kzzr1 zzr1)
    | (with_reducible refine awp_seq_l (a := .region 0 _ _) [2, 3, 4] ?_; intro Kzzr0 zzr0)
    | (with_reducible refine awp_seq_k ?_; intro K hK)
    | (with_reducible refine awp_region_a ?_; intro all hall K hK)
    | (with_reducible refine awp_draw_a (id := 4) ?_ ?_; kernel_rfl; intro all hall K hK)
    | (with_reducible refine awp_draw_n ?_ ?_; kernel_rfl; intro all hall K hK)
    | (with_reducible refine Chk_i ?_ ?_)
    | (with_reducible refine keysC_i ?_; kernel_rfl)
    | (with_reducible first | refine awp_block_i ?_ | refine awp_skip_i ?_ | refine awp_ret_i ?_ | refine awp_exit_i ?_ | refine thenP_ret_i ?_ | refine thenP_exit_i ?_ | refine lpP_ret_i ?_ | refine lpP_exit_i ?_ | refine unrP_succ_i ?_ | refine unrP_ret_i ?_ | refine unrP_exit_i ?_ | refine blockP_normal_i ?_ | refine blockP_ret_i ?_)
    | (with_reducible refine blockP_exit_i ?_; simp only [↓reduceIte, Nat.reduceEqDiff])
    | with_reducible refine lpP_normal_i ?_)
  all_goals (try clear zzr0; try clear Kzzr0)
  all_goals (try clear zzr1; try clear Kzzr1)
  all_goals (try clear zzr2; try clear Kzzr2)
  all_goals (try clear zzctmp7; try clear Kzzctmp7)
  all_goals (try clear zzr3; try clear Kzzr3)
  all_goals (try clear zzb1; try clear Kzzb1)
  all_goals (try clear zzsr1; try clear Kzzsr1)
  all_goals (try clear zzr6; try clear Kzzr6)
  all_goals (simp only [inR]; omega)
theorem sound_64 : Sound Try.prog 64 .body (norm s64) := by
  refine sound_norm (sound_body Try.func64 (show Try.f64.body = some (code Try.f64) from rfl) (by kernel_rfl) tysOk G64_ok (drawOk_ok (by kernel_rfl) tysOk G64_ok) (by kernel_rfl) fun ds p r hs hp => ?_)
  unfold s64 at hs
  split at hs
  · cases hs; exact ⟨Nat.le_of_ble_eq_true (by kernel_rfl), w64 _ _ _ _ _ _ _ _ hp⟩
  · cases hs
end Go.Proofs.AMT
set_option maxRecDepth 20000
namespace Go.Proofs.AMT
open Go.AM Go.AM.LN
attribute [local congr] bindO_congr bindS_congr bindG_congr awpOps_congr aOne_congr awp_congr aCond_congr awpD_congr dOne_congr keysB_congr nOne_congr thenP_congr blockP_congr Chk_congr Brk_congr
noncomputable def s37 : CSpec := fun ds => match ds with
  | [.v (.agg ⟨[.int .u64 b0, .int .u64 b1, .int .u64 b2, .int .u64 b3]⟩), .v (.agg ⟨[.int .u64 x0, .int .u64 x1, .int .u64 x2, .int .u64 x3]⟩), .v (.int .i64 p)] => some (((0 ≤ b0 ∧ b0 < 18446744073709551616) ∧ (0 ≤ b1 ∧ b1 < 18446744073709551616) ∧ (0 ≤ b2 ∧ b2 < 18446744073709551616) ∧ (0 ≤ b3 ∧ b3 < 18446744073709551616)) ∧ ((0 ≤ x0 ∧ x0 < 18446744073709551616) ∧ (0 ≤ x1 ∧ x1 < 18446744073709551616) ∧ (0 ≤ x2 ∧ x2 < 18446744073709551616) ∧ (0 ≤ x3 ∧ x3 < 18446744073709551616)) ∧ 0 ≤ p ∧ p < 4000000000, .one (.v (.agg #[.int .u64 (w4 ((V4 b0 b1 b2 b3) ||| ((V4 x0 x1 x2 x3) * 2 ^ p.toNat % 2 ^ 256)) 0), .int .u64 (w4 ((V4 b0 b1 b2 b3) ||| ((V4 x0 x1 x2 x3) * 2 ^ p.toNat % 2 ^ 256)) 1), .int .u64 (w4 ((V4 b0 b1 b2 b3) ||| ((V4 x0 x1 x2 x3) * 2 ^ p.toNat % 2 ^ 256)) 2), .int .u64 (w4 ((V4 b0 b1 b2 b3) ||| ((V4 x0 x1 x2 x3) * 2 ^ p.toNat % 2 ^ 256)) 3)])))
  | _ => none
theorem s37_eq (b0 b1 b2 b3 : Int) (x0 x1 x2 x3 : Int) (p : Int) : norm s37 [.v (.agg #[.int .u64 b0, .int .u64 b1, .int .u64 b2, .int .u64 b3]), .v (.agg #[.int .u64 x0, .int .u64 x1, .int .u64 x2, .int .u64 x3]), .v (.int .i64 p)] = some (((0 ≤ b0 ∧ b0 < 18446744073709551616) ∧ (0 ≤ b1 ∧ b1 < 18446744073709551616) ∧ (0 ≤ b2 ∧ b2 < 18446744073709551616) ∧ (0 ≤ b3 ∧ b3 < 18446744073709551616)) ∧ ((0 ≤ x0 ∧ x0 < 18446744073709551616) ∧ (0 ≤ x1 ∧ x1 < 18446744073709551616) ∧ (0 ≤ x2 ∧ x2 < 18446744073709551616) ∧ (0 ≤ x3 ∧ x3 < 18446744073709551616)) ∧ 0 ≤ p ∧ p < 4000000000, .one (.v (.agg #[.int .u64 (w4 ((V4 b0 b1 b2 b3) ||| ((V4 x0 x1 x2 x3) * 2 ^ p.toNat % 2 ^ 256)) 0), .int .u64 (w4 ((V4 b0 b1 b2 b3) ||| ((V4 x0 x1 x2 x3) * 2 ^ p.toNat % 2 ^ 256)) 1), .int .u64 (w4 ((V4 b0 b1 b2 b3) ||| ((V4 x0 x1 x2 x3) * 2 ^ p.toNat % 2 ^ 256)) 2), .int .u64 (w4 ((V4 b0 b1 b2 b3) ||| ((V4 x0 x1 x2 x3) * 2 ^ p.toNat % 2 ^ 256)) 3)]))) := rfl
noncomputable def G37 : Gam := [(64, .body, norm s64), (65, .body, norm s65)]
theorem G37_ok : GamOk Try.prog G37 := gamOk_cons sound_64 (gamOk_cons sound_65 gamOk_nil)
theorem k37_64 : lk G37 64 = some (.body, norm s64) := rfl
theorem k37_65 : lk G37 65 = some (.body, norm s65) := rfl
set_option maxHeartbeats 20000000 in
theorem w37 (b0 b1 b2 b3 : Int) (x0 x1 x2 x3 : Int) (p : Int) (hp : ((0 ≤ b0 ∧ b0 < 18446744073709551616) ∧ (0 ≤ b1 ∧ b1 < 18446744073709551616) ∧ (0 ≤ b2 ∧ b2 < 18446744073709551616) ∧ (0 ≤ b3 ∧ b3 < 18446744073709551616)) ∧ ((0 ≤ x0 ∧ x0 < 18446744073709551616) ∧ (0 ≤ x1 ∧ x1 < 18446744073709551616) ∧ (0 ≤ x2 ∧ x2 < 18446744073709551616) ∧ (0 ≤ x3 ∧ x3 < 18446744073709551616)) ∧ 0 ≤ p ∧ p < 4000000000) : awp ty G37 (code Try.f37) (retP ty Try.f37.results.toList (.one (.v (.agg #[.int .u64 (w4 ((V4 b0 b1 b2 b3) ||| ((V4 x0 x1 x2 x3) * 2 ^ p.toNat % 2 ^ 256)) 0), .int .u64 (w4 ((V4 b0 b1 b2 b3) ||| ((V4 x0 x1 x2 x3) * 2 ^ p.toNat % 2 ^ 256)) 1), .int .u64 (w4 ((V4 b0 b1 b2 b3) ||| ((V4 x0 x1 x2 x3) * 2 ^ p.toNat % 2 ^ 256)) 2), .int .u64 (w4 ((V4 b0 b1 b2 b3) ||| ((V4 x0 x1 x2 x3) * 2 ^ p.toNat % 2 ^ 256)) 3)])))) (entry 0 [.v (.agg #[.int .u64 b0, .int .u64 b1, .int .u64 b2, .int .u64 b3]), .v (.agg #[.int .u64 x0, .int .u64 x1, .int .u64 x2, .int .u64 x3]), .v (.int .i64 p)]) [] := by
  unfold code
  simp only [Try.f37, Option.getD_some]
  all_goals repeat' (first
    | ((first
       | (with_reducible refine ops_k ?_; intro X hX)
       | (with_reducible refine opsN_k ?_; intro X hX)
       | (with_reducible show awp _ _ _ _ (keepL _ _) _)
       | (with_reducible refine hX _ _ _ _ ?_; clear hX X)
       | (with_reducible refine opsD_k ?_; intro X hX)
       | with_reducible refine awp_cond_k ?_
       | (with_reducible refine Brk_i ?_ ?_ <;> intro hb <;> (try simp only [hb]) <;> have hq := hb <;> try simp only [decide_eq_true_eq, decide_eq_false_iff_not, gt_iff_lt, ge_iff_le, Int.not_lt, Int.not_le, beq_iff_eq, beq_eq_false_iff_ne, Bool.not_eq_true', Bool.not_eq_false', Bool.and_eq_true, Bool.or_eq_true, Bool.and_eq_false_imp, Bool.or_eq_false_iff, ne_eq, Classical.not_not] at hq)
       | with_reducible refine retP_ret_i ?_
       | with_reducible refine retP_normal_i ?_
       | (with_reducible (show bindG _ _ _ _ _); simp only [hall])) <;> try simp only [Go.AM.S1, Go.AM.S2, Go.AM.S3, Go.AM.S4, Go.AM.S5, Go.AM.S6, Go.AM.S7, Go.AM.S8, Go.AM.S9, Nat.reduceAdd, Nat.reduceMul, Nat.reduceSub, ↓reduceIte, Nat.reduceEqDiff, Nat.reduceLT, Nat.reduceLeDiff, reduceCtorEq, Int.reduceBEq, Int.reduceBNe, Nat.reduceBEq, Int.reduceEq, Int.reduceToNat, Int.reduceLE, Int.reduceLT, Nat.reduceDiv, Int.reduceAdd, Int.reduceSub, Int.reduceMul, Int.reduceNeg, Int.reduceGT, Int.reduceGE, Nat.reduceMod, k37_64, s64_eq, k37_65, s65_eq, ty_3, ty_26, ty_27, ty_28])
    | (with_reducible refine hX _ _ ?_; clear hX X)
    | (with_reducible refine opsD_nil_i ?_; try clear hall all)
    | (with_reducible refine keysB_i ?_; kernel_rfl)
    | ((with_reducible show clashK _ _ _ = true); kernel_rfl)
    | (with_reducible refine ops_nil_i ?_; try clear hall all)
    | (with_reducible refine opsN_nil_i ?_; try clear hall all)
    | (with_reducible refine hK _ _ ?_; clear hK K)
    | with_reducible refine thenP_normal_i ?_
    | (with_reducible refine zzr1 _ _ ?_; try clear zzr1 Kzzr1)
    | (with_reducible refine zzr0 _ _ ?_; try clear zzr0 Kzzr0)
    | (with_reducible refine awp_seq_l (a := .region 1 _ _) [6] ?_; intro Kzzr1 zzr1)
    | (with_reducible refine awp_seq_l (a := .region 0 _ _) [2, 3, 4, 6] ?_; intro Kzzr0 zzr0)
    | (with_reducible refine awp_seq_k ?_; intro K hK)
    | (with_reducible refine awp_region_a ?_; intro all hall K hK)
    | (with_reducible refine awp_draw_a (id := 1) ?_ ?_; kernel_rfl; intro all hall K hK)
    | (with_reducible refine awp_draw_n ?_ ?_; kernel_rfl; intro all hall K hK)
    | (with_reducible refine Chk_i ?_ ?_)
    | (with_reducible refine keysC_i ?_; kernel_rfl)
    | (with_reducible first | refine awp_block_i ?_ | refine awp_skip_i ?_ | refine awp_ret_i ?_ | refine awp_exit_i ?_ | refine thenP_ret_i ?_ | refine thenP_exit_i ?_ | refine lpP_ret_i ?_ | refine lpP_exit_i ?_ | refine unrP_succ_i ?_ | refine unrP_ret_i ?_ | refine unrP_exit_i ?_ | refine blockP_normal_i ?_ | refine blockP_ret_i ?_)
    | (with_reducible refine blockP_exit_i ?_; simp only [↓reduceIte, Nat.reduceEqDiff])
    | with_reducible refine lpP_normal_i ?_)
  all_goals (try clear zzr0; try clear Kzzr0)
  all_goals (try clear zzr1; try clear Kzzr1)
  all_goals first
    | omega
    | exact ⟨hp.2.1, hp.2.2⟩
    | skip
  all_goals (obtain ⟨f0, f1, f2, f3⟩ := w4_V4 hp.1.1 hp.1.2.1 hp.1.2.2.1 hp.1.2.2.2)
  all_goals (refine agg4 ⟨?_, ?_, ?_, ?_⟩)
  · rw [← or_w4, f0]
  · rw [← or_w4, f1]
  · rw [← or_w4, f2]
  · rw [← or_w4, f3]
theorem sound_37 : Sound Try.prog 37 .body (norm s37) := by
  refine sound_norm (sound_body Try.func37 (show Try.f37.body = some (code Try.f37) from rfl) (by kernel_rfl) tysOk G37_ok (drawOk_ok (by kernel_rfl) tysOk G37_ok) (by kernel_rfl) fun ds p r hs hp => ?_)
  unfold s37 at hs
  split at hs
  · cases hs; exact ⟨Nat.le_of_ble_eq_true (by kernel_rfl), w37 _ _ _ _ _ _ _ _ _ hp⟩
  · cases hs
end Go.Proofs.AMT
set_option maxRecDepth 20000
namespace Go.Proofs.AMT
open Go.AM Go.AM.LN
attribute [local congr] bindO_congr bindS_congr bindG_congr awpOps_congr aOne_congr awp_congr aCond_congr awpD_congr dOne_congr keysB_congr nOne_congr thenP_congr blockP_congr Chk_congr Brk_congr
noncomputable def s38 : CSpec := fun ds => match ds with
  | [.v (.int .i64 n)] => some (0 ≤ n ∧ n < 9223372036854775808, .one (.v (.agg #[.int .u64 n, .int .u64 0, .int .u64 0, .int .u64 0])))
  | _ => none
theorem s38_eq (n : Int) : norm s38 [.v (.int .i64 n)] = some (0 ≤ n ∧ n < 9223372036854775808, .one (.v (.agg #[.int .u64 n, .int .u64 0, .int .u64 0, .int .u64 0]))) := rfl
noncomputable def G38 : Gam := []
theorem G38_ok : GamOk Try.prog G38 := gamOk_nil
set_option maxHeartbeats 20000000 in
theorem w38 (n : Int) (hp : 0 ≤ n ∧ n < 9223372036854775808) : awp ty G38 (code Try.f38) (retP ty Try.f38.results.toList (.one (.v (.agg #[.int .u64 n, .int .u64 0, .int .u64 0, .int .u64 0])))) (entry 0 [.v (.int .i64 n)]) [] := by
  unfold code
  simp only [Try.f38, Option.getD_some]
  have hn : n % 18446744073709551616 = n := by omega
  all_goals repeat' (first
    | ((first
       | (with_reducible refine ops_k ?_; intro X hX)
       | (with_reducible refine opsN_k ?_; intro X hX)
       | (with_reducible show awp _ _ _ _ (keepL _ _) _)
       | with_reducible refine awp_cond_k ?_
       | (with_reducible refine Brk_i ?_ ?_ <;> intro hb <;> (try simp only [hb]) <;> have hq := hb <;> try simp only [decide_eq_true_eq, decide_eq_false_iff_not, gt_iff_lt, ge_iff_le, Int.not_lt, Int.not_le, beq_iff_eq, beq_eq_false_iff_ne, Bool.not_eq_true', Bool.not_eq_false', Bool.and_eq_true, Bool.or_eq_true, Bool.and_eq_false_imp, Bool.or_eq_false_iff, ne_eq, Classical.not_not] at hq)
       | with_reducible refine retP_ret_i ?_
       | with_reducible refine retP_normal_i ?_
       | (with_reducible (show bindG _ _ _ _ _); simp only [hall])) <;> try simp only [Go.AM.S1, Go.AM.S2, Go.AM.S3, Go.AM.S4, Go.AM.S5, Go.AM.S6, Go.AM.S7, Go.AM.S8, Go.AM.S9, Nat.reduceAdd, Nat.reduceMul, Nat.reduceSub, ↓reduceIte, Nat.reduceEqDiff, Nat.reduceLT, Nat.reduceLeDiff, reduceCtorEq, Int.reduceBEq, Int.reduceBNe, Nat.reduceBEq, Int.reduceEq, Int.reduceToNat, Int.reduceLE, Int.reduceLT, Nat.reduceDiv, Int.reduceAdd, Int.reduceSub, Int.reduceMul, Int.reduceNeg, Int.reduceGT, Int.reduceGE, Nat.reduceMod, ty_3, ty_26, ty_28, hn])
    | (with_reducible refine hX _ _ ?_; clear hX X)
    | (with_reducible refine ops_nil_i ?_; try clear hall all)
    | (with_reducible refine opsN_nil_i ?_; try clear hall all)
    | (with_reducible refine hK _ _ ?_; clear hK K)
    | with_reducible refine thenP_normal_i ?_
    | (with_reducible refine zzr1 _ _ ?_; try clear zzr1 Kzzr1)
    | (with_reducible refine zzr0 _ _ ?_; try clear zzr0 Kzzr0)
    | (with_reducible refine awp_seq_l (a := .region 1 _ _) [2] ?_; intro Kzzr1 zzr1)
    | (with_reducible refine awp_seq_l (a := .region 0 _ _) [0, 2] ?_; intro Kzzr0 zzr0)
    | (with_reducible refine awp_seq_k ?_; intro K hK)
    | (with_reducible refine awp_region_a ?_; intro all hall K hK)
    | (with_reducible refine awp_draw_n ?_ ?_; kernel_rfl; intro all hall K hK)
    | (with_reducible refine Chk_i ?_ ?_)
    | (with_reducible refine keysC_i ?_; kernel_rfl)
    | (with_reducible first | refine awp_block_i ?_ | refine awp_skip_i ?_ | refine awp_ret_i ?_ | refine awp_exit_i ?_ | refine thenP_ret_i ?_ | refine thenP_exit_i ?_ | refine lpP_ret_i ?_ | refine lpP_exit_i ?_ | refine unrP_succ_i ?_ | refine unrP_ret_i ?_ | refine unrP_exit_i ?_ | refine blockP_normal_i ?_ | refine blockP_ret_i ?_)
    | (with_reducible refine blockP_exit_i ?_; simp only [↓reduceIte, Nat.reduceEqDiff])
    | with_reducible refine lpP_normal_i ?_)
  all_goals (try clear zzr0; try clear Kzzr0)
  all_goals (try clear zzr1; try clear Kzzr1)
theorem sound_38 : Sound Try.prog 38 .body (norm s38) := by
  refine sound_norm (sound_body Try.func38 (show Try.f38.body = some (code Try.f38) from rfl) (by kernel_rfl) tysOk G38_ok (drawOk_ok (by kernel_rfl) tysOk G38_ok) (by kernel_rfl) fun ds p r hs hp => ?_)
  unfold s38 at hs
  split at hs
  · cases hs; exact ⟨Nat.le_of_ble_eq_true (by kernel_rfl), w38 _ hp⟩
  · cases hs
end Go.Proofs.AMT
set_option maxRecDepth 20000
namespace Go.Proofs.AMT
open Go.AM Go.AM.LN
attribute [local congr] bindO_congr bindS_congr bindG_congr awpOps_congr aOne_congr awp_congr aCond_congr awpD_congr dOne_congr keysB_congr nOne_congr thenP_congr blockP_congr Chk_congr Brk_congr
noncomputable def s69 : CSpec := fun ds => match ds with
  | [.v (.agg ⟨[.int .i64 i0, .string i1, .int .i64 i2, .int .i64 i3, .int .i64 i4, .int .i64 i5, .int .i64 i6, .int .i64 i7, .int .i64 i8, .bool i9]⟩), .v (.agg ⟨[.int .i64 cl, .bool sg, .bool si, .int .i64 ex, .int .u64 c0, .int .u64 c1, .int .u64 c2, .int .u64 c3]⟩)] => some (((0 ≤ c0 ∧ c0 < 18446744073709551616) ∧ (0 ≤ c1 ∧ c1 < 18446744073709551616) ∧ (0 ≤ c2 ∧ c2 < 18446744073709551616) ∧ (0 ≤ c3 ∧ c3 < 18446744073709551616)) ∧ ((cl = 1 ∧ si = false ∧ i6 ≤ ex ∧ ex ≤ i7 ∧ ((blen (V4 c0 c1 c2 c3) : Int) = i4 ∨ ((blen (V4 c0 c1 c2 c3) : Int) < i4 ∧ ex = i6))) ∨ (cl = 2 ∧ si = false ∧ blen (V4 c0 c1 c2 c3) = 0 ∧ ex = 0) ∨ (cl = 3 ∧ ex = 0 ∧ (blen (V4 c0 c1 c2 c3) : Int) ≤ i8 ∧ (blen (V4 c0 c1 c2 c3) ≠ 0 ∨ si = false))), .one (.v (.bool true)))
  | _ => none
theorem s69_eq (i0 : Int) (i1 : ByteArray) (i2 : Int) (i3 : Int) (i4 : Int) (i5 : Int) (i6 : Int) (i7 : Int) (i8 : Int) (i9 : Bool) (cl : Int) (sg : Bool) (si : Bool) (ex : Int) (c0 : Int) (c1 : Int) (c2 : Int) (c3 : Int) : norm s69 [.v (.agg #[.int .i64 i0, .string i1, .int .i64 i2, .int .i64 i3, .int .i64 i4, .int .i64 i5, .int .i64 i6, .int .i64 i7, .int .i64 i8, .bool i9]), .v (.agg #[.int .i64 cl, .bool sg, .bool si, .int .i64 ex, .int .u64 c0, .int .u64 c1, .int .u64 c2, .int .u64 c3])] = some (((0 ≤ c0 ∧ c0 < 18446744073709551616) ∧ (0 ≤ c1 ∧ c1 < 18446744073709551616) ∧ (0 ≤ c2 ∧ c2 < 18446744073709551616) ∧ (0 ≤ c3 ∧ c3 < 18446744073709551616)) ∧ ((cl = 1 ∧ si = false ∧ i6 ≤ ex ∧ ex ≤ i7 ∧ ((blen (V4 c0 c1 c2 c3) : Int) = i4 ∨ ((blen (V4 c0 c1 c2 c3) : Int) < i4 ∧ ex = i6))) ∨ (cl = 2 ∧ si = false ∧ blen (V4 c0 c1 c2 c3) = 0 ∧ ex = 0) ∨ (cl = 3 ∧ ex = 0 ∧ (blen (V4 c0 c1 c2 c3) : Int) ≤ i8 ∧ (blen (V4 c0 c1 c2 c3) ≠ 0 ∨ si = false))), .one (.v (.bool true))) := rfl
noncomputable def G69 : Gam := [(40, .body, norm s40)]
theorem G69_ok : GamOk Try.prog G69 := gamOk_cons sound_40 gamOk_nil
theorem k69_40 : lk G69 40 = some (.body, norm s40) := rfl
set_option maxHeartbeats 20000000 in
theorem w69 (i0 : Int) (i1 : ByteArray) (i2 : Int) (i3 : Int) (i4 : Int) (i5 : Int) (i6 : Int) (i7 : Int) (i8 : Int) (i9 : Bool) (cl : Int) (sg : Bool) (si : Bool) (ex : Int) (c0 : Int) (c1 : Int) (c2 : Int) (c3 : Int) (hp : ((0 ≤ c0 ∧ c0 < 18446744073709551616) ∧ (0 ≤ c1 ∧ c1 < 18446744073709551616) ∧ (0 ≤ c2 ∧ c2 < 18446744073709551616) ∧ (0 ≤ c3 ∧ c3 < 18446744073709551616)) ∧ ((cl = 1 ∧ si = false ∧ i6 ≤ ex ∧ ex ≤ i7 ∧ ((blen (V4 c0 c1 c2 c3) : Int) = i4 ∨ ((blen (V4 c0 c1 c2 c3) : Int) < i4 ∧ ex = i6))) ∨ (cl = 2 ∧ si = false ∧ blen (V4 c0 c1 c2 c3) = 0 ∧ ex = 0) ∨ (cl = 3 ∧ ex = 0 ∧ (blen (V4 c0 c1 c2 c3) : Int) ≤ i8 ∧ (blen (V4 c0 c1 c2 c3) ≠ 0 ∨ si = false)))) : awp ty G69 (code Try.f69) (retP ty Try.f69.results.toList (.one (.v (.bool true)))) (entry 0 [.v (.agg #[.int .i64 i0, .string i1, .int .i64 i2, .int .i64 i3, .int .i64 i4, .int .i64 i5, .int .i64 i6, .int .i64 i7, .int .i64 i8, .bool i9]), .v (.agg #[.int .i64 cl, .bool sg, .bool si, .int .i64 ex, .int .u64 c0, .int .u64 c1, .int .u64 c2, .int .u64 c3])]) [] := by
  unfold code
  simp only [Try.f69, Option.getD_some]
  have hc := hp.1
  rcases hp.2 with ⟨rfl, rfl, h1, h2, h3 | ⟨h3, h4⟩⟩ | ⟨rfl, rfl, h1, rfl⟩ | ⟨rfl, rfl, h1, h2 | rfl⟩
  all_goals clear hp
  all_goals first
    | (have g1 : decide (ex ≥ i6) = true := by simp only [decide_eq_true_eq]; omega)
    | (have g1 : decide (ex ≥ i6) = false := by simp only [decide_eq_false_iff_not]; omega)
    | (have g1 : decide ((4 : Int) ≥ 5) = false := rfl)
  all_goals first
    | (have g2 : decide (ex ≤ i7) = true := by simp only [decide_eq_true_eq]; omega)
    | (have g2 : decide (ex ≤ i7) = false := by simp only [decide_eq_false_iff_not]; omega)
    | (have g2 : decide ((4 : Int) ≥ 5) = false := rfl)
  all_goals first
    | (have g3 : ((blen (V4 c0 c1 c2 c3) : Int) == i4) = true := by simp only [beq_iff_eq]; omega)
    | (have g3 : ((blen (V4 c0 c1 c2 c3) : Int) == i4) = false := by simp only [beq_eq_false_iff_ne, ne_eq]; omega)
    | (have g3 : decide ((4 : Int) ≥ 5) = false := rfl)
  all_goals first
    | (have g4 : decide ((blen (V4 c0 c1 c2 c3) : Int) < i4) = true := by simp only [decide_eq_true_eq]; omega)
    | (have g4 : decide ((blen (V4 c0 c1 c2 c3) : Int) < i4) = false := by simp only [decide_eq_false_iff_not]; omega)
    | (have g4 : decide ((4 : Int) ≥ 5) = false := rfl)
  all_goals first
    | (have g5 : (ex == i6) = true := by simp only [beq_iff_eq]; omega)
    | (have g5 : (ex == i6) = false := by simp only [beq_eq_false_iff_ne, ne_eq]; omega)
    | (have g5 : decide ((4 : Int) ≥ 5) = false := rfl)
  all_goals first
    | (have g6 : decide ((blen (V4 c0 c1 c2 c3) : Int) ≤ i8) = true := by simp only [decide_eq_true_eq]; omega)
    | (have g6 : decide ((blen (V4 c0 c1 c2 c3) : Int) ≤ i8) = false := by simp only [decide_eq_false_iff_not]; omega)
    | (have g6 : decide ((4 : Int) ≥ 5) = false := rfl)
  all_goals first
    | (have g7 : ((blen (V4 c0 c1 c2 c3) : Int) == 0) = true := by simp only [beq_iff_eq]; omega)
    | (have g7 : ((blen (V4 c0 c1 c2 c3) : Int) == 0) = false := by simp only [beq_eq_false_iff_ne, ne_eq]; omega)
    | (have g7 : decide ((4 : Int) ≥ 5) = false := rfl)
  all_goals repeat' (first
    | ((first
       | (with_reducible refine ops_k ?_; intro X hX)
       | (with_reducible refine opsN_k ?_; intro X hX)
       | (with_reducible show awp _ _ _ _ (keepL _ _) _)
       | with_reducible refine awp_cond_k ?_
       | (with_reducible refine Brk_i ?_ ?_ <;> intro hb <;> (try simp only [hb]) <;> have hq := hb <;> try simp only [decide_eq_true_eq, decide_eq_false_iff_not, gt_iff_lt, ge_iff_le, Int.not_lt, Int.not_le, beq_iff_eq, beq_eq_false_iff_ne, Bool.not_eq_true', Bool.not_eq_false', Bool.and_eq_true, Bool.or_eq_true, Bool.and_eq_false_imp, Bool.or_eq_false_iff, ne_eq, Classical.not_not] at hq)
       | with_reducible refine retP_ret_i ?_
       | with_reducible refine retP_normal_i ?_
       | (with_reducible (show bindG _ _ _ _ _); simp only [hall])) <;> try simp only [Go.AM.S1, Go.AM.S2, Go.AM.S3, Go.AM.S4, Go.AM.S5, Go.AM.S6, Go.AM.S7, Go.AM.S8, Go.AM.S9, Nat.reduceAdd, Nat.reduceMul, Nat.reduceSub, ↓reduceIte, Nat.reduceEqDiff, Nat.reduceLT, Nat.reduceLeDiff, reduceCtorEq, Int.reduceBEq, Int.reduceBNe, Nat.reduceBEq, Int.reduceEq, Int.reduceToNat, Int.reduceLE, Int.reduceLT, Nat.reduceDiv, Int.reduceAdd, Int.reduceSub, Int.reduceMul, Int.reduceNeg, Int.reduceGT, Int.reduceGE, Nat.reduceMod, k69_40, s40_eq, ty_3, ty_4, ty_9, ty_26, ty_27, ty_28, ty_53, ty_58, g1, g2, g3, g4, g5, g6, g7])
    | (with_reducible refine hX _ _ ?_; clear hX X)
    | (with_reducible refine ops_nil_i ?_; try clear hall all)
    | (with_reducible refine opsN_nil_i ?_; try clear hall all)
    | (with_reducible refine hK _ _ ?_; clear hK K)
    | with_reducible refine thenP_normal_i ?_
    | (with_reducible refine zzr9 _ _ ?_; try clear zzr9 Kzzr9)
    | (with_reducible refine zzsr2 _ _ ?_; try clear zzsr2 Kzzsr2)
    | (with_reducible refine zzr4 _ _ ?_; try clear zzr4 Kzzr4)
    | (with_reducible refine zzr6 _ _ ?_; try clear zzr6 Kzzr6)
    | (with_reducible refine zzr8 _ _ ?_; try clear zzr8 Kzzr8)
    | (with_reducible refine zzr7 _ _ ?_; try clear zzr7 Kzzr7)
    | (with_reducible refine zzr5 _ _ ?_; try clear zzr5 Kzzr5)
    | (with_reducible refine zzr3 _ _ ?_; try clear zzr3 Kzzr3)
    | (with_reducible refine zzr2 _ _ ?_; try clear zzr2 Kzzr2)
    | (with_reducible refine zzr1 _ _ ?_; try clear zzr1 Kzzr1)
    | (with_reducible refine zzr0 _ _ ?_; try clear zzr0 Kzzr0)
    | (with_reducible refine awp_seq_l (a := .region 9 _ _) [4] ?_; intro Kzzr9 zzr9)
    | (with_reducible refine awp_seq_l (a := .seq (.region 2 _ _) _) [] ?_; intro Kzzsr2 zzsr2)
    | (with_reducible refine awp_seq_l (a := .region 4 _ _) [4] ?_; intro Kzzr4 zzr4)
    | (with_reducible refine awp_seq_l (a := .region 6 _ _) [4] ?_; intro Kzzr6 zzr6)
    | (with_reducible refine awp_seq_l (a := .region 8 _ _) [4] ?_; intro Kzzr8 zzr8)
    | (with_reducible refine awp_seq_l (a := .region 7 _ _) [2, 3, 5, 63] ?_; intro Kzzr7 zzr7)
    | (with_reducible refine awp_seq_l (a := .region 5 _ _) [2, 3, 5, 10, 49] ?_; intro Kzzr5 zzr5)
    | (with_reducible refine awp_seq_l (a := .region 3 _ _) [2, 3, 5, 10, 11] ?_; intro Kzzr3 zzr3)
    | (with_reducible refine awp_seq_l (a := .region 2 _ _) [2, 3, 5, 10] ?_; intro Kzzr2 zzr2)
    | (with_reducible refine awp_seq_l (a := .region 1 _ _) [2, 3, 5] ?_; intro Kzzr1 zzr1)
    | (with_reducible refine awp_seq_l (a := .region 0 _ _) [2, 3] ?_; intro Kzzr0 zzr0)
    | (with_reducible refine awp_seq_k ?_; intro K hK)
    | (with_reducible refine awp_region_a ?_; intro all hall K hK)
    | (with_reducible refine awp_draw_n ?_ ?_; kernel_rfl; intro all hall K hK)
    | (with_reducible refine Chk_i ?_ ?_)
    | (with_reducible refine keysC_i ?_; kernel_rfl)
    | (with_reducible first | refine awp_block_i ?_ | refine awp_skip_i ?_ | refine awp_ret_i ?_ | refine awp_exit_i ?_ | refine thenP_ret_i ?_ | refine thenP_exit_i ?_ | refine lpP_ret_i ?_ | refine lpP_exit_i ?_ | refine unrP_succ_i ?_ | refine unrP_ret_i ?_ | refine unrP_exit_i ?_ | refine blockP_normal_i ?_ | refine blockP_ret_i ?_)
    | (with_reducible refine blockP_exit_i ?_; simp only [↓reduceIte, Nat.reduceEqDiff])
    | with_reducible refine lpP_normal_i ?_)
  all_goals (try clear zzr0; try clear Kzzr0)
  all_goals (try clear zzr1; try clear Kzzr1)
  all_goals (try clear zzr2; try clear Kzzr2)
  all_goals (try clear zzr3; try clear Kzzr3)
  all_goals (try clear zzr5; try clear Kzzr5)
  all_goals (try clear zzr7; try clear Kzzr7)
  all_goals (try clear zzr8; try clear Kzzr8)
  all_goals (try clear zzr6; try clear Kzzr6)
  all_goals (try clear zzr4; try clear Kzzr4)
  all_goals (try clear zzsr2; try clear Kzzsr2)
  all_goals (try clear zzr9; try clear Kzzr9)
  all_goals first
    | omega
    | exact hc
    | skip
theorem sound_69 : Sound Try.prog 69 .body (norm s69) := by
  refine sound_norm (sound_body Try.func69 (show Try.f69.body = some (code Try.f69) from rfl) (by kernel_rfl) tysOk G69_ok (drawOk_ok (by kernel_rfl) tysOk G69_ok) (by kernel_rfl) fun ds p r hs hp => ?_)
  unfold s69 at hs
  split at hs
  · cases hs; exact ⟨Nat.le_of_ble_eq_true (by kernel_rfl), w69 _ _ _ _ _ _ _ _ _ _ _ _ _ _ _ _ _ _ hp⟩
  · cases hs
end Go.Proofs.AMT
set_option maxRecDepth 20000
namespace Go.Proofs.AMT
open Go.AM Go.AM.LN
attribute [local congr] bindO_congr bindS_congr bindG_congr awpOps_congr aOne_congr awp_congr aCond_congr awpD_congr dOne_congr keysB_congr nOne_congr thenP_congr blockP_congr Chk_congr Brk_congr
noncomputable def s42 : CSpec := fun ds => match ds with
  | [.v (.int .i64 n), .v (.agg ⟨[.int .i64 cl, .bool sg, .bool si, .int .i64 ex, .int .u64 c0, .int .u64 c1, .int .u64 c2, .int .u64 c3]⟩)] => some ((1 ≤ n ∧ n ≤ 6) ∧ ((0 ≤ c0 ∧ c0 < 18446744073709551616) ∧ (0 ≤ c1 ∧ c1 < 18446744073709551616) ∧ (0 ≤ c2 ∧ c2 < 18446744073709551616) ∧ (0 ≤ c3 ∧ c3 < 18446744073709551616)) ∧ isD n cl si (V4 c0 c1 c2 c3) ex, .many [.v (.agg #[.int .u64 (w4 (packS n cl sg si (V4 c0 c1 c2 c3) ex) 0), .int .u64 (w4 (packS n cl sg si (V4 c0 c1 c2 c3) ex) 1), .int .u64 (w4 (packS n cl sg si (V4 c0 c1 c2 c3) ex) 2), .int .u64 (w4 (packS n cl sg si (V4 c0 c1 c2 c3) ex) 3)]), .v (.int .i64 0)])
  | _ => none
theorem s42_eq (n : Int) (cl : Int) (sg : Bool) (si : Bool) (ex : Int) (c0 : Int) (c1 : Int) (c2 : Int) (c3 : Int) : norm s42 [.v (.int .i64 n), .v (.agg #[.int .i64 cl, .bool sg, .bool si, .int .i64 ex, .int .u64 c0, .int .u64 c1, .int .u64 c2, .int .u64 c3])] = some ((1 ≤ n ∧ n ≤ 6) ∧ ((0 ≤ c0 ∧ c0 < 18446744073709551616) ∧ (0 ≤ c1 ∧ c1 < 18446744073709551616) ∧ (0 ≤ c2 ∧ c2 < 18446744073709551616) ∧ (0 ≤ c3 ∧ c3 < 18446744073709551616)) ∧ isD n cl si (V4 c0 c1 c2 c3) ex, .many [.v (.agg #[.int .u64 (w4 (packS n cl sg si (V4 c0 c1 c2 c3) ex) 0), .int .u64 (w4 (packS n cl sg si (V4 c0 c1 c2 c3) ex) 1), .int .u64 (w4 (packS n cl sg si (V4 c0 c1 c2 c3) ex) 2), .int .u64 (w4 (packS n cl sg si (V4 c0 c1 c2 c3) ex) 3)]), .v (.int .i64 0)]) := rfl
noncomputable def G42 : Gam := [(23, .body, norm s23), (35, .body, norm s35), (37, .body, norm s37), (38, .body, norm s38), (40, .body, norm s40), (69, .body, norm s69)]
theorem G42_ok : GamOk Try.prog G42 := gamOk_cons sound_23 (gamOk_cons sound_35 (gamOk_cons sound_37 (gamOk_cons sound_38 (gamOk_cons sound_40 (gamOk_cons sound_69 gamOk_nil)))))
theorem k42_23 : lk G42 23 = some (.body, norm s23) := rfl
theorem k42_35 : lk G42 35 = some (.body, norm s35) := rfl
theorem k42_37 : lk G42 37 = some (.body, norm s37) := rfl
theorem k42_38 : lk G42 38 = some (.body, norm s38) := rfl
theorem k42_40 : lk G42 40 = some (.body, norm s40) := rfl
theorem k42_69 : lk G42 69 = some (.body, norm s69) := rfl
set_option maxHeartbeats 20000000 in
theorem w42 (n : Int) (cl : Int) (sg : Bool) (si : Bool) (ex : Int) (c0 : Int) (c1 : Int) (c2 : Int) (c3 : Int) (hp : (1 ≤ n ∧ n ≤ 6) ∧ ((0 ≤ c0 ∧ c0 < 18446744073709551616) ∧ (0 ≤ c1 ∧ c1 < 18446744073709551616) ∧ (0 ≤ c2 ∧ c2 < 18446744073709551616) ∧ (0 ≤ c3 ∧ c3 < 18446744073709551616)) ∧ isD n cl si (V4 c0 c1 c2 c3) ex) : awp ty G42 (code Try.f42) (retP ty Try.f42.results.toList (.many [.v (.agg #[.int .u64 (w4 (packS n cl sg si (V4 c0 c1 c2 c3) ex) 0), .int .u64 (w4 (packS n cl sg si (V4 c0 c1 c2 c3) ex) 1), .int .u64 (w4 (packS n cl sg si (V4 c0 c1 c2 c3) ex) 2), .int .u64 (w4 (packS n cl sg si (V4 c0 c1 c2 c3) ex) 3)]), .v (.int .i64 0)])) (entry 0 [.v (.int .i64 n), .v (.agg #[.int .i64 cl, .bool sg, .bool si, .int .i64 ex, .int .u64 c0, .int .u64 c1, .int .u64 c2, .int .u64 c3])]) [] := by
  unfold code
  simp only [Try.f42, Option.getD_some]
  obtain ⟨hn, hc, hd⟩ := hp
  have F := bfmt hn
  obtain ⟨F1, F2, F3, F4, F5, F6, F7, F8, F9, F10, F11⟩ := F
  have hI := infoV_in (n := n) (by omega)
  have hB2 := F7
  have hW := F9
  have eP : fp n - 1 - 1 = fp n - 2 := by omega
  have hO : okB n 0 = true := by
    unfold okB
    have : blen 0 = 0 := rfl
    rw [decide_eq_true hn, Bool.true_and, this, decide_eq_true_eq]; omega
  have hmin : min (fx n).toNat 64 = (fx n).toNat := by omega
  obtain ⟨X, hX⟩ : ∃ X, (V4 c0 c1 c2 c3) % 2 ^ (fp n - 1).toNat = X := ⟨_, rfl⟩
  have hXl : X < 2 ^ 256 := by rw [← hX]; exact Nat.lt_of_lt_of_le (Nat.mod_lt _ (Nat.two_pow_pos _)) (Nat.pow_le_pow_right (by omega) (by omega))
  have hF := V4_w4 hXl
  have hF1 := V4_w4 (or_lt hXl (mod_lt256 (1 * 2 ^ (fp n - 2).toNat)))
  have hB0 : ∀ e : Nat, V4 (w4 (X ||| e * 2 ^ (fp n - 1).toNat % 2 ^ 256) 0) (w4 (X ||| e * 2 ^ (fp n - 1).toNat % 2 ^ 256) 1) (w4 (X ||| e * 2 ^ (fp n - 1).toNat % 2 ^ 256) 2) (w4 (X ||| e * 2 ^ (fp n - 1).toNat % 2 ^ 256) 3) = X ||| e * 2 ^ (fp n - 1).toNat % 2 ^ 256 := fun e => V4_w4 (or_lt hXl (mod_lt256 _))
  have hB1 : ∀ e : Nat, V4 (w4 ((X ||| 1 * 2 ^ (fp n - 2).toNat % 2 ^ 256) ||| e * 2 ^ (fp n - 1).toNat % 2 ^ 256) 0) (w4 ((X ||| 1 * 2 ^ (fp n - 2).toNat % 2 ^ 256) ||| e * 2 ^ (fp n - 1).toNat % 2 ^ 256) 1) (w4 ((X ||| 1 * 2 ^ (fp n - 2).toNat % 2 ^ 256) ||| e * 2 ^ (fp n - 1).toNat % 2 ^ 256) 2) (w4 ((X ||| 1 * 2 ^ (fp n - 2).toNat % 2 ^ 256) ||| e * 2 ^ (fp n - 1).toNat % 2 ^ 256) 3) = (X ||| 1 * 2 ^ (fp n - 2).toNat % 2 ^ 256) ||| e * 2 ^ (fp n - 1).toNat % 2 ^ 256 := fun e => V4_w4 (or_lt (or_lt hXl (mod_lt256 _)) (mod_lt256 _))
  have hB00 := V4_w4 (or_lt hXl (mod_lt256 0))
  have hpS : packS n cl sg si (V4 c0 c1 c2 c3) ex = packX n cl sg si (V4 c0 c1 c2 c3) X ex := by unfold packS packX packB packF; rw [hX]
  rw [hpS]
  rcases hd with ⟨rfl, rfl, h1, h2, h3 | ⟨h3, h4⟩⟩ | ⟨rfl, rfl, h1, rfl⟩ | ⟨rfl, rfl, h1, h2⟩
  rotate_left 3
  cases si
  rotate_left 2
  all_goals first
    | (have g3 : ((blen (V4 c0 c1 c2 c3) : Int) == fp n) = true := by simp only [beq_iff_eq]; omega)
    | (have g3 : ((blen (V4 c0 c1 c2 c3) : Int) == fp n) = false := by simp only [beq_eq_false_iff_ne, ne_eq]; omega)
    | (have g3 : decide ((4 : Int) ≥ 5) = false := rfl)
  all_goals rcases Bool.eq_false_or_eq_true sg with gs | gs
  all_goals repeat' (first
    | ((first
       | (with_reducible refine ops_k ?_; intro X hX)
       | (with_reducible refine opsN_k ?_; intro X hX)
       | (with_reducible show awp _ _ _ _ (keepL _ _) _)
       | (with_reducible refine hX _ _ _ _ ?_; clear hX X)
       | (with_reducible refine opsD_k ?_; intro X hX)
       | with_reducible refine awp_cond_k ?_
       | (with_reducible refine Brk_i ?_ ?_ <;> intro hb <;> (try simp only [hb]) <;> have hq := hb <;> try simp only [decide_eq_true_eq, decide_eq_false_iff_not, gt_iff_lt, ge_iff_le, Int.not_lt, Int.not_le, beq_iff_eq, beq_eq_false_iff_ne, Bool.not_eq_true', Bool.not_eq_false', Bool.and_eq_true, Bool.or_eq_true, Bool.and_eq_false_imp, Bool.or_eq_false_iff, ne_eq, Classical.not_not] at hq)
       | with_reducible refine retP_ret_i ?_
       | with_reducible refine retP_normal_i ?_
       | (with_reducible (show bindG _ _ _ _ _); simp only [hall])) <;> try simp only [Go.AM.S1, Go.AM.S2, Go.AM.S3, Go.AM.S4, Go.AM.S5, Go.AM.S6, Go.AM.S7, Go.AM.S8, Go.AM.S9, Nat.reduceAdd, Nat.reduceMul, Nat.reduceSub, ↓reduceIte, Nat.reduceEqDiff, Nat.reduceLT, Nat.reduceLeDiff, reduceCtorEq, Int.reduceBEq, Int.reduceBNe, Nat.reduceBEq, Int.reduceEq, Int.reduceToNat, Int.reduceLE, Int.reduceLT, Nat.reduceDiv, Int.reduceAdd, Int.reduceSub, Int.reduceMul, Int.reduceNeg, Int.reduceGT, Int.reduceGE, Nat.reduceMod, k42_23, s23_eq, k42_35, s35_eq, k42_37, s37_eq, k42_38, s38_eq, k42_40, s40_eq, k42_69, s69_eq, ty_3, ty_4, ty_9, ty_26, ty_27, ty_28, ty_53, ty_58, hI, hO, infoT, hB2, hX, g3, hmin, IntKind.bits, Nat.pow_zero, Nat.div_one, hF, hF1, hB0, hB00, hB1, V4_x, Int.toNat_one, Int.one_mul, eP, hW, gs])
    | (with_reducible refine hX _ _ ?_; clear hX X)
    | (with_reducible refine opsD_nil_i ?_; try clear hall all)
    | (with_reducible refine keysB_i ?_; kernel_rfl)
    | ((with_reducible show clashK _ _ _ = true); kernel_rfl)
    | (with_reducible refine ops_nil_i ?_; try clear hall all)
    | (with_reducible refine opsN_nil_i ?_; try clear hall all)
    | (with_reducible refine hK _ _ ?_; clear hK K)
    | with_reducible refine thenP_normal_i ?_
    | (with_reducible refine zzr18 _ _ ?_; try clear zzr18 Kzzr18)
    | (with_reducible refine zzsr16 _ _ ?_; try clear zzsr16 Kzzsr16)
    | (with_reducible refine zzr16 _ _ ?_; try clear zzr16 Kzzr16)
    | (with_reducible refine zzr15 _ _ ?_; try clear zzr15 Kzzr15)
    | (with_reducible refine zzb0 _ _ ?_; try clear zzb0 Kzzb0)
    | (with_reducible refine zzr11 _ _ ?_; try clear zzr11 Kzzr11)
    | (with_reducible refine zzr10 _ _ ?_; try clear zzr10 Kzzr10)
    | (with_reducible refine zzr13 _ _ ?_; try clear zzr13 Kzzr13)
    | (with_reducible refine zzr9 _ _ ?_; try clear zzr9 Kzzr9)
    | (with_reducible refine zzr8 _ _ ?_; try clear zzr8 Kzzr8)
    | (with_reducible refine zzr7 _ _ ?_; try clear zzr7 Kzzr7)
    | (with_reducible refine zzr6 _ _ ?_; try clear zzr6 Kzzr6)
    | (with_reducible refine zzsr4 _ _ ?_; try clear zzsr4 Kzzsr4)
    | (with_reducible refine zzr5 _ _ ?_; try clear zzr5 Kzzr5)
    | (with_reducible refine zzr4 _ _ ?_; try clear zzr4 Kzzr4)
    | (with_reducible refine zzsr2 _ _ ?_; try clear zzsr2 Kzzsr2)
    | (with_reducible refine zzr3 _ _ ?_; try clear zzr3 Kzzr3)
    | (with_reducible refine zzr2 _ _ ?_; try clear zzr2 Kzzr2)
    | (with_reducible refine zzr1 _ _ ?_; try clear zzr1 Kzzr1)
    | (with_reducible refine zzr0 _ _ ?_; try clear zzr0 Kzzr0)
    | (with_reducible refine awp_seq_l (a := .region 18 _ _) [4, 5] ?_; intro Kzzr18 zzr18)
    | (with_reducible refine awp_seq_l (a := .seq (.region 16 _ _) _) [4, 10] ?_; intro Kzzsr16 zzsr16)
    | (with_reducible refine awp_seq_l (a := .region 16 _ _) [4, 6, 10, 72] ?_; intro Kzzr16 zzr16)
    | (with_reducible refine awp_seq_l (a := .region 15 _ _) [3, 4, 6, 10] ?_; intro Kzzr15 zzr15)
    | (with_reducible refine awp_seq_l (a := .block 0 _) [3, 4, 6, 8, 9, 10] ?_; intro Kzzb0 zzb0)
    | (with_reducible refine awp_seq_l (a := .region 11 _ _) [3, 4, 6, 8, 9, 10, 45] ?_; intro Kzzr11 zzr11)
    | (with_reducible refine awp_seq_l (a := .region 10 _ _) [3, 4, 6, 8, 9, 10] ?_; intro Kzzr10 zzr10)
    | (with_reducible refine awp_seq_l (a := .region 13 _ _) [3, 4, 6, 8, 9, 10, 52] ?_; intro Kzzr13 zzr13)
    | (with_reducible refine awp_seq_l (a := .region 9 _ _) [3, 4, 6, 8, 9, 10, 36] ?_; intro Kzzr9 zzr9)
    | (with_reducible refine awp_seq_l (a := .region 8 _ _) [3, 4, 6, 8, 9, 10] ?_; intro Kzzr8 zzr8)
    | (with_reducible refine awp_seq_l (a := .region 7 _ _) [3, 4, 6, 8, 9] ?_; intro Kzzr7 zzr7)
    | (with_reducible refine awp_seq_l (a := .region 6 _ _) [3, 4, 6, 8] ?_; intro Kzzr6 zzr6)
    | (with_reducible refine awp_seq_l (a := .seq (.region 4 _ _) _) [3, 4, 6] ?_; intro Kzzsr4 zzsr4)
    | (with_reducible refine awp_seq_l (a := .region 5 _ _) [4, 5] ?_; intro Kzzr5 zzr5)
    | (with_reducible refine awp_seq_l (a := .region 4 _ _) [3, 4, 6, 23] ?_; intro Kzzr4 zzr4)
    | (with_reducible refine awp_seq_l (a := .seq (.region 2 _ _) _) [3, 4, 6] ?_; intro Kzzsr2 zzsr2)
    | (with_reducible refine awp_seq_l (a := .region 3 _ _) [4, 5] ?_; intro Kzzr3 zzr3)
    | (with_reducible refine awp_seq_l (a := .region 2 _ _) [3, 4, 6, 18] ?_; intro Kzzr2 zzr2)
    | (with_reducible refine awp_seq_l (a := .region 1 _ _) [3, 4, 6, 7] ?_; intro Kzzr1 zzr1)
    | (with_reducible refine awp_seq_l (a := .region 0 _ _) [0, 3, 4] ?_; intro Kzzr0 zzr0)
    | (with_reducible refine awp_seq_k ?_; intro K hK)
    | (with_reducible refine awp_region_a ?_; intro all hall K hK)
    | (with_reducible refine awp_draw_a (id := 14) ?_ ?_; kernel_rfl; intro all hall K hK)
    | (with_reducible refine awp_draw_a (id := 15) ?_ ?_; kernel_rfl; intro all hall K hK)
    | (with_reducible refine awp_draw_a (id := 17) ?_ ?_; kernel_rfl; intro all hall K hK)
    | (with_reducible refine awp_draw_n ?_ ?_; kernel_rfl; intro all hall K hK)
    | (with_reducible refine Chk_i ?_ ?_)
    | (with_reducible refine keysC_i ?_; kernel_rfl)
    | (with_reducible first | refine awp_block_i ?_ | refine awp_skip_i ?_ | refine awp_ret_i ?_ | refine awp_exit_i ?_ | refine thenP_ret_i ?_ | refine thenP_exit_i ?_ | refine lpP_ret_i ?_ | refine lpP_exit_i ?_ | refine unrP_succ_i ?_ | refine unrP_ret_i ?_ | refine unrP_exit_i ?_ | refine blockP_normal_i ?_ | refine blockP_ret_i ?_)
    | (with_reducible refine blockP_exit_i ?_; simp only [↓reduceIte, Nat.reduceEqDiff])
    | with_reducible refine lpP_normal_i ?_)
  all_goals (try clear zzr0; try clear Kzzr0)
  all_goals (try clear zzr1; try clear Kzzr1)
  all_goals (try clear zzr2; try clear Kzzr2)
  all_goals (try clear zzr3; try clear Kzzr3)
  all_goals (try clear zzsr2; try clear Kzzsr2)
  all_goals (try clear zzr4; try clear Kzzr4)
  all_goals (try clear zzr5; try clear Kzzr5)
  all_goals (try clear zzsr4; try clear Kzzsr4)
  all_goals (try clear zzr6; try clear Kzzr6)
  all_goals (try clear zzr7; try clear Kzzr7)
  all_goals (try clear zzr8; try clear Kzzr8)
  all_goals (try clear zzr9; try clear Kzzr9)
  all_goals (try clear zzr13; try clear Kzzr13)
  all_goals (try clear zzr10; try clear Kzzr10)
  all_goals (try clear zzr11; try clear Kzzr11)
  all_goals (try clear zzb0; try clear Kzzb0)
  all_goals (try clear zzr15; try clear Kzzr15)
  all_goals (try clear zzr16; try clear Kzzr16)
  all_goals (try clear zzsr16; try clear Kzzsr16)
  all_goals (try clear zzr18; try clear Kzzr18)
  all_goals clear hF hF1 hB0 hB00 hB1 hpS hI hB2 hW eP
  all_goals (try simp only [inR])
  all_goals first
    | omega
    | exact hc
    | exact ⟨hc, .inl ⟨rfl, rfl, h1, h2, .inl h3⟩⟩
    | exact ⟨hc, .inl ⟨rfl, rfl, h1, h2, .inr ⟨h3, h4⟩⟩⟩
    | exact ⟨hc, .inr (.inl ⟨rfl, rfl, h1, rfl⟩)⟩
    | exact ⟨hc, .inr (.inr ⟨rfl, rfl, h1, h2⟩)⟩
    | exact ⟨hc, .inr (.inr ⟨by omega, h2.resolve_right (by simp)⟩)⟩
    | exact ⟨hc, by omega, by omega⟩
    | exact ⟨⟨w4_lim _ _, w4_lim _ _, w4_lim _ _, w4_lim _ _⟩, ⟨by omega, by omega⟩, by omega, by omega⟩
    | exact ⟨⟨w4_lim _ _, w4_lim _ _, w4_lim _ _, w4_lim _ _⟩, by omega, by omega⟩
    | (subst gs
       simp [packX, eS, h3]
       done)
    | (subst gs
       simp [packX, eS, (show ¬ ((blen (V4 c0 c1 c2 c3) : Int) = fp n) by omega)]
       done)
    | (subst gs
       simp [packX, eS]
       done)
    | skip
theorem sound_42 : Sound Try.prog 42 .body (norm s42) := by
  refine sound_norm (sound_body Try.func42 (show Try.f42.body = some (code Try.f42) from rfl) (by kernel_rfl) tysOk G42_ok (drawOk_ok (by kernel_rfl) tysOk G42_ok) (by kernel_rfl) fun ds p r hs hp => ?_)
  unfold s42 at hs
  split at hs
  · cases hs; exact ⟨Nat.le_of_ble_eq_true (by kernel_rfl), w42 _ _ _ _ _ _ _ _ _ hp⟩
  · cases hs
end Go.Proofs.AMT
set_option maxRecDepth 20000
namespace Go.Proofs.AMT
open Go.AM Go.AM.LN
attribute [local congr] bindO_congr bindS_congr bindG_congr awpOps_congr aOne_congr awp_congr aCond_congr awpD_congr dOne_congr keysB_congr nOne_congr thenP_congr blockP_congr Chk_congr Brk_congr
noncomputable def s44 : CSpec := fun ds => match ds with
  | [.sl .u64 a] => some (lim a ∧ a.length ≤ 100000000, .one (.v (.int .i64 (blen (val a)))))
  | _ => none
theorem s44_eq (a : List Int) : norm s44 [.sl .u64 a] = some (lim a ∧ a.length ≤ 100000000, .one (.v (.int .i64 (blen (val a))))) := rfl
theorem s44_nil1  : norm s44 [.v (.slice none 0 0)] = some (lim ([] : List Int) ∧ ([] : List Int).length ≤ 100000000, .one (.v (.int .i64 (blen (val ([] : List Int)))))) := rfl
noncomputable def G44 : Gam := [(67, .body, norm s67), (71, .body, norm s71)]
theorem G44_ok : GamOk Try.prog G44 := gamOk_cons sound_67 (gamOk_cons sound_71 gamOk_nil)
theorem k44_67 : lk G44 67 = some (.body, norm s67) := rfl
theorem k44_71 : lk G44 71 = some (.body, norm s71) := rfl
set_option maxHeartbeats 20000000 in
theorem w44 (a : List Int) (hp : lim a ∧ a.length ≤ 100000000) : awp ty G44 (code Try.f44) (retP ty Try.f44.results.toList (.one (.v (.int .i64 (blen (val a)))))) (entry 0 [.sl .u64 a]) [] := by
  unfold code
  simp only [Try.f44, Option.getD_some]
  have za := sz_le a
  all_goals repeat' (first
    | ((first
       | (with_reducible refine ops_k ?_; intro X hX)
       | (with_reducible refine opsN_k ?_; intro X hX)
       | (with_reducible show awp _ _ _ _ (keepL _ _) _)
       | with_reducible refine awp_cond_k ?_
       | (with_reducible refine Brk_i ?_ ?_ <;> intro hb <;> (try simp only [hb]) <;> have hq := hb <;> try simp only [decide_eq_true_eq, decide_eq_false_iff_not, gt_iff_lt, ge_iff_le, Int.not_lt, Int.not_le, beq_iff_eq, beq_eq_false_iff_ne, Bool.not_eq_true', Bool.not_eq_false', Bool.and_eq_true, Bool.or_eq_true, Bool.and_eq_false_imp, Bool.or_eq_false_iff, ne_eq, Classical.not_not] at hq)
       | with_reducible refine retP_ret_i ?_
       | with_reducible refine retP_normal_i ?_
       | (with_reducible (show bindG _ _ _ _ _); simp only [hall])) <;> try simp only [Go.AM.S1, Go.AM.S2, Go.AM.S3, Go.AM.S4, Go.AM.S5, Go.AM.S6, Go.AM.S7, Go.AM.S8, Go.AM.S9, Nat.reduceAdd, Nat.reduceMul, Nat.reduceSub, ↓reduceIte, Nat.reduceEqDiff, Nat.reduceLT, Nat.reduceLeDiff, reduceCtorEq, Int.reduceBEq, Int.reduceBNe, Nat.reduceBEq, Int.reduceEq, Int.reduceToNat, Int.reduceLE, Int.reduceLT, Nat.reduceDiv, Int.reduceAdd, Int.reduceSub, Int.reduceMul, Int.reduceNeg, Int.reduceGT, Int.reduceGE, Nat.reduceMod, k44_67, s67_eq, k44_71, s71_eq, s71_nil1, ty_3, ty_26, ty_42])
    | (with_reducible refine hX _ _ ?_; clear hX X)
    | (with_reducible refine ops_nil_i ?_; try clear hall all)
    | (with_reducible refine opsN_nil_i ?_; try clear hall all)
    | (with_reducible refine hK _ _ ?_; clear hK K)
    | with_reducible refine thenP_normal_i ?_
    | (with_reducible refine zzr4 _ _ ?_; try clear zzr4 Kzzr4)
    | (with_reducible refine zzsr2 _ _ ?_; try clear zzsr2 Kzzsr2)
    | (with_reducible refine zzr3 _ _ ?_; try clear zzr3 Kzzr3)
    | (with_reducible refine zzr2 _ _ ?_; try clear zzr2 Kzzr2)
    | (with_reducible refine zzr1 _ _ ?_; try clear zzr1 Kzzr1)
    | (with_reducible refine zzr0 _ _ ?_; try clear zzr0 Kzzr0)
    | (with_reducible refine awp_seq_l (a := .region 4 _ _) [2] ?_; intro Kzzr4 zzr4)
    | (with_reducible refine awp_seq_l (a := .seq (.region 2 _ _) _) [0, 3] ?_; intro Kzzsr2 zzsr2)
    | (with_reducible refine awp_seq_l (a := .region 3 _ _) [2] ?_; intro Kzzr3 zzr3)
    | (with_reducible refine awp_seq_l (a := .region 2 _ _) [0, 3, 7] ?_; intro Kzzr2 zzr2)
    | (with_reducible refine awp_seq_l (a := .region 1 _ _) [0, 3] ?_; intro Kzzr1 zzr1)
    | (with_reducible refine awp_seq_l (a := .region 0 _ _) [0] ?_; intro Kzzr0 zzr0)
    | (with_reducible refine awp_seq_k ?_; intro K hK)
    | (with_reducible refine awp_region_a ?_; intro all hall K hK)
    | (with_reducible refine awp_draw_n ?_ ?_; kernel_rfl; intro all hall K hK)
    | (with_reducible refine Chk_i ?_ ?_)
    | (with_reducible refine keysC_i ?_; kernel_rfl)
    | (with_reducible first | refine awp_block_i ?_ | refine awp_skip_i ?_ | refine awp_ret_i ?_ | refine awp_exit_i ?_ | refine thenP_ret_i ?_ | refine thenP_exit_i ?_ | refine lpP_ret_i ?_ | refine lpP_exit_i ?_ | refine unrP_succ_i ?_ | refine unrP_ret_i ?_ | refine unrP_exit_i ?_ | refine blockP_normal_i ?_ | refine blockP_ret_i ?_)
    | (with_reducible refine blockP_exit_i ?_; simp only [↓reduceIte, Nat.reduceEqDiff])
    | with_reducible refine lpP_normal_i ?_)
  all_goals (try clear zzr0; try clear Kzzr0)
  all_goals (try clear zzr1; try clear Kzzr1)
  all_goals (try clear zzr2; try clear Kzzr2)
  all_goals (try clear zzr3; try clear Kzzr3)
  all_goals (try clear zzsr2; try clear Kzzsr2)
  all_goals (try clear zzr4; try clear Kzzr4)
  all_goals (try simp only [inR])
  all_goals (try omega)
  · have h0 := (sz_zero hp.1).1 (by omega)
    rw [h0]; rfl
  all_goals have e : ((sz a : Int) - 1).toNat = sz a - 1 := by omega
  all_goals rw [e]
  all_goals have hg := lim_get hp.1 (i := sz a - 1)
  · exact hg
  all_goals have h1 := blen_top hp.1 (by omega)
  all_goals have h2 : blen (a.getD (sz a - 1) 0).toNat ≤ 64 := blen_lt.2 (by omega)
  · omega
  · refine congrArg _ ?_
    omega
theorem sound_44 : Sound Try.prog 44 .body (norm s44) := by
  refine sound_norm (sound_body Try.func44 (show Try.f44.body = some (code Try.f44) from rfl) (by kernel_rfl) tysOk G44_ok (drawOk_ok (by kernel_rfl) tysOk G44_ok) (by kernel_rfl) fun ds p r hs hp => ?_)
  unfold s44 at hs
  split at hs
  · cases hs; exact ⟨Nat.le_of_ble_eq_true (by kernel_rfl), w44 _ hp⟩
  · cases hs
end Go.Proofs.AMT
set_option maxRecDepth 20000
namespace Go.Proofs.AMT
open Go.AM Go.AM.LN
attribute [local congr] bindO_congr bindS_congr bindG_congr awpOps_congr aOne_congr awp_congr aCond_congr awpD_congr dOne_congr keysB_congr nOne_congr thenP_congr blockP_congr Chk_congr Brk_congr
noncomputable def s72 : CSpec := fun ds => match ds with
  | [.sl .u64 a, .v (.int .i64 n)] => some ((lim a ∧ a.length ≤ 100000000) ∧ 0 ≤ n ∧ (sz a : Int) + (n + 63) / 64 ≤ 2000, .many [.fresh .u64 (limbs (val a * 2 ^ n.toNat)), .v (.int .i64 0)])
  | _ => none
theorem s72_eq (a : List Int) (n : Int) : norm s72 [.sl .u64 a, .v (.int .i64 n)] = some ((lim a ∧ a.length ≤ 100000000) ∧ 0 ≤ n ∧ (sz a : Int) + (n + 63) / 64 ≤ 2000, .many [.fresh .u64 (limbs (val a * 2 ^ n.toNat)), .v (.int .i64 0)]) := rfl
theorem s72_nil1  (n : Int) : norm s72 [.v (.slice none 0 0), .v (.int .i64 n)] = some ((lim ([] : List Int) ∧ ([] : List Int).length ≤ 100000000) ∧ 0 ≤ n ∧ (sz ([] : List Int) : Int) + (n + 63) / 64 ≤ 2000, .many [.fresh .u64 (limbs (val ([] : List Int) * 2 ^ n.toNat)), .v (.int .i64 0)]) := rfl
noncomputable def G72 : Gam := [(71, .body, norm s71)]
theorem G72_ok : GamOk Try.prog G72 := gamOk_cons sound_71 gamOk_nil
theorem k72_71 : lk G72 71 = some (.body, norm s71) := rfl
set_option maxHeartbeats 20000000 in
theorem w72 (a : List Int) (n : Int) (hp : (lim a ∧ a.length ≤ 100000000) ∧ 0 ≤ n ∧ (sz a : Int) + (n + 63) / 64 ≤ 2000) : awp ty G72 (code Try.f72) (retP ty Try.f72.results.toList (.many [.fresh .u64 (limbs (val a * 2 ^ n.toNat)), .v (.int .i64 0)])) (entry 0 [.sl .u64 a, .v (.int .i64 n)]) [] := by
  unfold code
  simp only [Try.f72, Option.getD_some]
  have za := sz_le a
  have ya := len_limbs_sz hp.1.1
  obtain ⟨k, rfl⟩ := Int.eq_ofNat_of_zero_le hp.2.1
  have hk : k = 64 * (k / 64) + k % 64 := by omega
  generalize hw : k / 64 = w at *
  generalize hs : k % 64 = s at *
  have hd : (k : Int).tdiv 64 = (w : Int) := by rw [Int.tdiv_eq_ediv_of_nonneg (by omega)]; omega
  have hm : (k : Int).tmod 64 = (s : Int) := by rw [Int.tmod_eq_emod_of_nonneg (by omega)]; omega
  have h63 : ((k : Int) + 63).tdiv 64 = ((k : Int) + 63) / 64 := by rw [Int.tdiv_eq_ediv_of_nonneg (by omega)]
  have g1 : decide ((k : Int) < 0) = false := by simp
  have g2 : decide ((w : Int) > 2000) = false := by simp only [decide_eq_false_iff_not]; omega
  have g3 : decide (((limbs (val a)).length : Int) + ((k : Int) + 63) / 64 > 2000) = false := by simp only [decide_eq_false_iff_not]; omega
  have m1 : min s 64 = s := by omega
  have m2 : (64 - (s : Int)).toNat = 64 - s := by omega
  have m3 : min (64 - s) 64 = 64 - s := by omega
  obtain ⟨N, hN⟩ : ∃ N, N = w + ((limbs (val a)).length + 1) := ⟨_, rfl⟩
  have lenW : (((limbs (val a)).length : Int) + (w : Int) + 1).toNat = N := by omega
  have copyW := copy0 hN
  have h0 := shl0_mk (va := val a) hN
  have hwN := h0.wN
  generalize List.replicate w 0 ++ limbs (val a) ++ [0] = o0 at *
  all_goals repeat' (first
    | ((first
       | (with_reducible refine ops_k ?_; intro X hX)
       | (with_reducible refine opsN_k ?_; intro X hX)
       | (with_reducible show awp _ _ _ _ (keepL _ _) _)
       | (with_reducible refine hX _ _ _ _ ?_; clear hX X)
       | (with_reducible refine opsD_k ?_; intro X hX)
       | with_reducible refine awp_cond_k ?_
       | (with_reducible refine Brk_i ?_ ?_ <;> intro hb <;> (try simp only [hb]) <;> have hq := hb <;> try simp only [decide_eq_true_eq, decide_eq_false_iff_not, gt_iff_lt, ge_iff_le, Int.not_lt, Int.not_le, beq_iff_eq, beq_eq_false_iff_ne, Bool.not_eq_true', Bool.not_eq_false', Bool.and_eq_true, Bool.or_eq_true, Bool.and_eq_false_imp, Bool.or_eq_false_iff, ne_eq, Classical.not_not] at hq)
       | with_reducible refine retP_ret_i ?_
       | with_reducible refine retP_normal_i ?_
       | (with_reducible (show bindG _ _ _ _ _); simp only [hall])) <;> try simp only [Go.AM.S1, Go.AM.S2, Go.AM.S3, Go.AM.S4, Go.AM.S5, Go.AM.S6, Go.AM.S7, Go.AM.S8, Go.AM.S9, Nat.reduceAdd, Nat.reduceMul, Nat.reduceSub, ↓reduceIte, Nat.reduceEqDiff, Nat.reduceLT, Nat.reduceLeDiff, reduceCtorEq, Int.reduceBEq, Int.reduceBNe, Nat.reduceBEq, Int.reduceEq, Int.reduceToNat, Int.reduceLE, Int.reduceLT, Nat.reduceDiv, Int.reduceAdd, Int.reduceSub, Int.reduceMul, Int.reduceNeg, Int.reduceGT, Int.reduceGE, Nat.reduceMod, k72_71, s71_eq, s71_nil1, ty_3, ty_26, ty_42, take_sz hp.1.1, hd, hm, g1, g2, g3, aOne_copy, bindP_some, spCopy, spAppend, intSl, yInts, layAt, IntKind.bits, m1, m2, m3, h63, lenW, copyW, List.length_replicate, h0.len])
    | (with_reducible refine hX _ _ ?_; clear hX X)
    | (with_reducible refine opsD_nil_i ?_; try clear hall all)
    | (with_reducible refine keysB_i ?_; kernel_rfl)
    | ((with_reducible show clashK _ _ _ = true); kernel_rfl)
    | (with_reducible refine ops_nil_i ?_; try clear hall all)
    | (with_reducible refine opsN_nil_i ?_; try clear hall all)
    | (with_reducible refine hK _ _ ?_; clear hK K)
    | with_reducible refine thenP_normal_i ?_
    | (with_reducible refine zzr15 _ _ ?_; try clear zzr15 Kzzr15)
    | (with_reducible refine zzsr8 _ _ ?_; try clear zzsr8 Kzzsr8)
    | (with_reducible refine zzsr10 _ _ ?_; try clear zzsr10 Kzzsr10)
    | (with_reducible refine zzb2 _ _ ?_; try clear zzb2 Kzzb2)
    | (with_reducible refine zzsr11 _ _ ?_; try clear zzsr11 Kzzsr11)
    | (with_reducible refine zzr11 _ _ ?_; try clear zzr11 Kzzr11)
    | (with_reducible refine zzr10 _ _ ?_; try clear zzr10 Kzzr10)
    | (with_reducible refine zzr9 _ _ ?_; try clear zzr9 Kzzr9)
    | (with_reducible refine zzr8 _ _ ?_; try clear zzr8 Kzzr8)
    | (with_reducible refine zzr7 _ _ ?_; try clear zzr7 Kzzr7)
    | (with_reducible refine zzr6 _ _ ?_; try clear zzr6 Kzzr6)
    | (with_reducible refine zzb0 _ _ ?_; try clear zzb0 Kzzb0)
    | (with_reducible refine zzr3 _ _ ?_; try clear zzr3 Kzzr3)
    | (with_reducible refine zzr5 _ _ ?_; try clear zzr5 Kzzr5)
    | (with_reducible refine zzr4 _ _ ?_; try clear zzr4 Kzzr4)
    | (with_reducible refine zzr2 _ _ ?_; try clear zzr2 Kzzr2)
    | (with_reducible refine zzr1 _ _ ?_; try clear zzr1 Kzzr1)
    | (with_reducible refine zzr0 _ _ ?_; try clear zzr0 Kzzr0)
    | (with_reducible refine awp_lp (σ := Nat × List Int) (fun s1 => w ≤ s1.1 ∧ s1.1 < N ∧ s1.2.length = N ∧ lim s1.2 ∧ s1.2.take (s1.1 + 1) = o0.take (s1.1 + 1) ∧ val (s1.2.drop (s1.1 + 1)) = val (o0.drop (s1.1 + 1)) * 2 ^ s + (o0.getD s1.1 0).toNat / 2 ^ (64 - s)) (fun s1 => [(1, .v (.int .i64 k)), (6, .ow 560), (7, .v (.int .i64 s)), (8, .v (.int .i64 s1.1))]) (fun s1 => [(560, .ints .u64 s1.2, false)]) (fun s1 => s1.1) (N - 1, o0) ?_ ?_ (fun s1 hs1 => ?_))
    | (with_reducible refine awp_seq_l (a := .region 15 _ _) [4, 5] ?_; intro Kzzr15 zzr15)
    | (with_reducible refine awp_seq_l (a := .seq (.region 8 _ _) _) [6] ?_; intro Kzzsr8 zzsr8)
    | (with_reducible refine awp_seq_l (a := .seq (.region 10 _ _) _) [1, 6, 7] ?_; intro Kzzsr10 zzsr10)
    | (with_reducible refine awp_seq_l (a := .block 2 _) [1, 6, 7, 8] ?_; intro Kzzb2 zzb2)
    | (with_reducible refine awp_seq_l (a := .seq (.region 11 _ _) _) [1, 6, 7, 8] ?_; intro Kzzsr11 zzsr11)
    | (with_reducible refine awp_seq_l (a := .region 11 _ _) [1, 6, 7, 8, 52] ?_; intro Kzzr11 zzr11)
    | (with_reducible refine awp_seq_l (a := .region 10 _ _) [1, 6, 7, 8] ?_; intro Kzzr10 zzr10)
    | (with_reducible refine awp_seq_l (a := .region 9 _ _) [1, 6, 7, 45] ?_; intro Kzzr9 zzr9)
    | (with_reducible refine awp_seq_l (a := .region 8 _ _) [1, 6, 7] ?_; intro Kzzr8 zzr8)
    | (with_reducible refine awp_seq_l (a := .region 7 _ _) [1, 6] ?_; intro Kzzr7 zzr7)
    | (with_reducible refine awp_seq_l (a := .region 6 _ _) [0, 1, 6] ?_; intro Kzzr6 zzr6)
    | (with_reducible refine awp_seq_l (a := .block 0 _) [0, 1] ?_; intro Kzzb0 zzb0)
    | (with_reducible refine awp_seq_l (a := .region 3 _ _) [4, 5] ?_; intro Kzzr3 zzr3)
    | (with_reducible refine awp_seq_l (a := .region 5 _ _) [4, 5] ?_; intro Kzzr5 zzr5)
    | (with_reducible refine awp_seq_l (a := .region 4 _ _) [0, 1, 16] ?_; intro Kzzr4 zzr4)
    | (with_reducible refine awp_seq_l (a := .region 2 _ _) [0, 1, 13] ?_; intro Kzzr2 zzr2)
    | (with_reducible refine awp_seq_l (a := .region 1 _ _) [0, 1] ?_; intro Kzzr1 zzr1)
    | (with_reducible refine awp_seq_l (a := .region 0 _ _) [0, 1] ?_; intro Kzzr0 zzr0)
    | (with_reducible refine awp_seq_k ?_; intro K hK)
    | (with_reducible refine awp_region_a ?_; intro all hall K hK)
    | (with_reducible refine awp_draw_a (id := 13) ?_ ?_; kernel_rfl; intro all hall K hK)
    | (with_reducible refine awp_draw_n ?_ ?_; kernel_rfl; intro all hall K hK)
    | (with_reducible refine Chk_i ?_ ?_)
    | (with_reducible refine keysC_i ?_; kernel_rfl)
    | (with_reducible first | refine awp_block_i ?_ | refine awp_skip_i ?_ | refine awp_ret_i ?_ | refine awp_exit_i ?_ | refine thenP_ret_i ?_ | refine thenP_exit_i ?_ | refine lpP_ret_i ?_ | refine lpP_exit_i ?_ | refine unrP_succ_i ?_ | refine unrP_ret_i ?_ | refine unrP_exit_i ?_ | refine blockP_normal_i ?_ | refine blockP_ret_i ?_)
    | (with_reducible refine blockP_exit_i ?_; simp only [↓reduceIte, Nat.reduceEqDiff])
    | with_reducible refine lpP_normal_i ?_)
  all_goals (try clear zzr0; try clear Kzzr0)
  all_goals (try clear zzr1; try clear Kzzr1)
  all_goals (try clear zzr2; try clear Kzzr2)
  all_goals (try clear zzr4; try clear Kzzr4)
  all_goals (try clear zzr5; try clear Kzzr5)
  all_goals (try clear zzr3; try clear Kzzr3)
  all_goals (try clear zzb0; try clear Kzzb0)
  all_goals (try clear zzr6; try clear Kzzr6)
  all_goals (try clear zzr7; try clear Kzzr7)
  all_goals (try clear zzr8; try clear Kzzr8)
  all_goals (try clear zzr9; try clear Kzzr9)
  all_goals (try clear zzr10; try clear Kzzr10)
  all_goals (try clear zzr11; try clear Kzzr11)
  all_goals (try clear zzsr11; try clear Kzzsr11)
  all_goals (try clear zzb2; try clear Kzzb2)
  all_goals (try clear zzsr10; try clear Kzzsr10)
  all_goals (try clear zzsr8; try clear Kzzsr8)
  all_goals (try clear zzr15; try clear Kzzr15)
  all_goals (try (rcases s1 with ⟨i, o⟩))
  all_goals (try dsimp only at *)
  all_goals (try simp only [inR])
  all_goals (try omega)
  · refine ⟨by omega, by omega, h0.len, h0.lm, trivial, ?_⟩
    rw [show N - 1 + 1 = N by omega, List.drop_of_length_le (by rw [h0.len]; exact Nat.le_refl _), h0.top]
    simp [val]
  · (refine ent_ok [(560, 560)] rfl ?_ ?_ <;> simp only [memLe, slotsLe, AvLe, lk, ↓reduceIte, Nat.reduceEqDiff, Option.isSome_some, and_self, and_true, true_and, reduceCtorEq, List.map_nil, List.map_cons, Option.some.injEq, AV.v.injEq, Value.int.injEq, Value.bool.injEq, AV.rd.injEq, AV.ow.injEq, AV.al.injEq, AV.ref.injEq] <;> omega)
  · have e0 : ((i : Int) - 1).toNat = i - 1 := by omega
    have e1 := take_getD hs1.2.2.2.2.1 (i := i) (by omega)
    have e2 := take_getD hs1.2.2.2.2.1 (i := i - 1) (by omega)
    rw [e0, e1, e2, shl_word (lim_get h0.lm) (lim_get h0.lm) (by omega)]
    have h3 := shl_step (z := (o0.getD (i - 1) 0).toNat / 2 ^ (64 - s)) h0.lm (by omega) (by rw [hs1.2.2.1, h0.len]) (show s ≤ 64 by omega) hs1.2.2.2.2.2
    have h4 := or_lim (o0.getD i 0 * 2 ^ s % 18446744073709551616) (o0.getD (i - 1) 0 / 2 ^ (64 - s))
    rw [shl_word (lim_get h0.lm) (lim_get h0.lm) (by omega)] at h4
    refine ⟨(i - 1, o.set i (((o0.getD i 0).toNat * 2 ^ s % 18446744073709551616 + (o0.getD (i - 1) 0).toNat / 2 ^ (64 - s) : Nat) : Int)), by (refine ent_ok [(560, 560)] rfl ?_ ?_ <;> simp only [memLe, slotsLe, AvLe, lk, ↓reduceIte, Nat.reduceEqDiff, Option.isSome_some, and_self, and_true, true_and, reduceCtorEq, List.map_nil, List.map_cons, Option.some.injEq, AV.v.injEq, Value.int.injEq, Value.bool.injEq, AV.rd.injEq, AV.ow.injEq, AV.al.injEq, AV.ref.injEq] <;> omega), ⟨by dsimp only; omega, by dsimp only; omega, by simp [hs1.2.2.1], lim_set hs1.2.2.2.1 h4 i, ?_, ?_⟩, by dsimp only; omega⟩
    · dsimp only
      rw [show i - 1 + 1 = i by omega, take_set_lt (Nat.le_refl _)]
      exact take_le_of hs1.2.2.2.2.1 (by omega)
    · dsimp only
      rw [show i - 1 + 1 = i by omega]
      exact h3
  all_goals first
    | (have hi : i = w := by omega
       subst hi
       have h5 := shl_last h0.lm (by omega) (by rw [hs1.2.2.1, h0.len]) (show s ≤ 64 by omega) hs1.2.2.2.2.1 hs1.2.2.2.2.2
       have h6 := sz_le (o.set i (o.getD i 0 * 2 ^ s % 18446744073709551616))
       have h7 : (o.set i (o.getD i 0 * 2 ^ s % 18446744073709551616)).length = N := by simp [hs1.2.2.1]
       have h8 := lim_set hs1.2.2.2.1 h5.2.2 i
       have h7a := hs1.2.2.1
       have h9 := shl_val (s := s) h0 h7 (by rw [take_set_lt (Nat.le_refl _)]; exact take_le_of hs1.2.2.2.2.1 (by omega)) h5.2.1
       first
         | omega
         | (rw [take_sz h8, h9, hk]; done)
         | (rw [take_sz h8, h9, hk]; all_goals (first | rfl | exact ⟨rfl, rfl⟩)))
    | (have h6 := sz_le o0
       have h7 := h0.len
       omega)
    | (have hs0 : s = 0 := by omega
       rw [take_sz h0.lm, h0.vl, hk, hs0, Nat.add_zero, Nat.mul_comm]; done)
    | (have hs0 : s = 0 := by omega
       refine ⟨?_, rfl⟩
       rw [take_sz h0.lm, h0.vl, hk, hs0, Nat.add_zero, Nat.mul_comm])
theorem sound_72 : Sound Try.prog 72 .body (norm s72) := by
  refine sound_norm (sound_body Try.func72 (show Try.f72.body = some (code Try.f72) from rfl) (by kernel_rfl) tysOk G72_ok (drawOk_ok (by kernel_rfl) tysOk G72_ok) (by kernel_rfl) fun ds p r hs hp => ?_)
  unfold s72 at hs
  split at hs
  · cases hs; exact ⟨Nat.le_of_ble_eq_true (by kernel_rfl), w72 _ _ hp⟩
  · cases hs
end Go.Proofs.AMT
set_option maxRecDepth 20000
namespace Go.AM.LN
open Go
/-! What Unpack answers: noughts where it refuses. -/
def dC (n : Int) (V : Nat) : Int := if okB n V then uC n V else 0
def dS (n : Int) (V : Nat) : Bool := if okB n V then uS n V else false
def dQ (n : Int) (V : Nat) : Bool := if okB n V then uQ n V else false
def dX (n : Int) (V : Nat) : Int := if okB n V then uX n V else 0
def dV (n : Int) (V : Nat) : Nat := if okB n V then uV n V else 0
theorem okB_in {n : Int} {V : Nat} (h : okB n V = true) : (1 ≤ n ∧ n ≤ 6) ∧ (blen V : Int) ≤ fw n := by
  unfold okB at h
  simp only [Bool.and_eq_true, decide_eq_true_eq] at h
  exact h
theorem okB_lt {n : Int} {V : Nat} (h : okB n V = true) : V < 2 ^ 256 := by
  obtain ⟨h1, h2⟩ := okB_in h
  have F := bfmt h1
  have := F.w
  have := F.p241
  have := F.x15
  exact blen_lt.1 (by omega)
theorem uE_lt {n : Int} (h : 1 ≤ n ∧ n ≤ 6) (V : Nat) : uE n V < 32768 := by
  have F := bfmt h
  have h1 : uE n V < 2 ^ (fx n).toNat := Nat.mod_lt _ (Nat.two_pow_pos _)
  have h2 : 2 ^ (fx n).toNat ≤ 2 ^ 15 := Nat.pow_le_pow_right (by omega) (by have := F.x15; omega)
  have h3 : (2 : Nat) ^ 15 = 32768 := rfl
  omega
theorem uF_lt {n : Int} (h : 1 ≤ n ∧ n ≤ 6) (V : Nat) : uF n V < 2 ^ 256 := by
  have F := bfmt h
  exact Nat.lt_of_lt_of_le (Nat.mod_lt _ (Nat.two_pow_pos _)) (Nat.pow_le_pow_right (by omega) (by have := F.p241; omega))
theorem u_num {n : Int} {V : Nat} (h : (uE n V : Int) < 2 ^ (fx n).toNat - 1) : uC n V = 1 ∧ uQ n V = false ∧ uX n V = 2 - fe n - fp n + max ((uE n V : Int) - 1) 0 ∧ uV n V = (if uE n V = 0 then uF n V else uF n V ||| 1 * 2 ^ (fp n - 1).toNat % 2 ^ 256) := by
  have h1 : uC n V = 1 := if_pos h
  refine ⟨h1, ?_, ?_, ?_⟩
  · unfold uQ; rw [h1]; rfl
  · unfold uX; rw [if_pos h1]
  · unfold uV; rw [if_pos h1]
theorem u_inf {n : Int} {V : Nat} (h : ¬ (uE n V : Int) < 2 ^ (fx n).toNat - 1) (h0 : uF n V = 0) : uC n V = 2 ∧ uQ n V = false ∧ uX n V = 0 ∧ uV n V = 0 := by
  have h1 : uC n V = 2 := by unfold uC; rw [if_neg h, if_pos h0]
  refine ⟨h1, ?_, ?_, ?_⟩
  · unfold uQ; rw [h1]; rfl
  · unfold uX; rw [if_neg (by omega)]
  · unfold uV; rw [if_neg (by omega), if_pos h1]
theorem u_nan {n : Int} {V : Nat} (h : ¬ (uE n V : Int) < 2 ^ (fx n).toNat - 1) (h0 : uF n V ≠ 0) : uC n V = 3 ∧ uQ n V = (V / 2 ^ (fp n - 2).toNat % 2 == 0) ∧ uX n V = 0 ∧ uV n V = uF n V % 2 ^ (fp n - 2).toNat := by
  have h1 : uC n V = 3 := by unfold uC; rw [if_neg h, if_neg h0]
  refine ⟨h1, ?_, ?_, ?_⟩
  · unfold uQ; rw [h1]; rfl
  · unfold uX; rw [if_neg (by omega)]
  · unfold uV; rw [if_neg (by omega), if_neg (by omega)]
end Go.AM.LN
set_option maxRecDepth 20000
namespace Go.AM.LN
open Go
theorem pow_split {a b : Nat} (h : b ≤ a) : 2 ^ a = 2 ^ (a - b) * 2 ^ b := by rw [← Nat.pow_add, Nat.sub_add_cancel h]
/-- The greatest q for which 2^q isn't above x / y. -/
def lowS (x y : Nat) : Int := if x * 2 ^ (-((blen x : Int) - (blen y : Int))).toNat < y * 2 ^ ((blen x : Int) - (blen y : Int)).toNat then (blen x : Int) - (blen y : Int) - 1 else (blen x : Int) - (blen y : Int)
theorem mul_pow_le {a b m n : Nat} (h : a * 2 ^ m ≤ b * 2 ^ n) (k : Nat) : a * 2 ^ (m + k) ≤ b * 2 ^ (n + k) := by
  rw [Nat.pow_add, Nat.pow_add, ← Nat.mul_assoc, ← Nat.mul_assoc]; exact Nat.mul_le_mul_right _ h
theorem mul_pow_lt {a b m n : Nat} (h : a * 2 ^ m < b * 2 ^ n) (k : Nat) : a * 2 ^ (m + k) < b * 2 ^ (n + k) := by
  rw [Nat.pow_add, Nat.pow_add, ← Nat.mul_assoc, ← Nat.mul_assoc]; exact Nat.mul_lt_mul_of_pos_right h (Nat.two_pow_pos _)
theorem mul_pow_le_of {a b m n k : Nat} (h : a * 2 ^ (m + k) ≤ b * 2 ^ (n + k)) : a * 2 ^ m ≤ b * 2 ^ n := by
  rw [Nat.pow_add, Nat.pow_add, ← Nat.mul_assoc, ← Nat.mul_assoc] at h; exact Nat.le_of_mul_le_mul_right h (Nat.two_pow_pos _)
theorem mul_pow_lt_of {a b m n k : Nat} (h : a * 2 ^ (m + k) < b * 2 ^ (n + k)) : a * 2 ^ m < b * 2 ^ n := by
  rw [Nat.pow_add, Nat.pow_add, ← Nat.mul_assoc, ← Nat.mul_assoc] at h; exact Nat.lt_of_mul_lt_mul_right h
/-- An inequality between two numbers times powers of two hangs on the difference of the exponents alone. -/
theorem shift_le {a b m n m' n' : Nat} (h : a * 2 ^ m ≤ b * 2 ^ n) (he : (m : Int) - n = (m' : Int) - n') : a * 2 ^ m' ≤ b * 2 ^ n' := by
  by_cases hm : m ≤ m'
  · have := mul_pow_le h (m' - m)
    rw [show m + (m' - m) = m' by omega, show n + (m' - m) = n' by omega] at this
    exact this
  · refine mul_pow_le_of (k := m - m') ?_
    rw [show m' + (m - m') = m by omega, show n' + (m - m') = n by omega]
    exact h
theorem shift_lt' {a b m n m' n' : Nat} (h : a * 2 ^ m < b * 2 ^ n) (he : (m : Int) - n = (m' : Int) - n') : a * 2 ^ m' < b * 2 ^ n' := by
  by_cases hm : m ≤ m'
  · have := mul_pow_lt h (m' - m)
    rw [show m + (m' - m) = m' by omega, show n + (m' - m) = n' by omega] at this
    exact this
  · refine mul_pow_lt_of (k := m - m') ?_
    rw [show m' + (m - m') = m by omega, show n' + (m - m') = n by omega]
    exact h
theorem lowS_ok {x y : Nat} (hx : 0 < x) (hy : 0 < y) : y * 2 ^ (lowS x y).toNat ≤ x * 2 ^ (-lowS x y).toNat ∧ x * 2 ^ (-(lowS x y + 1)).toNat < y * 2 ^ (lowS x y + 1).toNat := by
  have bx1 : 1 ≤ blen x := by have := @blen_zero x; omega
  have by1 : 1 ≤ blen y := by have := @blen_zero y; omega
  have x1 : 2 ^ (blen x - 1) ≤ x := blen_le.1 (by omega)
  have x2 : x < 2 ^ blen x := blen_lt.1 (Nat.le_refl _)
  have y1 : 2 ^ (blen y - 1) ≤ y := blen_le.1 (by omega)
  have y2 : y < 2 ^ blen y := blen_lt.1 (Nat.le_refl _)
  have h1 : y * 2 ^ (blen x - 1) ≤ x * 2 ^ blen y := by
    have : 2 ^ (blen x - 1) * y ≤ x * 2 ^ blen y := Nat.mul_le_mul x1 (Nat.le_of_lt y2)
    rw [Nat.mul_comm]; exact this
  have h2 : x * 2 ^ (blen y - 1) < y * 2 ^ blen x := by
    have e1 : x * 2 ^ (blen y - 1) < 2 ^ blen x * 2 ^ (blen y - 1) := Nat.mul_lt_mul_of_pos_right x2 (Nat.two_pow_pos _)
    have e2 : 2 ^ blen x * 2 ^ (blen y - 1) ≤ 2 ^ blen x * y := Nat.mul_le_mul_left _ y1
    rw [Nat.mul_comm y]; omega
  unfold lowS
  split
  · rename_i h
    refine ⟨shift_le h1 (by omega), ?_⟩
    rw [show (blen x : Int) - (blen y : Int) - 1 + 1 = (blen x : Int) - (blen y : Int) by omega]
    exact h
  · rename_i h
    exact ⟨Nat.le_of_not_lt h, shift_lt' h2 (by omega)⟩
theorem lowS_bound {x y : Nat} (hx : 0 < x) (hy : 0 < y) : (blen x : Int) - (blen y : Int) - 1 ≤ lowS x y ∧ lowS x y ≤ (blen x : Int) - (blen y : Int) := by
  unfold lowS; split <;> omega
/-! Rounding. -/
def rlow (x y : Nat) (e : Int) : Int := lowS x y + e
def rq (n : Int) (x y : Nat) (e : Int) : Int := max (2 - fe n - fp n) (rlow x y e - fp n + 1)
def rdiv (n d : Int) (s : Bool) (x y : Nat) (e : Int) : Nat × Bool := divS d s (x * 2 ^ (e - rq n x y e).toNat) (y * 2 ^ (-(e - rq n x y e)).toNat)
def rc (n d : Int) (s : Bool) (x y : Nat) (e : Int) : Nat := if (blen (rdiv n d s x y e).1 : Int) > fp n then (rdiv n d s x y e).1 / 2 else (rdiv n d s x y e).1
def rq2 (n d : Int) (s : Bool) (x y : Nat) (e : Int) : Int := if (blen (rdiv n d s x y e).1 : Int) > fp n then rq n x y e + 1 else rq n x y e
def ovV (n d : Int) (s : Bool) : Nat := if infS d s then packS n 2 s false 0 0 else packS n 1 s false (2 ^ (fp n).toNat - 1) (fe n + 1 - fp n)
def rndV (n d : Int) (s : Bool) (x y : Nat) (e : Int) : Nat :=
  if x = 0 then packS n 1 s false 0 (2 - fe n - fp n)
  else if rq2 n d s x y e > fe n + 1 - fp n then ovV n d s
  else packS n 1 s false (rc n d s x y e) (rq2 n d s x y e)
def rndF (n d : Int) (s : Bool) (x y : Nat) (e : Int) : Int :=
  if x = 0 then 0
  else if rq2 n d s x y e > fe n + 1 - fp n then 10
  else if (rdiv n d s x y e).2 then 0 else if rlow x y e < 2 - fe n - fp n + fp n - 1 then 12 else 8
theorem divS_le {d : Int} {s : Bool} {x y : Nat} : x / y ≤ (divS d s x y).1 ∧ (divS d s x y).1 ≤ x / y + 1 := by
  unfold divS; split
  · exact ⟨Nat.le_refl _, by omega⟩
  · split <;> (dsimp only; omega)
/-- What is known behind the division. -/
theorem rdiv_ok {n d : Int} {s : Bool} {x y : Nat} {e : Int} (hn : 1 ≤ n ∧ n ≤ 6) (hx : 0 < x) (hy : 0 < y) (hl : 2 - fe n - fp n - 1 ≤ rlow x y e) :
    ((rq n x y e = rlow x y e - fp n + 1 ∧ 2 ^ (fp n - 1).toNat ≤ (rdiv n d s x y e).1 ∧ (rdiv n d s x y e).1 ≤ 2 ^ (fp n).toNat) ∨ (rq n x y e = 2 - fe n - fp n ∧ (rdiv n d s x y e).1 ≤ 2 ^ (fp n - 1).toNat)) := by
  have F := bfmt hn
  have F1 := F.p8
  obtain ⟨L1, L2⟩ := lowS_ok hx hy
  have hX : ∀ k : Int, k = e - rq n x y e → x * 2 ^ k.toNat / (y * 2 ^ (-k).toNat) ≤ (rdiv n d s x y e).1 ∧ (rdiv n d s x y e).1 ≤ x * 2 ^ k.toNat / (y * 2 ^ (-k).toNat) + 1 := fun k hk => by subst hk; exact divS_le
  have hY : ∀ k : Int, 0 < y * 2 ^ (-k).toNat := fun k => Nat.mul_pos hy (Nat.two_pow_pos _)
  by_cases hc : 2 - fe n - fp n < rlow x y e - fp n + 1
  · have hq : rq n x y e = rlow x y e - fp n + 1 := by unfold rq; omega
    left
    obtain ⟨k, hk⟩ : ∃ k, k = e - rq n x y e := ⟨_, rfl⟩
    have hkL : k = fp n - 1 - lowS x y := by rw [hk, hq]; unfold rlow; omega
    obtain ⟨h1, h2⟩ := hX k hk
    have lo : y * 2 ^ (-k).toNat * 2 ^ (fp n - 1).toNat ≤ x * 2 ^ k.toNat := by
      rw [Nat.mul_assoc, ← Nat.pow_add]
      exact shift_le L1 (by omega)
    have up : x * 2 ^ k.toNat < y * 2 ^ (-k).toNat * 2 ^ (fp n).toNat := by
      rw [Nat.mul_assoc, ← Nat.pow_add]
      exact shift_lt' L2 (by omega)
    refine ⟨hq, Nat.le_trans ((Nat.le_div_iff_mul_le (hY k)).2 (by rw [Nat.mul_comm]; exact lo)) h1, Nat.le_trans h2 ?_⟩
    have := (Nat.div_lt_iff_lt_mul (hY k)).2 (by rw [Nat.mul_comm]; exact up)
    omega
  · have hq : rq n x y e = 2 - fe n - fp n := by unfold rq; omega
    obtain ⟨k, hk⟩ : ∃ k, k = e - rq n x y e := ⟨_, rfl⟩
    have hkL : k = e - (2 - fe n - fp n) := by rw [hk, hq]
    obtain ⟨h1, h2⟩ := hX k hk
    have hrl : rlow x y e = lowS x y + e := rfl
    by_cases hc2 : rlow x y e - fp n + 1 = 2 - fe n - fp n
    · left
      have lo : y * 2 ^ (-k).toNat * 2 ^ (fp n - 1).toNat ≤ x * 2 ^ k.toNat := by
        rw [Nat.mul_assoc, ← Nat.pow_add]
        exact shift_le L1 (by omega)
      have up : x * 2 ^ k.toNat < y * 2 ^ (-k).toNat * 2 ^ (fp n).toNat := by
        rw [Nat.mul_assoc, ← Nat.pow_add]
        exact shift_lt' L2 (by omega)
      refine ⟨by omega, Nat.le_trans ((Nat.le_div_iff_mul_le (hY k)).2 (by rw [Nat.mul_comm]; exact lo)) h1, Nat.le_trans h2 ?_⟩
      have := (Nat.div_lt_iff_lt_mul (hY k)).2 (by rw [Nat.mul_comm]; exact up)
      omega
    · right
      have up : x * 2 ^ k.toNat < y * 2 ^ (-k).toNat * 2 ^ (fp n - 1).toNat := by
        refine Nat.lt_of_lt_of_le (m := y * 2 ^ (-k).toNat * 2 ^ (rlow x y e + 1 - (2 - fe n - fp n)).toNat) ?_ (Nat.mul_le_mul_left _ (Nat.pow_le_pow_right (by omega) (by omega)))
        rw [Nat.mul_assoc, ← Nat.pow_add]
        exact shift_lt' L2 (by omega)
      refine ⟨hq, Nat.le_trans h2 ?_⟩
      have := (Nat.div_lt_iff_lt_mul (hY k)).2 (by rw [Nat.mul_comm]; exact up)
      omega
/-- Less than a half of the least number: as a quarter of it. -/
theorem rdiv_tiny {n d : Int} {s : Bool} {x y : Nat} {e : Int} (hx : 0 < x) (hy : 0 < y) (hp : 1 ≤ fp n) (hl : rlow x y e < 2 - fe n - fp n - 1) : rq n x y e = 2 - fe n - fp n ∧ rdiv n d s x y e = divS d s 1 4 := by
  obtain ⟨L1, L2⟩ := lowS_ok hx hy
  have hq : rq n x y e = 2 - fe n - fp n := by unfold rq; omega
  refine ⟨hq, ?_⟩
  unfold rdiv
  rw [hq]
  obtain ⟨k, hk⟩ : ∃ k, k = e - (2 - fe n - fp n) := ⟨_, rfl⟩
  rw [← hk]
  have hrl : rlow x y e = lowS x y + e := rfl
  have up : x * 2 ^ k.toNat * 2 < y * 2 ^ (-k).toNat := by
    refine Nat.lt_of_le_of_lt (m := x * 2 ^ k.toNat * 2 ^ (2 - fe n - fp n - 1 - rlow x y e).toNat) (Nat.mul_le_mul_left _ (by
      have : 2 ^ 1 ≤ 2 ^ (2 - fe n - fp n - 1 - rlow x y e).toNat := Nat.pow_le_pow_right (by omega) (by omega)
      omega)) ?_
    rw [Nat.mul_assoc, ← Nat.pow_add]
    exact shift_lt' L2 (by omega)
  have hX : 0 < x * 2 ^ k.toNat := Nat.mul_pos hx (Nat.two_pow_pos _)
  generalize x * 2 ^ k.toNat = X at *
  generalize y * 2 ^ (-k).toNat = Y at *
  have h1 : X / Y = 0 := Nat.div_eq_of_lt (by omega)
  have h2 : X % Y = X := Nat.mod_eq_of_lt (by omega)
  have a1 : divS d s X Y = (if upS d s (0 % 2 == 1) (-1) = true then 0 + 1 else 0, false) := by
    unfold divS
    rw [h1, h2, cmpI_lt (by omega), if_neg (by omega)]
  have a2 : divS d s 1 4 = (if upS d s (0 % 2 == 1) (-1) = true then 0 + 1 else 0, false) := rfl
  rw [a1, a2]
end Go.AM.LN
set_option maxRecDepth 20000
namespace Go.AM.LN
open Go
def okR (n d : Int) : Bool := decide (1 ≤ n ∧ n ≤ 6) && decide (0 ≤ d ∧ d ≤ 4)
def roundV (n d : Int) (s : Bool) (x y : Nat) (e : Int) : Nat := if okR n d then rndV n d s x y e else 0
def roundF (n d : Int) (s : Bool) (x y : Nat) (e : Int) : Int := if okR n d then rndF n d s x y e else 0
def roundE (n d : Int) : Int := if okR n d then 0 else 1
theorem okB0 (n : Int) : okB n 0 = decide (1 ≤ n ∧ n ≤ 6) := by
  unfold okB
  by_cases h : 1 ≤ n ∧ n ≤ 6
  · have F := bfmt h
    have := F.w
    have := F.p8
    have := F.x5
    have h0 : (blen 0 : Int) = 0 := rfl
    rw [decide_eq_true h, Bool.true_and, h0, decide_eq_true_eq]; omega
  · rw [decide_eq_false h, Bool.false_and]
theorem blen_ones (k : Nat) : blen (2 ^ k - 1) = k := by
  have hp := Nat.two_pow_pos k
  cases k with
  | zero => rfl
  | succ k =>
    refine blen_eq ?_ ?_
    · have : 2 ^ (k + 1) = 2 * 2 ^ k := by rw [Nat.pow_succ, Nat.mul_comm]
      have := Nat.two_pow_pos k
      omega
    · omega
/-- The words of numbers times powers of two. -/
theorem len_pow {x k : Nat} (h : x ≠ 0) : (limbs (x * 2 ^ k)).length = (blen x + k + 63) / 64 := by
  rw [len_limbs, blen_mul h]
theorem blen_le_len (x : Nat) : blen x ≤ 64 * (limbs x).length := by rw [len_limbs]; omega
theorem or84 : AM.bits .or .i64 8 4 = 12 := by decide
end Go.AM.LN
set_option maxRecDepth 20000
namespace Go.Proofs.AMT
open Go.AM Go.AM.LN
attribute [local congr] bindO_congr bindS_congr bindG_congr awpOps_congr aOne_congr awp_congr aCond_congr awpD_congr dOne_congr keysB_congr nOne_congr thenP_congr blockP_congr Chk_congr Brk_congr
noncomputable def s45 : CSpec := fun ds => match ds with
  | [.sl .u64 a, .sl .u64 b, .v (.int .i64 n)] => some ((limbs (val a) = a ∧ lim a) ∧ (limbs (val b) = b ∧ lim b) ∧ (a.length ≤ 90000000 ∧ b.length ≤ 90000000) ∧ (0 ≤ n → (sz a : Int) + (n + 63) / 64 ≤ 2000) ∧ (n < 0 → (sz b : Int) + (-n + 63) / 64 ≤ 2000) ∧ -9000000 < n ∧ n < 9000000, .many [.view .u64 (limbs (val a * 2 ^ n.toNat)), .view .u64 (limbs (val b * 2 ^ (-n).toNat))])
  | _ => none
theorem s45_eq (a : List Int) (b : List Int) (n : Int) : norm s45 [.sl .u64 a, .sl .u64 b, .v (.int .i64 n)] = some ((limbs (val a) = a ∧ lim a) ∧ (limbs (val b) = b ∧ lim b) ∧ (a.length ≤ 90000000 ∧ b.length ≤ 90000000) ∧ (0 ≤ n → (sz a : Int) + (n + 63) / 64 ≤ 2000) ∧ (n < 0 → (sz b : Int) + (-n + 63) / 64 ≤ 2000) ∧ -9000000 < n ∧ n < 9000000, .many [.view .u64 (limbs (val a * 2 ^ n.toNat)), .view .u64 (limbs (val b * 2 ^ (-n).toNat))]) := rfl
theorem s45_nil1  (b : List Int) (n : Int) : norm s45 [.v (.slice none 0 0), .sl .u64 b, .v (.int .i64 n)] = some ((limbs (val ([] : List Int)) = ([] : List Int) ∧ lim ([] : List Int)) ∧ (limbs (val b) = b ∧ lim b) ∧ (([] : List Int).length ≤ 90000000 ∧ b.length ≤ 90000000) ∧ (0 ≤ n → (sz ([] : List Int) : Int) + (n + 63) / 64 ≤ 2000) ∧ (n < 0 → (sz b : Int) + (-n + 63) / 64 ≤ 2000) ∧ -9000000 < n ∧ n < 9000000, .many [.view .u64 (limbs (val ([] : List Int) * 2 ^ n.toNat)), .view .u64 (limbs (val b * 2 ^ (-n).toNat))]) := rfl
theorem s45_nil2 (a : List Int)  (n : Int) : norm s45 [.sl .u64 a, .v (.slice none 0 0), .v (.int .i64 n)] = some ((limbs (val a) = a ∧ lim a) ∧ (limbs (val ([] : List Int)) = ([] : List Int) ∧ lim ([] : List Int)) ∧ (a.length ≤ 90000000 ∧ ([] : List Int).length ≤ 90000000) ∧ (0 ≤ n → (sz a : Int) + (n + 63) / 64 ≤ 2000) ∧ (n < 0 → (sz ([] : List Int) : Int) + (-n + 63) / 64 ≤ 2000) ∧ -9000000 < n ∧ n < 9000000, .many [.view .u64 (limbs (val a * 2 ^ n.toNat)), .view .u64 (limbs (val ([] : List Int) * 2 ^ (-n).toNat))]) := rfl
theorem s45_nil3   (n : Int) : norm s45 [.v (.slice none 0 0), .v (.slice none 0 0), .v (.int .i64 n)] = some ((limbs (val ([] : List Int)) = ([] : List Int) ∧ lim ([] : List Int)) ∧ (limbs (val ([] : List Int)) = ([] : List Int) ∧ lim ([] : List Int)) ∧ (([] : List Int).length ≤ 90000000 ∧ ([] : List Int).length ≤ 90000000) ∧ (0 ≤ n → (sz ([] : List Int) : Int) + (n + 63) / 64 ≤ 2000) ∧ (n < 0 → (sz ([] : List Int) : Int) + (-n + 63) / 64 ≤ 2000) ∧ -9000000 < n ∧ n < 9000000, .many [.view .u64 (limbs (val ([] : List Int) * 2 ^ n.toNat)), .view .u64 (limbs (val ([] : List Int) * 2 ^ (-n).toNat))]) := rfl
noncomputable def G45 : Gam := [(72, .body, norm s72)]
theorem G45_ok : GamOk Try.prog G45 := gamOk_cons sound_72 gamOk_nil
theorem k45_72 : lk G45 72 = some (.body, norm s72) := rfl
set_option maxHeartbeats 20000000 in
theorem w45 (a : List Int) (b : List Int) (n : Int) (hp : (limbs (val a) = a ∧ lim a) ∧ (limbs (val b) = b ∧ lim b) ∧ (a.length ≤ 90000000 ∧ b.length ≤ 90000000) ∧ (0 ≤ n → (sz a : Int) + (n + 63) / 64 ≤ 2000) ∧ (n < 0 → (sz b : Int) + (-n + 63) / 64 ≤ 2000) ∧ -9000000 < n ∧ n < 9000000) : awp ty G45 (code Try.f45) (retP ty Try.f45.results.toList (.many [.view .u64 (limbs (val a * 2 ^ n.toNat)), .view .u64 (limbs (val b * 2 ^ (-n).toNat))])) (entry 0 [.sl .u64 a, .sl .u64 b, .v (.int .i64 n)]) [] := by
  unfold code
  simp only [Try.f45, Option.getD_some]
  have en : 0 - n = -n := by omega
  all_goals repeat' (first
    | ((first
       | (with_reducible refine ops_k ?_; intro X hX)
       | (with_reducible refine opsN_k ?_; intro X hX)
       | (with_reducible show awp _ _ _ _ (keepL _ _) _)
       | with_reducible refine awp_cond_k ?_
       | (with_reducible refine Brk_i ?_ ?_ <;> intro hb <;> (try simp only [hb]) <;> have hq := hb <;> try simp only [decide_eq_true_eq, decide_eq_false_iff_not, gt_iff_lt, ge_iff_le, Int.not_lt, Int.not_le, beq_iff_eq, beq_eq_false_iff_ne, Bool.not_eq_true', Bool.not_eq_false', Bool.and_eq_true, Bool.or_eq_true, Bool.and_eq_false_imp, Bool.or_eq_false_iff, ne_eq, Classical.not_not] at hq)
       | with_reducible refine retP_ret_i ?_
       | with_reducible refine retP_normal_i ?_
       | (with_reducible (show bindG _ _ _ _ _); simp only [hall])) <;> try simp only [Go.AM.S1, Go.AM.S2, Go.AM.S3, Go.AM.S4, Go.AM.S5, Go.AM.S6, Go.AM.S7, Go.AM.S8, Go.AM.S9, Nat.reduceAdd, Nat.reduceMul, Nat.reduceSub, ↓reduceIte, Nat.reduceEqDiff, Nat.reduceLT, Nat.reduceLeDiff, reduceCtorEq, Int.reduceBEq, Int.reduceBNe, Nat.reduceBEq, Int.reduceEq, Int.reduceToNat, Int.reduceLE, Int.reduceLT, Nat.reduceDiv, Int.reduceAdd, Int.reduceSub, Int.reduceMul, Int.reduceNeg, Int.reduceGT, Int.reduceGE, Nat.reduceMod, k45_72, s72_eq, s72_nil1, ty_3, ty_26, ty_42, en])
    | (with_reducible refine hX _ _ ?_; clear hX X)
    | (with_reducible refine ops_nil_i ?_; try clear hall all)
    | (with_reducible refine opsN_nil_i ?_; try clear hall all)
    | (with_reducible refine hK _ _ ?_; clear hK K)
    | with_reducible refine thenP_normal_i ?_
    | (with_reducible refine zzr4 _ _ ?_; try clear zzr4 Kzzr4)
    | (with_reducible refine zzsr1 _ _ ?_; try clear zzsr1 Kzzsr1)
    | (with_reducible refine zzr1 _ _ ?_; try clear zzr1 Kzzr1)
    | (with_reducible refine zzr0 _ _ ?_; try clear zzr0 Kzzr0)
    | (with_reducible refine awp_seq_l (a := .region 4 _ _) [6, 7] ?_; intro Kzzr4 zzr4)
    | (with_reducible refine awp_seq_l (a := .seq (.region 1 _ _) _) [0, 1] ?_; intro Kzzsr1 zzsr1)
    | (with_reducible refine awp_seq_l (a := .region 1 _ _) [0, 1, 2, 9] ?_; intro Kzzr1 zzr1)
    | (with_reducible refine awp_seq_l (a := .region 0 _ _) [0, 1, 2] ?_; intro Kzzr0 zzr0)
    | (with_reducible refine awp_seq_k ?_; intro K hK)
    | (with_reducible refine awp_region_a ?_; intro all hall K hK)
    | (with_reducible refine awp_draw_n ?_ ?_; kernel_rfl; intro all hall K hK)
    | (with_reducible refine Chk_i ?_ ?_)
    | (with_reducible refine keysC_i ?_; kernel_rfl)
    | (with_reducible first | refine awp_block_i ?_ | refine awp_skip_i ?_ | refine awp_ret_i ?_ | refine awp_exit_i ?_ | refine thenP_ret_i ?_ | refine thenP_exit_i ?_ | refine lpP_ret_i ?_ | refine lpP_exit_i ?_ | refine unrP_succ_i ?_ | refine unrP_ret_i ?_ | refine unrP_exit_i ?_ | refine blockP_normal_i ?_ | refine blockP_ret_i ?_)
    | (with_reducible refine blockP_exit_i ?_; simp only [↓reduceIte, Nat.reduceEqDiff])
    | with_reducible refine lpP_normal_i ?_)
  all_goals (try clear zzr0; try clear Kzzr0)
  all_goals (try clear zzr1; try clear Kzzr1)
  all_goals (try clear zzsr1; try clear Kzzsr1)
  all_goals (try clear zzr4; try clear Kzzr4)
  all_goals (try simp only [inR])
  all_goals first
    | omega
    | exact ⟨⟨hp.1.2, by omega⟩, by omega, hp.2.2.2.1 (by omega)⟩
    | exact ⟨⟨hp.2.1.2, by omega⟩, by omega, hp.2.2.2.2.1 (by omega)⟩
    | (rw [show (-n).toNat = 0 by omega, Nat.pow_zero, Nat.mul_one, hp.2.1.1]; done)
    | (rw [show (-n).toNat = 0 by omega, Nat.pow_zero, Nat.mul_one, hp.2.1.1]; exact ⟨rfl, rfl⟩)
    | (rw [show n.toNat = 0 by omega, Nat.pow_zero, Nat.mul_one, hp.1.1]; done)
    | (rw [show n.toNat = 0 by omega, Nat.pow_zero, Nat.mul_one, hp.1.1]; exact ⟨rfl, rfl⟩)
    | skip
theorem sound_45 : Sound Try.prog 45 .body (norm s45) := by
  refine sound_norm (sound_body Try.func45 (show Try.f45.body = some (code Try.f45) from rfl) (by kernel_rfl) tysOk G45_ok (drawOk_ok (by kernel_rfl) tysOk G45_ok) (by kernel_rfl) fun ds p r hs hp => ?_)
  unfold s45 at hs
  split at hs
  · cases hs; exact ⟨Nat.le_of_ble_eq_true (by kernel_rfl), w45 _ _ _ hp⟩
  · cases hs
end Go.Proofs.AMT
set_option maxRecDepth 20000
namespace Go.Proofs.AMT
open Go.AM Go.AM.LN
attribute [local congr] bindO_congr bindS_congr bindG_congr awpOps_congr aOne_congr awp_congr aCond_congr awpD_congr dOne_congr keysB_congr nOne_congr thenP_congr blockP_congr Chk_congr Brk_congr
noncomputable def s46 : CSpec := fun ds => match ds with
  | [.sl .u64 a, .sl .u64 b] => some ((lim a ∧ a.length ≤ 100000000) ∧ lim b ∧ b.length ≤ 100000000, .one (.v (.int .i64 (cmpI (val a) (val b)))))
  | _ => none
theorem s46_eq (a : List Int) (b : List Int) : norm s46 [.sl .u64 a, .sl .u64 b] = some ((lim a ∧ a.length ≤ 100000000) ∧ lim b ∧ b.length ≤ 100000000, .one (.v (.int .i64 (cmpI (val a) (val b))))) := rfl
theorem s46_nil1  (b : List Int) : norm s46 [.v (.slice none 0 0), .sl .u64 b] = some ((lim ([] : List Int) ∧ ([] : List Int).length ≤ 100000000) ∧ lim b ∧ b.length ≤ 100000000, .one (.v (.int .i64 (cmpI (val ([] : List Int)) (val b))))) := rfl
theorem s46_nil2 (a : List Int)  : norm s46 [.sl .u64 a, .v (.slice none 0 0)] = some ((lim a ∧ a.length ≤ 100000000) ∧ lim ([] : List Int) ∧ ([] : List Int).length ≤ 100000000, .one (.v (.int .i64 (cmpI (val a) (val ([] : List Int)))))) := rfl
theorem s46_nil3   : norm s46 [.v (.slice none 0 0), .v (.slice none 0 0)] = some ((lim ([] : List Int) ∧ ([] : List Int).length ≤ 100000000) ∧ lim ([] : List Int) ∧ ([] : List Int).length ≤ 100000000, .one (.v (.int .i64 (cmpI (val ([] : List Int)) (val ([] : List Int)))))) := rfl
noncomputable def G46 : Gam := [(71, .body, norm s71)]
theorem G46_ok : GamOk Try.prog G46 := gamOk_cons sound_71 gamOk_nil
theorem k46_71 : lk G46 71 = some (.body, norm s71) := rfl
set_option maxHeartbeats 20000000 in
theorem w46 (a : List Int) (b : List Int) (hp : (lim a ∧ a.length ≤ 100000000) ∧ lim b ∧ b.length ≤ 100000000) : awp ty G46 (code Try.f46) (retP ty Try.f46.results.toList (.one (.v (.int .i64 (cmpI (val a) (val b)))))) (entry 0 [.sl .u64 a, .sl .u64 b]) [] := by
  unfold code
  simp only [Try.f46, Option.getD_some]
  have za := sz_le a
  have zb := sz_le b
  have ya := len_limbs_sz hp.1.1
  have yb := len_limbs_sz hp.2.1
  have la := lim_limbs (val a)
  have lb := lim_limbs (val b)
  all_goals repeat' (first
    | ((first
       | (with_reducible refine ops_k ?_; intro X hX)
       | (with_reducible refine opsN_k ?_; intro X hX)
       | (with_reducible show awp _ _ _ _ (keepL _ _) _)
       | with_reducible refine awp_cond_k ?_
       | (with_reducible refine Brk_i ?_ ?_ <;> intro hb <;> (try simp only [hb]) <;> have hq := hb <;> try simp only [decide_eq_true_eq, decide_eq_false_iff_not, gt_iff_lt, ge_iff_le, Int.not_lt, Int.not_le, beq_iff_eq, beq_eq_false_iff_ne, Bool.not_eq_true', Bool.not_eq_false', Bool.and_eq_true, Bool.or_eq_true, Bool.and_eq_false_imp, Bool.or_eq_false_iff, ne_eq, Classical.not_not] at hq)
       | with_reducible refine retP_ret_i ?_
       | with_reducible refine retP_normal_i ?_
       | (with_reducible (show bindG _ _ _ _ _); simp only [hall])) <;> try simp only [Go.AM.S1, Go.AM.S2, Go.AM.S3, Go.AM.S4, Go.AM.S5, Go.AM.S6, Go.AM.S7, Go.AM.S8, Go.AM.S9, Nat.reduceAdd, Nat.reduceMul, Nat.reduceSub, ↓reduceIte, Nat.reduceEqDiff, Nat.reduceLT, Nat.reduceLeDiff, reduceCtorEq, Int.reduceBEq, Int.reduceBNe, Nat.reduceBEq, Int.reduceEq, Int.reduceToNat, Int.reduceLE, Int.reduceLT, Nat.reduceDiv, Int.reduceAdd, Int.reduceSub, Int.reduceMul, Int.reduceNeg, Int.reduceGT, Int.reduceGE, Nat.reduceMod, k46_71, s71_eq, s71_nil1, ty_3, ty_26, ty_42, take_sz hp.1.1, take_sz hp.2.1])
    | (with_reducible refine hX _ _ ?_; clear hX X)
    | (with_reducible refine ops_nil_i ?_; try clear hall all)
    | (with_reducible refine opsN_nil_i ?_; try clear hall all)
    | (with_reducible refine hK _ _ ?_; clear hK K)
    | with_reducible refine thenP_normal_i ?_
    | (with_reducible refine zzr13 _ _ ?_; try clear zzr13 Kzzr13)
    | (with_reducible refine zzsr6 _ _ ?_; try clear zzsr6 Kzzsr6)
    | (with_reducible refine zzb1 _ _ ?_; try clear zzb1 Kzzb1)
    | (with_reducible refine zzr12 _ _ ?_; try clear zzr12 Kzzr12)
    | (with_reducible refine zzsr10 _ _ ?_; try clear zzsr10 Kzzsr10)
    | (with_reducible refine zzr11 _ _ ?_; try clear zzr11 Kzzr11)
    | (with_reducible refine zzr10 _ _ ?_; try clear zzr10 Kzzr10)
    | (with_reducible refine zzr9 _ _ ?_; try clear zzr9 Kzzr9)
    | (with_reducible refine zzsr7 _ _ ?_; try clear zzsr7 Kzzsr7)
    | (with_reducible refine zzr7 _ _ ?_; try clear zzr7 Kzzr7)
    | (with_reducible refine zzr6 _ _ ?_; try clear zzr6 Kzzr6)
    | (with_reducible refine zzsr2 _ _ ?_; try clear zzsr2 Kzzsr2)
    | (with_reducible refine zzr5 _ _ ?_; try clear zzr5 Kzzr5)
    | (with_reducible refine zzsr3 _ _ ?_; try clear zzsr3 Kzzsr3)
    | (with_reducible refine zzr4 _ _ ?_; try clear zzr4 Kzzr4)
    | (with_reducible refine zzr3 _ _ ?_; try clear zzr3 Kzzr3)
    | (with_reducible refine zzr2 _ _ ?_; try clear zzr2 Kzzr2)
    | (with_reducible refine zzr1 _ _ ?_; try clear zzr1 Kzzr1)
    | (with_reducible refine zzr0 _ _ ?_; try clear zzr0 Kzzr0)
    | (with_reducible refine awp_lp (σ := Nat) (fun n => n ≤ (limbs (val a)).length ∧ (limbs (val a)).drop n = (limbs (val b)).drop n) (fun n => [(0, .rd .u64 (limbs (val a))), (1, .rd .u64 (limbs (val b))), (5, .v (.int .i64 ((n : Int) - 1)))]) (fun _ => []) (fun n => n) (limbs (val a)).length ?_ ?_ (fun s hs => ?_))
    | (with_reducible refine awp_seq_l (a := .region 13 _ _) [4] ?_; intro Kzzr13 zzr13)
    | (with_reducible refine awp_seq_l (a := .seq (.region 6 _ _) _) [] ?_; intro Kzzsr6 zzsr6)
    | (with_reducible refine awp_seq_l (a := .block 1 _) [0, 1, 5] ?_; intro Kzzb1 zzb1)
    | (with_reducible refine awp_seq_l (a := .region 12 _ _) [4] ?_; intro Kzzr12 zzr12)
    | (with_reducible refine awp_seq_l (a := .seq (.region 10 _ _) _) [] ?_; intro Kzzsr10 zzsr10)
    | (with_reducible refine awp_seq_l (a := .region 11 _ _) [4] ?_; intro Kzzr11 zzr11)
    | (with_reducible refine awp_seq_l (a := .region 10 _ _) [48] ?_; intro Kzzr10 zzr10)
    | (with_reducible refine awp_seq_l (a := .region 9 _ _) [0, 1, 5, 39] ?_; intro Kzzr9 zzr9)
    | (with_reducible refine awp_seq_l (a := .seq (.region 7 _ _) _) [0, 1, 5] ?_; intro Kzzsr7 zzsr7)
    | (with_reducible refine awp_seq_l (a := .region 7 _ _) [0, 1, 5, 28] ?_; intro Kzzr7 zzr7)
    | (with_reducible refine awp_seq_l (a := .region 6 _ _) [0, 1, 5] ?_; intro Kzzr6 zzr6)
    | (with_reducible refine awp_seq_l (a := .seq (.region 2 _ _) _) [0, 1] ?_; intro Kzzsr2 zzsr2)
    | (with_reducible refine awp_seq_l (a := .region 5 _ _) [4] ?_; intro Kzzr5 zzr5)
    | (with_reducible refine awp_seq_l (a := .seq (.region 3 _ _) _) [] ?_; intro Kzzsr3 zzsr3)
    | (with_reducible refine awp_seq_l (a := .region 4 _ _) [4] ?_; intro Kzzr4 zzr4)
    | (with_reducible refine awp_seq_l (a := .region 3 _ _) [23] ?_; intro Kzzr3 zzr3)
    | (with_reducible refine awp_seq_l (a := .region 2 _ _) [0, 1, 18] ?_; intro Kzzr2 zzr2)
    | (with_reducible refine awp_seq_l (a := .region 1 _ _) [0, 1] ?_; intro Kzzr1 zzr1)
    | (with_reducible refine awp_seq_l (a := .region 0 _ _) [0, 1] ?_; intro Kzzr0 zzr0)
    | (with_reducible refine awp_seq_k ?_; intro K hK)
    | (with_reducible refine awp_region_a ?_; intro all hall K hK)
    | (with_reducible refine awp_draw_n ?_ ?_; kernel_rfl; intro all hall K hK)
    | (with_reducible refine Chk_i ?_ ?_)
    | (with_reducible refine keysC_i ?_; kernel_rfl)
    | (with_reducible first | refine awp_block_i ?_ | refine awp_skip_i ?_ | refine awp_ret_i ?_ | refine awp_exit_i ?_ | refine thenP_ret_i ?_ | refine thenP_exit_i ?_ | refine lpP_ret_i ?_ | refine lpP_exit_i ?_ | refine unrP_succ_i ?_ | refine unrP_ret_i ?_ | refine unrP_exit_i ?_ | refine blockP_normal_i ?_ | refine blockP_ret_i ?_)
    | (with_reducible refine blockP_exit_i ?_; simp only [↓reduceIte, Nat.reduceEqDiff])
    | with_reducible refine lpP_normal_i ?_)
  all_goals (try clear zzr0; try clear Kzzr0)
  all_goals (try clear zzr1; try clear Kzzr1)
  all_goals (try clear zzr2; try clear Kzzr2)
  all_goals (try clear zzr3; try clear Kzzr3)
  all_goals (try clear zzr4; try clear Kzzr4)
  all_goals (try clear zzsr3; try clear Kzzsr3)
  all_goals (try clear zzr5; try clear Kzzr5)
  all_goals (try clear zzsr2; try clear Kzzsr2)
  all_goals (try clear zzr6; try clear Kzzr6)
  all_goals (try clear zzr7; try clear Kzzr7)
  all_goals (try clear zzsr7; try clear Kzzsr7)
  all_goals (try clear zzr9; try clear Kzzr9)
  all_goals (try clear zzr10; try clear Kzzr10)
  all_goals (try clear zzr11; try clear Kzzr11)
  all_goals (try clear zzsr10; try clear Kzzsr10)
  all_goals (try clear zzr12; try clear Kzzr12)
  all_goals (try clear zzb1; try clear Kzzb1)
  all_goals (try clear zzsr6; try clear Kzzsr6)
  all_goals (try clear zzr13; try clear Kzzr13)
  all_goals (try simp only [inR])
  all_goals (try omega)
  · have h := len_lt (x := val a) (y := val b) (by omega)
    rw [cmpI_lt h]
  · have h := len_lt (x := val b) (y := val a) (by omega)
    rw [cmpI_gt h]
  · exact ⟨Nat.le_refl _, by rw [List.drop_length, List.drop_eq_nil_of_le (by omega)]⟩
  · exact Ent.refl _ _
  · have e : ((s : Int) - 1).toNat = s - 1 := by omega
    rw [e] at hq
    have h := cmp_lt la lb (i := s - 1) (by omega) (by omega) (by rw [show s - 1 + 1 = s by omega]; exact hs.2) hq
    rw [val_limbs, val_limbs] at h
    rw [cmpI_lt h]
  · have e : ((s : Int) - 1).toNat = s - 1 := by omega
    simp only [e] at *
    have h := cmp_lt lb la (i := s - 1) (by omega) (by omega) (by rw [show s - 1 + 1 = s by omega]; exact hs.2.symm) (by omega)
    rw [val_limbs, val_limbs] at h
    rw [cmpI_gt h]
  · refine ⟨s - 1, by (refine ent_ok [] rfl ?_ ?_ <;> simp only [memLe, slotsLe, AvLe, lk, ↓reduceIte, Nat.reduceEqDiff, Option.isSome_some, and_self, and_true, true_and, reduceCtorEq, List.map_nil, List.map_cons, Option.some.injEq, AV.v.injEq, Value.int.injEq, Value.bool.injEq, AV.rd.injEq, AV.ow.injEq, AV.al.injEq, AV.ref.injEq] <;> omega), ⟨by omega, ?_⟩, by omega⟩
    have e : ((s : Int) - 1).toNat = s - 1 := by omega
    rw [e] at hq
    exact drop_step (by omega) (by omega) (by rw [show s - 1 + 1 = s by omega]; exact hs.2) hq
  · have h0 : s = 0 := by omega
    subst h0
    have := limbs_inj (x := val a) (y := val b) (by simpa using hs.2)
    rw [cmpI_eq this]
theorem sound_46 : Sound Try.prog 46 .body (norm s46) := by
  refine sound_norm (sound_body Try.func46 (show Try.f46.body = some (code Try.f46) from rfl) (by kernel_rfl) tysOk G46_ok (drawOk_ok (by kernel_rfl) tysOk G46_ok) (by kernel_rfl) fun ds p r hs hp => ?_)
  unfold s46 at hs
  split at hs
  · cases hs; exact ⟨Nat.le_of_ble_eq_true (by kernel_rfl), w46 _ _ hp⟩
  · cases hs
end Go.Proofs.AMT
set_option maxRecDepth 20000
namespace Go.Proofs.AMT
open Go.AM Go.AM.LN
attribute [local congr] bindO_congr bindS_congr bindG_congr awpOps_congr aOne_congr awp_congr aCond_congr awpD_congr dOne_congr keysB_congr nOne_congr thenP_congr blockP_congr Chk_congr Brk_congr
noncomputable def s73 : CSpec := fun ds => match ds with
  | [.v (.int .i64 n), .v (.bool s)] => some (1 ≤ n ∧ n ≤ 6, .many [.v (.agg #[.int .u64 (w4 (packS n 1 s false (2 ^ (fp n).toNat - 1) (fe n + 1 - fp n)) 0), .int .u64 (w4 (packS n 1 s false (2 ^ (fp n).toNat - 1) (fe n + 1 - fp n)) 1), .int .u64 (w4 (packS n 1 s false (2 ^ (fp n).toNat - 1) (fe n + 1 - fp n)) 2), .int .u64 (w4 (packS n 1 s false (2 ^ (fp n).toNat - 1) (fe n + 1 - fp n)) 3)]), .v (.int .i64 0)])
  | _ => none
theorem s73_eq (n : Int) (s : Bool) : norm s73 [.v (.int .i64 n), .v (.bool s)] = some (1 ≤ n ∧ n ≤ 6, .many [.v (.agg #[.int .u64 (w4 (packS n 1 s false (2 ^ (fp n).toNat - 1) (fe n + 1 - fp n)) 0), .int .u64 (w4 (packS n 1 s false (2 ^ (fp n).toNat - 1) (fe n + 1 - fp n)) 1), .int .u64 (w4 (packS n 1 s false (2 ^ (fp n).toNat - 1) (fe n + 1 - fp n)) 2), .int .u64 (w4 (packS n 1 s false (2 ^ (fp n).toNat - 1) (fe n + 1 - fp n)) 3)]), .v (.int .i64 0)]) := rfl
noncomputable def G73 : Gam := [(23, .body, norm s23), (42, .body, norm s42), (63, .body, norm s63)]
theorem G73_ok : GamOk Try.prog G73 := gamOk_cons sound_23 (gamOk_cons sound_42 (gamOk_cons sound_63 gamOk_nil))
theorem k73_23 : lk G73 23 = some (.body, norm s23) := rfl
theorem k73_42 : lk G73 42 = some (.body, norm s42) := rfl
theorem k73_63 : lk G73 63 = some (.body, norm s63) := rfl
set_option maxHeartbeats 20000000 in
theorem w73 (n : Int) (s : Bool) (hp : 1 ≤ n ∧ n ≤ 6) : awp ty G73 (code Try.f73) (retP ty Try.f73.results.toList (.many [.v (.agg #[.int .u64 (w4 (packS n 1 s false (2 ^ (fp n).toNat - 1) (fe n + 1 - fp n)) 0), .int .u64 (w4 (packS n 1 s false (2 ^ (fp n).toNat - 1) (fe n + 1 - fp n)) 1), .int .u64 (w4 (packS n 1 s false (2 ^ (fp n).toNat - 1) (fe n + 1 - fp n)) 2), .int .u64 (w4 (packS n 1 s false (2 ^ (fp n).toNat - 1) (fe n + 1 - fp n)) 3)]), .v (.int .i64 0)])) (entry 0 [.v (.int .i64 n), .v (.bool s)]) [] := by
  unfold code
  simp only [Try.f73, Option.getD_some]
  obtain ⟨F1, F2, F3, F4, F5, F6, F7, F8, F9, F10, F11⟩ := bfmt hp
  have hI := infoV_in (n := n) (by omega)
  have hO : okB n 0 = true := by rw [okB0, decide_eq_true hp]
  have hM := V4_w4 (n := 2 ^ (fp n).toNat - 1) (by
    have : 2 ^ (fp n).toNat ≤ 2 ^ 256 := Nat.pow_le_pow_right (by omega) (by omega)
    have := Nat.two_pow_pos (fp n).toNat
    omega)
  have hbl := blen_ones (fp n).toNat
  all_goals repeat' (first
    | ((first
       | (with_reducible refine ops_k ?_; intro X hX)
       | (with_reducible refine opsN_k ?_; intro X hX)
       | (with_reducible show awp _ _ _ _ (keepL _ _) _)
       | (with_reducible refine hX _ _ _ _ ?_; clear hX X)
       | (with_reducible refine opsD_k ?_; intro X hX)
       | with_reducible refine awp_cond_k ?_
       | (with_reducible refine Brk_i ?_ ?_ <;> intro hb <;> (try simp only [hb]) <;> have hq := hb <;> try simp only [decide_eq_true_eq, decide_eq_false_iff_not, gt_iff_lt, ge_iff_le, Int.not_lt, Int.not_le, beq_iff_eq, beq_eq_false_iff_ne, Bool.not_eq_true', Bool.not_eq_false', Bool.and_eq_true, Bool.or_eq_true, Bool.and_eq_false_imp, Bool.or_eq_false_iff, ne_eq, Classical.not_not] at hq)
       | with_reducible refine retP_ret_i ?_
       | with_reducible refine retP_normal_i ?_
       | (with_reducible (show bindG _ _ _ _ _); simp only [hall])) <;> try simp only [Go.AM.S1, Go.AM.S2, Go.AM.S3, Go.AM.S4, Go.AM.S5, Go.AM.S6, Go.AM.S7, Go.AM.S8, Go.AM.S9, Nat.reduceAdd, Nat.reduceMul, Nat.reduceSub, ↓reduceIte, Nat.reduceEqDiff, Nat.reduceLT, Nat.reduceLeDiff, reduceCtorEq, Int.reduceBEq, Int.reduceBNe, Nat.reduceBEq, Int.reduceEq, Int.reduceToNat, Int.reduceLE, Int.reduceLT, Nat.reduceDiv, Int.reduceAdd, Int.reduceSub, Int.reduceMul, Int.reduceNeg, Int.reduceGT, Int.reduceGE, Nat.reduceMod, k73_23, s23_eq, k73_42, s42_eq, k73_63, s63_eq, ty_3, ty_4, ty_9, ty_26, ty_28, ty_53, ty_58, hI, infoT, hO, V4_x, hM])
    | (with_reducible refine hX _ _ ?_; clear hX X)
    | (with_reducible refine opsD_nil_i ?_; try clear hall all)
    | (with_reducible refine keysB_i ?_; kernel_rfl)
    | ((with_reducible show clashK _ _ _ = true); kernel_rfl)
    | (with_reducible refine ops_nil_i ?_; try clear hall all)
    | (with_reducible refine opsN_nil_i ?_; try clear hall all)
    | (with_reducible refine hK _ _ ?_; clear hK K)
    | with_reducible refine thenP_normal_i ?_
    | (with_reducible refine zzr4 _ _ ?_; try clear zzr4 Kzzr4)
    | (with_reducible refine zzsr2 _ _ ?_; try clear zzsr2 Kzzsr2)
    | (with_reducible refine zzr3 _ _ ?_; try clear zzr3 Kzzr3)
    | (with_reducible refine zzr2 _ _ ?_; try clear zzr2 Kzzr2)
    | (with_reducible refine zzr1 _ _ ?_; try clear zzr1 Kzzr1)
    | (with_reducible refine zzr0 _ _ ?_; try clear zzr0 Kzzr0)
    | (with_reducible refine awp_seq_l (a := .region 4 _ _) [4, 5] ?_; intro Kzzr4 zzr4)
    | (with_reducible refine awp_seq_l (a := .seq (.region 2 _ _) _) [0, 1, 4, 6] ?_; intro Kzzsr2 zzsr2)
    | (with_reducible refine awp_seq_l (a := .region 3 _ _) [4, 5] ?_; intro Kzzr3 zzr3)
    | (with_reducible refine awp_seq_l (a := .region 2 _ _) [0, 1, 4, 6, 15] ?_; intro Kzzr2 zzr2)
    | (with_reducible refine awp_seq_l (a := .region 1 _ _) [0, 1, 4, 6, 7] ?_; intro Kzzr1 zzr1)
    | (with_reducible refine awp_seq_l (a := .region 0 _ _) [0, 1, 4] ?_; intro Kzzr0 zzr0)
    | (with_reducible refine awp_seq_k ?_; intro K hK)
    | (with_reducible refine awp_region_a ?_; intro all hall K hK)
    | (with_reducible refine awp_draw_a (id := 4) ?_ ?_; kernel_rfl; intro all hall K hK)
    | (with_reducible refine awp_draw_n ?_ ?_; kernel_rfl; intro all hall K hK)
    | (with_reducible refine Chk_i ?_ ?_)
    | (with_reducible refine keysC_i ?_; kernel_rfl)
    | (with_reducible first | refine awp_block_i ?_ | refine awp_skip_i ?_ | refine awp_ret_i ?_ | refine awp_exit_i ?_ | refine thenP_ret_i ?_ | refine thenP_exit_i ?_ | refine lpP_ret_i ?_ | refine lpP_exit_i ?_ | refine unrP_succ_i ?_ | refine unrP_ret_i ?_ | refine unrP_exit_i ?_ | refine blockP_normal_i ?_ | refine blockP_ret_i ?_)
    | (with_reducible refine blockP_exit_i ?_; simp only [↓reduceIte, Nat.reduceEqDiff])
    | with_reducible refine lpP_normal_i ?_)
  all_goals (try clear zzr0; try clear Kzzr0)
  all_goals (try clear zzr1; try clear Kzzr1)
  all_goals (try clear zzr2; try clear Kzzr2)
  all_goals (try clear zzr3; try clear Kzzr3)
  all_goals (try clear zzsr2; try clear Kzzsr2)
  all_goals (try clear zzr4; try clear Kzzr4)
  all_goals (try simp only [inR])
  all_goals first
    | omega
    | exact ⟨hp, ⟨w4_lim _ _, w4_lim _ _, w4_lim _ _, w4_lim _ _⟩, .inl ⟨rfl, rfl, by omega, by omega, .inl (by omega)⟩⟩
    | skip
theorem sound_73 : Sound Try.prog 73 .body (norm s73) := by
  refine sound_norm (sound_body Try.func73 (show Try.f73.body = some (code Try.f73) from rfl) (by kernel_rfl) tysOk G73_ok (drawOk_ok (by kernel_rfl) tysOk G73_ok) (by kernel_rfl) fun ds p r hs hp => ?_)
  unfold s73 at hs
  split at hs
  · cases hs; exact ⟨Nat.le_of_ble_eq_true (by kernel_rfl), w73 _ _ hp⟩
  · cases hs
end Go.Proofs.AMT
set_option maxRecDepth 20000
namespace Go.Proofs.AMT
open Go.AM Go.AM.LN
attribute [local congr] bindO_congr bindS_congr bindG_congr awpOps_congr aOne_congr awp_congr aCond_congr awpD_congr dOne_congr keysB_congr nOne_congr thenP_congr blockP_congr Chk_congr Brk_congr
noncomputable def s74 : CSpec := fun ds => match ds with
  | [.v (.int .i64 d), .v (.bool s)] => some (True, .one (.v (.bool (infS d s))))
  | _ => none
theorem s74_eq (d : Int) (s : Bool) : norm s74 [.v (.int .i64 d), .v (.bool s)] = some (True, .one (.v (.bool (infS d s)))) := rfl
noncomputable def G74 : Gam := []
theorem G74_ok : GamOk Try.prog G74 := gamOk_nil
set_option maxHeartbeats 20000000 in
theorem w74 (d : Int) (s : Bool) (hp : True) : awp ty G74 (code Try.f74) (retP ty Try.f74.results.toList (.one (.v (.bool (infS d s))))) (entry 0 [.v (.int .i64 d), .v (.bool s)]) [] := by
  unfold code
  simp only [Try.f74, Option.getD_some]
  all_goals repeat' (first
    | ((first
       | (with_reducible refine ops_k ?_; intro X hX)
       | (with_reducible refine opsN_k ?_; intro X hX)
       | (with_reducible show awp _ _ _ _ (keepL _ _) _)
       | with_reducible refine awp_cond_k ?_
       | (with_reducible refine Brk_i ?_ ?_ <;> intro hb <;> (try simp only [hb]) <;> have hq := hb <;> try simp only [decide_eq_true_eq, decide_eq_false_iff_not, gt_iff_lt, ge_iff_le, Int.not_lt, Int.not_le, beq_iff_eq, beq_eq_false_iff_ne, Bool.not_eq_true', Bool.not_eq_false', Bool.and_eq_true, Bool.or_eq_true, Bool.and_eq_false_imp, Bool.or_eq_false_iff, ne_eq, Classical.not_not] at hq)
       | with_reducible refine retP_ret_i ?_
       | with_reducible refine retP_normal_i ?_
       | (with_reducible (show bindG _ _ _ _ _); simp only [hall])) <;> try simp only [Go.AM.S1, Go.AM.S2, Go.AM.S3, Go.AM.S4, Go.AM.S5, Go.AM.S6, Go.AM.S7, Go.AM.S8, Go.AM.S9, Nat.reduceAdd, Nat.reduceMul, Nat.reduceSub, ↓reduceIte, Nat.reduceEqDiff, Nat.reduceLT, Nat.reduceLeDiff, reduceCtorEq, Int.reduceBEq, Int.reduceBNe, Nat.reduceBEq, Int.reduceEq, Int.reduceToNat, Int.reduceLE, Int.reduceLT, Nat.reduceDiv, Int.reduceAdd, Int.reduceSub, Int.reduceMul, Int.reduceNeg, Int.reduceGT, Int.reduceGE, Nat.reduceMod, ty_3, ty_4])
    | (with_reducible refine hX _ _ ?_; clear hX X)
    | (with_reducible refine ops_nil_i ?_; try clear hall all)
    | (with_reducible refine opsN_nil_i ?_; try clear hall all)
    | (with_reducible refine hK _ _ ?_; clear hK K)
    | with_reducible refine thenP_normal_i ?_
    | (with_reducible refine zzr1 _ _ ?_; try clear zzr1 Kzzr1)
    | (with_reducible refine zzr0 _ _ ?_; try clear zzr0 Kzzr0)
    | (with_reducible refine awp_seq_l (a := .region 1 _ _) [4] ?_; intro Kzzr1 zzr1)
    | (with_reducible refine awp_seq_l (a := .region 0 _ _) [0, 1] ?_; intro Kzzr0 zzr0)
    | (with_reducible refine awp_seq_k ?_; intro K hK)
    | (with_reducible refine awp_region_a ?_; intro all hall K hK)
    | (with_reducible refine awp_draw_n ?_ ?_; kernel_rfl; intro all hall K hK)
    | (with_reducible refine Chk_i ?_ ?_)
    | (with_reducible refine keysC_i ?_; kernel_rfl)
    | (with_reducible first | refine awp_block_i ?_ | refine awp_skip_i ?_ | refine awp_ret_i ?_ | refine awp_exit_i ?_ | refine thenP_ret_i ?_ | refine thenP_exit_i ?_ | refine lpP_ret_i ?_ | refine lpP_exit_i ?_ | refine unrP_succ_i ?_ | refine unrP_ret_i ?_ | refine unrP_exit_i ?_ | refine blockP_normal_i ?_ | refine blockP_ret_i ?_)
    | (with_reducible refine blockP_exit_i ?_; simp only [↓reduceIte, Nat.reduceEqDiff])
    | with_reducible refine lpP_normal_i ?_)
  all_goals (try clear zzr0; try clear Kzzr0)
  all_goals (try clear zzr1; try clear Kzzr1)
  all_goals (unfold infS; refine congrArg _ ?_; repeat' split)
  all_goals first
    | (exfalso; omega)
    | rfl
    | (cases s <;> first | rfl | simp at * | (exfalso; omega))
theorem sound_74 : Sound Try.prog 74 .body (norm s74) := by
  refine sound_norm (sound_body Try.func74 (show Try.f74.body = some (code Try.f74) from rfl) (by kernel_rfl) tysOk G74_ok (drawOk_ok (by kernel_rfl) tysOk G74_ok) (by kernel_rfl) fun ds p r hs hp => ?_)
  unfold s74 at hs
  split at hs
  · cases hs; exact ⟨Nat.le_of_ble_eq_true (by kernel_rfl), w74 _ _ hp⟩
  · cases hs
end Go.Proofs.AMT
set_option maxRecDepth 20000
namespace Go.Proofs.AMT
open Go.AM Go.AM.LN
attribute [local congr] bindO_congr bindS_congr bindG_congr awpOps_congr aOne_congr awp_congr aCond_congr awpD_congr dOne_congr keysB_congr nOne_congr thenP_congr blockP_congr Chk_congr Brk_congr
noncomputable def s47 : CSpec := fun ds => match ds with
  | [.v (.int .i64 n), .v (.int .i64 d), .v (.bool s)] => some (1 ≤ n ∧ n ≤ 6, .many [.v (.agg #[.int .u64 (w4 (ovV n d s) 0), .int .u64 (w4 (ovV n d s) 1), .int .u64 (w4 (ovV n d s) 2), .int .u64 (w4 (ovV n d s) 3)]), .v (.int .i64 10), .v (.int .i64 0)])
  | _ => none
theorem s47_eq (n : Int) (d : Int) (s : Bool) : norm s47 [.v (.int .i64 n), .v (.int .i64 d), .v (.bool s)] = some (1 ≤ n ∧ n ≤ 6, .many [.v (.agg #[.int .u64 (w4 (ovV n d s) 0), .int .u64 (w4 (ovV n d s) 1), .int .u64 (w4 (ovV n d s) 2), .int .u64 (w4 (ovV n d s) 3)]), .v (.int .i64 10), .v (.int .i64 0)]) := rfl
noncomputable def G47 : Gam := [(42, .body, norm s42), (73, .body, norm s73), (74, .body, norm s74)]
theorem G47_ok : GamOk Try.prog G47 := gamOk_cons sound_42 (gamOk_cons sound_73 (gamOk_cons sound_74 gamOk_nil))
theorem k47_42 : lk G47 42 = some (.body, norm s42) := rfl
theorem k47_73 : lk G47 73 = some (.body, norm s73) := rfl
theorem k47_74 : lk G47 74 = some (.body, norm s74) := rfl
set_option maxHeartbeats 20000000 in
theorem w47 (n : Int) (d : Int) (s : Bool) (hp : 1 ≤ n ∧ n ≤ 6) : awp ty G47 (code Try.f47) (retP ty Try.f47.results.toList (.many [.v (.agg #[.int .u64 (w4 (ovV n d s) 0), .int .u64 (w4 (ovV n d s) 1), .int .u64 (w4 (ovV n d s) 2), .int .u64 (w4 (ovV n d s) 3)]), .v (.int .i64 10), .v (.int .i64 0)])) (entry 0 [.v (.int .i64 n), .v (.int .i64 d), .v (.bool s)]) [] := by
  unfold code
  simp only [Try.f47, Option.getD_some]
  obtain ⟨F1, F2, F3, F4, F5, F6, F7, F8, F9, F10, F11⟩ := bfmt hp
  have ov1 : infS d s = true → ovV n d s = packS n 2 s false 0 0 := fun h => if_pos h
  have ov0 : infS d s = false → ovV n d s = packS n 1 s false (2 ^ (fp n).toNat - 1) (fe n + 1 - fp n) := fun h => if_neg (by rw [h]; exact Bool.false_ne_true)
  rcases Bool.eq_false_or_eq_true (infS d s) with hi | hi
  all_goals first
    | rw [ov1 hi]
    | rw [ov0 hi]
  all_goals repeat' (first
    | ((first
       | (with_reducible refine ops_k ?_; intro X hX)
       | (with_reducible refine opsN_k ?_; intro X hX)
       | (with_reducible show awp _ _ _ _ (keepL _ _) _)
       | with_reducible refine awp_cond_k ?_
       | (with_reducible refine Brk_i ?_ ?_ <;> intro hb <;> (try simp only [hb]) <;> have hq := hb <;> try simp only [decide_eq_true_eq, decide_eq_false_iff_not, gt_iff_lt, ge_iff_le, Int.not_lt, Int.not_le, beq_iff_eq, beq_eq_false_iff_ne, Bool.not_eq_true', Bool.not_eq_false', Bool.and_eq_true, Bool.or_eq_true, Bool.and_eq_false_imp, Bool.or_eq_false_iff, ne_eq, Classical.not_not] at hq)
       | with_reducible refine retP_ret_i ?_
       | with_reducible refine retP_normal_i ?_
       | (with_reducible (show bindG _ _ _ _ _); simp only [hall])) <;> try simp only [Go.AM.S1, Go.AM.S2, Go.AM.S3, Go.AM.S4, Go.AM.S5, Go.AM.S6, Go.AM.S7, Go.AM.S8, Go.AM.S9, Nat.reduceAdd, Nat.reduceMul, Nat.reduceSub, ↓reduceIte, Nat.reduceEqDiff, Nat.reduceLT, Nat.reduceLeDiff, reduceCtorEq, Int.reduceBEq, Int.reduceBNe, Nat.reduceBEq, Int.reduceEq, Int.reduceToNat, Int.reduceLE, Int.reduceLT, Nat.reduceDiv, Int.reduceAdd, Int.reduceSub, Int.reduceMul, Int.reduceNeg, Int.reduceGT, Int.reduceGE, Nat.reduceMod, k47_42, s42_eq, k47_73, s73_eq, k47_74, s74_eq, ty_3, ty_4, ty_26, ty_28, ty_53, hi, V4_x])
    | (with_reducible refine hX _ _ ?_; clear hX X)
    | (with_reducible refine ops_nil_i ?_; try clear hall all)
    | (with_reducible refine opsN_nil_i ?_; try clear hall all)
    | (with_reducible refine hK _ _ ?_; clear hK K)
    | with_reducible refine thenP_normal_i ?_
    | (with_reducible refine zzr4 _ _ ?_; try clear zzr4 Kzzr4)
    | (with_reducible refine zzsr2 _ _ ?_; try clear zzsr2 Kzzsr2)
    | (with_reducible refine zzr2 _ _ ?_; try clear zzr2 Kzzr2)
    | (with_reducible refine zzr1 _ _ ?_; try clear zzr1 Kzzr1)
    | (with_reducible refine zzr0 _ _ ?_; try clear zzr0 Kzzr0)
    | (with_reducible refine awp_seq_l (a := .region 4 _ _) [6, 7, 8] ?_; intro Kzzr4 zzr4)
    | (with_reducible refine awp_seq_l (a := .seq (.region 2 _ _) _) [6, 9, 10] ?_; intro Kzzsr2 zzsr2)
    | (with_reducible refine awp_seq_l (a := .region 2 _ _) [0, 2, 6, 9, 10, 19] ?_; intro Kzzr2 zzr2)
    | (with_reducible refine awp_seq_l (a := .region 1 _ _) [0, 1, 2, 6, 9, 10] ?_; intro Kzzr1 zzr1)
    | (with_reducible refine awp_seq_l (a := .region 0 _ _) [0, 1, 2, 6] ?_; intro Kzzr0 zzr0)
    | (with_reducible refine awp_seq_k ?_; intro K hK)
    | (with_reducible refine awp_region_a ?_; intro all hall K hK)
    | (with_reducible refine awp_draw_n ?_ ?_; kernel_rfl; intro all hall K hK)
    | (with_reducible refine Chk_i ?_ ?_)
    | (with_reducible refine keysC_i ?_; kernel_rfl)
    | (with_reducible first | refine awp_block_i ?_ | refine awp_skip_i ?_ | refine awp_ret_i ?_ | refine awp_exit_i ?_ | refine thenP_ret_i ?_ | refine thenP_exit_i ?_ | refine lpP_ret_i ?_ | refine lpP_exit_i ?_ | refine unrP_succ_i ?_ | refine unrP_ret_i ?_ | refine unrP_exit_i ?_ | refine blockP_normal_i ?_ | refine blockP_ret_i ?_)
    | (with_reducible refine blockP_exit_i ?_; simp only [↓reduceIte, Nat.reduceEqDiff])
    | with_reducible refine lpP_normal_i ?_)
  all_goals (try clear zzr0; try clear Kzzr0)
  all_goals (try clear zzr1; try clear Kzzr1)
  all_goals (try clear zzr2; try clear Kzzr2)
  all_goals (try clear zzsr2; try clear Kzzsr2)
  all_goals (try clear zzr4; try clear Kzzr4)
  all_goals first
    | omega
    | exact ⟨hp, .inr (.inl ⟨rfl, rfl, rfl, rfl⟩)⟩
    | skip
theorem sound_47 : Sound Try.prog 47 .body (norm s47) := by
  refine sound_norm (sound_body Try.func47 (show Try.f47.body = some (code Try.f47) from rfl) (by kernel_rfl) tysOk G47_ok (drawOk_ok (by kernel_rfl) tysOk G47_ok) (by kernel_rfl) fun ds p r hs hp => ?_)
  unfold s47 at hs
  split at hs
  · cases hs; exact ⟨Nat.le_of_ble_eq_true (by kernel_rfl), w47 _ _ _ hp⟩
  · cases hs
end Go.Proofs.AMT
