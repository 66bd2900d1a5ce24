/- Part 6 of the proof: own text (FlimbsBit, Fbinaryor, FbinaryLay, FbinaryOf, LN24, FbinaryUnpack, LN27, LN29, LN30, LN25, LN26, LN31, LN28, LN32, LN33, LN34, LS, LT, Fnatsize, FnatTrim). -/
import Derived.Lib.ItoaNum
import Derived.Lib.TrimByte
import Derived.Test.YtknejocjkjpfmaaGreatDoorK0
import Derived.Test.YtknejocjkjpfmaaGreatDoorK1
import Derived.Test.YtknejocjkjpfmaaGreatDoorK2
import Derived.Test.YtknejocjkjpfmaaGreatDoorK3
import Derived.Test.YtknejocjkjpfmaaGreatDoorK4
import Derived.Test.YtknejocjkjpfmaaGreatDoorK5
set_option linter.all false
set_option maxRecDepth 20000
namespace Go.Proofs.AMT
open Go.AM Go.AM.LN
attribute [local congr] bindO_congr bindS_congr bindG_congr awpOps_congr aOne_congr awp_congr aCond_congr awpD_congr dOne_congr keysB_congr nOne_congr thenP_congr blockP_congr Chk_congr Brk_congr
noncomputable def s21 : CSpec := fun ds => match ds with
  | [.v (.agg ⟨[.int .u64 a0, .int .u64 a1, .int .u64 a2, .int .u64 a3]⟩), .v (.int .i64 n)] => some (((0 ≤ a0 ∧ a0 < 18446744073709551616) ∧ (0 ≤ a1 ∧ a1 < 18446744073709551616) ∧ (0 ≤ a2 ∧ a2 < 18446744073709551616) ∧ (0 ≤ a3 ∧ a3 < 18446744073709551616)) ∧ 0 ≤ n ∧ n < 256, .one (.v (.int .u64 (((V4 a0 a1 a2 a3) / 2 ^ n.toNat % 2 : Nat)))))
  | _ => none
theorem s21_eq (a0 a1 a2 a3 : Int) (n : Int) : norm s21 [.v (.agg #[.int .u64 a0, .int .u64 a1, .int .u64 a2, .int .u64 a3]), .v (.int .i64 n)] = some (((0 ≤ a0 ∧ a0 < 18446744073709551616) ∧ (0 ≤ a1 ∧ a1 < 18446744073709551616) ∧ (0 ≤ a2 ∧ a2 < 18446744073709551616) ∧ (0 ≤ a3 ∧ a3 < 18446744073709551616)) ∧ 0 ≤ n ∧ n < 256, .one (.v (.int .u64 (((V4 a0 a1 a2 a3) / 2 ^ n.toNat % 2 : Nat))))) := rfl
noncomputable def G21 : Gam := []
theorem G21_ok : GamOk Tryz.prog G21 := gamOk_nil
set_option maxHeartbeats 20000000 in
theorem wk21 (a0 a1 a2 a3 : Int) (n : Int) (hp : ((0 ≤ a0 ∧ a0 < 18446744073709551616) ∧ (0 ≤ a1 ∧ a1 < 18446744073709551616) ∧ (0 ≤ a2 ∧ a2 < 18446744073709551616) ∧ (0 ≤ a3 ∧ a3 < 18446744073709551616)) ∧ 0 ≤ n ∧ n < 256) : awp ty G21 (code Tryz.f21) (retP ty Tryz.f21.results.toList (.one (.v (.int .u64 (((V4 a0 a1 a2 a3) / 2 ^ n.toNat % 2 : Nat)))))) (entry 0 [.v (.agg #[.int .u64 a0, .int .u64 a1, .int .u64 a2, .int .u64 a3]), .v (.int .i64 n)]) [] := by
  unfold code
  simp only [Tryz.f21, Option.getD_some]
  obtain ⟨k, rfl⟩ := Int.eq_ofNat_of_zero_le (show 0 ≤ n by omega)
  have hk : k = 64 * (k / 64) + k % 64 := by omega
  generalize hw : k / 64 = w at *
  generalize hs : k % 64 = s at *
  have hd : (k : Int).tdiv 64 = (w : Int) := by rw [Int.tdiv_eq_ediv_of_nonneg (by omega)]; omega
  have hm : (k : Int).tmod 64 = (s : Int) := by rw [Int.tmod_eq_emod_of_nonneg (by omega)]; omega
  have hmm : (s : Int) % 18446744073709551616 = (s : Int) := by omega
  have m1 : min s 64 = s := by omega
  have m2 : (64 - (s : Int)).toNat = 64 - s := by omega
  have m4 : (64 - (s : Int)) % 18446744073709551616 = 64 - (s : Int) := by omega
  have m3 : min (64 - s) 64 = 64 - s := by omega
  obtain ⟨ha0, ha1, ha2, ha3⟩ := hp.1
  have g1 : decide ((k : Int) < 0) = false := by simp
  have g2 : decide ((k : Int) ≥ 256) = false := by simp only [decide_eq_false_iff_not]; omega
  have hw4 : w = 0 ∨ w = 1 ∨ w = 2 ∨ w = 3 := by omega
  rcases hw4 with h | h | h | h
  all_goals subst h
  all_goals first
    | replace hd : (k : Int).tdiv 64 = 0 := hd
    | replace hd : (k : Int).tdiv 64 = 1 := hd
    | replace hd : (k : Int).tdiv 64 = 2 := hd
    | replace hd : (k : Int).tdiv 64 = 3 := hd
  all_goals repeat' (first
    | ((first
       | (with_reducible refine ops_k ?_; intro X hX)
       | (with_reducible refine opsN_k ?_; intro X hX)
       | (with_reducible show awp _ _ _ _ (keepL _ _) _)
       | with_reducible refine awp_cond_k ?_
       | (with_reducible refine Brk_i ?_ ?_ <;> intro hb <;> (try simp only [hb]) <;> have hq := hb <;> try simp only [decide_eq_true_eq, decide_eq_false_iff_not, gt_iff_lt, ge_iff_le, Int.not_lt, Int.not_le, beq_iff_eq, beq_eq_false_iff_ne, Bool.not_eq_true', Bool.not_eq_false', Bool.and_eq_true, Bool.or_eq_true, Bool.and_eq_false_imp, Bool.or_eq_false_iff, ne_eq, Classical.not_not] at hq)
       | with_reducible refine retP_ret_i ?_
       | with_reducible refine retP_normal_i ?_
       | (with_reducible (show bindG _ _ _ _ _); simp only [hall])) <;> try simp only [Go.AM.S1, Go.AM.S2, Go.AM.S3, Go.AM.S4, Go.AM.S5, Go.AM.S6, Go.AM.S7, Go.AM.S8, Go.AM.S9, Nat.reduceAdd, Nat.reduceMul, Nat.reduceSub, ↓reduceIte, Nat.reduceEqDiff, Nat.reduceLT, Nat.reduceLeDiff, reduceCtorEq, Int.reduceBEq, Int.reduceBNe, Nat.reduceBEq, Int.reduceEq, Int.reduceToNat, Int.reduceLE, Int.reduceLT, Nat.reduceDiv, Int.reduceAdd, Int.reduceSub, Int.reduceMul, Int.reduceNeg, Int.reduceGT, Int.reduceGE, Nat.reduceMod, ty_3, ty_22, ty_23, hd, hm, m1, IntKind.bits, g1, g2])
    | (with_reducible refine hX _ _ ?_; clear hX X)
    | (with_reducible refine ops_nil_i ?_; try clear hall all)
    | (with_reducible refine opsN_nil_i ?_; try clear hall all)
    | (with_reducible refine hK _ _ ?_; clear hK K)
    | with_reducible refine thenP_normal_i ?_
    | (with_reducible refine zzr3 _ _ ?_; try clear zzr3 Kzzr3)
    | (with_reducible refine zzsr1 _ _ ?_; try clear zzsr1 Kzzsr1)
    | (with_reducible refine zzr2 _ _ ?_; try clear zzr2 Kzzr2)
    | (with_reducible refine zzr1 _ _ ?_; try clear zzr1 Kzzr1)
    | (with_reducible refine zzr0 _ _ ?_; try clear zzr0 Kzzr0)
    | (with_reducible refine awp_seq_l (a := .region 3 _ _) [4] ?_; intro Kzzr3 zzr3)
    | (with_reducible refine awp_seq_l (a := .seq (.region 1 _ _) _) [1, 2] ?_; intro Kzzsr1 zzsr1)
    | (with_reducible refine awp_seq_l (a := .region 2 _ _) [4] ?_; intro Kzzr2 zzr2)
    | (with_reducible refine awp_seq_l (a := .region 1 _ _) [1, 2, 13] ?_; intro Kzzr1 zzr1)
    | (with_reducible refine awp_seq_l (a := .region 0 _ _) [1, 2] ?_; intro Kzzr0 zzr0)
    | (with_reducible refine awp_seq_k ?_; intro K hK)
    | (with_reducible refine awp_region_a ?_; intro all hall K hK)
    | (with_reducible refine awp_draw_n ?_ ?_; kernel_rfl; intro all hall K hK)
    | (with_reducible refine Chk_i ?_ ?_)
    | (with_reducible refine keysC_i ?_; kernel_rfl)
    | (with_reducible first | refine awp_block_i ?_ | refine awp_skip_i ?_ | refine awp_ret_i ?_ | refine awp_exit_i ?_ | refine thenP_ret_i ?_ | refine thenP_exit_i ?_ | refine lpP_ret_i ?_ | refine lpP_exit_i ?_ | refine unrP_succ_i ?_ | refine unrP_ret_i ?_ | refine unrP_exit_i ?_ | refine blockP_normal_i ?_ | refine blockP_ret_i ?_)
    | (with_reducible refine blockP_exit_i ?_; simp only [↓reduceIte, Nat.reduceEqDiff])
    | with_reducible refine lpP_normal_i ?_)
  all_goals (try clear zzr0; try clear Kzzr0)
  all_goals (try clear zzr1; try clear Kzzr1)
  all_goals (try clear zzr2; try clear Kzzr2)
  all_goals (try clear zzsr1; try clear Kzzsr1)
  all_goals (try clear zzr3; try clear Kzzr3)
  all_goals (try simp only [inR])
  all_goals first
    | omega
    | skip
  all_goals rw [hk]
  all_goals have hb4 := bit4 ha0 ha1 ha2 ha3 (show s < 64 by omega)
  · rw [hb4.1]
  · rw [hb4.2.1]
  · rw [hb4.2.2.1]
  · rw [hb4.2.2.2]
theorem sound_21 : Sound Tryz.prog 21 .body (norm s21) := by
  refine sound_norm (sound_body Tryz.func21 (show Tryz.f21.body = some (code Tryz.f21) from rfl) (by kernel_rfl) tysOk G21_ok (drawOk_ok (by kernel_rfl) tysOk G21_ok) (by kernel_rfl) fun ds p r hs hp => ?_)
  unfold s21 at hs
  split at hs
  · cases hs; exact ⟨Nat.le_of_ble_eq_true (by kernel_rfl), wk21 _ _ _ _ _ hp⟩
  · cases hs
end Go.Proofs.AMT
set_option maxRecDepth 20000
namespace Go.Proofs.AMT
open Go.AM Go.AM.LN
attribute [local congr] bindO_congr bindS_congr bindG_congr awpOps_congr aOne_congr awp_congr aCond_congr awpD_congr dOne_congr keysB_congr nOne_congr thenP_congr blockP_congr Chk_congr Brk_congr
noncomputable def s44 : CSpec := fun ds => match ds with
  | [.v (.agg ⟨[.int .u64 a0, .int .u64 a1, .int .u64 a2, .int .u64 a3]⟩), .v (.agg ⟨[.int .u64 b0, .int .u64 b1, .int .u64 b2, .int .u64 b3]⟩)] => some (True, .one (.v (.agg #[.int .u64 (AM.bits .or .u64 a0 b0), .int .u64 (AM.bits .or .u64 a1 b1), .int .u64 (AM.bits .or .u64 a2 b2), .int .u64 (AM.bits .or .u64 a3 b3)])))
  | _ => none
theorem s44_eq (a0 a1 a2 a3 : Int) (b0 b1 b2 b3 : Int) : norm s44 [.v (.agg #[.int .u64 a0, .int .u64 a1, .int .u64 a2, .int .u64 a3]), .v (.agg #[.int .u64 b0, .int .u64 b1, .int .u64 b2, .int .u64 b3])] = some (True, .one (.v (.agg #[.int .u64 (AM.bits .or .u64 a0 b0), .int .u64 (AM.bits .or .u64 a1 b1), .int .u64 (AM.bits .or .u64 a2 b2), .int .u64 (AM.bits .or .u64 a3 b3)]))) := rfl
noncomputable def G44 : Gam := []
theorem G44_ok : GamOk Tryz.prog G44 := gamOk_nil
set_option maxHeartbeats 20000000 in
theorem wk44 (a0 a1 a2 a3 : Int) (b0 b1 b2 b3 : Int) (hp : True) : awp ty G44 (code Tryz.f44) (retP ty Tryz.f44.results.toList (.one (.v (.agg #[.int .u64 (AM.bits .or .u64 a0 b0), .int .u64 (AM.bits .or .u64 a1 b1), .int .u64 (AM.bits .or .u64 a2 b2), .int .u64 (AM.bits .or .u64 a3 b3)])))) (entry 0 [.v (.agg #[.int .u64 a0, .int .u64 a1, .int .u64 a2, .int .u64 a3]), .v (.agg #[.int .u64 b0, .int .u64 b1, .int .u64 b2, .int .u64 b3])]) [] := by
  unfold code
  simp only [Tryz.f44, Option.getD_some]
  all_goals repeat' (first
    | ((first
       | (with_reducible refine ops_k ?_; intro X hX)
       | (with_reducible refine opsN_k ?_; intro X hX)
       | (with_reducible show awp _ _ _ _ (keepL _ _) _)
       | (with_reducible refine hX _ _ _ _ ?_; clear hX X)
       | (with_reducible refine opsD_k ?_; intro X hX)
       | with_reducible refine awp_cond_k ?_
       | (with_reducible refine Brk_i ?_ ?_ <;> intro hb <;> (try simp only [hb]) <;> have hq := hb <;> try simp only [decide_eq_true_eq, decide_eq_false_iff_not, gt_iff_lt, ge_iff_le, Int.not_lt, Int.not_le, beq_iff_eq, beq_eq_false_iff_ne, Bool.not_eq_true', Bool.not_eq_false', Bool.and_eq_true, Bool.or_eq_true, Bool.and_eq_false_imp, Bool.or_eq_false_iff, ne_eq, Classical.not_not] at hq)
       | with_reducible refine retP_ret_i ?_
       | with_reducible refine retP_normal_i ?_
       | (with_reducible (show bindG _ _ _ _ _); simp only [hall])) <;> try simp only [Go.AM.S1, Go.AM.S2, Go.AM.S3, Go.AM.S4, Go.AM.S5, Go.AM.S6, Go.AM.S7, Go.AM.S8, Go.AM.S9, Nat.reduceAdd, Nat.reduceMul, Nat.reduceSub, ↓reduceIte, Nat.reduceEqDiff, Nat.reduceLT, Nat.reduceLeDiff, reduceCtorEq, Int.reduceBEq, Int.reduceBNe, Nat.reduceBEq, Int.reduceEq, Int.reduceToNat, Int.reduceLE, Int.reduceLT, Nat.reduceDiv, Int.reduceAdd, Int.reduceSub, Int.reduceMul, Int.reduceNeg, Int.reduceGT, Int.reduceGE, Nat.reduceMod, ty_3, ty_22, ty_24])
    | (with_reducible refine hX _ _ ?_; clear hX X)
    | (with_reducible refine opsD_nil_i ?_; try clear hall all)
    | (with_reducible refine keysB_i ?_; kernel_rfl)
    | ((with_reducible show clashK _ _ _ = true); kernel_rfl)
    | (with_reducible refine ops_nil_i ?_; try clear hall all)
    | (with_reducible refine opsN_nil_i ?_; try clear hall all)
    | (with_reducible refine hK _ _ ?_; clear hK K)
    | with_reducible refine thenP_normal_i ?_
    | (with_reducible refine zzr6 _ _ ?_; try clear zzr6 Kzzr6)
    | (with_reducible refine zzsr1 _ _ ?_; try clear zzsr1 Kzzsr1)
    | (with_reducible refine zzb1 _ _ ?_; try clear zzb1 Kzzb1)
    | (with_reducible refine zzr3 _ _ ?_; try clear zzr3 Kzzr3)
    | (with_reducible refine zzctmp7 _ _ ?_; try clear zzctmp7 Kzzctmp7)
    | (with_reducible refine zzr2 _ _ ?_; try clear zzr2 Kzzr2)
    | (with_reducible refine zzr1 _ _ ?_; try clear zzr1 Kzzr1)
    | (with_reducible refine zzr0 _ _ ?_; try clear zzr0 Kzzr0)
    | (with_reducible refine awp_unroll (Nat.succ (Nat.succ (Nat.succ (Nat.succ (Nat.succ Nat.zero))))) ?_)
    | (with_reducible refine awp_seq_l (a := .region 6 _ _) [4] ?_; intro Kzzr6 zzr6)
    | (with_reducible refine awp_seq_l (a := .seq (.region 1 _ _) _) [2, 4] ?_; intro Kzzsr1 zzsr1)
    | (with_reducible refine awp_seq_l (a := .block 1 _) [2, 3, 4, 6] ?_; intro Kzzb1 zzb1)
    | (with_reducible refine awp_seq_l (a := .region 3 _ _) [2, 3, 4, 5, 6] ?_; intro Kzzr3 zzr3)
    | (with_reducible refine awp_seq_l (a := .cond (.tmp 7) _ _) [2, 3, 4, 6] ?_; intro Kzzctmp7 zzctmp7)
    | (with_reducible refine awp_seq_l (a := .region 2 _ _) [2, 3, 4, 6, 7] ?_; intro Kzzr2 zzr2)
    | (with_reducible refine awp_seq_l (a := .region 1 _ _) [2, 3, 4, 6] ?_; intro Kzzr1 zzr1)
    | (with_reducible refine awp_seq_l (a := .region 0 _ _) [2, 3, 4] ?_; intro Kzzr0 zzr0)
    | (with_reducible refine awp_seq_k ?_; intro K hK)
    | (with_reducible refine awp_region_a ?_; intro all hall K hK)
    | (with_reducible refine awp_draw_a (id := 4) ?_ ?_; kernel_rfl; intro all hall K hK)
    | (with_reducible refine awp_draw_n ?_ ?_; kernel_rfl; intro all hall K hK)
    | (with_reducible refine Chk_i ?_ ?_)
    | (with_reducible refine keysC_i ?_; kernel_rfl)
    | (with_reducible first | refine awp_block_i ?_ | refine awp_skip_i ?_ | refine awp_ret_i ?_ | refine awp_exit_i ?_ | refine thenP_ret_i ?_ | refine thenP_exit_i ?_ | refine lpP_ret_i ?_ | refine lpP_exit_i ?_ | refine unrP_succ_i ?_ | refine unrP_ret_i ?_ | refine unrP_exit_i ?_ | refine blockP_normal_i ?_ | refine blockP_ret_i ?_)
    | (with_reducible refine blockP_exit_i ?_; simp only [↓reduceIte, Nat.reduceEqDiff])
    | with_reducible refine lpP_normal_i ?_)
  all_goals (try clear zzr0; try clear Kzzr0)
  all_goals (try clear zzr1; try clear Kzzr1)
  all_goals (try clear zzr2; try clear Kzzr2)
  all_goals (try clear zzctmp7; try clear Kzzctmp7)
  all_goals (try clear zzr3; try clear Kzzr3)
  all_goals (try clear zzb1; try clear Kzzb1)
  all_goals (try clear zzsr1; try clear Kzzsr1)
  all_goals (try clear zzr6; try clear Kzzr6)
  all_goals (simp only [inR]; omega)
theorem sound_44 : Sound Tryz.prog 44 .body (norm s44) := by
  refine sound_norm (sound_body Tryz.func44 (show Tryz.f44.body = some (code Tryz.f44) from rfl) (by kernel_rfl) tysOk G44_ok (drawOk_ok (by kernel_rfl) tysOk G44_ok) (by kernel_rfl) fun ds p r hs hp => ?_)
  unfold s44 at hs
  split at hs
  · cases hs; exact ⟨Nat.le_of_ble_eq_true (by kernel_rfl), wk44 _ _ _ _ _ _ _ _ hp⟩
  · cases hs
end Go.Proofs.AMT
set_option maxRecDepth 20000
namespace Go.Proofs.AMT
open Go.AM Go.AM.LN
attribute [local congr] bindO_congr bindS_congr bindG_congr awpOps_congr aOne_congr awp_congr aCond_congr awpD_congr dOne_congr keysB_congr nOne_congr thenP_congr blockP_congr Chk_congr Brk_congr
noncomputable def s22 : CSpec := fun ds => match ds with
  | [.v (.agg ⟨[.int .u64 b0, .int .u64 b1, .int .u64 b2, .int .u64 b3]⟩), .v (.agg ⟨[.int .u64 x0, .int .u64 x1, .int .u64 x2, .int .u64 x3]⟩), .v (.int .i64 p)] => some (((0 ≤ b0 ∧ b0 < 18446744073709551616) ∧ (0 ≤ b1 ∧ b1 < 18446744073709551616) ∧ (0 ≤ b2 ∧ b2 < 18446744073709551616) ∧ (0 ≤ b3 ∧ b3 < 18446744073709551616)) ∧ ((0 ≤ x0 ∧ x0 < 18446744073709551616) ∧ (0 ≤ x1 ∧ x1 < 18446744073709551616) ∧ (0 ≤ x2 ∧ x2 < 18446744073709551616) ∧ (0 ≤ x3 ∧ x3 < 18446744073709551616)) ∧ 0 ≤ p ∧ p < 4000000000, .one (.v (.agg #[.int .u64 (w4 ((V4 b0 b1 b2 b3) ||| ((V4 x0 x1 x2 x3) * 2 ^ p.toNat % 2 ^ 256)) 0), .int .u64 (w4 ((V4 b0 b1 b2 b3) ||| ((V4 x0 x1 x2 x3) * 2 ^ p.toNat % 2 ^ 256)) 1), .int .u64 (w4 ((V4 b0 b1 b2 b3) ||| ((V4 x0 x1 x2 x3) * 2 ^ p.toNat % 2 ^ 256)) 2), .int .u64 (w4 ((V4 b0 b1 b2 b3) ||| ((V4 x0 x1 x2 x3) * 2 ^ p.toNat % 2 ^ 256)) 3)])))
  | _ => none
theorem s22_eq (b0 b1 b2 b3 : Int) (x0 x1 x2 x3 : Int) (p : Int) : norm s22 [.v (.agg #[.int .u64 b0, .int .u64 b1, .int .u64 b2, .int .u64 b3]), .v (.agg #[.int .u64 x0, .int .u64 x1, .int .u64 x2, .int .u64 x3]), .v (.int .i64 p)] = some (((0 ≤ b0 ∧ b0 < 18446744073709551616) ∧ (0 ≤ b1 ∧ b1 < 18446744073709551616) ∧ (0 ≤ b2 ∧ b2 < 18446744073709551616) ∧ (0 ≤ b3 ∧ b3 < 18446744073709551616)) ∧ ((0 ≤ x0 ∧ x0 < 18446744073709551616) ∧ (0 ≤ x1 ∧ x1 < 18446744073709551616) ∧ (0 ≤ x2 ∧ x2 < 18446744073709551616) ∧ (0 ≤ x3 ∧ x3 < 18446744073709551616)) ∧ 0 ≤ p ∧ p < 4000000000, .one (.v (.agg #[.int .u64 (w4 ((V4 b0 b1 b2 b3) ||| ((V4 x0 x1 x2 x3) * 2 ^ p.toNat % 2 ^ 256)) 0), .int .u64 (w4 ((V4 b0 b1 b2 b3) ||| ((V4 x0 x1 x2 x3) * 2 ^ p.toNat % 2 ^ 256)) 1), .int .u64 (w4 ((V4 b0 b1 b2 b3) ||| ((V4 x0 x1 x2 x3) * 2 ^ p.toNat % 2 ^ 256)) 2), .int .u64 (w4 ((V4 b0 b1 b2 b3) ||| ((V4 x0 x1 x2 x3) * 2 ^ p.toNat % 2 ^ 256)) 3)]))) := rfl
noncomputable def G22 : Gam := [(10, .body, norm s10), (44, .body, norm s44)]
theorem G22_ok : GamOk Tryz.prog G22 := gamOk_cons sound_10 (gamOk_cons sound_44 gamOk_nil)
theorem k22_10 : lk G22 10 = some (.body, norm s10) := rfl
theorem k22_44 : lk G22 44 = some (.body, norm s44) := rfl
set_option maxHeartbeats 20000000 in
theorem wk22 (b0 b1 b2 b3 : Int) (x0 x1 x2 x3 : Int) (p : Int) (hp : ((0 ≤ b0 ∧ b0 < 18446744073709551616) ∧ (0 ≤ b1 ∧ b1 < 18446744073709551616) ∧ (0 ≤ b2 ∧ b2 < 18446744073709551616) ∧ (0 ≤ b3 ∧ b3 < 18446744073709551616)) ∧ ((0 ≤ x0 ∧ x0 < 18446744073709551616) ∧ (0 ≤ x1 ∧ x1 < 18446744073709551616) ∧ (0 ≤ x2 ∧ x2 < 18446744073709551616) ∧ (0 ≤ x3 ∧ x3 < 18446744073709551616)) ∧ 0 ≤ p ∧ p < 4000000000) : awp ty G22 (code Tryz.f22) (retP ty Tryz.f22.results.toList (.one (.v (.agg #[.int .u64 (w4 ((V4 b0 b1 b2 b3) ||| ((V4 x0 x1 x2 x3) * 2 ^ p.toNat % 2 ^ 256)) 0), .int .u64 (w4 ((V4 b0 b1 b2 b3) ||| ((V4 x0 x1 x2 x3) * 2 ^ p.toNat % 2 ^ 256)) 1), .int .u64 (w4 ((V4 b0 b1 b2 b3) ||| ((V4 x0 x1 x2 x3) * 2 ^ p.toNat % 2 ^ 256)) 2), .int .u64 (w4 ((V4 b0 b1 b2 b3) ||| ((V4 x0 x1 x2 x3) * 2 ^ p.toNat % 2 ^ 256)) 3)])))) (entry 0 [.v (.agg #[.int .u64 b0, .int .u64 b1, .int .u64 b2, .int .u64 b3]), .v (.agg #[.int .u64 x0, .int .u64 x1, .int .u64 x2, .int .u64 x3]), .v (.int .i64 p)]) [] := by
  unfold code
  simp only [Tryz.f22, Option.getD_some]
  all_goals repeat' (first
    | ((first
       | (with_reducible refine ops_k ?_; intro X hX)
       | (with_reducible refine opsN_k ?_; intro X hX)
       | (with_reducible show awp _ _ _ _ (keepL _ _) _)
       | (with_reducible refine hX _ _ _ _ ?_; clear hX X)
       | (with_reducible refine opsD_k ?_; intro X hX)
       | with_reducible refine awp_cond_k ?_
       | (with_reducible refine Brk_i ?_ ?_ <;> intro hb <;> (try simp only [hb]) <;> have hq := hb <;> try simp only [decide_eq_true_eq, decide_eq_false_iff_not, gt_iff_lt, ge_iff_le, Int.not_lt, Int.not_le, beq_iff_eq, beq_eq_false_iff_ne, Bool.not_eq_true', Bool.not_eq_false', Bool.and_eq_true, Bool.or_eq_true, Bool.and_eq_false_imp, Bool.or_eq_false_iff, ne_eq, Classical.not_not] at hq)
       | with_reducible refine retP_ret_i ?_
       | with_reducible refine retP_normal_i ?_
       | (with_reducible (show bindG _ _ _ _ _); simp only [hall])) <;> try simp only [Go.AM.S1, Go.AM.S2, Go.AM.S3, Go.AM.S4, Go.AM.S5, Go.AM.S6, Go.AM.S7, Go.AM.S8, Go.AM.S9, Nat.reduceAdd, Nat.reduceMul, Nat.reduceSub, ↓reduceIte, Nat.reduceEqDiff, Nat.reduceLT, Nat.reduceLeDiff, reduceCtorEq, Int.reduceBEq, Int.reduceBNe, Nat.reduceBEq, Int.reduceEq, Int.reduceToNat, Int.reduceLE, Int.reduceLT, Nat.reduceDiv, Int.reduceAdd, Int.reduceSub, Int.reduceMul, Int.reduceNeg, Int.reduceGT, Int.reduceGE, Nat.reduceMod, k22_10, s10_eq, k22_44, s44_eq, ty_3, ty_22, ty_23, ty_24])
    | (with_reducible refine hX _ _ ?_; clear hX X)
    | (with_reducible refine opsD_nil_i ?_; try clear hall all)
    | (with_reducible refine keysB_i ?_; kernel_rfl)
    | ((with_reducible show clashK _ _ _ = true); kernel_rfl)
    | (with_reducible refine ops_nil_i ?_; try clear hall all)
    | (with_reducible refine opsN_nil_i ?_; try clear hall all)
    | (with_reducible refine hK _ _ ?_; clear hK K)
    | with_reducible refine thenP_normal_i ?_
    | (with_reducible refine zzr1 _ _ ?_; try clear zzr1 Kzzr1)
    | (with_reducible refine zzr0 _ _ ?_; try clear zzr0 Kzzr0)
    | (with_reducible refine awp_seq_l (a := .region 1 _ _) [6] ?_; intro Kzzr1 zzr1)
    | (with_reducible refine awp_seq_l (a := .region 0 _ _) [2, 3, 4, 6] ?_; intro Kzzr0 zzr0)
    | (with_reducible refine awp_seq_k ?_; intro K hK)
    | (with_reducible refine awp_region_a ?_; intro all hall K hK)
    | (with_reducible refine awp_draw_a (id := 1) ?_ ?_; kernel_rfl; intro all hall K hK)
    | (with_reducible refine awp_draw_n ?_ ?_; kernel_rfl; intro all hall K hK)
    | (with_reducible refine Chk_i ?_ ?_)
    | (with_reducible refine keysC_i ?_; kernel_rfl)
    | (with_reducible first | refine awp_block_i ?_ | refine awp_skip_i ?_ | refine awp_ret_i ?_ | refine awp_exit_i ?_ | refine thenP_ret_i ?_ | refine thenP_exit_i ?_ | refine lpP_ret_i ?_ | refine lpP_exit_i ?_ | refine unrP_succ_i ?_ | refine unrP_ret_i ?_ | refine unrP_exit_i ?_ | refine blockP_normal_i ?_ | refine blockP_ret_i ?_)
    | (with_reducible refine blockP_exit_i ?_; simp only [↓reduceIte, Nat.reduceEqDiff])
    | with_reducible refine lpP_normal_i ?_)
  all_goals (try clear zzr0; try clear Kzzr0)
  all_goals (try clear zzr1; try clear Kzzr1)
  all_goals first
    | omega
    | exact ⟨hp.2.1, hp.2.2⟩
    | skip
  all_goals (obtain ⟨f0, f1, f2, f3⟩ := w4_V4 hp.1.1 hp.1.2.1 hp.1.2.2.1 hp.1.2.2.2)
  all_goals (refine agg4 ⟨?_, ?_, ?_, ?_⟩)
  · rw [← or_w4, f0]
  · rw [← or_w4, f1]
  · rw [← or_w4, f2]
  · rw [← or_w4, f3]
theorem sound_22 : Sound Tryz.prog 22 .body (norm s22) := by
  refine sound_norm (sound_body Tryz.func22 (show Tryz.f22.body = some (code Tryz.f22) from rfl) (by kernel_rfl) tysOk G22_ok (drawOk_ok (by kernel_rfl) tysOk G22_ok) (by kernel_rfl) fun ds p r hs hp => ?_)
  unfold s22 at hs
  split at hs
  · cases hs; exact ⟨Nat.le_of_ble_eq_true (by kernel_rfl), wk22 _ _ _ _ _ _ _ _ _ hp⟩
  · cases hs
end Go.Proofs.AMT
set_option maxRecDepth 20000
namespace Go.Proofs.AMT
open Go.AM Go.AM.LN
attribute [local congr] bindO_congr bindS_congr bindG_congr awpOps_congr aOne_congr awp_congr aCond_congr awpD_congr dOne_congr keysB_congr nOne_congr thenP_congr blockP_congr Chk_congr Brk_congr
noncomputable def s23 : CSpec := fun ds => match ds with
  | [.v (.int .i64 n)] => some (0 ≤ n ∧ n < 9223372036854775808, .one (.v (.agg #[.int .u64 n, .int .u64 0, .int .u64 0, .int .u64 0])))
  | _ => none
theorem s23_eq (n : Int) : norm s23 [.v (.int .i64 n)] = some (0 ≤ n ∧ n < 9223372036854775808, .one (.v (.agg #[.int .u64 n, .int .u64 0, .int .u64 0, .int .u64 0]))) := rfl
noncomputable def G23 : Gam := []
theorem G23_ok : GamOk Tryz.prog G23 := gamOk_nil
set_option maxHeartbeats 20000000 in
theorem wk23 (n : Int) (hp : 0 ≤ n ∧ n < 9223372036854775808) : awp ty G23 (code Tryz.f23) (retP ty Tryz.f23.results.toList (.one (.v (.agg #[.int .u64 n, .int .u64 0, .int .u64 0, .int .u64 0])))) (entry 0 [.v (.int .i64 n)]) [] := by
  unfold code
  simp only [Tryz.f23, Option.getD_some]
  have hn : n % 18446744073709551616 = n := by omega
  all_goals repeat' (first
    | ((first
       | (with_reducible refine ops_k ?_; intro X hX)
       | (with_reducible refine opsN_k ?_; intro X hX)
       | (with_reducible show awp _ _ _ _ (keepL _ _) _)
       | with_reducible refine awp_cond_k ?_
       | (with_reducible refine Brk_i ?_ ?_ <;> intro hb <;> (try simp only [hb]) <;> have hq := hb <;> try simp only [decide_eq_true_eq, decide_eq_false_iff_not, gt_iff_lt, ge_iff_le, Int.not_lt, Int.not_le, beq_iff_eq, beq_eq_false_iff_ne, Bool.not_eq_true', Bool.not_eq_false', Bool.and_eq_true, Bool.or_eq_true, Bool.and_eq_false_imp, Bool.or_eq_false_iff, ne_eq, Classical.not_not] at hq)
       | with_reducible refine retP_ret_i ?_
       | with_reducible refine retP_normal_i ?_
       | (with_reducible (show bindG _ _ _ _ _); simp only [hall])) <;> try simp only [Go.AM.S1, Go.AM.S2, Go.AM.S3, Go.AM.S4, Go.AM.S5, Go.AM.S6, Go.AM.S7, Go.AM.S8, Go.AM.S9, Nat.reduceAdd, Nat.reduceMul, Nat.reduceSub, ↓reduceIte, Nat.reduceEqDiff, Nat.reduceLT, Nat.reduceLeDiff, reduceCtorEq, Int.reduceBEq, Int.reduceBNe, Nat.reduceBEq, Int.reduceEq, Int.reduceToNat, Int.reduceLE, Int.reduceLT, Nat.reduceDiv, Int.reduceAdd, Int.reduceSub, Int.reduceMul, Int.reduceNeg, Int.reduceGT, Int.reduceGE, Nat.reduceMod, ty_3, ty_22, ty_24, hn])
    | (with_reducible refine hX _ _ ?_; clear hX X)
    | (with_reducible refine ops_nil_i ?_; try clear hall all)
    | (with_reducible refine opsN_nil_i ?_; try clear hall all)
    | (with_reducible refine hK _ _ ?_; clear hK K)
    | with_reducible refine thenP_normal_i ?_
    | (with_reducible refine zzr1 _ _ ?_; try clear zzr1 Kzzr1)
    | (with_reducible refine zzr0 _ _ ?_; try clear zzr0 Kzzr0)
    | (with_reducible refine awp_seq_l (a := .region 1 _ _) [2] ?_; intro Kzzr1 zzr1)
    | (with_reducible refine awp_seq_l (a := .region 0 _ _) [0, 2] ?_; intro Kzzr0 zzr0)
    | (with_reducible refine awp_seq_k ?_; intro K hK)
    | (with_reducible refine awp_region_a ?_; intro all hall K hK)
    | (with_reducible refine awp_draw_n ?_ ?_; kernel_rfl; intro all hall K hK)
    | (with_reducible refine Chk_i ?_ ?_)
    | (with_reducible refine keysC_i ?_; kernel_rfl)
    | (with_reducible first | refine awp_block_i ?_ | refine awp_skip_i ?_ | refine awp_ret_i ?_ | refine awp_exit_i ?_ | refine thenP_ret_i ?_ | refine thenP_exit_i ?_ | refine lpP_ret_i ?_ | refine lpP_exit_i ?_ | refine unrP_succ_i ?_ | refine unrP_ret_i ?_ | refine unrP_exit_i ?_ | refine blockP_normal_i ?_ | refine blockP_ret_i ?_)
    | (with_reducible refine blockP_exit_i ?_; simp only [↓reduceIte, Nat.reduceEqDiff])
    | with_reducible refine lpP_normal_i ?_)
  all_goals (try clear zzr0; try clear Kzzr0)
  all_goals (try clear zzr1; try clear Kzzr1)
theorem sound_23 : Sound Tryz.prog 23 .body (norm s23) := by
  refine sound_norm (sound_body Tryz.func23 (show Tryz.f23.body = some (code Tryz.f23) from rfl) (by kernel_rfl) tysOk G23_ok (drawOk_ok (by kernel_rfl) tysOk G23_ok) (by kernel_rfl) fun ds p r hs hp => ?_)
  unfold s23 at hs
  split at hs
  · cases hs; exact ⟨Nat.le_of_ble_eq_true (by kernel_rfl), wk23 _ hp⟩
  · cases hs
end Go.Proofs.AMT
set_option maxRecDepth 20000
namespace Go.AM.LN
open Go
/-! What Unpack answers: noughts where it refuses. -/
def dC (n : Int) (V : Nat) : Int := if okB n V then uC n V else 0
def dS (n : Int) (V : Nat) : Bool := if okB n V then uS n V else false
def dQ (n : Int) (V : Nat) : Bool := if okB n V then uQ n V else false
def dX (n : Int) (V : Nat) : Int := if okB n V then uX n V else 0
def dV (n : Int) (V : Nat) : Nat := if okB n V then uV n V else 0
theorem okB_in {n : Int} {V : Nat} (h : okB n V = true) : (1 ≤ n ∧ n ≤ 6) ∧ (blen V : Int) ≤ fw n := by
  unfold okB at h
  simp only [Bool.and_eq_true, decide_eq_true_eq] at h
  exact h
theorem okB_lt {n : Int} {V : Nat} (h : okB n V = true) : V < 2 ^ 256 := by
  obtain ⟨h1, h2⟩ := okB_in h
  have F := bfmt h1
  have := F.w
  have := F.p241
  have := F.x15
  exact blen_lt.1 (by omega)
theorem uE_lt {n : Int} (h : 1 ≤ n ∧ n ≤ 6) (V : Nat) : uE n V < 32768 := by
  have F := bfmt h
  have h1 : uE n V < 2 ^ (fx n).toNat := Nat.mod_lt _ (Nat.two_pow_pos _)
  have h2 : 2 ^ (fx n).toNat ≤ 2 ^ 15 := Nat.pow_le_pow_right (by omega) (by have := F.x15; omega)
  have h3 : (2 : Nat) ^ 15 = 32768 := rfl
  omega
theorem uF_lt {n : Int} (h : 1 ≤ n ∧ n ≤ 6) (V : Nat) : uF n V < 2 ^ 256 := by
  have F := bfmt h
  exact Nat.lt_of_lt_of_le (Nat.mod_lt _ (Nat.two_pow_pos _)) (Nat.pow_le_pow_right (by omega) (by have := F.p241; omega))
theorem u_num {n : Int} {V : Nat} (h : (uE n V : Int) < 2 ^ (fx n).toNat - 1) : uC n V = 1 ∧ uQ n V = false ∧ uX n V = 2 - fe n - fp n + max ((uE n V : Int) - 1) 0 ∧ uV n V = (if uE n V = 0 then uF n V else uF n V ||| 1 * 2 ^ (fp n - 1).toNat % 2 ^ 256) := by
  have h1 : uC n V = 1 := if_pos h
  refine ⟨h1, ?_, ?_, ?_⟩
  · unfold uQ; rw [h1]; rfl
  · unfold uX; rw [if_pos h1]
  · unfold uV; rw [if_pos h1]
theorem u_inf {n : Int} {V : Nat} (h : ¬ (uE n V : Int) < 2 ^ (fx n).toNat - 1) (h0 : uF n V = 0) : uC n V = 2 ∧ uQ n V = false ∧ uX n V = 0 ∧ uV n V = 0 := by
  have h1 : uC n V = 2 := by unfold uC; rw [if_neg h, if_pos h0]
  refine ⟨h1, ?_, ?_, ?_⟩
  · unfold uQ; rw [h1]; rfl
  · unfold uX; rw [if_neg (by omega)]
  · unfold uV; rw [if_neg (by omega), if_pos h1]
theorem u_nan {n : Int} {V : Nat} (h : ¬ (uE n V : Int) < 2 ^ (fx n).toNat - 1) (h0 : uF n V ≠ 0) : uC n V = 3 ∧ uQ n V = (V / 2 ^ (fp n - 2).toNat % 2 == 0) ∧ uX n V = 0 ∧ uV n V = uF n V % 2 ^ (fp n - 2).toNat := by
  have h1 : uC n V = 3 := by unfold uC; rw [if_neg h, if_neg h0]
  refine ⟨h1, ?_, ?_, ?_⟩
  · unfold uQ; rw [h1]; rfl
  · unfold uX; rw [if_neg (by omega)]
  · unfold uV; rw [if_neg (by omega), if_neg (by omega)]
end Go.AM.LN
set_option maxRecDepth 20000
namespace Go.Proofs.AMT
open Go.AM Go.AM.LN
attribute [local congr] bindO_congr bindS_congr bindG_congr awpOps_congr aOne_congr awp_congr aCond_congr awpD_congr dOne_congr keysB_congr nOne_congr thenP_congr blockP_congr Chk_congr Brk_congr
noncomputable def s7 : CSpec := fun ds => match ds with
  | [.v (.int .i64 n), .v (.agg ⟨[.int .u64 b0, .int .u64 b1, .int .u64 b2, .int .u64 b3]⟩)] => some ((0 ≤ b0 ∧ b0 < 18446744073709551616) ∧ (0 ≤ b1 ∧ b1 < 18446744073709551616) ∧ (0 ≤ b2 ∧ b2 < 18446744073709551616) ∧ (0 ≤ b3 ∧ b3 < 18446744073709551616), .many [.v (.agg #[.int .i64 (dC n (V4 b0 b1 b2 b3)), .bool (dS n (V4 b0 b1 b2 b3)), .bool (dQ n (V4 b0 b1 b2 b3)), .int .i64 (dX n (V4 b0 b1 b2 b3)), .int .u64 (w4 (dV n (V4 b0 b1 b2 b3)) 0), .int .u64 (w4 (dV n (V4 b0 b1 b2 b3)) 1), .int .u64 (w4 (dV n (V4 b0 b1 b2 b3)) 2), .int .u64 (w4 (dV n (V4 b0 b1 b2 b3)) 3)]), .v (.int .i64 (if okB n (V4 b0 b1 b2 b3) then 0 else 1))])
  | _ => none
theorem s7_eq (n : Int) (b0 b1 b2 b3 : Int) : norm s7 [.v (.int .i64 n), .v (.agg #[.int .u64 b0, .int .u64 b1, .int .u64 b2, .int .u64 b3])] = some ((0 ≤ b0 ∧ b0 < 18446744073709551616) ∧ (0 ≤ b1 ∧ b1 < 18446744073709551616) ∧ (0 ≤ b2 ∧ b2 < 18446744073709551616) ∧ (0 ≤ b3 ∧ b3 < 18446744073709551616), .many [.v (.agg #[.int .i64 (dC n (V4 b0 b1 b2 b3)), .bool (dS n (V4 b0 b1 b2 b3)), .bool (dQ n (V4 b0 b1 b2 b3)), .int .i64 (dX n (V4 b0 b1 b2 b3)), .int .u64 (w4 (dV n (V4 b0 b1 b2 b3)) 0), .int .u64 (w4 (dV n (V4 b0 b1 b2 b3)) 1), .int .u64 (w4 (dV n (V4 b0 b1 b2 b3)) 2), .int .u64 (w4 (dV n (V4 b0 b1 b2 b3)) 3)]), .v (.int .i64 (if okB n (V4 b0 b1 b2 b3) then 0 else 1))]) := rfl
noncomputable def G7 : Gam := [(19, .body, norm s19), (20, .body, norm s20), (21, .body, norm s21), (22, .body, norm s22), (23, .body, norm s23)]
theorem G7_ok : GamOk Tryz.prog G7 := gamOk_cons sound_19 (gamOk_cons sound_20 (gamOk_cons sound_21 (gamOk_cons sound_22 (gamOk_cons sound_23 gamOk_nil))))
theorem k7_19 : lk G7 19 = some (.body, norm s19) := rfl
theorem k7_20 : lk G7 20 = some (.body, norm s20) := rfl
theorem k7_21 : lk G7 21 = some (.body, norm s21) := rfl
theorem k7_22 : lk G7 22 = some (.body, norm s22) := rfl
theorem k7_23 : lk G7 23 = some (.body, norm s23) := rfl
set_option maxHeartbeats 20000000 in
theorem wk7 (n : Int) (b0 b1 b2 b3 : Int) (hp : (0 ≤ b0 ∧ b0 < 18446744073709551616) ∧ (0 ≤ b1 ∧ b1 < 18446744073709551616) ∧ (0 ≤ b2 ∧ b2 < 18446744073709551616) ∧ (0 ≤ b3 ∧ b3 < 18446744073709551616)) : awp ty G7 (code Tryz.f7) (retP ty Tryz.f7.results.toList (.many [.v (.agg #[.int .i64 (dC n (V4 b0 b1 b2 b3)), .bool (dS n (V4 b0 b1 b2 b3)), .bool (dQ n (V4 b0 b1 b2 b3)), .int .i64 (dX n (V4 b0 b1 b2 b3)), .int .u64 (w4 (dV n (V4 b0 b1 b2 b3)) 0), .int .u64 (w4 (dV n (V4 b0 b1 b2 b3)) 1), .int .u64 (w4 (dV n (V4 b0 b1 b2 b3)) 2), .int .u64 (w4 (dV n (V4 b0 b1 b2 b3)) 3)]), .v (.int .i64 (if okB n (V4 b0 b1 b2 b3) then 0 else 1))])) (entry 0 [.v (.int .i64 n), .v (.agg #[.int .u64 b0, .int .u64 b1, .int .u64 b2, .int .u64 b3])]) [] := by
  unfold code
  simp only [Tryz.f7, Option.getD_some]
  rcases Bool.eq_false_or_eq_true (okB n (V4 b0 b1 b2 b3)) with hO | hO
  case' inr =>
    rcases Classical.em (1 ≤ n ∧ n ≤ 12) with hr | hr
    all_goals first
      | (have hI := infoV_in hr)
      | (have hI := infoV_out hr)
    all_goals have hmin : decide ((4 : Int) ≥ 5) = false := rfl
    all_goals have hEE : decide ((4 : Int) ≥ 5) = false := rfl
    all_goals have hFF : decide ((4 : Int) ≥ 5) = false := rfl
    all_goals have eP : decide ((4 : Int) ≥ 5) = false := rfl
    all_goals have w0 : decide ((4 : Int) ≥ 5) = false := rfl
    all_goals have g1 : decide ((4 : Int) ≥ 5) = false := rfl
    all_goals have g2 : decide ((4 : Int) ≥ 5) = false := rfl
    all_goals have g3 : decide ((4 : Int) ≥ 5) = false := rfl
    all_goals have gQ : decide ((4 : Int) ≥ 5) = false := rfl
    all_goals have gS : decide ((4 : Int) ≥ 5) = false := rfl
    all_goals have hV0 : decide ((4 : Int) ≥ 5) = false := rfl
    all_goals rw [show dC n (V4 b0 b1 b2 b3) = 0 by simp [dC, hO], show dS n (V4 b0 b1 b2 b3) = false by simp [dS, hO], show dQ n (V4 b0 b1 b2 b3) = false by simp [dQ, hO], show dX n (V4 b0 b1 b2 b3) = 0 by simp [dX, hO], show dV n (V4 b0 b1 b2 b3) = 0 by simp [dV, hO]]
  case' inl =>
    obtain ⟨hn, hbl⟩ := okB_in hO
    obtain ⟨F1, F2, F3, F4, F5, F6, F7, F8, F9, F10, F11⟩ := bfmt hn
    have hI := infoV_in (n := n) (by omega)
    have hmin : min (fx n).toNat 64 = (fx n).toNat := by omega
    have eP : fp n - 1 - 1 = fp n - 2 := by omega
    have hEl := uE_lt hn (V4 b0 b1 b2 b3)
    have hFl := uF_lt hn (V4 b0 b1 b2 b3)
    obtain ⟨E, hE⟩ : ∃ E, uE n (V4 b0 b1 b2 b3) = E := ⟨_, rfl⟩
    obtain ⟨Fr, hF⟩ : ∃ Fr, uF n (V4 b0 b1 b2 b3) = Fr := ⟨_, rfl⟩
    have hEE : (V4 b0 b1 b2 b3) / 2 ^ (fp n - 1).toNat % 2 ^ (fx n).toNat = E := hE
    have hFF : (V4 b0 b1 b2 b3) % 2 ^ (fp n - 1).toNat = Fr := hF
    rw [hE] at hEl
    rw [hF] at hFl
    have w0 := w4_small (E := E) (by omega)
    have hV0 := V4_w4 hFl
    have gz := V4_zero (w4_lim Fr 0).1 (w4_lim Fr 1).1 (w4_lim Fr 2).1 (w4_lim Fr 3).1
    rw [hV0] at gz
    have gS : ((((V4 b0 b1 b2 b3) / 2 ^ (fw n - 1).toNat % 2 : Nat) : Int) == 1) = uS n (V4 b0 b1 b2 b3) := by unfold uS; rw [Bool.eq_iff_iff]; simp only [beq_iff_eq]; omega
    have gQ : ((((V4 b0 b1 b2 b3) / 2 ^ (fp n - 2).toNat % 2 : Nat) : Int) == 0) = ((V4 b0 b1 b2 b3) / 2 ^ (fp n - 2).toNat % 2 == 0) := by rw [Bool.eq_iff_iff]; simp only [beq_iff_eq]; omega
    have hxp : (2 : Int) ^ (fx n).toNat ≤ 32768 := by omega
    rw [show dC n (V4 b0 b1 b2 b3) = uC n (V4 b0 b1 b2 b3) by simp [dC, hO], show dS n (V4 b0 b1 b2 b3) = uS n (V4 b0 b1 b2 b3) by simp [dS, hO], show dQ n (V4 b0 b1 b2 b3) = uQ n (V4 b0 b1 b2 b3) by simp [dQ, hO], show dX n (V4 b0 b1 b2 b3) = uX n (V4 b0 b1 b2 b3) by simp [dX, hO], show dV n (V4 b0 b1 b2 b3) = uV n (V4 b0 b1 b2 b3) by simp [dV, hO]]
    have hcase : ((E : Int) < 2 ^ (fx n).toNat - 1 ∧ E = 0) ∨ ((E : Int) < 2 ^ (fx n).toNat - 1 ∧ E ≠ 0) ∨ (¬ (E : Int) < 2 ^ (fx n).toNat - 1 ∧ Fr = 0) ∨ (¬ (E : Int) < 2 ^ (fx n).toNat - 1 ∧ Fr ≠ 0) := by omega
    rcases hcase with ⟨h1, h2⟩ | ⟨h1, h2⟩ | ⟨h1, h2⟩ | ⟨h1, h2⟩
    all_goals first
      | (have g1 : decide ((E : Int) < 2 ^ (fx n).toNat - 1) = true := decide_eq_true h1)
      | (have g1 : decide ((E : Int) < 2 ^ (fx n).toNat - 1) = false := decide_eq_false h1)
    all_goals first
      | (have g2 : decide ((E : Int) > 0) = true := by simp only [decide_eq_true_eq]; omega)
      | (have g2 : decide ((E : Int) > 0) = false := by simp only [decide_eq_false_iff_not]; omega)
    all_goals first
      | (have g3 := gz.trans (decide_eq_true h2))
      | (have g3 := gz.trans (decide_eq_false h2))
      | (have g3 := gz)
  all_goals repeat' (first
    | ((first
       | (with_reducible refine ops_k ?_; intro X hX)
       | (with_reducible refine opsN_k ?_; intro X hX)
       | (with_reducible show awp _ _ _ _ (keepL _ _) _)
       | (with_reducible refine hX _ _ _ _ ?_; clear hX X)
       | (with_reducible refine opsD_k ?_; intro X hX)
       | with_reducible refine awp_cond_k ?_
       | (with_reducible refine Brk_i ?_ ?_ <;> intro hb <;> (try simp only [hb]) <;> have hq := hb <;> try simp only [decide_eq_true_eq, decide_eq_false_iff_not, gt_iff_lt, ge_iff_le, Int.not_lt, Int.not_le, beq_iff_eq, beq_eq_false_iff_ne, Bool.not_eq_true', Bool.not_eq_false', Bool.and_eq_true, Bool.or_eq_true, Bool.and_eq_false_imp, Bool.or_eq_false_iff, ne_eq, Classical.not_not] at hq)
       | with_reducible refine retP_ret_i ?_
       | with_reducible refine retP_normal_i ?_
       | (with_reducible (show bindG _ _ _ _ _); simp only [hall])) <;> try simp only [Go.AM.S1, Go.AM.S2, Go.AM.S3, Go.AM.S4, Go.AM.S5, Go.AM.S6, Go.AM.S7, Go.AM.S8, Go.AM.S9, Nat.reduceAdd, Nat.reduceMul, Nat.reduceSub, ↓reduceIte, Nat.reduceEqDiff, Nat.reduceLT, Nat.reduceLeDiff, reduceCtorEq, Int.reduceBEq, Int.reduceBNe, Nat.reduceBEq, Int.reduceEq, Int.reduceToNat, Int.reduceLE, Int.reduceLT, Nat.reduceDiv, Int.reduceAdd, Int.reduceSub, Int.reduceMul, Int.reduceNeg, Int.reduceGT, Int.reduceGE, Nat.reduceMod, k7_19, s19_eq, k7_20, s20_eq, k7_21, s21_eq, k7_22, s22_eq, k7_23, s23_eq, ty_3, ty_4, ty_9, ty_22, ty_23, ty_24, ty_31, ty_37, ty_46, hI, infoT, infoZ, hO, hmin, IntKind.bits, Nat.pow_zero, Nat.div_one, Int.one_mul, V4_x, Int.toNat_one, hEE, hFF, eP, w0, g1, g2, g3, gQ, gS, hV0])
    | (with_reducible refine hX _ _ ?_; clear hX X)
    | (with_reducible refine opsD_nil_i ?_; try clear hall all)
    | (with_reducible refine keysB_i ?_; kernel_rfl)
    | ((with_reducible show clashK _ _ _ = true); kernel_rfl)
    | (with_reducible refine ops_nil_i ?_; try clear hall all)
    | (with_reducible refine opsN_nil_i ?_; try clear hall all)
    | (with_reducible refine hK _ _ ?_; clear hK K)
    | with_reducible refine thenP_normal_i ?_
    | (with_reducible refine zzr18 _ _ ?_; try clear zzr18 Kzzr18)
    | (with_reducible refine zzb0 _ _ ?_; try clear zzb0 Kzzb0)
    | (with_reducible refine zzsr13 _ _ ?_; try clear zzsr13 Kzzsr13)
    | (with_reducible refine zzr13 _ _ ?_; try clear zzr13 Kzzr13)
    | (with_reducible refine zzr12 _ _ ?_; try clear zzr12 Kzzr12)
    | (with_reducible refine zzr9 _ _ ?_; try clear zzr9 Kzzr9)
    | (with_reducible refine zzr8 _ _ ?_; try clear zzr8 Kzzr8)
    | (with_reducible refine zzr16 _ _ ?_; try clear zzr16 Kzzr16)
    | (with_reducible refine zzr11 _ _ ?_; try clear zzr11 Kzzr11)
    | (with_reducible refine zzr7 _ _ ?_; try clear zzr7 Kzzr7)
    | (with_reducible refine zzr6 _ _ ?_; try clear zzr6 Kzzr6)
    | (with_reducible refine zzr5 _ _ ?_; try clear zzr5 Kzzr5)
    | (with_reducible refine zzr4 _ _ ?_; try clear zzr4 Kzzr4)
    | (with_reducible refine zzsr2 _ _ ?_; try clear zzsr2 Kzzsr2)
    | (with_reducible refine zzr3 _ _ ?_; try clear zzr3 Kzzr3)
    | (with_reducible refine zzr2 _ _ ?_; try clear zzr2 Kzzr2)
    | (with_reducible refine zzr1 _ _ ?_; try clear zzr1 Kzzr1)
    | (with_reducible refine zzr0 _ _ ?_; try clear zzr0 Kzzr0)
    | (with_reducible refine awp_seq_l (a := .region 18 _ _) [4, 5] ?_; intro Kzzr18 zzr18)
    | (with_reducible refine awp_seq_l (a := .block 0 _) [4, 11] ?_; intro Kzzb0 zzb0)
    | (with_reducible refine awp_seq_l (a := .seq (.region 13 _ _) _) [4, 9, 11] ?_; intro Kzzsr13 zzsr13)
    | (with_reducible refine awp_seq_l (a := .region 13 _ _) [4, 8, 9, 11, 68] ?_; intro Kzzr13 zzr13)
    | (with_reducible refine awp_seq_l (a := .region 12 _ _) [4, 8, 9, 10, 11] ?_; intro Kzzr12 zzr12)
    | (with_reducible refine awp_seq_l (a := .region 9 _ _) [4, 8, 9, 11] ?_; intro Kzzr9 zzr9)
    | (with_reducible refine awp_seq_l (a := .region 8 _ _) [3, 4, 8, 9, 11] ?_; intro Kzzr8 zzr8)
    | (with_reducible refine awp_seq_l (a := .region 16 _ _) [3, 4, 8, 9, 11, 75] ?_; intro Kzzr16 zzr16)
    | (with_reducible refine awp_seq_l (a := .region 11 _ _) [3, 4, 6, 8, 9, 10, 11, 53] ?_; intro Kzzr11 zzr11)
    | (with_reducible refine awp_seq_l (a := .region 7 _ _) [3, 4, 6, 8, 9, 10, 11] ?_; intro Kzzr7 zzr7)
    | (with_reducible refine awp_seq_l (a := .region 6 _ _) [3, 4, 6, 8, 9, 10] ?_; intro Kzzr6 zzr6)
    | (with_reducible refine awp_seq_l (a := .region 5 _ _) [3, 4, 6, 8, 9] ?_; intro Kzzr5 zzr5)
    | (with_reducible refine awp_seq_l (a := .region 4 _ _) [3, 4, 6, 8] ?_; intro Kzzr4 zzr4)
    | (with_reducible refine awp_seq_l (a := .seq (.region 2 _ _) _) [3, 4, 6] ?_; intro Kzzsr2 zzsr2)
    | (with_reducible refine awp_seq_l (a := .region 3 _ _) [4, 5] ?_; intro Kzzr3 zzr3)
    | (with_reducible refine awp_seq_l (a := .region 2 _ _) [3, 4, 6, 19] ?_; intro Kzzr2 zzr2)
    | (with_reducible refine awp_seq_l (a := .region 1 _ _) [3, 4, 6, 7] ?_; intro Kzzr1 zzr1)
    | (with_reducible refine awp_seq_l (a := .region 0 _ _) [0, 3, 4] ?_; intro Kzzr0 zzr0)
    | (with_reducible refine awp_seq_k ?_; intro K hK)
    | (with_reducible refine awp_region_a ?_; intro all hall K hK)
    | (with_reducible refine awp_draw_a (id := 14) ?_ ?_; kernel_rfl; intro all hall K hK)
    | (with_reducible refine awp_draw_n ?_ ?_; kernel_rfl; intro all hall K hK)
    | (with_reducible refine Chk_i ?_ ?_)
    | (with_reducible refine keysC_i ?_; kernel_rfl)
    | (with_reducible first | refine awp_block_i ?_ | refine awp_skip_i ?_ | refine awp_ret_i ?_ | refine awp_exit_i ?_ | refine thenP_ret_i ?_ | refine thenP_exit_i ?_ | refine lpP_ret_i ?_ | refine lpP_exit_i ?_ | refine unrP_succ_i ?_ | refine unrP_ret_i ?_ | refine unrP_exit_i ?_ | refine blockP_normal_i ?_ | refine blockP_ret_i ?_)
    | (with_reducible refine blockP_exit_i ?_; simp only [↓reduceIte, Nat.reduceEqDiff])
    | with_reducible refine lpP_normal_i ?_)
  all_goals (try clear zzr0; try clear Kzzr0)
  all_goals (try clear zzr1; try clear Kzzr1)
  all_goals (try clear zzr2; try clear Kzzr2)
  all_goals (try clear zzr3; try clear Kzzr3)
  all_goals (try clear zzsr2; try clear Kzzsr2)
  all_goals (try clear zzr4; try clear Kzzr4)
  all_goals (try clear zzr5; try clear Kzzr5)
  all_goals (try clear zzr6; try clear Kzzr6)
  all_goals (try clear zzr7; try clear Kzzr7)
  all_goals (try clear zzr11; try clear Kzzr11)
  all_goals (try clear zzr16; try clear Kzzr16)
  all_goals (try clear zzr8; try clear Kzzr8)
  all_goals (try clear zzr9; try clear Kzzr9)
  all_goals (try clear zzr12; try clear Kzzr12)
  all_goals (try clear zzr13; try clear Kzzr13)
  all_goals (try clear zzsr13; try clear Kzzsr13)
  all_goals (try clear zzb0; try clear Kzzb0)
  all_goals (try clear zzr18; try clear Kzzr18)
  all_goals (try clear gz)
  all_goals clear hEE hFF hV0 w0 g1 g2 g3
  all_goals (try simp only [inR])
  all_goals first
    | omega
    | exact hp
    | exact ⟨hp, by omega, by omega⟩
    | exact ⟨hp, ⟨by omega, by omega⟩, by omega, by omega⟩
    | exact ⟨⟨w4_lim _ _, w4_lim _ _, w4_lim _ _, w4_lim _ _⟩, by omega, by omega⟩
    | exact ⟨⟨w4_lim _ _, w4_lim _ _, w4_lim _ _, w4_lim _ _⟩, ⟨by omega, by omega⟩, by omega, by omega⟩
    | (obtain ⟨e1, e2, e3, e4⟩ := u_num (n := n) (V := (V4 b0 b1 b2 b3)) (by rw [hE]; exact h1)
       rw [e1, e2, e3, e4, hE, hF]
       first
         | rw [if_pos h2]
         | rw [if_neg h2])
    | (have hh : uF n (V4 b0 b1 b2 b3) = 0 := hF.trans h2
       obtain ⟨e1, e2, e3, e4⟩ := u_inf (n := n) (V := (V4 b0 b1 b2 b3)) (by rw [hE]; exact h1) hh
       rw [e1, e2, e3, e4]
       simp only [w4_zero])
    | (have hh : uF n (V4 b0 b1 b2 b3) ≠ 0 := fun hz => h2 (hF.symm.trans hz)
       obtain ⟨e1, e2, e3, e4⟩ := u_nan (n := n) (V := (V4 b0 b1 b2 b3)) (by rw [hE]; exact h1) hh
       rw [e1, e2, e3, e4, hF])
    | (simp [w4_zero]; done)
    | skip
theorem sound_7 : Sound Tryz.prog 7 .body (norm s7) := by
  refine sound_norm (sound_body Tryz.func7 (show Tryz.f7.body = some (code Tryz.f7) from rfl) (by kernel_rfl) tysOk G7_ok (drawOk_ok (by kernel_rfl) tysOk G7_ok) (by kernel_rfl) fun ds p r hs hp => ?_)
  unfold s7 at hs
  split at hs
  · cases hs; exact ⟨Nat.le_of_ble_eq_true (by kernel_rfl), wk7 _ _ _ _ _ hp⟩
  · cases hs
end Go.Proofs.AMT
set_option maxRecDepth 20000
namespace Go.AM.LN
theorem val_td {a : List Int} (la : lim a) (i : Nat) : val a = val (a.take i) + 2 ^ (64 * i) * val (a.drop i) ∧ val (a.take i) < 2 ^ (64 * i) := by
  refine ⟨?_, val_take_lt la i⟩
  rw [val_take _ _ la, val_drop _ _ la, Nat.mod_add_div]
theorem drop_lt {a b : List Int} {i : Nat} (la : lim a) (lb : lim b) (h : val (a.drop i) < val (b.drop i)) : val a < val b := by
  obtain ⟨e1, l1⟩ := val_td la i
  obtain ⟨e2, l2⟩ := val_td lb i
  have h1 : 2 ^ (64 * i) * (val (a.drop i) + 1) ≤ 2 ^ (64 * i) * val (b.drop i) := Nat.mul_le_mul_left _ h
  rw [Nat.mul_add, Nat.mul_one] at h1
  omega
theorem drop_step_lt {a b : List Int} {i : Nat} (la : lim a) (lb : lim b) (he : val (a.drop (i + 1)) = val (b.drop (i + 1))) (h : a.getD i 0 < b.getD i 0) : val a < val b := by
  refine drop_lt (i := i) la lb ?_
  rw [val_drop_cons a, val_drop_cons b, he]
  have h1 := lim_get la (i := i)
  have h2 := lim_get lb (i := i)
  omega
theorem drop_step_eq {a b : List Int} {i : Nat} (he : val (a.drop (i + 1)) = val (b.drop (i + 1))) (h : a.getD i 0 = b.getD i 0) : val (a.drop i) = val (b.drop i) := by
  rw [val_drop_cons a, val_drop_cons b, he, h]
theorem take_all {a : List Int} {n : Nat} (h : a.length ≤ n) : val (a.take n) = val a := by rw [List.take_of_length_le h]
theorem lt_pow_of_len {a : List Int} {n : Nat} (la : lim a) (h : a.length ≤ n) : val a < 2 ^ (64 * n) := Nat.lt_of_lt_of_le (val_lt la) (Nat.pow_le_pow_right (by omega) (by omega))
theorem add_fin {a b o : List Int} {N c : Nat} (la : lim a) (lb : lim b) (ha : a.length + 1 ≤ N) (hb : b.length + 1 ≤ N) (ho : o.length = N) (h : val (o.take N) + c * 2 ^ (64 * N) = val (a.take N) + val (b.take N)) : val o = val a + val b := by
  rw [take_all (by omega), take_all (by omega), take_all (by omega)] at h
  have h1 := lt_pow_of_len (n := N - 1) la (by omega)
  have h2 := lt_pow_of_len (n := N - 1) lb (by omega)
  have h3 : 2 ^ (64 * N) = 18446744073709551616 * 2 ^ (64 * (N - 1)) := by
    rw [← pow64_succ, show N - 1 + 1 = N by omega]
  rw [h3] at h
  have hc : c = 0 := by
    refine Classical.byContradiction fun hc => ?_
    have : 1 * (18446744073709551616 * 2 ^ (64 * (N - 1))) ≤ c * (18446744073709551616 * 2 ^ (64 * (N - 1))) := Nat.mul_le_mul_right _ (by omega)
    omega
  rw [hc, Nat.zero_mul] at h
  exact h
/-- A round of a subtraction. -/
theorem less_step {a b o : List Int} {i c : Nat} (la : lim a) (lb : lim b) (hc : c ≤ 1) (ho : i < o.length) (h : val (o.take i) + val (b.take i) = val (a.take i) + c * 2 ^ (64 * i)) :
    ∃ c' s : Nat, ((if a.getD i 0 < b.getD i 0 + (c : Int) then (1 : Int) else 0) = (c' : Int)) ∧ ((a.getD i 0 - b.getD i 0 - (c : Int)) % 18446744073709551616 = (s : Int)) ∧ c' ≤ 1 ∧ s < 18446744073709551616 ∧
      val ((o.set i (s : Int)).take (i + 1)) + val (b.take (i + 1)) = val (a.take (i + 1)) + c' * 2 ^ (64 * (i + 1)) := by
  have h1 := lim_get la (i := i)
  have h2 := lim_get lb (i := i)
  have key : ∀ c' s : Nat, s + (b.getD i 0).toNat + c = (a.getD i 0).toNat + 18446744073709551616 * c' → val ((o.set i (s : Int)).take (i + 1)) + val (b.take (i + 1)) = val (a.take (i + 1)) + c' * 2 ^ (64 * (i + 1)) := by
    intro c' s e
    rw [val_take_set ho, val_take_succ', val_take_succ', pow64_succ, Int.toNat_natCast]
    generalize 2 ^ (64 * i) = p at *
    have e2 : p * (s + (b.getD i 0).toNat + c) = p * ((a.getD i 0).toNat + 18446744073709551616 * c') := by rw [e]
    grind
  by_cases hlt : a.getD i 0 < b.getD i 0 + (c : Int)
  · refine ⟨1, (a.getD i 0).toNat + 18446744073709551616 - (b.getD i 0).toNat - c, by rw [if_pos hlt]; rfl, ?_, by omega, ?_, key _ _ ?_⟩ <;> omega
  · refine ⟨0, (a.getD i 0).toNat - (b.getD i 0).toNat - c, by rw [if_neg hlt]; rfl, ?_, by omega, ?_, key _ _ ?_⟩ <;> omega
theorem less_fin {a b o : List Int} {N c : Nat} (la : lim a) (lb : lim b) (lo : lim o) (ha : a.length ≤ N) (hb : b.length ≤ N) (ho : o.length = N) (hle : val b ≤ val a) (h : val (o.take N) + val (b.take N) = val (a.take N) + c * 2 ^ (64 * N)) : val o = val a - val b := by
  rw [take_all (by omega), take_all hb, take_all ha] at h
  have h1 := lt_pow_of_len (n := N) lo (by omega)
  have hc : c = 0 := by
    refine Classical.byContradiction fun hc => ?_
    have : 1 * 2 ^ (64 * N) ≤ c * 2 ^ (64 * N) := Nat.mul_le_mul_right _ (by omega)
    omega
  rw [hc, Nat.zero_mul] at h
  omega
/-- A round of a sum. -/
theorem add_step' {a b o : List Int} {i c : Nat} (la : lim a) (lb : lim b) (hc : c ≤ 1) (ho : i < o.length) (h : val (o.take i) + c * 2 ^ (64 * i) = val (a.take i) + val (b.take i)) :
    ∃ c' s : Nat, ((a.getD i 0 + b.getD i 0 + (c : Int)) / 18446744073709551616 = (c' : Int)) ∧ ((a.getD i 0 + b.getD i 0 + (c : Int)) % 18446744073709551616 = (s : Int)) ∧ c' ≤ 1 ∧ s < 18446744073709551616 ∧
      val ((o.set i (s : Int)).take (i + 1)) + c' * 2 ^ (64 * (i + 1)) = val (a.take (i + 1)) + val (b.take (i + 1)) := by
  have h1 := lim_get la (i := i)
  have h2 := lim_get lb (i := i)
  obtain ⟨c', s, e1, e2, e3, e4, e5⟩ := add_word hc h1 h2
  refine ⟨c', s, e1, e2, e4, e5, ?_⟩
  rw [val_take_set ho, val_take_succ', val_take_succ', pow64_succ, Int.toNat_natCast]
  generalize 2 ^ (64 * i) = p at *
  have e6 : p * (s + 18446744073709551616 * c') = p * ((a.getD i 0).toNat + (b.getD i 0).toNat + c) := by rw [e3]
  grind
theorem left_lt {o a : List Int} {i w t : Nat} (la : lim a) (h : val o = val (a.take i) * 2 ^ (64 * w + t)) : val o < 2 ^ (64 * (i + w)) * 2 ^ t := by
  rw [h, pow64_add, Nat.pow_add, ← Nat.mul_assoc]
  exact Nat.mul_lt_mul_of_pos_right (Nat.mul_lt_mul_of_pos_right (val_take_lt la i) (Nat.two_pow_pos _)) (Nat.two_pow_pos _)
theorem left_step {o a : List Int} {i w t v : Nat} (la : lim a) (ht : t ≤ 63) (hi : i + w + 1 < o.length) (h : val o = val (a.take i) * 2 ^ (64 * w + t)) (hv : (o.getD (i + w) 0).toNat = v) (h1 : o.getD (i + w + 1) 0 = 0) :
    val ((o.set (i + w) ((v + (a.getD i 0).toNat * 2 ^ t % 18446744073709551616 : Nat) : Int)).set (i + w + 1) (((a.getD i 0).toNat / 2 ^ (64 - t) : Nat) : Int)) = val (a.take (i + 1)) * 2 ^ (64 * w + t) := by
  have e1 := val_set (o := o) (j := i + w) (by omega) ((v + (a.getD i 0).toNat * 2 ^ t % 18446744073709551616 : Nat) : Int)
  have e2 := val_set (o := o.set (i + w) ((v + (a.getD i 0).toNat * 2 ^ t % 18446744073709551616 : Nat) : Int)) (j := i + w + 1) (by simpa using hi) (((a.getD i 0).toNat / 2 ^ (64 - t) : Nat) : Int)
  rw [getD_set_other (by omega), h1] at e2
  rw [hv] at e1
  have h2 := lim_get la (i := i)
  have e3 := mul_mod_div (x := (a.getD i 0).toNat) (s := t) (by omega) (by omega)
  rw [val_take_succ', pow64_succ, pow64_add] at *
  rw [Nat.pow_add] at *
  simp only [Int.toNat_natCast, Int.toNat_zero, Nat.mul_zero, Nat.add_zero] at *
  generalize (a.getD i 0).toNat = x at *
  generalize x * 2 ^ t % 18446744073709551616 = lo at *
  generalize x / 2 ^ (64 - t) = hi' at *
  generalize 2 ^ (64 * i) = p at *
  generalize 2 ^ (64 * w) = q at *
  generalize 2 ^ t = u at *
  rw [h] at e1
  generalize val (a.take i) = A at *
  have e4 : p * q * (lo + 18446744073709551616 * hi') = p * q * (x * u) := by rw [e3]
  grind
theorem left_step0 {o a : List Int} {i w : Nat} (la : lim a) (hi : i + w < o.length) (h : val o = val (a.take i) * 2 ^ (64 * w)) (h0 : o.getD (i + w) 0 = 0) :
    val (o.set (i + w) ((a.getD i 0))) = val (a.take (i + 1)) * 2 ^ (64 * w) := by
  have e1 := val_set (o := o) (j := i + w) hi (a.getD i 0)
  rw [h0] at e1
  rw [val_take_succ', pow64_add] at *
  simp only [Int.toNat_zero, Nat.mul_zero, Nat.add_zero] at e1
  rw [e1, h]
  generalize 2 ^ (64 * i) = p at *
  generalize 2 ^ (64 * w) = q at *
  grind
theorem mul_word' {pr : Nat} {c w : Int} (h : pr ≤ 340282366920938463426481119284349108225) (hc : 0 ≤ c ∧ c < 18446744073709551616) (hw : 0 ≤ w ∧ w < 18446744073709551616) :
    ∃ c' s : Nat, (((((pr / 18446744073709551616 : Nat) : Int) + (((pr % 18446744073709551616 : Nat) : Int) + w + 0) / 18446744073709551616) % 18446744073709551616 + ((((pr % 18446744073709551616 : Nat) : Int) + w + 0) % 18446744073709551616 + c + 0) / 18446744073709551616) % 18446744073709551616 = (c' : Int)) ∧
      (((((pr % 18446744073709551616 : Nat) : Int) + w + 0) % 18446744073709551616 + c + 0) % 18446744073709551616 = (s : Int)) ∧ pr + c.toNat + w.toNat = c' * 18446744073709551616 + s ∧ c' < 18446744073709551616 ∧ s < 18446744073709551616 := by
  refine ⟨(pr + c.toNat + w.toNat) / 18446744073709551616, (pr + c.toNat + w.toNat) % 18446744073709551616, ?_, ?_, ?_, ?_, ?_⟩ <;> omega
theorem bits0 {x : Int} (hx : 0 ≤ x ∧ x < 18446744073709551616) : AM.bits .or .u64 0 x = x := by
  rw [or_u64 ⟨by omega, by omega⟩ hx]
  simp
  omega
end Go.AM.LN
set_option maxRecDepth 20000
namespace Go.AM.LN
/-- What the reference's Right says of what went out: word by word. -/
def goneF (a : List Int) (w t j : Nat) : Bool := (decide (j < w) && (a.getD j 0 != 0)) || (decide (j = w) && (AM.bits .and .u64 (a.getD j 0) (2 ^ t - 1) != 0))
def goneS (a : List Int) (w t i : Nat) : Bool := (List.range i).any (goneF a w t)
theorem goneS_zero (a : List Int) (w t : Nat) : goneS a w t 0 = false := rfl
theorem goneS_succ (a : List Int) (w t i : Nat) : goneS a w t (i + 1) = (goneS a w t i || goneF a w t i) := by
  unfold goneS
  rw [List.range_succ, List.any_append]
  simp
theorem shr_dig {a : List Int} (la : lim a) {i t : Nat} (ht : t ≤ 63) :
    val (a.drop i) / 2 ^ t = ((a.getD i 0).toNat / 2 ^ t + (a.getD (i + 1) 0).toNat * 2 ^ (64 - t) % 18446744073709551616) + 18446744073709551616 * (val (a.drop (i + 1)) / 2 ^ t) := by
  have e1 := val_drop_cons a i
  have e2 := val_drop_cons a (i + 1)
  have h1 := lim_get la (i := i + 1)
  have e3 : 18446744073709551616 = 2 ^ (64 - t) * 2 ^ t := by rw [← Nat.pow_add, show 64 - t + t = 64 by omega]
  rw [e1]
  generalize val (a.drop (i + 1)) = D at *
  generalize val (a.drop (i + 1 + 1)) = D2 at *
  rw [shr_val (by omega)]
  have e4 : (a.getD (i + 1) 0).toNat * 2 ^ (64 - t) % 18446744073709551616 = D % 2 ^ t * 2 ^ (64 - t) := by
    have e5 : D * 2 ^ (64 - t) % 18446744073709551616 = D % 2 ^ t * 2 ^ (64 - t) := by
      rw [e3, Nat.mul_comm (2 ^ (64 - t)), Nat.mul_mod_mul_right]
    rw [← e5, e2, Nat.add_mul, Nat.mul_assoc, Nat.add_mul_mod_self_left]
  rw [e4, Nat.add_assoc]
  congr 1
  have e6 := Nat.div_add_mod D (2 ^ t)
  generalize D / 2 ^ t = q at *
  generalize D % 2 ^ t = r at *
  rw [← e6, e3]
  generalize 2 ^ (64 - t) = u
  generalize 2 ^ t = v
  grind
theorem right_step {a o : List Int} (la : lim a) {i w t : Nat} (ht : t ≤ 63) (hl : o.length = i - w) (hw : w ≤ i) {x : Nat} (hx : x = (a.getD i 0).toNat / 2 ^ t + (a.getD (i + 1) 0).toNat * 2 ^ (64 - t) % 18446744073709551616)
    (h : val o + 2 ^ (64 * (i - w)) * (val (a.drop i) / 2 ^ t) = val (a.drop w) / 2 ^ t) : val (o ++ [(x : Int)]) + 2 ^ (64 * (i + 1 - w)) * (val (a.drop (i + 1)) / 2 ^ t) = val (a.drop w) / 2 ^ t := by
  rw [shr_dig la ht, ← hx] at h
  rw [val_snoc, hl, show i + 1 - w = (i - w) + 1 by omega, pow64_succ, Int.toNat_natCast]
  generalize val (a.drop (i + 1)) / 2 ^ t = D at *
  generalize 2 ^ (64 * (i - w)) = p at *
  rw [← h]
  grind
theorem shr_lt' {a b s : Nat} (ha : a < 18446744073709551616) (hb : b < 18446744073709551616) (hs : s ≤ 63) : a / 2 ^ s + b * 2 ^ (64 - s) % 18446744073709551616 < 18446744073709551616 := shr_lt ha hb (by omega)
theorem right_x {a : List Int} (la : lim a) {i t : Nat} (ht : t ≤ 63) : (a.getD i 0).toNat / 2 ^ t + (a.getD (i + 1) 0).toNat * 2 ^ (64 - t) % 18446744073709551616 < 18446744073709551616 := by
  have h := shr_dig la (i := i) ht
  have h1 := lim_get la (i := i)
  have h2 := lim_get la (i := i + 1)
  exact shr_lt' (by omega) (by omega) ht
theorem right_fin {a o : List Int} (la : lim a) {i w t k : Nat} (hk : k = 64 * w + t) (hi : a.length ≤ i) (h : val o + 2 ^ (64 * (i - w)) * (val (a.drop i) / 2 ^ t) = val (a.drop w) / 2 ^ t) : val o = val a / 2 ^ k := by
  have e : val (a.drop i) = 0 := by rw [List.drop_eq_nil_of_le hi]; rfl
  rw [e, Nat.zero_div, Nat.mul_zero, Nat.add_zero, val_drop _ _ la, Nat.div_div_eq_div_mul, ← Nat.pow_add, ← hk] at h
  exact h
end Go.AM.LN
set_option maxRecDepth 20000
namespace Go.AM.LN
theorem gone_t1 {a : List Int} {w t s : Nat} (h1 : (s : Int) < w) (h2 : ¬ a.getD s 0 = 0) : goneS a w t (s + 1) = true := by
  rw [goneS_succ]; unfold goneF
  rw [decide_eq_true (show s < w by omega)]
  simp [h2]
  exact .inr (.inl (by simpa using h2))
theorem gone_t2 {a : List Int} {w t s : Nat} (h1 : (s : Int) = w) (h2 : ¬ AM.bits .and .u64 (a.getD s 0) (2 ^ t - 1) = 0) : goneS a w t (s + 1) = true := by
  rw [goneS_succ]; unfold goneF
  rw [decide_eq_true (show s = w by omega)]
  have h3 : (AM.bits .and .u64 (a.getD s 0) (2 ^ t - 1) != 0) = true := by rw [bne_iff_ne]; exact h2
  rw [h3]
  simp
theorem gone_f {a : List Int} {w t s : Nat} (h1 : (s : Int) < w → a.getD s 0 = 0) (h2 : (s : Int) = w → AM.bits .and .u64 (a.getD s 0) (2 ^ t - 1) = 0) : goneS a w t (s + 1) = goneS a w t s := by
  rw [goneS_succ]; unfold goneF
  have e1 : (decide (s < w) && (a.getD s 0 != 0)) = false := by
    by_cases h : s < w
    · rw [h1 (by omega)]; simp
    · rw [decide_eq_false h]; simp
  have e2 : (decide (s = w) && (AM.bits .and .u64 (a.getD s 0) (2 ^ t - 1) != 0)) = false := by
    by_cases h : s = w
    · rw [h2 (by omega)]; simp
    · rw [decide_eq_false h]; simp
  rw [e1, e2]; simp
def rX (a : List Int) (i t : Nat) : Nat := (a.getD i 0).toNat / 2 ^ t + (a.getD (i + 1) 0).toNat * 2 ^ (64 - t) % 18446744073709551616
theorem rX_lt {a : List Int} (la : lim a) {i t : Nat} (ht : t ≤ 63) : rX a i t < 18446744073709551616 := right_x la ht
theorem rX0 {a : List Int} (la : lim a) {i t : Nat} (ht : t = 0) : a.getD i 0 / 2 ^ t = (rX a i t : Int) := by
  have h := lim_get la (i := i)
  unfold rX
  rw [castShr2 h.1, ht]
  have : (a.getD (i + 1) 0).toNat * 2 ^ (64 - 0) % 18446744073709551616 = 0 := by omega
  rw [this]; simp
theorem rX1 {a : List Int} (la : lim a) {i t : Nat} (ht : t ≤ 63) : AM.bits .or .u64 (a.getD i 0 / 2 ^ t) (a.getD (i + 1) 0 * 2 ^ (64 - t) % 18446744073709551616) = (rX a i t : Int) :=
  shr_word (lim_get la) (lim_get la) (by omega)
theorem right_go {a o : List Int} (la : lim a) {i w t : Nat} (ht : t ≤ 63) (hl : o.length = i - w) (hw : w ≤ i)
    (h : val o + 2 ^ (64 * (i - w)) * (val (a.drop i) / 2 ^ t) = val (a.drop w) / 2 ^ t) : val (o ++ [(rX a i t : Int)]) + 2 ^ (64 * (i + 1 - w)) * (val (a.drop (i + 1)) / 2 ^ t) = val (a.drop w) / 2 ^ t :=
  right_step la ht hl hw rfl h
end Go.AM.LN
set_option maxRecDepth 20000
namespace Go.AM.LN
open Go
theorem pow_split {a b : Nat} (h : b ≤ a) : 2 ^ a = 2 ^ (a - b) * 2 ^ b := by rw [← Nat.pow_add, Nat.sub_add_cancel h]
/-- The greatest q for which 2^q isn't above x / y. -/
def lowS (x y : Nat) : Int := if x * 2 ^ (-((blen x : Int) - (blen y : Int))).toNat < y * 2 ^ ((blen x : Int) - (blen y : Int)).toNat then (blen x : Int) - (blen y : Int) - 1 else (blen x : Int) - (blen y : Int)
theorem mul_pow_le {a b m n : Nat} (h : a * 2 ^ m ≤ b * 2 ^ n) (k : Nat) : a * 2 ^ (m + k) ≤ b * 2 ^ (n + k) := by
  rw [Nat.pow_add, Nat.pow_add, ← Nat.mul_assoc, ← Nat.mul_assoc]; exact Nat.mul_le_mul_right _ h
theorem mul_pow_lt {a b m n : Nat} (h : a * 2 ^ m < b * 2 ^ n) (k : Nat) : a * 2 ^ (m + k) < b * 2 ^ (n + k) := by
  rw [Nat.pow_add, Nat.pow_add, ← Nat.mul_assoc, ← Nat.mul_assoc]; exact Nat.mul_lt_mul_of_pos_right h (Nat.two_pow_pos _)
theorem mul_pow_le_of {a b m n k : Nat} (h : a * 2 ^ (m + k) ≤ b * 2 ^ (n + k)) : a * 2 ^ m ≤ b * 2 ^ n := by
  rw [Nat.pow_add, Nat.pow_add, ← Nat.mul_assoc, ← Nat.mul_assoc] at h; exact Nat.le_of_mul_le_mul_right h (Nat.two_pow_pos _)
theorem mul_pow_lt_of {a b m n k : Nat} (h : a * 2 ^ (m + k) < b * 2 ^ (n + k)) : a * 2 ^ m < b * 2 ^ n := by
  rw [Nat.pow_add, Nat.pow_add, ← Nat.mul_assoc, ← Nat.mul_assoc] at h; exact Nat.lt_of_mul_lt_mul_right h
/-- An inequality between two numbers times powers of two hangs on the difference of the exponents alone. -/
theorem shift_le {a b m n m' n' : Nat} (h : a * 2 ^ m ≤ b * 2 ^ n) (he : (m : Int) - n = (m' : Int) - n') : a * 2 ^ m' ≤ b * 2 ^ n' := by
  by_cases hm : m ≤ m'
  · have := mul_pow_le h (m' - m)
    rw [show m + (m' - m) = m' by omega, show n + (m' - m) = n' by omega] at this
    exact this
  · refine mul_pow_le_of (k := m - m') ?_
    rw [show m' + (m - m') = m by omega, show n' + (m - m') = n by omega]
    exact h
theorem shift_lt' {a b m n m' n' : Nat} (h : a * 2 ^ m < b * 2 ^ n) (he : (m : Int) - n = (m' : Int) - n') : a * 2 ^ m' < b * 2 ^ n' := by
  by_cases hm : m ≤ m'
  · have := mul_pow_lt h (m' - m)
    rw [show m + (m' - m) = m' by omega, show n + (m' - m) = n' by omega] at this
    exact this
  · refine mul_pow_lt_of (k := m - m') ?_
    rw [show m' + (m - m') = m by omega, show n' + (m - m') = n by omega]
    exact h
theorem lowS_ok {x y : Nat} (hx : 0 < x) (hy : 0 < y) : y * 2 ^ (lowS x y).toNat ≤ x * 2 ^ (-lowS x y).toNat ∧ x * 2 ^ (-(lowS x y + 1)).toNat < y * 2 ^ (lowS x y + 1).toNat := by
  have bx1 : 1 ≤ blen x := by have := @blen_zero x; omega
  have by1 : 1 ≤ blen y := by have := @blen_zero y; omega
  have x1 : 2 ^ (blen x - 1) ≤ x := blen_le.1 (by omega)
  have x2 : x < 2 ^ blen x := blen_lt.1 (Nat.le_refl _)
  have y1 : 2 ^ (blen y - 1) ≤ y := blen_le.1 (by omega)
  have y2 : y < 2 ^ blen y := blen_lt.1 (Nat.le_refl _)
  have h1 : y * 2 ^ (blen x - 1) ≤ x * 2 ^ blen y := by
    have : 2 ^ (blen x - 1) * y ≤ x * 2 ^ blen y := Nat.mul_le_mul x1 (Nat.le_of_lt y2)
    rw [Nat.mul_comm]; exact this
  have h2 : x * 2 ^ (blen y - 1) < y * 2 ^ blen x := by
    have e1 : x * 2 ^ (blen y - 1) < 2 ^ blen x * 2 ^ (blen y - 1) := Nat.mul_lt_mul_of_pos_right x2 (Nat.two_pow_pos _)
    have e2 : 2 ^ blen x * 2 ^ (blen y - 1) ≤ 2 ^ blen x * y := Nat.mul_le_mul_left _ y1
    rw [Nat.mul_comm y]; omega
  unfold lowS
  split
  · rename_i h
    refine ⟨shift_le h1 (by omega), ?_⟩
    rw [show (blen x : Int) - (blen y : Int) - 1 + 1 = (blen x : Int) - (blen y : Int) by omega]
    exact h
  · rename_i h
    exact ⟨Nat.le_of_not_lt h, shift_lt' h2 (by omega)⟩
theorem lowS_bound {x y : Nat} (hx : 0 < x) (hy : 0 < y) : (blen x : Int) - (blen y : Int) - 1 ≤ lowS x y ∧ lowS x y ≤ (blen x : Int) - (blen y : Int) := by
  unfold lowS; split <;> omega
/-! Rounding. -/
def rlow (x y : Nat) (e : Int) : Int := lowS x y + e
def rq (n : Int) (x y : Nat) (e : Int) : Int := max (2 - fe n - fp n) (rlow x y e - fp n + 1)
def rdiv (n d : Int) (s : Bool) (x y : Nat) (e : Int) : Nat × Bool := divS d s (x * 2 ^ (e - rq n x y e).toNat) (y * 2 ^ (-(e - rq n x y e)).toNat)
def rc (n d : Int) (s : Bool) (x y : Nat) (e : Int) : Nat := if (blen (rdiv n d s x y e).1 : Int) > fp n then (rdiv n d s x y e).1 / 2 else (rdiv n d s x y e).1
def rq2 (n d : Int) (s : Bool) (x y : Nat) (e : Int) : Int := if (blen (rdiv n d s x y e).1 : Int) > fp n then rq n x y e + 1 else rq n x y e
def ovV (n d : Int) (s : Bool) : Nat := if infS d s then packS n 2 s false 0 0 else packS n 1 s false (2 ^ (fp n).toNat - 1) (fe n + 1 - fp n)
def rndV (n d : Int) (s : Bool) (x y : Nat) (e : Int) : Nat :=
  if x = 0 then packS n 1 s false 0 (2 - fe n - fp n)
  else if rq2 n d s x y e > fe n + 1 - fp n then ovV n d s
  else packS n 1 s false (rc n d s x y e) (rq2 n d s x y e)
def rndF (n d : Int) (s : Bool) (x y : Nat) (e : Int) : Int :=
  if x = 0 then 0
  else if rq2 n d s x y e > fe n + 1 - fp n then 10
  else if (rdiv n d s x y e).2 then 0 else if rlow x y e < 2 - fe n - fp n + fp n - 1 then 12 else 8
theorem divS_le {d : Int} {s : Bool} {x y : Nat} : x / y ≤ (divS d s x y).1 ∧ (divS d s x y).1 ≤ x / y + 1 := by
  unfold divS; split
  · exact ⟨Nat.le_refl _, by omega⟩
  · split <;> (dsimp only; omega)
/-- What is known behind the division. -/
theorem rdiv_ok {n d : Int} {s : Bool} {x y : Nat} {e : Int} (hn : 1 ≤ n ∧ n ≤ 6) (hx : 0 < x) (hy : 0 < y) (hl : 2 - fe n - fp n - 1 ≤ rlow x y e) :
    ((rq n x y e = rlow x y e - fp n + 1 ∧ 2 ^ (fp n - 1).toNat ≤ (rdiv n d s x y e).1 ∧ (rdiv n d s x y e).1 ≤ 2 ^ (fp n).toNat) ∨ (rq n x y e = 2 - fe n - fp n ∧ (rdiv n d s x y e).1 ≤ 2 ^ (fp n - 1).toNat)) := by
  have F := bfmt hn
  have F1 := F.p8
  obtain ⟨L1, L2⟩ := lowS_ok hx hy
  have hX : ∀ k : Int, k = e - rq n x y e → x * 2 ^ k.toNat / (y * 2 ^ (-k).toNat) ≤ (rdiv n d s x y e).1 ∧ (rdiv n d s x y e).1 ≤ x * 2 ^ k.toNat / (y * 2 ^ (-k).toNat) + 1 := fun k hk => by subst hk; exact divS_le
  have hY : ∀ k : Int, 0 < y * 2 ^ (-k).toNat := fun k => Nat.mul_pos hy (Nat.two_pow_pos _)
  by_cases hc : 2 - fe n - fp n < rlow x y e - fp n + 1
  · have hq : rq n x y e = rlow x y e - fp n + 1 := by unfold rq; omega
    left
    obtain ⟨k, hk⟩ : ∃ k, k = e - rq n x y e := ⟨_, rfl⟩
    have hkL : k = fp n - 1 - lowS x y := by rw [hk, hq]; unfold rlow; omega
    obtain ⟨h1, h2⟩ := hX k hk
    have lo : y * 2 ^ (-k).toNat * 2 ^ (fp n - 1).toNat ≤ x * 2 ^ k.toNat := by
      rw [Nat.mul_assoc, ← Nat.pow_add]
      exact shift_le L1 (by omega)
    have up : x * 2 ^ k.toNat < y * 2 ^ (-k).toNat * 2 ^ (fp n).toNat := by
      rw [Nat.mul_assoc, ← Nat.pow_add]
      exact shift_lt' L2 (by omega)
    refine ⟨hq, Nat.le_trans ((Nat.le_div_iff_mul_le (hY k)).2 (by rw [Nat.mul_comm]; exact lo)) h1, Nat.le_trans h2 ?_⟩
    have := (Nat.div_lt_iff_lt_mul (hY k)).2 (by rw [Nat.mul_comm]; exact up)
    omega
  · have hq : rq n x y e = 2 - fe n - fp n := by unfold rq; omega
    obtain ⟨k, hk⟩ : ∃ k, k = e - rq n x y e := ⟨_, rfl⟩
    have hkL : k = e - (2 - fe n - fp n) := by rw [hk, hq]
    obtain ⟨h1, h2⟩ := hX k hk
    have hrl : rlow x y e = lowS x y + e := rfl
    by_cases hc2 : rlow x y e - fp n + 1 = 2 - fe n - fp n
    · left
      have lo : y * 2 ^ (-k).toNat * 2 ^ (fp n - 1).toNat ≤ x * 2 ^ k.toNat := by
        rw [Nat.mul_assoc, ← Nat.pow_add]
        exact shift_le L1 (by omega)
      have up : x * 2 ^ k.toNat < y * 2 ^ (-k).toNat * 2 ^ (fp n).toNat := by
        rw [Nat.mul_assoc, ← Nat.pow_add]
        exact shift_lt' L2 (by omega)
      refine ⟨by omega, Nat.le_trans ((Nat.le_div_iff_mul_le (hY k)).2 (by rw [Nat.mul_comm]; exact lo)) h1, Nat.le_trans h2 ?_⟩
      have := (Nat.div_lt_iff_lt_mul (hY k)).2 (by rw [Nat.mul_comm]; exact up)
      omega
    · right
      have up : x * 2 ^ k.toNat < y * 2 ^ (-k).toNat * 2 ^ (fp n - 1).toNat := by
        refine Nat.lt_of_lt_of_le (m := y * 2 ^ (-k).toNat * 2 ^ (rlow x y e + 1 - (2 - fe n - fp n)).toNat) ?_ (Nat.mul_le_mul_left _ (Nat.pow_le_pow_right (by omega) (by omega)))
        rw [Nat.mul_assoc, ← Nat.pow_add]
        exact shift_lt' L2 (by omega)
      refine ⟨hq, Nat.le_trans h2 ?_⟩
      have := (Nat.div_lt_iff_lt_mul (hY k)).2 (by rw [Nat.mul_comm]; exact up)
      omega
/-- Less than a half of the least number: as a quarter of it. -/
theorem rdiv_tiny {n d : Int} {s : Bool} {x y : Nat} {e : Int} (hx : 0 < x) (hy : 0 < y) (hp : 1 ≤ fp n) (hl : rlow x y e < 2 - fe n - fp n - 1) : rq n x y e = 2 - fe n - fp n ∧ rdiv n d s x y e = divS d s 1 4 := by
  obtain ⟨L1, L2⟩ := lowS_ok hx hy
  have hq : rq n x y e = 2 - fe n - fp n := by unfold rq; omega
  refine ⟨hq, ?_⟩
  unfold rdiv
  rw [hq]
  obtain ⟨k, hk⟩ : ∃ k, k = e - (2 - fe n - fp n) := ⟨_, rfl⟩
  rw [← hk]
  have hrl : rlow x y e = lowS x y + e := rfl
  have up : x * 2 ^ k.toNat * 2 < y * 2 ^ (-k).toNat := by
    refine Nat.lt_of_le_of_lt (m := x * 2 ^ k.toNat * 2 ^ (2 - fe n - fp n - 1 - rlow x y e).toNat) (Nat.mul_le_mul_left _ (by
      have : 2 ^ 1 ≤ 2 ^ (2 - fe n - fp n - 1 - rlow x y e).toNat := Nat.pow_le_pow_right (by omega) (by omega)
      omega)) ?_
    rw [Nat.mul_assoc, ← Nat.pow_add]
    exact shift_lt' L2 (by omega)
  have hX : 0 < x * 2 ^ k.toNat := Nat.mul_pos hx (Nat.two_pow_pos _)
  generalize x * 2 ^ k.toNat = X at *
  generalize y * 2 ^ (-k).toNat = Y at *
  have h1 : X / Y = 0 := Nat.div_eq_of_lt (by omega)
  have h2 : X % Y = X := Nat.mod_eq_of_lt (by omega)
  have a1 : divS d s X Y = (if upS d s (0 % 2 == 1) (-1) = true then 0 + 1 else 0, false) := by
    unfold divS
    rw [h1, h2, cmpI_lt (by omega), if_neg (by omega)]
  have a2 : divS d s 1 4 = (if upS d s (0 % 2 == 1) (-1) = true then 0 + 1 else 0, false) := rfl
  rw [a1, a2]
end Go.AM.LN
set_option maxRecDepth 20000
namespace Go.AM.LN
open Go
def okR (n d : Int) : Bool := decide (1 ≤ n ∧ n ≤ 6) && decide (0 ≤ d ∧ d ≤ 4)
def roundV (n d : Int) (s : Bool) (x y : Nat) (e : Int) : Nat := if okR n d then rndV n d s x y e else 0
def roundF (n d : Int) (s : Bool) (x y : Nat) (e : Int) : Int := if okR n d then rndF n d s x y e else 0
def roundE (n d : Int) : Int := if okR n d then 0 else 1
theorem okB0 (n : Int) : okB n 0 = decide (1 ≤ n ∧ n ≤ 6) := by
  unfold okB
  by_cases h : 1 ≤ n ∧ n ≤ 6
  · have F := bfmt h
    have := F.w
    have := F.p8
    have := F.x5
    have h0 : (blen 0 : Int) = 0 := rfl
    rw [decide_eq_true h, Bool.true_and, h0, decide_eq_true_eq]; omega
  · rw [decide_eq_false h, Bool.false_and]
theorem blen_ones (k : Nat) : blen (2 ^ k - 1) = k := by
  have hp := Nat.two_pow_pos k
  cases k with
  | zero => rfl
  | succ k =>
    refine blen_eq ?_ ?_
    · have : 2 ^ (k + 1) = 2 * 2 ^ k := by rw [Nat.pow_succ, Nat.mul_comm]
      have := Nat.two_pow_pos k
      omega
    · omega
/-- The words of numbers times powers of two. -/
theorem len_pow {x k : Nat} (h : x ≠ 0) : (limbs (x * 2 ^ k)).length = (blen x + k + 63) / 64 := by
  rw [len_limbs, blen_mul h]
theorem blen_le_len (x : Nat) : blen x ≤ 64 * (limbs x).length := by rw [len_limbs]; omega
theorem or84 : AM.bits .or .i64 8 4 = 12 := by decide
end Go.AM.LN
set_option maxRecDepth 20000
namespace Go.AM.LN
/-! Long division bit by bit. -/
structure OvI (x y k r Q : Nat) : Prop where
  e : x = Q * y + r
  l : r < y * 2 ^ k
  m : Q % 2 ^ k = 0
theorem ov_init {x y : Nat} (hy : 0 < y) (h : blen y ≤ blen x) : OvI x y (blen x - blen y + 1) x 0 := by
  refine ⟨by omega, ?_, Nat.zero_mod _⟩
  have b1 : 1 ≤ blen y := by have := @blen_zero y; omega
  have y1 : 2 ^ (blen y - 1) ≤ y := blen_le.1 (by omega)
  have x2 : x < 2 ^ blen x := blen_lt.1 (Nat.le_refl _)
  refine Nat.lt_of_lt_of_le x2 ?_
  rw [show blen x = blen y - 1 + (blen x - blen y + 1) by omega, Nat.pow_add]
  rw [show blen y - 1 + (blen x - blen y + 1) - blen y + 1 = blen x - blen y + 1 by omega]
  exact Nat.mul_le_mul_right _ y1
theorem mod_half {Q k : Nat} (h : Q % 2 ^ (k + 1) = 0) : Q % 2 ^ k = 0 := by
  obtain ⟨m, rfl⟩ := Nat.dvd_of_mod_eq_zero h
  rw [Nat.pow_succ, Nat.mul_assoc, Nat.mul_mod_right]
theorem ov_no {x y k r Q : Nat} (h : OvI x y (k + 1) r Q) (hr : r < y * 2 ^ k) : OvI x y k r Q := ⟨h.e, hr, mod_half h.m⟩
theorem ov_yes {x y k r Q : Nat} (h : OvI x y (k + 1) r Q) (hr : y * 2 ^ k ≤ r) : OvI x y k (r - y * 2 ^ k) (Q + 2 ^ k) := by
  refine ⟨?_, ?_, ?_⟩
  · have := h.e
    rw [Nat.add_mul, Nat.mul_comm (2 ^ k)]
    omega
  · have := h.l
    rw [Nat.pow_succ, ← Nat.mul_assoc] at this
    omega
  · rw [Nat.add_mod, mod_half h.m, Nat.mod_self]; simp
theorem ov_fin {x y r Q : Nat} (h : OvI x y 0 r Q) : Q = x / y ∧ r = x % y := by
  have h1 := h.l
  rw [Nat.pow_zero, Nat.mul_one] at h1
  have := dm_add x y Q r (by omega) h1 h.e
  exact ⟨this.1.symm, this.2.symm⟩
theorem half_pow (y k : Nat) : y * 2 ^ (k + 1) / 2 = y * 2 ^ k := by
  rw [Nat.pow_succ, ← Nat.mul_assoc, Nat.mul_div_cancel _ (by omega)]
/-- A bit that isn't set is set. -/
theorem set_bit {q : List Int} (lq : lim q) {k : Nat} (hk : k / 64 < q.length) (h : val q % 2 ^ (k + 1) = 0) :
    AM.bits .or .u64 (q.getD (k / 64) 0) (2 ^ (k % 64)) = (((q.getD (k / 64) 0).toNat + 2 ^ (k % 64) : Nat) : Int) ∧ (q.getD (k / 64) 0).toNat + 2 ^ (k % 64) < 18446744073709551616 ∧ val (q.set (k / 64) (((q.getD (k / 64) 0).toNat + 2 ^ (k % 64) : Nat) : Int)) = val q + 2 ^ k := by
  have hd := val_getD q (k / 64) lq
  have hg := lim_get lq (i := k / 64)
  have ht : k % 64 < 64 := Nat.mod_lt _ (by omega)
  have hk2 : k = 64 * (k / 64) + k % 64 := by omega
  generalize k / 64 = w at *
  generalize k % 64 = t at *
  obtain ⟨c, hc⟩ : ∃ c, (q.getD w 0).toNat = c := ⟨_, rfl⟩
  have hcm : c % 2 ^ (t + 1) = 0 := by
    rw [← hc, ← hd]
    have e1 : (18446744073709551616 : Nat) = 2 ^ (t + 1) * 2 ^ (64 - (t + 1)) := by rw [← Nat.pow_add, show t + 1 + (64 - (t + 1)) = 64 by omega]
    rw [e1, Nat.mod_mul_right_mod]
    obtain ⟨m, hm⟩ := Nat.dvd_of_mod_eq_zero h
    rw [hm, hk2, show 64 * w + t + 1 = 64 * w + (t + 1) by omega, Nat.pow_add, Nat.mul_assoc, Nat.mul_div_cancel_left _ (Nat.two_pow_pos _), Nat.mul_mod_right]
  have ht2 : 2 ^ t < 18446744073709551616 := Nat.pow_lt_pow_right (by omega) ht
  have hsum : c + 2 ^ t < 18446744073709551616 := by
    obtain ⟨m, hm⟩ := Nat.dvd_of_mod_eq_zero hcm
    have e1 : (18446744073709551616 : Nat) = 2 ^ (t + 1) * 2 ^ (64 - (t + 1)) := by rw [← Nat.pow_add, show t + 1 + (64 - (t + 1)) = 64 by omega]
    have hlt : c < 18446744073709551616 := by omega
    rw [hm, e1] at hlt
    have h3 : m < 2 ^ (64 - (t + 1)) := Nat.lt_of_mul_lt_mul_left hlt
    have h4 : 2 ^ (t + 1) * (m + 1) ≤ 18446744073709551616 := by rw [e1]; exact Nat.mul_le_mul_left _ h3
    rw [Nat.mul_add, Nat.mul_one, ← hm, Nat.pow_succ] at h4
    have := Nat.two_pow_pos t
    omega
  have hor : c ||| 2 ^ t = c + 2 ^ t := by
    obtain ⟨m, hm⟩ := Nat.dvd_of_mod_eq_zero hcm
    rw [hm, Nat.mul_comm, ← Nat.shiftLeft_eq, ← Nat.shiftLeft_add_eq_or_of_lt (Nat.pow_lt_pow_right (by omega) (by omega))]
  have hp : ((2 : Int) ^ t).toNat = 2 ^ t := by
    have : ((2 : Int) ^ t) = ((2 ^ t : Nat) : Int) := by simp
    rw [this, Int.toNat_natCast]
  have hp2 : 0 ≤ (2 : Int) ^ t ∧ (2 : Int) ^ t < 18446744073709551616 := by
    have : ((2 : Int) ^ t) = ((2 ^ t : Nat) : Int) := by simp
    rw [this]; omega
  refine ⟨?_, by rw [hc]; exact hsum, ?_⟩
  · rw [or_u64 hg hp2, hp, hc, hor]
  · have hs := val_set hk (((c + 2 ^ t : Nat)) : Int)
    rw [hc] at hs ⊢
    rw [Int.toNat_natCast, Nat.mul_add, ← Nat.pow_add, ← hk2] at hs
    omega
theorem pow_int {t : Nat} (ht : t < 64) : 1 * (2 : Int) ^ t % 18446744073709551616 = 2 ^ t := by
  have : ((2 : Int) ^ t) = ((2 ^ t : Nat) : Int) := by simp
  have h2 : 2 ^ t < 18446744073709551616 := Nat.pow_lt_pow_right (by omega) ht
  rw [Int.one_mul, this]
  generalize 2 ^ t = z at *
  omega
/-! Powers by squaring. -/
theorem pw_odd {x y m B : Nat} (h : x * y ^ m = B) (hm : m % 2 = 1) : x * y * (y * y) ^ (m / 2) = B := by
  have e : m = 2 * (m / 2) + 1 := by omega
  rw [e, Nat.pow_succ, Nat.pow_mul] at h
  rw [show y ^ 2 = y * y by rw [Nat.pow_succ, Nat.pow_one]] at h
  rw [← h, Nat.mul_assoc, Nat.mul_comm y]
theorem pw_even {x y m B : Nat} (h : x * y ^ m = B) (hm : ¬ m % 2 = 1) : x * (y * y) ^ (m / 2) = B := by
  have e : m = 2 * (m / 2) := by omega
  rw [e, Nat.pow_mul] at h
  rw [show y ^ 2 = y * y by rw [Nat.pow_succ, Nat.pow_one]] at h
  exact h
theorem pw_le {x y m B : Nat} (h : x * y ^ m = B) (hB : 0 < B) (hm : 0 < m) : x ≤ B ∧ y ≤ B ∧ 0 < x ∧ 0 < y := by
  have hx : 0 < x := Nat.pos_of_ne_zero fun h0 => by subst h0; simp at h; omega
  have hy : 0 < y := Nat.pos_of_ne_zero fun h0 => by subst h0; rw [Nat.zero_pow hm] at h; omega
  have h1 : 0 < y ^ m := Nat.pow_pos hy
  refine ⟨?_, ?_, hx, hy⟩
  · rw [← h]; exact Nat.le_mul_of_pos_right _ h1
  · rw [← h]
    exact Nat.le_trans (Nat.le_self_pow (by omega) y) (Nat.le_mul_of_pos_left _ hx)
theorem pw_len {b n : Nat} (hb : b < 18446744073709551616) : (limbs (b ^ n)).length ≤ n + 1 := by
  refine len_le_of (Nat.lt_of_le_of_lt (m := 2 ^ (64 * n)) ?_ (Nat.pow_lt_pow_right (by omega) (by omega)))
  rw [Nat.pow_mul]
  exact Nat.pow_le_pow_left (Nat.le_of_lt hb) n
theorem limbs_getD (X i : Nat) : (limbs X).getD i 0 = w4 X i := by
  have h := val_getD (limbs X) i (lim_limbs X)
  rw [val_limbs] at h
  have := lim_get (lim_limbs X) (i := i)
  unfold w4
  omega
end Go.AM.LN
set_option maxRecDepth 20000
namespace Go.AM.LN
open Go
section
variable {n d : Int} {s : Bool} {x y : Nat} {e : Int} {c : Nat} {ex : Bool}
theorem rnd_num1 (hx : x ≠ 0) (hD : rdiv n d s x y e = (c, ex)) (hP : fp n < (blen c : Int)) (hM : rq n x y e + 1 ≤ fe n + 1 - fp n) : rndV n d s x y e = packS n 1 s false (c / 2) (rq n x y e + 1) := by
  have h2 : rq2 n d s x y e = rq n x y e + 1 := by unfold rq2; rw [hD, if_pos hP]
  have h3 : rc n d s x y e = c / 2 := by unfold rc; rw [hD, if_pos hP]
  unfold rndV; rw [if_neg hx, h2, h3, if_neg (by omega)]
theorem rnd_num0 (hx : x ≠ 0) (hD : rdiv n d s x y e = (c, ex)) (hP : (blen c : Int) ≤ fp n) (hM : rq n x y e ≤ fe n + 1 - fp n) : rndV n d s x y e = packS n 1 s false c (rq n x y e) := by
  have h2 : rq2 n d s x y e = rq n x y e := by unfold rq2; rw [hD, if_neg (by dsimp only; omega)]
  have h3 : rc n d s x y e = c := by unfold rc; rw [hD, if_neg (by dsimp only; omega)]
  unfold rndV; rw [if_neg hx, h2, h3, if_neg (by omega)]
theorem rnd_ov1 (hx : x ≠ 0) (hD : rdiv n d s x y e = (c, ex)) (hP : fp n < (blen c : Int)) (hM : fe n + 1 - fp n < rq n x y e + 1) : rndV n d s x y e = ovV n d s ∧ rndF n d s x y e = 10 := by
  have h2 : rq2 n d s x y e = rq n x y e + 1 := by unfold rq2; rw [hD, if_pos hP]
  unfold rndV rndF; rw [if_neg hx, if_neg hx, h2, if_pos (by omega), if_pos (by omega)]; exact ⟨rfl, rfl⟩
theorem rnd_ov0 (hx : x ≠ 0) (hD : rdiv n d s x y e = (c, ex)) (hP : (blen c : Int) ≤ fp n) (hM : fe n + 1 - fp n < rq n x y e) : rndV n d s x y e = ovV n d s ∧ rndF n d s x y e = 10 := by
  have h2 : rq2 n d s x y e = rq n x y e := by unfold rq2; rw [hD, if_neg (by dsimp only; omega)]
  unfold rndV rndF; rw [if_neg hx, if_neg hx, h2, if_pos (by omega), if_pos (by omega)]; exact ⟨rfl, rfl⟩
theorem rnd_ovA (hx : x ≠ 0) (hM : fe n + 1 - fp n < rq n x y e) : rndV n d s x y e = ovV n d s ∧ rndF n d s x y e = 10 := by
  have h2 : rq2 n d s x y e > fe n + 1 - fp n := by unfold rq2; split <;> omega
  unfold rndV rndF; rw [if_neg hx, if_neg hx, if_pos h2, if_pos h2]; exact ⟨rfl, rfl⟩
/-- The flags. -/
theorem rnd_f (hx : x ≠ 0) (hD : rdiv n d s x y e = (c, ex)) (hM : (fp n < (blen c : Int) ∧ rq n x y e + 1 ≤ fe n + 1 - fp n) ∨ ((blen c : Int) ≤ fp n ∧ rq n x y e ≤ fe n + 1 - fp n)) :
    (ex = true → rndF n d s x y e = 0) ∧ (ex = false → rlow x y e < 2 - fe n - fp n + fp n - 1 → rndF n d s x y e = 12) ∧ (ex = false → ¬ rlow x y e < 2 - fe n - fp n + fp n - 1 → rndF n d s x y e = 8) := by
  have h2 : ¬ rq2 n d s x y e > fe n + 1 - fp n := by
    unfold rq2; rw [hD]
    split
    · rename_i h; dsimp only at h; omega
    · rename_i h; dsimp only at h; omega
  have h3 : (rdiv n d s x y e).2 = ex := by rw [hD]
  unfold rndF
  rw [if_neg hx, if_neg h2, h3]
  refine ⟨fun h => by rw [h, if_pos rfl], fun h h4 => ?_, fun h h4 => ?_⟩
  · rw [h, if_neg (by simp), if_pos h4]
  · rw [h, if_neg (by simp), if_neg h4]
theorem rnd_isD1 (hf : 8 ≤ fp n) (hO : (rq n x y e = rlow x y e - fp n + 1 ∧ 2 ^ (fp n - 1).toNat ≤ c ∧ c ≤ 2 ^ (fp n).toNat) ∨ (rq n x y e = 2 - fe n - fp n ∧ c ≤ 2 ^ (fp n - 1).toNat)) (hq : 2 - fe n - fp n ≤ rq n x y e)
    (hP : fp n < (blen c : Int)) (hM : rq n x y e + 1 ≤ fe n + 1 - fp n) : isD n 1 false (c / 2) (rq n x y e + 1) := by
  have h1 : 2 ^ (fp n).toNat ≤ c := blen_le.1 (by omega)
  have h2 : 2 ^ (fp n).toNat = 2 ^ (fp n - 1).toNat * 2 := by rw [← Nat.pow_succ]; congr 1; omega
  have hp := Nat.two_pow_pos (fp n - 1).toNat
  have h3 : c = 2 ^ (fp n).toNat := by
    rcases hO with ⟨_, _, h⟩ | ⟨_, h⟩ <;> omega
  have h4 : c / 2 = 2 ^ (fp n - 1).toNat := by omega
  have h5 : blen (c / 2) = (fp n - 1).toNat + 1 := by rw [h4]; exact blen_eq (Nat.le_refl _) (by rw [Nat.pow_succ]; omega)
  exact .inl ⟨rfl, rfl, by omega, hM, .inl (by rw [h5]; omega)⟩
theorem rnd_isD0 (hf : 8 ≤ fp n) (hO : (rq n x y e = rlow x y e - fp n + 1 ∧ 2 ^ (fp n - 1).toNat ≤ c ∧ c ≤ 2 ^ (fp n).toNat) ∨ (rq n x y e = 2 - fe n - fp n ∧ c ≤ 2 ^ (fp n - 1).toNat)) (hq : 2 - fe n - fp n ≤ rq n x y e)
    (hP : (blen c : Int) ≤ fp n) (hM : rq n x y e ≤ fe n + 1 - fp n) : isD n 1 false c (rq n x y e) := by
  refine .inl ⟨rfl, rfl, hq, hM, ?_⟩
  rcases hO with ⟨_, h1, _⟩ | ⟨h, _⟩
  · have := blen_le.2 h1
    exact .inl (by omega)
  · by_cases h2 : (blen c : Int) = fp n
    · exact .inl h2
    · exact .inr ⟨by omega, h⟩
theorem rq_b : 2 - fe n - fp n ≤ rq n x y e ∧ rlow x y e - fp n + 1 ≤ rq n x y e ∧ (rq n x y e = 2 - fe n - fp n ∨ rq n x y e = rlow x y e - fp n + 1) := by unfold rq; omega
end
theorem okR_n {n d : Int} (h : ¬ (1 ≤ n ∧ n ≤ 6)) : okR n d = false := by unfold okR; rw [decide_eq_false h, Bool.false_and]
theorem okR_d {n d : Int} (h : ¬ (0 ≤ d ∧ d ≤ 4)) : okR n d = false := by unfold okR; rw [decide_eq_false h, Bool.and_false]
theorem okR_y {n d : Int} (h : 1 ≤ n ∧ n ≤ 6) (h2 : 0 ≤ d ∧ d ≤ 4) : okR n d = true := by unfold okR; rw [decide_eq_true h, decide_eq_true h2]; rfl
theorem round_no {n d : Int} (h : okR n d = false) (s : Bool) (x y : Nat) (e : Int) : roundE n d = 1 ∧ roundV n d s x y e = 0 ∧ roundF n d s x y e = 0 := by
  unfold roundE roundV roundF; rw [h]; exact ⟨rfl, rfl, rfl⟩
theorem round_yes {n d : Int} (h : okR n d = true) (s : Bool) (x y : Nat) (e : Int) : roundE n d = 0 ∧ roundV n d s x y e = rndV n d s x y e ∧ roundF n d s x y e = rndF n d s x y e := by
  unfold roundE roundV roundF; rw [h]; exact ⟨rfl, rfl, rfl⟩
theorem len4 {c : Nat} (h : c < 2 ^ 256) : (limbs c).length ≤ 4 := len_le_of (k := 4) h
theorem low_lt {x y : Nat} {L : Int} (hL : lowS x y = L) (h : cmpI (x * 2 ^ (-((blen x : Int) - (blen y : Int))).toNat) (y * 2 ^ ((blen x : Int) - (blen y : Int)).toNat) < 0) : (blen x : Int) - (blen y : Int) - 1 = L := by
  rw [← hL]; unfold lowS; rw [if_pos (cmpI_neg.1 h)]
theorem low_ge {x y : Nat} {L : Int} (hL : lowS x y = L) (h : 0 ≤ cmpI (x * 2 ^ (-((blen x : Int) - (blen y : Int))).toNat) (y * 2 ^ ((blen x : Int) - (blen y : Int)).toNat)) : (blen x : Int) - (blen y : Int) = L := by
  rw [← hL]; unfold lowS; rw [if_neg (fun h2 => by have := cmpI_neg.2 h2; omega)]
theorem rnd_zero {n d : Int} {s : Bool} {x y : Nat} {e : Int} (hx : x = 0) : rndV n d s x y e = packS n 1 s false 0 (2 - fe n - fp n) ∧ rndF n d s x y e = 0 := by
  unfold rndV rndF; rw [if_pos hx, if_pos hx]; exact ⟨rfl, rfl⟩
theorem wk40 (i : Nat) : w4 0 i = 0 := by unfold w4; simp
end Go.AM.LN
set_option maxRecDepth 20000
namespace Go.AM.LN
open Go
/-! A pattern as a sum of its fields. -/
theorem or_add {X Y k : Nat} (h : X < 2 ^ k) : X ||| Y * 2 ^ k = X + Y * 2 ^ k := by
  rw [Nat.or_comm, Nat.add_comm, ← Nat.shiftLeft_eq, ← Nat.shiftLeft_add_eq_or_of_lt h]
theorem two256' : (2 : Nat) ^ 256 = 2 ^ 256 := rfl
def packN (n cl : Int) (si : Bool) (C : Nat) : Nat := C % 2 ^ (fp n - 1).toNat + if cl = 3 ∧ si = false then 2 ^ (fp n - 2).toNat else 0
theorem eS_le {n cl : Int} {si : Bool} {C : Nat} {ex : Int} (hn : 1 ≤ n ∧ n ≤ 6) (hd : isD n cl si C ex) : (eS cl n C ex).toNat ≤ 2 ^ (fx n).toNat - 1 := by
  have F := bfmt hn
  have hee : (2 : Int) ^ (fx n).toNat = ((2 ^ (fx n).toNat : Nat) : Int) := by simp
  have F1 := F.ee
  have F2 := F.e15
  rw [hee] at F1
  unfold eS
  rcases hd with ⟨rfl, rfl, h1, h2, h3⟩ | ⟨rfl, rfl, h1, h2⟩ | ⟨rfl, h1, h2, h3⟩
  · rw [if_pos rfl]
    split <;> omega
  · rw [if_neg (by omega)]; rw [hee]; omega
  · rw [if_neg (by omega)]; rw [hee]; omega
theorem packN_lt {n cl : Int} {si : Bool} {C : Nat} {ex : Int} (hn : 1 ≤ n ∧ n ≤ 6) (hd : isD n cl si C ex) : packN n cl si C < 2 ^ (fp n - 1).toNat ∧ packF n cl si C = packN n cl si C := by
  have F := bfmt hn
  have p8 := F.p8
  have p241 := F.p241
  have hl := F.l
  have h0 : C % 2 ^ (fp n - 1).toNat < 2 ^ (fp n - 1).toNat := Nat.mod_lt _ (Nat.two_pow_pos _)
  have e1 : 2 ^ (fp n - 1).toNat = 2 * 2 ^ (fp n - 2).toNat := by
    rw [show (fp n - 1).toNat = (fp n - 2).toNat + 1 by omega, Nat.pow_succ, Nat.mul_comm]
  unfold packN packF
  by_cases h : cl = 3 ∧ si = false
  · rw [if_pos h, if_pos h]
    have hC : C < 2 ^ (fp n - 2).toNat := by
      rcases hd with ⟨h1, _⟩ | ⟨h1, _⟩ | ⟨_, _, h2, _⟩
      · omega
      · omega
      · exact blen_lt.1 (by omega)
    have h256 : 2 ^ (fp n - 2).toNat < 2 ^ 256 := Nat.pow_lt_pow_right (by omega) (by omega)
    rw [Nat.mod_eq_of_lt (by omega), Nat.one_mul, Nat.mod_eq_of_lt h256]
    refine ⟨by omega, ?_⟩
    have := or_add (Y := 1) hC
    rw [Nat.one_mul] at this
    exact this
  · rw [if_neg h, if_neg h]
    exact ⟨h0, rfl⟩
theorem packS_sum {n cl : Int} {sg si : Bool} {C : Nat} {ex : Int} (hn : 1 ≤ n ∧ n ≤ 6) (hd : isD n cl si C ex) :
    packS n cl sg si C ex = packN n cl si C + (eS cl n C ex).toNat * 2 ^ (fp n - 1).toNat + (if sg then 2 ^ (fp n - 1 + fx n).toNat else 0) ∧ packN n cl si C + (eS cl n C ex).toNat * 2 ^ (fp n - 1).toNat < 2 ^ (fp n - 1 + fx n).toNat ∧ 2 ^ (fp n - 1 + fx n).toNat + 2 ^ (fp n - 1 + fx n).toNat ≤ 2 ^ 256 := by
  have F := bfmt hn
  have p8 := F.p8
  have p241 := F.p241
  have x5 := F.x5
  have x15 := F.x15
  have hw := F.w
  obtain ⟨N1, N2⟩ := packN_lt hn hd
  have hE := eS_le hn hd
  have hB : packB n cl si C ex = packN n cl si C ||| ((eS cl n C ex).toNat * 2 ^ (fp n - 1).toNat % 2 ^ 256) := by unfold packB; rw [N2]
  generalize (eS cl n C ex).toNat = E at *
  generalize packN n cl si C = P at *
  have hw1 : fp n - 1 + fx n = fw n - 1 := by omega
  have hpx : 2 ^ (fp n - 1 + fx n).toNat = 2 ^ (fp n - 1).toNat * 2 ^ (fx n).toNat := by rw [← Nat.pow_add]; congr 1; omega
  have hsm : P + E * 2 ^ (fp n - 1).toNat < 2 ^ (fp n - 1 + fx n).toNat := by
    rw [hpx]
    have h1 : (E + 1) * 2 ^ (fp n - 1).toNat ≤ 2 ^ (fx n).toNat * 2 ^ (fp n - 1).toNat := Nat.mul_le_mul_right _ (by have := Nat.two_pow_pos (fx n).toNat; omega)
    rw [Nat.add_mul, Nat.one_mul] at h1
    rw [Nat.mul_comm (2 ^ (fp n - 1).toNat)]
    omega
  have h255 : 2 ^ (fp n - 1 + fx n).toNat ≤ 2 ^ 255 := Nat.pow_le_pow_right (by omega) (by omega)
  have h256 : (2 : Nat) ^ 255 + 2 ^ 255 = 2 ^ 256 := by decide
  have h255p : (0 : Nat) < 2 ^ 255 := Nat.two_pow_pos _
  generalize hM : (2 : Nat) ^ 256 = M at *
  generalize (2 : Nat) ^ 255 = M2 at *
  have hor := or_add (Y := E) N1
  have hB2 : packB n cl si C ex = P + E * 2 ^ (fp n - 1).toNat := by
    rw [hB, Nat.mod_eq_of_lt (by omega)]; exact hor
  refine ⟨?_, hsm, by omega⟩
  unfold packS
  rw [hB2, ← hw1, hM]
  cases sg
  · rfl
  · rw [if_pos rfl, if_pos rfl, Nat.one_mul, Nat.mod_eq_of_lt (by omega)]
    have h := or_add (Y := 1) hsm
    rw [Nat.one_mul] at h
    exact h
end Go.AM.LN
set_option maxRecDepth 20000
namespace Go.AM.LN
open Go
theorem len_valpow {a : List Int} (la : lim a) (k : Nat) : (limbs (val a * 2 ^ k)).length ≤ a.length + k / 64 + 1 := by
  refine len_le_of (Nat.lt_of_lt_of_le (m := 2 ^ (64 * a.length) * 2 ^ k) (Nat.mul_lt_mul_of_pos_right (val_lt la) (Nat.two_pow_pos _)) ?_)
  rw [← Nat.pow_add]
  exact Nat.pow_le_pow_right (by omega) (by omega)
theorem mod_sub {X P : Nat} : X / P * P ≤ X ∧ X - X / P * P = X % P := by
  have h := Nat.div_add_mod X P
  rw [Nat.mul_comm] at h
  omega
theorem toNat_pow0 : (2 : Nat) ^ (0 : Int).toNat = 1 := rfl
/-- A datum's pattern, by its kind. -/
theorem packS_c1d {n : Int} {sg : Bool} {C : Nat} {ex : Int} (hn : 1 ≤ n ∧ n ≤ 6) (hd : isD n 1 false C ex) (h : (blen C : Int) < fp n) : packS n 1 sg false C ex = C + (if sg then 2 ^ (fp n - 1 + fx n).toNat else 0) := by
  have F := bfmt hn
  have p8 := F.p8
  rw [(packS_sum hn hd).1]
  have e1 : eS 1 n C ex = 0 := by unfold eS; rw [if_pos rfl, if_neg (by omega)]
  have e2 : packN n 1 false C = C := by
    unfold packN
    rw [if_neg (by omega), Nat.add_zero, Nat.mod_eq_of_lt]
    exact blen_lt.1 (by omega)
  rw [e1, e2]; simp
theorem packS_c1n {n : Int} {sg : Bool} {C : Nat} {ex : Int} (hn : 1 ≤ n ∧ n ≤ 6) (hd : isD n 1 false C ex) (h : (blen C : Int) = fp n) : packS n 1 sg false C ex = C % 2 ^ (fp n - 1).toNat + (ex - (2 - fe n - fp n) + 1).toNat * 2 ^ (fp n - 1).toNat + (if sg then 2 ^ (fp n - 1 + fx n).toNat else 0) := by
  rw [(packS_sum hn hd).1]
  have e1 : eS 1 n C ex = ex - (2 - fe n - fp n) + 1 := by unfold eS; rw [if_pos rfl, if_pos h]
  have e2 : packN n 1 false C = C % 2 ^ (fp n - 1).toNat := by
    unfold packN
    rw [if_neg (by omega), Nat.add_zero]
  rw [e1, e2]
theorem eS_hi {n cl : Int} {C : Nat} {ex : Int} (h : cl ≠ 1) : (eS cl n C ex).toNat = 2 ^ (fx n).toNat - 1 := by
  unfold eS
  rw [if_neg h]
  have hee : (2 : Int) ^ (fx n).toNat = ((2 ^ (fx n).toNat : Nat) : Int) := by simp
  rw [hee]; omega
theorem packS_c2 {n : Int} {sg : Bool} {C : Nat} {ex : Int} (hn : 1 ≤ n ∧ n ≤ 6) (hd : isD n 2 false C ex) : packS n 2 sg false C ex = (2 ^ (fx n).toNat - 1) * 2 ^ (fp n - 1).toNat + (if sg then 2 ^ (fp n - 1 + fx n).toNat else 0) := by
  rw [(packS_sum hn hd).1, eS_hi (by omega)]
  have h0 : C = 0 := by
    rcases hd with ⟨h1, _⟩ | ⟨_, _, h2, _⟩ | ⟨h1, _⟩
    · omega
    · exact blen_zero.1 h2
    · omega
  have e2 : packN n 2 false C = 0 := by
    unfold packN
    rw [if_neg (by omega), h0, Nat.zero_mod]
  rw [e2]; simp
theorem packS_c3 {n : Int} {sg si : Bool} {C : Nat} {ex : Int} (hn : 1 ≤ n ∧ n ≤ 6) (hd : isD n 3 si C ex) : packS n 3 sg si C ex = C + (if si = false then 2 ^ (fp n - 2).toNat else 0) + (2 ^ (fx n).toNat - 1) * 2 ^ (fp n - 1).toNat + (if sg then 2 ^ (fp n - 1 + fx n).toNat else 0) ∧ C < 2 ^ (fp n - 1).toNat := by
  rw [(packS_sum hn hd).1, eS_hi (by omega)]
  have F := bfmt hn
  have p8 := F.p8
  have hl := F.l
  have hC : C < 2 ^ (fp n - 1).toNat := by
    rcases hd with ⟨h1, _⟩ | ⟨h1, _⟩ | ⟨_, _, h2, _⟩
    · omega
    · omega
    · exact blen_lt.1 (by omega)
  have e2 : packN n 3 si C = C + (if si = false then 2 ^ (fp n - 2).toNat else 0) := by
    unfold packN
    rw [Nat.mod_eq_of_lt hC]
    simp
  rw [e2]
  exact ⟨rfl, hC⟩
/-- All sums are below 2^256. -/
theorem packS_lt {n cl : Int} {sg si : Bool} {C : Nat} {ex : Int} (hn : 1 ≤ n ∧ n ≤ 6) (hd : isD n cl si C ex) : packS n cl sg si C ex < 2 ^ 256 := by
  obtain ⟨h1, h2, h3⟩ := packS_sum (sg := sg) hn hd
  rw [h1]
  split <;> omega
/-! Rounding, as the reference has it. -/
theorem cmp_half {r y : Nat} (h : r ≤ y) : cmpI (r * 2) y = cmpI r (y - r) := by
  rcases Nat.lt_trichotomy (r * 2) y with h1 | h1 | h1
  · rw [cmpI_lt h1, cmpI_lt (show r < y - r by omega)]
  · rw [cmpI_eq h1, cmpI_eq (show r = y - r by omega)]
  · rw [cmpI_gt h1, cmpI_gt (show y - r < r by omega)]
theorem cmpI_mul {x y m : Nat} (hm : 0 < m) : cmpI (x * m) (y * m) = cmpI x y := by
  unfold cmpI
  by_cases h1 : x < y
  · rw [if_pos h1, if_pos (Nat.mul_lt_mul_of_pos_right h1 hm)]
  · rw [if_neg h1, if_neg (by have := Nat.mul_le_mul_right m (Nat.le_of_not_lt h1); omega)]
    by_cases h2 : x = y
    · subst h2; rw [if_pos rfl, if_pos rfl]
    · rw [if_neg h2, if_neg (fun h => h2 (Nat.eq_of_mul_eq_mul_right hm h))]
theorem divS_mul {d : Int} {s : Bool} {x y m : Nat} (hm : 0 < m) : divS d s (x * m) (y * m) = divS d s x y := by
  unfold divS
  rw [Nat.mul_div_mul_right _ _ hm, Nat.mul_mod_mul_right, ← Nat.sub_mul, cmpI_mul hm]
  by_cases h : x % y = 0
  · rw [if_pos h, if_pos (by rw [h, Nat.zero_mul])]
  · rw [if_neg h, if_neg (fun h2 => h (by rcases Nat.mul_eq_zero.1 h2 with h3 | h3 <;> omega))]
/-- Two shifts are one. -/
theorem shift_two (E k : Int) : ∃ m : Nat, E.toNat + k.toNat = (E + k).toNat + m ∧ (-E).toNat + (-k).toNat = (-(E + k)).toNat + m := by
  refine ⟨E.toNat + k.toNat - (E + k).toNat, ?_, ?_⟩ <;> omega
theorem divS_two {d : Int} {s : Bool} {x y : Nat} {E k : Int} : divS d s (x * 2 ^ E.toNat * 2 ^ k.toNat) (y * 2 ^ (-E).toNat * 2 ^ (-k).toNat) = divS d s (x * 2 ^ (E + k).toNat) (y * 2 ^ (-(E + k)).toNat) := by
  obtain ⟨m, h1, h2⟩ := shift_two E k
  rw [Nat.mul_assoc, ← Nat.pow_add, h1, Nat.mul_assoc, ← Nat.pow_add, h2, Nat.pow_add, Nat.pow_add, ← Nat.mul_assoc, ← Nat.mul_assoc]
  exact divS_mul (Nat.two_pow_pos m)
/-- What the reference's exponent answers: its scale stops at 200000. -/
def lowR (x y : Nat) : Int :=
  if x * 2 ^ (min (max (-((blen x : Int) - (blen y : Int))) (-200000)) 200000).toNat < y * 2 ^ (-(min (max (-((blen x : Int) - (blen y : Int))) (-200000)) 200000)).toNat then (blen x : Int) - (blen y : Int) - 1 else (blen x : Int) - (blen y : Int)
theorem lowR_bound (x y : Nat) : (blen x : Int) - (blen y : Int) - 1 ≤ lowR x y ∧ lowR x y ≤ (blen x : Int) - (blen y : Int) := by
  unfold lowR; split <;> omega
theorem lowR_eq {x y : Nat} (h : -200000 ≤ (blen x : Int) - (blen y : Int) ∧ (blen x : Int) - (blen y : Int) ≤ 200000) : lowR x y = lowS x y := by
  unfold lowR lowS
  rw [show min (max (-((blen x : Int) - (blen y : Int))) (-200000)) 200000 = -((blen x : Int) - (blen y : Int)) by omega]
  rw [show -(-((blen x : Int) - (blen y : Int))) = (blen x : Int) - (blen y : Int) by omega]
theorem lowS_shift {x y : Nat} (hx : 0 < x) (hy : 0 < y) (E : Int) : lowS (x * 2 ^ E.toNat) (y * 2 ^ (-E).toNat) = lowS x y + E := by
  unfold lowS
  rw [blen_mul (by omega), blen_mul (by omega)]
  have e : ((blen x + E.toNat : Nat) : Int) - ((blen y + (-E).toNat : Nat) : Int) = (blen x : Int) - (blen y : Int) + E := by omega
  rw [e]
  obtain ⟨m, h1, h2⟩ := shift_two E (-((blen x : Int) - (blen y : Int) + E))
  rw [show E + -((blen x : Int) - (blen y : Int) + E) = -((blen x : Int) - (blen y : Int)) by omega] at h1 h2
  rw [show -(-((blen x : Int) - (blen y : Int) + E)) = (blen x : Int) - (blen y : Int) + E by omega] at h2
  rw [show -(-((blen x : Int) - (blen y : Int))) = (blen x : Int) - (blen y : Int) by omega] at h2
  rw [Nat.mul_assoc, ← Nat.pow_add, h1, Nat.mul_assoc, ← Nat.pow_add, h2, Nat.pow_add, Nat.pow_add, ← Nat.mul_assoc, ← Nat.mul_assoc]
  by_cases h : x * 2 ^ (-((blen x : Int) - (blen y : Int))).toNat < y * 2 ^ ((blen x : Int) - (blen y : Int)).toNat
  · rw [if_pos h, if_pos (Nat.mul_lt_mul_of_pos_right h (Nat.two_pow_pos m))]; omega
  · rw [if_neg h, if_neg (by have := Nat.mul_le_mul_right (2 ^ m) (Nat.le_of_not_lt h); omega)]
end Go.AM.LN
set_option maxRecDepth 20000
namespace Go.AM.LN
open Go
/-- An exponent as the reference's Scale takes it. -/
def scE (c e : Int) : Int := min (max e (-(if c = 10 then 60000 else 200000))) (if c = 10 then 60000 else 200000)
theorem scE2 (e : Int) : scE 2 e = min (max e (-200000)) 200000 := rfl
theorem scE10 (e : Int) : scE 10 e = min (max e (-60000)) 60000 := rfl
theorem scE_b (c e : Int) : -200000 ≤ scE c e ∧ scE c e ≤ 200000 := by unfold scE; split <;> omega
theorem blen_val {a : List Int} (la : lim a) : blen (val a) ≤ 64 * a.length := blen_lt.2 (lt_pow_of_len la (Nat.le_refl _))
theorem lowR_lt {x y : Nat} (h : cmpI (x * 2 ^ (scE 2 (-((blen x : Int) - blen y))).toNat) (y * 2 ^ (-scE 2 (-((blen x : Int) - blen y))).toNat) < 0) : lowR x y = (blen x : Int) - blen y - 1 := by
  unfold lowR; rw [← scE2]; exact if_pos (cmpI_neg.1 h)
theorem lowR_ge {x y : Nat} (h : 0 ≤ cmpI (x * 2 ^ (scE 2 (-((blen x : Int) - blen y))).toNat) (y * 2 ^ (-scE 2 (-((blen x : Int) - blen y))).toNat)) : lowR x y = (blen x : Int) - blen y := by
  unfold lowR; rw [← scE2]; exact if_neg (fun h2 => by rw [cmpI_lt h2] at h; omega)
theorem ov_t {n d : Int} {s : Bool} (h : infS d s = true) : ovV n d s = packS n 2 s false 0 0 := if_pos h
theorem ov_f {n d : Int} {s : Bool} (h : infS d s = false) : ovV n d s = packS n 1 s false (2 ^ (fp n).toNat - 1) (fe n + 1 - fp n) := if_neg (by rw [h]; exact Bool.false_ne_true)
theorem pow_zero_of {c : Nat} {k : Int} (h : k ≤ 0) : c ^ k.toNat = 1 := by rw [show k.toNat = 0 by omega, Nat.pow_zero]
theorem odd_val {a : List Int} (la : lim a) : val a % 2 = (a.getD 0 0).toNat % 2 := mod_word (s := 1) la (by omega)
theorem odd_rem {a : List Int} (la : lim a) : ((a.getD 0 0).tmod 2 == 1) = (val a % 2 == 1) := by
  have h := lim_get la (i := 0)
  rw [odd_val la, Int.tmod_eq_emod_of_nonneg h.1, Bool.eq_iff_iff]
  simp only [beq_iff_eq]
  omega
theorem far_inf {d : Int} {s : Bool} (h : 0 ≤ d ∧ d ≤ 4) : (if d = 2 then false else if d = 3 then !s else if d = 4 then s else true) = infS d s := by
  have hd : d = 0 ∨ d = 1 ∨ d = 2 ∨ d = 3 ∨ d = 4 := by omega
  rcases hd with rfl | rfl | rfl | rfl | rfl <;> rfl
theorem len_b {x k : Nat} (h : blen x ≤ k) : (limbs x).length ≤ (k + 63) / 64 := by rw [len_limbs]; omega
theorem blen_pow_le {x k : Nat} : blen (x * 2 ^ k) ≤ blen x + k := by
  by_cases h : x = 0
  · subst h; rw [Nat.zero_mul]; exact Nat.le_trans (Nat.le_of_eq rfl) (Nat.zero_le _)
  · rw [blen_mul h]; exact Nat.le_refl _
theorem blen_divS {d : Int} {s : Bool} {x y : Nat} : blen (divS d s x y).1 ≤ blen x + 1 := by
  refine blen_lt.2 ?_
  have h1 := (@divS_le d s x y).2
  have h2 : x / y ≤ x := Nat.div_le_self _ _
  have h3 : x < 2 ^ blen x := blen_lt.1 (Nat.le_refl _)
  have h4 := Nat.two_pow_pos (blen x)
  rw [Nat.pow_succ]
  omega
set_option maxHeartbeats 4000000 in
/-- The ways of the reference's rounding. -/
theorem ref_way {n d : Int} {s : Bool} {x y : Nat} {e : Int} (hn : 1 ≤ n ∧ n ≤ 6) (hx : 0 < x) (hy : 0 < y) (bx : blen x ≤ 51200) (b_y : blen y ≤ 51200) {E L Q K : Int}
    (hE : E = scE 2 e) (hL : L = lowR (x * 2 ^ E.toNat) (y * 2 ^ (-E).toNat)) (hQ : Q = max (2 - fe n - fp n) (L - fp n + 1)) (hK : K = scE 2 (-Q)) :
    (fe n + 1 - fp n < Q ∧ Q ≤ 500000 ∧ fe n + 1 - fp n < rq n x y e) ∨
    (Q = rq n x y e ∧ -20000 ≤ Q ∧ Q ≤ 20000 ∧ divS d s (x * 2 ^ E.toNat * 2 ^ K.toNat) (y * 2 ^ (-E).toNat * 2 ^ (-K).toNat) = rdiv n d s x y e ∧ (L < 2 - fe n - fp n + fp n - 1 ↔ rlow x y e < 2 - fe n - fp n + fp n - 1) ∧
      ((rq n x y e = rlow x y e - fp n + 1 ∧ 2 ^ (fp n - 1).toNat ≤ (rdiv n d s x y e).1 ∧ (rdiv n d s x y e).1 ≤ 2 ^ (fp n).toNat) ∨ (rq n x y e = 2 - fe n - fp n ∧ (rdiv n d s x y e).1 ≤ 2 ^ (fp n - 1).toNat))) := by
  obtain ⟨F1, F2, F3, F4, F5, F6, F7, F8, F9, F10, F11⟩ := bfmt hn
  rw [scE2] at hE hK
  obtain ⟨bl1, bl2⟩ := lowS_bound hx hy
  obtain ⟨br1, br2⟩ := lowR_bound (x * 2 ^ E.toNat) (y * 2 ^ (-E).toNat)
  have hx1 : 1 ≤ blen x := by have := @blen_zero x; omega
  have hy1 : 1 ≤ blen y := by have := @blen_zero y; omega
  have hs := lowS_shift hx hy E
  have he := @lowR_eq (x * 2 ^ E.toNat) (y * 2 ^ (-E).toNat)
  rw [blen_mul (by omega), blen_mul (by omega)] at he br1 br2
  rw [hs] at he
  rw [← hL] at he br1 br2
  have hrl : rlow x y e = lowS x y + e := rfl
  have hrlE : rlow x y E = lowS x y + E := rfl
  have rqe := @rq_b n x y e
  have rqE := @rq_b n x y E
  generalize lowS x y = l at *
  have hLE : (-200000 ≤ (blen x : Int) - blen y + E ∧ (blen x : Int) - blen y + E ≤ 200000) → L = l + E := fun h => he (by omega)
  clear he hs
  have hway : (fe n + 1 - fp n + fp n ≤ l + e) ∨ (l + e < 2 - fe n - fp n - 1) ∨ (2 - fe n - fp n - 1 ≤ l + e ∧ l + e < fe n + 1 - fp n + fp n) := by omega
  rcases hway with hA | hB | ⟨hC1, hC2⟩
  · left
    refine ⟨?_, by omega, by omega⟩
    by_cases h2 : (blen x : Int) - blen y + E ≤ 200000
    · have := hLE (by omega)
      omega
    · omega
  · right
    have hT := rdiv_tiny (n := n) (d := d) (s := s) (e := e) hx hy (by omega) (by omega)
    have hLs : L < 2 - fe n - fp n - 1 := by
      by_cases h2 : -200000 ≤ (blen x : Int) - blen y + E
      · have := hLE (by omega)
        omega
      · omega
    have hQ' : Q = 2 - fe n - fp n := by omega
    have hK' : K = -Q := by omega
    have hT' := rdiv_tiny (n := n) (d := d) (s := s) (e := E) hx hy (by omega) (by omega)
    refine ⟨by omega, by omega, by omega, ?_, by omega, .inr ⟨hT.1, ?_⟩⟩
    · rw [divS_two, hT.2, ← hT'.2]
      unfold rdiv
      rw [hT'.1, hK', hQ', ← Int.sub_eq_add_neg]
    · rw [hT.2]
      have h1 := (@divS_le d s 1 4).2
      exact Nat.le_trans h1 Nat.one_le_two_pow
  · right
    have hEe : E = e := by omega
    subst hEe
    have hLl := hLE (by omega)
    clear hLE rqE hrlE hE
    have hQ' : Q = rq n x y E := by rw [hQ]; unfold rq; rw [hrl, hLl]
    have hQ1 : -20000 ≤ Q ∧ Q ≤ 20000 := by omega
    have hK' : K = -Q := by omega
    refine ⟨hQ', hQ1.1, hQ1.2, ?_, by omega, rdiv_ok hn hx hy (by omega)⟩
    rw [divS_two]
    unfold rdiv
    rw [hK', ← hQ', ← Int.sub_eq_add_neg]
end Go.AM.LN
set_option maxRecDepth 20000
namespace Go.AM.LN
open Go
/-! Texts as lists of bytes. -/
def bs (l : List UInt8) : ByteArray := ⟨l.toArray⟩
theorem bs_app (l r : List UInt8) : bs l ++ bs r = bs (l ++ r) := by
  apply ByteArray.ext
  simp [bs]
theorem bs_size (l : List UInt8) : (bs l).size = l.length := by simp [bs, ByteArray.size]
theorem bs_list (l : List UInt8) : (bs l).toList = l := by
  rw [ByteArray.toList_eq]; simp [bs]
theorem bs_inj {l r : List UInt8} (h : bs l = bs r) : l = r := by rw [← bs_list l, h, bs_list]
theorem bs_lit (a : Array UInt8) : (⟨a⟩ : ByteArray) = bs a.toList := by simp [bs]
theorem bs_beq (l r : List UInt8) : ((bs l).toList == (bs r).toList) = (l == r) := by rw [bs_list, bs_list]
theorem bt_bs (l : List UInt8) (i : Int) : AM.bt (bs l) i = ((l.getD i.toNat 0).toNat : Int) := by simp [AM.bt, bs]
theorem bs_extract (l : List UInt8) (i j : Nat) : (bs l).extract i j = bs ((l.drop i).take (j - i)) := by
  apply ByteArray.ext
  simp [bs, List.take_drop]
/-! Decimal digits. -/
open Go.Lib
def decW (n : Nat) : Nat → List UInt8
  | 0 => []
  | k + 1 => decW (n / 10) k ++ [UInt8.ofNat (48 + n % 10)]
theorem decW_len (n k : Nat) : (decW n k).length = k := by
  induction k generalizing n with
  | zero => rfl
  | succ k ih => simp [decW, ih]
theorem decD_big {u : Nat} (h : 10 ≤ u) : decDigits u = decDigits (u / 10) ++ [UInt8.ofNat (48 + u % 10)] := by
  rw [decDigits, dif_neg (by omega)]
theorem decD_small {u : Nat} (h : u < 10) : decDigits u = [UInt8.ofNat (48 + u)] := by rw [decDigits, dif_pos h]
theorem pow10_split (q r k : Nat) (hr : r < 10 ^ (k + 1)) : (q * 10 ^ (k + 1) + r) / 10 = q * 10 ^ k + r / 10 ∧ (q * 10 ^ (k + 1) + r) % 10 = r % 10 ∧ r / 10 < 10 ^ k := by
  rw [Nat.pow_succ, ← Nat.mul_assoc] at *
  omega
theorem decD_app (k : Nat) : ∀ q r, 0 < q → r < 10 ^ k → decDigits (q * 10 ^ k + r) = decDigits q ++ decW r k := by
  induction k with
  | zero => intro q r hq hr; rw [Nat.pow_zero] at *; rw [show r = 0 by omega]; simp [decW]
  | succ k ih =>
    intro q r hq hr
    obtain ⟨h1, h2, h3⟩ := pow10_split q r k hr
    have hp := Nat.pow_pos (n := k) (show 0 < 10 by omega)
    have hge : 10 ≤ q * 10 ^ (k + 1) + r := by
      have : 1 * 10 ^ (k + 1) ≤ q * 10 ^ (k + 1) := Nat.mul_le_mul_right _ hq
      rw [Nat.pow_succ] at this ⊢
      omega
    rw [decD_big hge, h1, h2, ih q (r / 10) hq h3]
    simp [decW]
theorem decW_app (k : Nat) : ∀ (j q r : Nat), r < 10 ^ k → decW (q * 10 ^ k + r) (j + k) = decW q j ++ decW r k := by
  induction k with
  | zero => intro j q r hr; rw [Nat.pow_zero] at *; rw [show r = 0 by omega]; simp [decW]
  | succ k ih =>
    intro j q r hr
    obtain ⟨h1, h2, h3⟩ := pow10_split q r k hr
    rw [show j + (k + 1) = (j + k) + 1 by omega]
    simp only [decW]
    rw [h1, h2, ih j q (r / 10) h3]
    simp
theorem decW_zero (k : Nat) : decW 0 k = List.replicate k 48 := by
  induction k with
  | zero => rfl
  | succ k ih => simp only [decW, Nat.zero_div, ih]; rw [List.replicate_succ']; rfl
/-- A number with noughts ahead. -/
theorem decD_pad (k : Nat) : ∀ r, r < 10 ^ k → 0 < k → List.replicate (k - (decDigits r).length) 48 ++ decDigits r = decW r k := by
  induction k with
  | zero => intro r hr h0; omega
  | succ k ih =>
    intro r hr _
    by_cases h10 : r < 10
    · rw [decD_small h10]
      simp only [decW, List.length_singleton, Nat.add_sub_cancel]
      rw [Nat.div_eq_of_lt h10, decW_zero, Nat.mod_eq_of_lt h10]
    · have hk : 0 < k := Nat.pos_of_ne_zero fun h => by subst h; omega
      have h3 : r / 10 < 10 ^ k := by rw [Nat.pow_succ] at hr; omega
      rw [decD_big (by omega)]
      simp only [decW, List.length_append, List.length_singleton]
      rw [← ih (r / 10) h3 hk, show k + 1 - ((decDigits (r / 10)).length + 1) = k - (decDigits (r / 10)).length by omega]
      simp
theorem decD_le (k : Nat) {r : Nat} (h : r < 10 ^ k) (h0 : 0 < k) : (decDigits r).length ≤ k := by
  have := congrArg List.length (decD_pad k r h h0)
  rw [decW_len, List.length_append, List.length_replicate] at this
  omega
end Go.AM.LN
set_option maxRecDepth 20000
namespace Go.AM.LN
open Go Go.Lib
theorem bs_toList (s : ByteArray) : s = bs s.toList := by rw [ByteArray.toList_eq]; cases s; simp [bs]
theorem bs_data (l : List UInt8) : (bs l).data.toList = l := by simp [bs]
/-- A number's digits; none of nought. -/
def decS (n : Nat) : List UInt8 := if n = 0 then [] else decDigits n
theorem decD_head (n : Nat) : 0 < n → ∃ x r, decDigits n = x :: r ∧ (x == 48) = false := by
  induction n using Nat.strongRecOn with
  | ind n ih =>
    intro h
    by_cases h10 : n < 10
    · refine ⟨UInt8.ofNat (48 + n), [], decD_small h10, ?_⟩
      have : n = 1 ∨ n = 2 ∨ n = 3 ∨ n = 4 ∨ n = 5 ∨ n = 6 ∨ n = 7 ∨ n = 8 ∨ n = 9 := by omega
      rcases this with rfl | rfl | rfl | rfl | rfl | rfl | rfl | rfl | rfl <;> decide
    · obtain ⟨x, r, h1, h2⟩ := ih (n / 10) (by omega) (by omega)
      exact ⟨x, r ++ [UInt8.ofNat (48 + n % 10)], by rw [decD_big (by omega), h1]; rfl, h2⟩
theorem bare_dec (n : Nat) : trimLeftB (decDigits n) 48 = decS n := by
  unfold decS trimLeftB
  by_cases h : n = 0
  · subst h; rw [decD_small (by omega)]; rfl
  · obtain ⟨x, r, h1, h2⟩ := decD_head n (by omega)
    rw [if_neg h, h1, List.dropWhile_cons, h2]; rfl
/-- What isn't a number, as a text. -/
def nanT (cl : Int) (sg si : Bool) (D : List UInt8) : List UInt8 :=
  (if sg then [45] else []) ++ if cl = 2 then [105, 110, 102] else ((if si then [115] else []) ++ [110, 97, 110] ++ if D = [] then [] else 40 :: (D ++ [41]))
theorem decS_len {n k : Nat} (h : n < 10 ^ k) (hk : 0 < k) : (decS n).length ≤ k := by
  unfold decS
  split
  · simp
  · exact decD_le k h hk
theorem dec_len256 {n : Nat} (h : n < 2 ^ 256) : (decDigits n).length ≤ 100 ∧ (decS n).length ≤ 100 := by
  have h2 : (2 : Nat) ^ 256 ≤ 10 ^ 100 := by decide
  exact ⟨decD_le 100 (by omega) (by omega), decS_len (k := 100) (by omega) (by omega)⟩
theorem dropW_len (p : UInt8 → Bool) : ∀ l : List UInt8, (l.dropWhile p).length ≤ l.length
  | [] => Nat.le_refl _
  | x :: r => by
    have := dropW_len p r
    rw [List.dropWhile_cons]
    split
    · rw [List.length_cons]; omega
    · exact Nat.le_refl _
theorem trimLeftB_len (s : ByteArray) : (trimLeftB s.data.toList 48).length ≤ s.size := dropW_len _ s.data.toList
end Go.AM.LN
set_option maxRecDepth 20000
namespace Go.Proofs.AMT
open Go.AM Go.AM.LN
attribute [local congr] bindO_congr bindS_congr bindG_congr awpOps_congr aOne_congr awp_congr aCond_congr awpD_congr dOne_congr keysB_congr nOne_congr thenP_congr blockP_congr Chk_congr Brk_congr
noncomputable def s64 : CSpec := fun ds => match ds with
  | [.sl .u64 a] => some (a.length ≤ 100000000, .one (.v (.int .i64 (sz a))))
  | _ => none
theorem s64_eq (a : List Int) : norm s64 [.sl .u64 a] = some (a.length ≤ 100000000, .one (.v (.int .i64 (sz a)))) := rfl
theorem s64_nil1  : norm s64 [.v (.slice none 0 0)] = some (([] : List Int).length ≤ 100000000, .one (.v (.int .i64 (sz ([] : List Int))))) := rfl
noncomputable def G64 : Gam := []
theorem G64_ok : GamOk Tryz.prog G64 := gamOk_nil
set_option maxHeartbeats 20000000 in
theorem wk64 (a : List Int) (hp : a.length ≤ 100000000) : awp ty G64 (code Tryz.f64) (retP ty Tryz.f64.results.toList (.one (.v (.int .i64 (sz a))))) (entry 0 [.sl .u64 a]) [] := by
  unfold code
  simp only [Tryz.f64, Option.getD_some]
  all_goals repeat' (first
    | ((first
       | (with_reducible refine ops_k ?_; intro X hX)
       | (with_reducible refine opsN_k ?_; intro X hX)
       | (with_reducible show awp _ _ _ _ (keepL _ _) _)
       | with_reducible refine awp_cond_k ?_
       | (with_reducible refine Brk_i ?_ ?_ <;> intro hb <;> (try simp only [hb]) <;> have hq := hb <;> try simp only [decide_eq_true_eq, decide_eq_false_iff_not, gt_iff_lt, ge_iff_le, Int.not_lt, Int.not_le, beq_iff_eq, beq_eq_false_iff_ne, Bool.not_eq_true', Bool.not_eq_false', Bool.and_eq_true, Bool.or_eq_true, Bool.and_eq_false_imp, Bool.or_eq_false_iff, ne_eq, Classical.not_not] at hq)
       | with_reducible refine retP_ret_i ?_
       | with_reducible refine retP_normal_i ?_
       | (with_reducible (show bindG _ _ _ _ _); simp only [hall])) <;> try simp only [Go.AM.S1, Go.AM.S2, Go.AM.S3, Go.AM.S4, Go.AM.S5, Go.AM.S6, Go.AM.S7, Go.AM.S8, Go.AM.S9, Nat.reduceAdd, Nat.reduceMul, Nat.reduceSub, ↓reduceIte, Nat.reduceEqDiff, Nat.reduceLT, Nat.reduceLeDiff, reduceCtorEq, Int.reduceBEq, Int.reduceBNe, Nat.reduceBEq, Int.reduceEq, Int.reduceToNat, Int.reduceLE, Int.reduceLT, Nat.reduceDiv, Int.reduceAdd, Int.reduceSub, Int.reduceMul, Int.reduceNeg, Int.reduceGT, Int.reduceGE, Nat.reduceMod, ty_3, ty_22, ty_40])
    | (with_reducible refine hX _ _ ?_; clear hX X)
    | (with_reducible refine ops_nil_i ?_; try clear hall all)
    | (with_reducible refine opsN_nil_i ?_; try clear hall all)
    | (with_reducible refine hK _ _ ?_; clear hK K)
    | with_reducible refine thenP_normal_i ?_
    | (with_reducible refine zzr4 _ _ ?_; try clear zzr4 Kzzr4)
    | (with_reducible refine zzb0 _ _ ?_; try clear zzb0 Kzzb0)
    | (with_reducible refine zzsr2 _ _ ?_; try clear zzsr2 Kzzsr2)
    | (with_reducible refine zzr2 _ _ ?_; try clear zzr2 Kzzr2)
    | (with_reducible refine zzr1 _ _ ?_; try clear zzr1 Kzzr1)
    | (with_reducible refine zzr0 _ _ ?_; try clear zzr0 Kzzr0)
    | (with_reducible refine awp_lp (σ := Nat) (fun n => n ≤ a.length ∧ ∀ i, n ≤ i → a.getD i 0 = 0) (fun n => [(0, .rd .u64 a), (3, .v (.int .i64 n))]) (fun _ => []) (fun n => n) a.length ?_ ?_ (fun s hs => ?_))
    | (with_reducible refine awp_seq_l (a := .region 4 _ _) [2] ?_; intro Kzzr4 zzr4)
    | (with_reducible refine awp_seq_l (a := .block 0 _) [3] ?_; intro Kzzb0 zzb0)
    | (with_reducible refine awp_seq_l (a := .seq (.region 2 _ _) _) [0, 3] ?_; intro Kzzsr2 zzsr2)
    | (with_reducible refine awp_seq_l (a := .region 2 _ _) [0, 3, 15] ?_; intro Kzzr2 zzr2)
    | (with_reducible refine awp_seq_l (a := .region 1 _ _) [0, 3] ?_; intro Kzzr1 zzr1)
    | (with_reducible refine awp_seq_l (a := .region 0 _ _) [0] ?_; intro Kzzr0 zzr0)
    | (with_reducible refine awp_seq_k ?_; intro K hK)
    | (with_reducible refine awp_region_a ?_; intro all hall K hK)
    | (with_reducible refine awp_draw_n ?_ ?_; kernel_rfl; intro all hall K hK)
    | (with_reducible refine Chk_i ?_ ?_)
    | (with_reducible refine keysC_i ?_; kernel_rfl)
    | (with_reducible first | refine awp_block_i ?_ | refine awp_skip_i ?_ | refine awp_ret_i ?_ | refine awp_exit_i ?_ | refine thenP_ret_i ?_ | refine thenP_exit_i ?_ | refine lpP_ret_i ?_ | refine lpP_exit_i ?_ | refine unrP_succ_i ?_ | refine unrP_ret_i ?_ | refine unrP_exit_i ?_ | refine blockP_normal_i ?_ | refine blockP_ret_i ?_)
    | (with_reducible refine blockP_exit_i ?_; simp only [↓reduceIte, Nat.reduceEqDiff])
    | with_reducible refine lpP_normal_i ?_)
  all_goals (try clear zzr0; try clear Kzzr0)
  all_goals (try clear zzr1; try clear Kzzr1)
  all_goals (try clear zzr2; try clear Kzzr2)
  all_goals (try clear zzsr2; try clear Kzzsr2)
  all_goals (try clear zzb0; try clear Kzzb0)
  all_goals (try clear zzr4; try clear Kzzr4)
  all_goals (try simp only [inR])
  · exact ⟨Nat.le_refl _, fun i hi => by simp [List.getD, List.getElem?_eq_none hi]⟩
  · exact Ent.refl _ _
  · omega
  · omega
  · omega
  · refine ⟨s - 1, by (refine ent_ok [] rfl ?_ ?_ <;> simp only [memLe, slotsLe, AvLe, lk, ↓reduceIte, Nat.reduceEqDiff, Option.isSome_some, and_self, and_true, true_and, reduceCtorEq, List.map_nil, List.map_cons, Option.some.injEq, AV.v.injEq, Value.int.injEq, Value.bool.injEq, AV.rd.injEq, AV.ow.injEq, AV.al.injEq, AV.ref.injEq] <;> omega), ⟨by omega, fun i hi => ?_⟩, by omega⟩
    by_cases h : s ≤ i
    · exact hs.2 i h
    · have : i = s - 1 := by omega
      subst this
      have e : ((s : Int) - 1).toNat = s - 1 := by omega
      rw [e] at hq
      exact hq
  · have e : ((s : Int) - 1).toNat = s - 1 := by omega
    rw [e] at hq
    rw [sz_eq s hs.1 hs.2 (.inr hq)]
  · rw [sz_eq s hs.1 hs.2 (.inl (by omega))]
theorem sound_64 : Sound Tryz.prog 64 .body (norm s64) := by
  refine sound_norm (sound_body Tryz.func64 (show Tryz.f64.body = some (code Tryz.f64) from rfl) (by kernel_rfl) tysOk G64_ok (drawOk_ok (by kernel_rfl) tysOk G64_ok) (by kernel_rfl) fun ds p r hs hp => ?_)
  unfold s64 at hs
  split at hs
  · cases hs; exact ⟨Nat.le_of_ble_eq_true (by kernel_rfl), wk64 _ hp⟩
  · cases hs
end Go.Proofs.AMT
set_option maxRecDepth 20000
namespace Go.Proofs.AMT
open Go.AM Go.AM.LN
attribute [local congr] bindO_congr bindS_congr bindG_congr awpOps_congr aOne_congr awp_congr aCond_congr awpD_congr dOne_congr keysB_congr nOne_congr thenP_congr blockP_congr Chk_congr Brk_congr
noncomputable def s45 : CSpec := fun ds => match ds with
  | [.sl .u64 a] => some (lim a ∧ a.length ≤ 100000000, .one (.fresh .u64 (limbs (val a))))
  | _ => none
theorem s45_eq (a : List Int) : norm s45 [.sl .u64 a] = some (lim a ∧ a.length ≤ 100000000, .one (.fresh .u64 (limbs (val a)))) := rfl
theorem s45_nil1  : norm s45 [.v (.slice none 0 0)] = some (lim ([] : List Int) ∧ ([] : List Int).length ≤ 100000000, .one (.fresh .u64 (limbs (val ([] : List Int))))) := rfl
noncomputable def G45 : Gam := [(63, .body, norm sClone), (64, .body, norm s64)]
theorem G45_ok : GamOk Tryz.prog G45 := gamOk_cons clone_n (gamOk_cons sound_64 gamOk_nil)
theorem k45_63 : lk G45 63 = some (.body, norm sClone) := rfl
theorem k45_64 : lk G45 64 = some (.body, norm s64) := rfl
set_option maxHeartbeats 20000000 in
theorem wk45 (a : List Int) (hp : lim a ∧ a.length ≤ 100000000) : awp ty G45 (code Tryz.f45) (retP ty Tryz.f45.results.toList (.one (.fresh .u64 (limbs (val a))))) (entry 0 [.sl .u64 a]) [] := by
  unfold code
  simp only [Tryz.f45, Option.getD_some]
  have z := sz_le a
  all_goals repeat' (first
    | ((first
       | (with_reducible refine ops_k ?_; intro X hX)
       | (with_reducible refine opsN_k ?_; intro X hX)
       | (with_reducible show awp _ _ _ _ (keepL _ _) _)
       | with_reducible refine awp_cond_k ?_
       | (with_reducible refine Brk_i ?_ ?_ <;> intro hb <;> (try simp only [hb]) <;> have hq := hb <;> try simp only [decide_eq_true_eq, decide_eq_false_iff_not, gt_iff_lt, ge_iff_le, Int.not_lt, Int.not_le, beq_iff_eq, beq_eq_false_iff_ne, Bool.not_eq_true', Bool.not_eq_false', Bool.and_eq_true, Bool.or_eq_true, Bool.and_eq_false_imp, Bool.or_eq_false_iff, ne_eq, Classical.not_not] at hq)
       | with_reducible refine retP_ret_i ?_
       | with_reducible refine retP_normal_i ?_
       | (with_reducible (show bindG _ _ _ _ _); simp only [hall])) <;> try simp only [Go.AM.S1, Go.AM.S2, Go.AM.S3, Go.AM.S4, Go.AM.S5, Go.AM.S6, Go.AM.S7, Go.AM.S8, Go.AM.S9, Nat.reduceAdd, Nat.reduceMul, Nat.reduceSub, ↓reduceIte, Nat.reduceEqDiff, Nat.reduceLT, Nat.reduceLeDiff, reduceCtorEq, Int.reduceBEq, Int.reduceBNe, Nat.reduceBEq, Int.reduceEq, Int.reduceToNat, Int.reduceLE, Int.reduceLT, Nat.reduceDiv, Int.reduceAdd, Int.reduceSub, Int.reduceMul, Int.reduceNeg, Int.reduceGT, Int.reduceGE, Nat.reduceMod, k45_63, sClone_eq, sClone_nil, k45_64, s64_eq, s64_nil1, ty_22, ty_40, take_sz hp.1])
    | (with_reducible refine hX _ _ ?_; clear hX X)
    | (with_reducible refine ops_nil_i ?_; try clear hall all)
    | (with_reducible refine opsN_nil_i ?_; try clear hall all)
    | (with_reducible refine hK _ _ ?_; clear hK K)
    | with_reducible refine thenP_normal_i ?_
    | (with_reducible refine zzr1 _ _ ?_; try clear zzr1 Kzzr1)
    | (with_reducible refine zzr0 _ _ ?_; try clear zzr0 Kzzr0)
    | (with_reducible refine awp_seq_l (a := .region 1 _ _) [2] ?_; intro Kzzr1 zzr1)
    | (with_reducible refine awp_seq_l (a := .region 0 _ _) [0] ?_; intro Kzzr0 zzr0)
    | (with_reducible refine awp_seq_k ?_; intro K hK)
    | (with_reducible refine awp_region_a ?_; intro all hall K hK)
    | (with_reducible refine awp_draw_n ?_ ?_; kernel_rfl; intro all hall K hK)
    | (with_reducible refine Chk_i ?_ ?_)
    | (with_reducible refine keysC_i ?_; kernel_rfl)
    | (with_reducible first | refine awp_block_i ?_ | refine awp_skip_i ?_ | refine awp_ret_i ?_ | refine awp_exit_i ?_ | refine thenP_ret_i ?_ | refine thenP_exit_i ?_ | refine lpP_ret_i ?_ | refine lpP_exit_i ?_ | refine unrP_succ_i ?_ | refine unrP_ret_i ?_ | refine unrP_exit_i ?_ | refine blockP_normal_i ?_ | refine blockP_ret_i ?_)
    | (with_reducible refine blockP_exit_i ?_; simp only [↓reduceIte, Nat.reduceEqDiff])
    | with_reducible refine lpP_normal_i ?_)
  all_goals (try clear zzr0; try clear Kzzr0)
  all_goals (try clear zzr1; try clear Kzzr1)
  all_goals first
    | omega
    | (rw [← take_sz hp.1, List.length_take]; omega)
theorem sound_45 : Sound Tryz.prog 45 .body (norm s45) := by
  refine sound_norm (sound_body Tryz.func45 (show Tryz.f45.body = some (code Tryz.f45) from rfl) (by kernel_rfl) tysOk G45_ok (drawOk_ok (by kernel_rfl) tysOk G45_ok) (by kernel_rfl) fun ds p r hs hp => ?_)
  unfold s45 at hs
  split at hs
  · cases hs; exact ⟨Nat.le_of_ble_eq_true (by kernel_rfl), wk45 _ hp⟩
  · cases hs
end Go.Proofs.AMT
