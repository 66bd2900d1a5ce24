/- Part 9 of the proof: own text (Fcaliperref02Len, Fcaliperref04Of, Fcaliperref04Fits, Fcaliperref05Good, Fcaliperref05Number, Fcaliperref02Bits, Fcaliperref02Add, FmathbitsMul64, Fcaliperref02Times, Fcaliperref02Pow, Fcaliperref05Unpack, Fcaliperref07text, Fcaliperref02Of). -/
import Derived.Test.YtknejocjkjpfmaaGreatDoorK0
import Derived.Test.YtknejocjkjpfmaaGreatDoorK1
import Derived.Test.YtknejocjkjpfmaaGreatDoorK2
import Derived.Test.YtknejocjkjpfmaaGreatDoorK3
import Derived.Test.YtknejocjkjpfmaaGreatDoorK4
import Derived.Test.YtknejocjkjpfmaaGreatDoorK5
import Derived.Test.YtknejocjkjpfmaaGreatDoorK6
import Derived.Test.YtknejocjkjpfmaaGreatDoorK7
import Derived.Test.YtknejocjkjpfmaaGreatDoorK8
set_option linter.all false
set_option maxRecDepth 20000
namespace Go.Proofs.AMT
open Go.AM Go.AM.LN
attribute [local congr] bindO_congr bindS_congr bindG_congr awpOps_congr aOne_congr awp_congr aCond_congr awpD_congr dOne_congr keysB_congr nOne_congr thenP_congr blockP_congr Chk_congr Brk_congr
noncomputable def s14 : CSpec := fun ds => match ds with
  | [.sl .u64 a] => some (lim a ∧ a.length ≤ 100000000, .one (.v (.int .i64 (blen (val a)))))
  | _ => none
theorem s14_eq (a : List Int) : norm s14 [.sl .u64 a] = some (lim a ∧ a.length ≤ 100000000, .one (.v (.int .i64 (blen (val a))))) := rfl
theorem s14_nil1  : norm s14 [.v (.slice none 0 0)] = some (lim ([] : List Int) ∧ ([] : List Int).length ≤ 100000000, .one (.v (.int .i64 (blen (val ([] : List Int)))))) := rfl
noncomputable def G14 : Gam := [(26, .body, norm s26), (36, .body, norm s36)]
theorem G14_ok : GamOk Tryz.prog G14 := gamOk_cons sound_26 (gamOk_cons sound_36 gamOk_nil)
theorem k14_26 : lk G14 26 = some (.body, norm s26) := rfl
theorem k14_36 : lk G14 36 = some (.body, norm s36) := rfl
set_option maxHeartbeats 20000000 in
theorem wk14 (a : List Int) (hp : lim a ∧ a.length ≤ 100000000) : awp ty G14 (code Tryz.f14) (retP ty Tryz.f14.results.toList (.one (.v (.int .i64 (blen (val a)))))) (entry 0 [.sl .u64 a]) [] := by
  unfold code
  simp only [Tryz.f14, Option.getD_some]
  have za := sz_le a
  all_goals repeat' (first
    | ((first
       | (with_reducible refine ops_k ?_; intro X hX)
       | (with_reducible refine opsN_k ?_; intro X hX)
       | (with_reducible show awp _ _ _ _ (keepL _ _) _)
       | with_reducible refine awp_cond_k ?_
       | (with_reducible refine Brk_i ?_ ?_ <;> intro hb <;> (try simp only [hb]) <;> have hq := hb <;> try simp only [decide_eq_true_eq, decide_eq_false_iff_not, gt_iff_lt, ge_iff_le, Int.not_lt, Int.not_le, beq_iff_eq, beq_eq_false_iff_ne, Bool.not_eq_true', Bool.not_eq_false', Bool.and_eq_true, Bool.or_eq_true, Bool.and_eq_false_imp, Bool.or_eq_false_iff, ne_eq, Classical.not_not] at hq)
       | with_reducible refine retP_ret_i ?_
       | with_reducible refine retP_normal_i ?_
       | (with_reducible (show bindG _ _ _ _ _); simp only [hall])) <;> try simp only [Go.AM.S1, Go.AM.S2, Go.AM.S3, Go.AM.S4, Go.AM.S5, Go.AM.S6, Go.AM.S7, Go.AM.S8, Go.AM.S9, Nat.reduceAdd, Nat.reduceMul, Nat.reduceSub, ↓reduceIte, Nat.reduceEqDiff, Nat.reduceLT, Nat.reduceLeDiff, reduceCtorEq, Int.reduceBEq, Int.reduceBNe, Nat.reduceBEq, Int.reduceEq, Int.reduceToNat, Int.reduceLE, Int.reduceLT, Nat.reduceDiv, Int.reduceAdd, Int.reduceSub, Int.reduceMul, Int.reduceNeg, Int.reduceGT, Int.reduceGE, Nat.reduceMod, k14_26, s26_eq, k14_36, s36_eq, s36_nil1, ty_3, ty_22, ty_40])
    | (with_reducible refine hX _ _ ?_; clear hX X)
    | (with_reducible refine ops_nil_i ?_; try clear hall all)
    | (with_reducible refine opsN_nil_i ?_; try clear hall all)
    | (with_reducible refine hK _ _ ?_; clear hK K)
    | with_reducible refine thenP_normal_i ?_
    | (with_reducible refine zzr4 _ _ ?_; try clear zzr4 Kzzr4)
    | (with_reducible refine zzsr2 _ _ ?_; try clear zzsr2 Kzzsr2)
    | (with_reducible refine zzr3 _ _ ?_; try clear zzr3 Kzzr3)
    | (with_reducible refine zzr2 _ _ ?_; try clear zzr2 Kzzr2)
    | (with_reducible refine zzr1 _ _ ?_; try clear zzr1 Kzzr1)
    | (with_reducible refine zzr0 _ _ ?_; try clear zzr0 Kzzr0)
    | (with_reducible refine awp_seq_l (a := .region 4 _ _) [2] ?_; intro Kzzr4 zzr4)
    | (with_reducible refine awp_seq_l (a := .seq (.region 2 _ _) _) [0, 3] ?_; intro Kzzsr2 zzsr2)
    | (with_reducible refine awp_seq_l (a := .region 3 _ _) [2] ?_; intro Kzzr3 zzr3)
    | (with_reducible refine awp_seq_l (a := .region 2 _ _) [0, 3, 7] ?_; intro Kzzr2 zzr2)
    | (with_reducible refine awp_seq_l (a := .region 1 _ _) [0, 3] ?_; intro Kzzr1 zzr1)
    | (with_reducible refine awp_seq_l (a := .region 0 _ _) [0] ?_; intro Kzzr0 zzr0)
    | (with_reducible refine awp_seq_k ?_; intro K hK)
    | (with_reducible refine awp_region_a ?_; intro all hall K hK)
    | (with_reducible refine awp_draw_n ?_ ?_; kernel_rfl; intro all hall K hK)
    | (with_reducible refine Chk_i ?_ ?_)
    | (with_reducible refine keysC_i ?_; kernel_rfl)
    | (with_reducible first | refine awp_block_i ?_ | refine awp_skip_i ?_ | refine awp_ret_i ?_ | refine awp_exit_i ?_ | refine thenP_ret_i ?_ | refine thenP_exit_i ?_ | refine lpP_ret_i ?_ | refine lpP_exit_i ?_ | refine unrP_succ_i ?_ | refine unrP_ret_i ?_ | refine unrP_exit_i ?_ | refine blockP_normal_i ?_ | refine blockP_ret_i ?_)
    | (with_reducible refine blockP_exit_i ?_; simp only [↓reduceIte, Nat.reduceEqDiff])
    | with_reducible refine lpP_normal_i ?_)
  all_goals (try clear zzr0; try clear Kzzr0)
  all_goals (try clear zzr1; try clear Kzzr1)
  all_goals (try clear zzr2; try clear Kzzr2)
  all_goals (try clear zzr3; try clear Kzzr3)
  all_goals (try clear zzsr2; try clear Kzzsr2)
  all_goals (try clear zzr4; try clear Kzzr4)
  all_goals (try simp only [inR])
  all_goals (try omega)
  · have h0 := (sz_zero hp.1).1 (by omega)
    rw [h0]; rfl
  all_goals have e : ((sz a : Int) - 1).toNat = sz a - 1 := by omega
  all_goals rw [e]
  all_goals have hg := lim_get hp.1 (i := sz a - 1)
  · exact hg
  all_goals have h1 := blen_top hp.1 (by omega)
  all_goals have h2 : blen (a.getD (sz a - 1) 0).toNat ≤ 64 := blen_lt.2 (by omega)
  · omega
  · refine congrArg _ ?_
    omega
theorem sound_14 : Sound Tryz.prog 14 .body (norm s14) := by
  refine sound_norm (sound_body Tryz.func14 (show Tryz.f14.body = some (code Tryz.f14) from rfl) (by kernel_rfl) tysOk G14_ok (drawOk_ok (by kernel_rfl) tysOk G14_ok) (by kernel_rfl) fun ds p r hs hp => ?_)
  unfold s14 at hs
  split at hs
  · cases hs; exact ⟨Nat.le_of_ble_eq_true (by kernel_rfl), wk14 _ hp⟩
  · cases hs
end Go.Proofs.AMT
set_option maxRecDepth 20000
namespace Go.Proofs.AMT
open Go.AM Go.AM.LN
attribute [local congr] bindO_congr bindS_congr bindG_congr awpOps_congr aOne_congr awp_congr aCond_congr awpD_congr dOne_congr keysB_congr nOne_congr thenP_congr blockP_congr Chk_congr Brk_congr
noncomputable def s29 : CSpec := fun ds => match ds with
  | [.v (.int .i64 n)] => some (True, .many [.v (infoV n), .v (.int .i64 (errV n))])
  | _ => none
theorem s29_eq (n : Int) : norm s29 [.v (.int .i64 n)] = some (True, .many [.v (infoV n), .v (.int .i64 (errV n))]) := rfl
noncomputable def G29 : Gam := []
theorem G29_ok : GamOk Tryz.prog G29 := gamOk_nil
noncomputable def rofR (n : Int) : Option (Prop × Res) := (lk (GamN ty 1000 bodies extB 10) 29).bind fun s => s.2 [.v (.int .i64 n)]
theorem rofR_1 : rofR 1 = some (True, .many [.v (infoT 1), .v (.int .i64 0)]) := by kernel_rfl
theorem rofR_2 : rofR 2 = some (True, .many [.v (infoT 2), .v (.int .i64 0)]) := by kernel_rfl
theorem rofR_3 : rofR 3 = some (True, .many [.v (infoT 3), .v (.int .i64 0)]) := by kernel_rfl
theorem rofR_4 : rofR 4 = some (True, .many [.v (infoT 4), .v (.int .i64 0)]) := by kernel_rfl
theorem rofR_5 : rofR 5 = some (True, .many [.v (infoT 5), .v (.int .i64 0)]) := by kernel_rfl
theorem rofR_6 : rofR 6 = some (True, .many [.v (infoT 6), .v (.int .i64 0)]) := by kernel_rfl
theorem rofR_7 : rofR 7 = some (True, .many [.v (infoT 7), .v (.int .i64 0)]) := by kernel_rfl
theorem rofR_8 : rofR 8 = some (True, .many [.v (infoT 8), .v (.int .i64 0)]) := by kernel_rfl
theorem rofR_9 : rofR 9 = some (True, .many [.v (infoT 9), .v (.int .i64 0)]) := by kernel_rfl
theorem rofR_10 : rofR 10 = some (True, .many [.v (infoT 10), .v (.int .i64 0)]) := by kernel_rfl
theorem rofR_11 : rofR 11 = some (True, .many [.v (infoT 11), .v (.int .i64 0)]) := by kernel_rfl
theorem rofR_12 : rofR 12 = some (True, .many [.v (infoT 12), .v (.int .i64 0)]) := by kernel_rfl
set_option maxHeartbeats 20000000 in
theorem wk29 (n : Int) (hp : ¬ (1 ≤ n ∧ n ≤ 12)) : awp ty G29 (code Tryz.f29) (retP ty Tryz.f29.results.toList (.many [.v infoZ, .v (.int .i64 1)])) (entry 0 [.v (.int .i64 n)]) [] := by
  unfold code
  simp only [Tryz.f29, Option.getD_some]
  have q1 : (n == 1) = false := by simp only [beq_eq_false_iff_ne, ne_eq]; omega
  have q2 : (n == 2) = false := by simp only [beq_eq_false_iff_ne, ne_eq]; omega
  have q3 : (n == 3) = false := by simp only [beq_eq_false_iff_ne, ne_eq]; omega
  have q4 : (n == 4) = false := by simp only [beq_eq_false_iff_ne, ne_eq]; omega
  have q5 : (n == 5) = false := by simp only [beq_eq_false_iff_ne, ne_eq]; omega
  have q6 : (n == 6) = false := by simp only [beq_eq_false_iff_ne, ne_eq]; omega
  have q7 : (n == 7) = false := by simp only [beq_eq_false_iff_ne, ne_eq]; omega
  have q8 : (n == 8) = false := by simp only [beq_eq_false_iff_ne, ne_eq]; omega
  have q9 : (n == 9) = false := by simp only [beq_eq_false_iff_ne, ne_eq]; omega
  have q10 : (n == 10) = false := by simp only [beq_eq_false_iff_ne, ne_eq]; omega
  have q11 : (n == 11) = false := by simp only [beq_eq_false_iff_ne, ne_eq]; omega
  have q12 : (n == 12) = false := by simp only [beq_eq_false_iff_ne, ne_eq]; omega
  all_goals repeat' (first
    | ((first
       | (with_reducible refine ops_k ?_; intro X hX)
       | (with_reducible refine opsN_k ?_; intro X hX)
       | (with_reducible show awp _ _ _ _ (keepL _ _) _)
       | with_reducible refine awp_cond_k ?_
       | (with_reducible refine Brk_i ?_ ?_ <;> intro hb <;> (try simp only [hb]) <;> have hq := hb <;> try simp only [decide_eq_true_eq, decide_eq_false_iff_not, gt_iff_lt, ge_iff_le, Int.not_lt, Int.not_le, beq_iff_eq, beq_eq_false_iff_ne, Bool.not_eq_true', Bool.not_eq_false', Bool.and_eq_true, Bool.or_eq_true, Bool.and_eq_false_imp, Bool.or_eq_false_iff, ne_eq, Classical.not_not] at hq)
       | with_reducible refine retP_ret_i ?_
       | with_reducible refine retP_normal_i ?_
       | (with_reducible (show bindG _ _ _ _ _); simp only [hall])) <;> try simp only [Go.AM.S1, Go.AM.S2, Go.AM.S3, Go.AM.S4, Go.AM.S5, Go.AM.S6, Go.AM.S7, Go.AM.S8, Go.AM.S9, Nat.reduceAdd, Nat.reduceMul, Nat.reduceSub, ↓reduceIte, Nat.reduceEqDiff, Nat.reduceLT, Nat.reduceLeDiff, reduceCtorEq, Int.reduceBEq, Int.reduceBNe, Nat.reduceBEq, Int.reduceEq, Int.reduceToNat, Int.reduceLE, Int.reduceLT, Nat.reduceDiv, Int.reduceAdd, Int.reduceSub, Int.reduceMul, Int.reduceNeg, Int.reduceGT, Int.reduceGE, Nat.reduceMod, ty_3, ty_4, ty_9, ty_37, ty_56, q1, q2, q3, q4, q5, q6, q7, q8, q9, q10, q11, q12])
    | (with_reducible refine hX _ _ ?_; clear hX X)
    | (with_reducible refine ops_nil_i ?_; try clear hall all)
    | (with_reducible refine opsN_nil_i ?_; try clear hall all)
    | (with_reducible refine hK _ _ ?_; clear hK K)
    | with_reducible refine thenP_normal_i ?_
    | (with_reducible refine zzr35 _ _ ?_; try clear zzr35 Kzzr35)
    | (with_reducible refine zzr34 _ _ ?_; try clear zzr34 Kzzr34)
    | (with_reducible refine zzsr26 _ _ ?_; try clear zzsr26 Kzzsr26)
    | (with_reducible refine zzr28 _ _ ?_; try clear zzr28 Kzzr28)
    | (with_reducible refine zzr27 _ _ ?_; try clear zzr27 Kzzr27)
    | (with_reducible refine zzr31 _ _ ?_; try clear zzr31 Kzzr31)
    | (with_reducible refine zzr30 _ _ ?_; try clear zzr30 Kzzr30)
    | (with_reducible refine zzr26 _ _ ?_; try clear zzr26 Kzzr26)
    | (with_reducible refine zzr25 _ _ ?_; try clear zzr25 Kzzr25)
    | (with_reducible refine zzsr2 _ _ ?_; try clear zzsr2 Kzzsr2)
    | (with_reducible refine zzr3 _ _ ?_; try clear zzr3 Kzzr3)
    | (with_reducible refine zzsr22 _ _ ?_; try clear zzsr22 Kzzsr22)
    | (with_reducible refine zzr22 _ _ ?_; try clear zzr22 Kzzr22)
    | (with_reducible refine zzsr19 _ _ ?_; try clear zzsr19 Kzzsr19)
    | (with_reducible refine zzr19 _ _ ?_; try clear zzr19 Kzzr19)
    | (with_reducible refine zzsr16 _ _ ?_; try clear zzsr16 Kzzsr16)
    | (with_reducible refine zzr16 _ _ ?_; try clear zzr16 Kzzr16)
    | (with_reducible refine zzr14 _ _ ?_; try clear zzr14 Kzzr14)
    | (with_reducible refine zzr12 _ _ ?_; try clear zzr12 Kzzr12)
    | (with_reducible refine zzr10 _ _ ?_; try clear zzr10 Kzzr10)
    | (with_reducible refine zzr8 _ _ ?_; try clear zzr8 Kzzr8)
    | (with_reducible refine zzr6 _ _ ?_; try clear zzr6 Kzzr6)
    | (with_reducible refine zzr4 _ _ ?_; try clear zzr4 Kzzr4)
    | (with_reducible refine zzr2 _ _ ?_; try clear zzr2 Kzzr2)
    | (with_reducible refine zzr1 _ _ ?_; try clear zzr1 Kzzr1)
    | (with_reducible refine zzr0 _ _ ?_; try clear zzr0 Kzzr0)
    | (with_reducible refine awp_seq_l (a := .region 35 _ _) [2, 3] ?_; intro Kzzr35 zzr35)
    | (with_reducible refine awp_seq_l (a := .region 34 _ _) [2, 4] ?_; intro Kzzr34 zzr34)
    | (with_reducible refine awp_seq_l (a := .seq (.region 26 _ _) _) [2, 4, 5] ?_; intro Kzzsr26 zzsr26)
    | (with_reducible refine awp_seq_l (a := .region 28 _ _) [2, 4, 5] ?_; intro Kzzr28 zzr28)
    | (with_reducible refine awp_seq_l (a := .region 27 _ _) [2, 4] ?_; intro Kzzr27 zzr27)
    | (with_reducible refine awp_seq_l (a := .region 31 _ _) [2, 4, 5, 90] ?_; intro Kzzr31 zzr31)
    | (with_reducible refine awp_seq_l (a := .region 30 _ _) [2, 4, 5] ?_; intro Kzzr30 zzr30)
    | (with_reducible refine awp_seq_l (a := .region 26 _ _) [0, 2, 4, 5, 64] ?_; intro Kzzr26 zzr26)
    | (with_reducible refine awp_seq_l (a := .region 25 _ _) [0, 2, 4, 5] ?_; intro Kzzr25 zzr25)
    | (with_reducible refine awp_seq_l (a := .seq (.region 2 _ _) _) [0, 2, 4] ?_; intro Kzzsr2 zzsr2)
    | (with_reducible refine awp_seq_l (a := .region 3 _ _) [2, 3] ?_; intro Kzzr3 zzr3)
    | (with_reducible refine awp_seq_l (a := .seq (.region 22 _ _) _) [0, 2, 4, 54] ?_; intro Kzzsr22 zzsr22)
    | (with_reducible refine awp_seq_l (a := .region 22 _ _) [0, 2, 4, 8, 54] ?_; intro Kzzr22 zzr22)
    | (with_reducible refine awp_seq_l (a := .seq (.region 19 _ _) _) [0, 2, 4, 8, 47] ?_; intro Kzzsr19 zzsr19)
    | (with_reducible refine awp_seq_l (a := .region 19 _ _) [0, 2, 4, 8, 47] ?_; intro Kzzr19 zzr19)
    | (with_reducible refine awp_seq_l (a := .seq (.region 16 _ _) _) [0, 2, 4, 8, 40] ?_; intro Kzzsr16 zzsr16)
    | (with_reducible refine awp_seq_l (a := .region 16 _ _) [0, 2, 4, 8, 40] ?_; intro Kzzr16 zzr16)
    | (with_reducible refine awp_seq_l (a := .region 14 _ _) [0, 2, 4, 8, 35] ?_; intro Kzzr14 zzr14)
    | (with_reducible refine awp_seq_l (a := .region 12 _ _) [0, 2, 4, 8, 30] ?_; intro Kzzr12 zzr12)
    | (with_reducible refine awp_seq_l (a := .region 10 _ _) [0, 2, 4, 8, 25] ?_; intro Kzzr10 zzr10)
    | (with_reducible refine awp_seq_l (a := .region 8 _ _) [0, 2, 4, 8, 20] ?_; intro Kzzr8 zzr8)
    | (with_reducible refine awp_seq_l (a := .region 6 _ _) [0, 2, 4, 8, 15] ?_; intro Kzzr6 zzr6)
    | (with_reducible refine awp_seq_l (a := .region 4 _ _) [0, 2, 4, 8, 10] ?_; intro Kzzr4 zzr4)
    | (with_reducible refine awp_seq_l (a := .region 2 _ _) [0, 2, 4, 8] ?_; intro Kzzr2 zzr2)
    | (with_reducible refine awp_seq_l (a := .region 1 _ _) [0, 2, 4] ?_; intro Kzzr1 zzr1)
    | (with_reducible refine awp_seq_l (a := .region 0 _ _) [0, 2] ?_; intro Kzzr0 zzr0)
    | (with_reducible refine awp_seq_k ?_; intro K hK)
    | (with_reducible refine awp_region_a ?_; intro all hall K hK)
    | (with_reducible refine awp_draw_n ?_ ?_; kernel_rfl; intro all hall K hK)
    | (with_reducible refine Chk_i ?_ ?_)
    | (with_reducible refine keysC_i ?_; kernel_rfl)
    | (with_reducible first | refine awp_block_i ?_ | refine awp_skip_i ?_ | refine awp_ret_i ?_ | refine awp_exit_i ?_ | refine thenP_ret_i ?_ | refine thenP_exit_i ?_ | refine lpP_ret_i ?_ | refine lpP_exit_i ?_ | refine unrP_succ_i ?_ | refine unrP_ret_i ?_ | refine unrP_exit_i ?_ | refine blockP_normal_i ?_ | refine blockP_ret_i ?_)
    | (with_reducible refine blockP_exit_i ?_; simp only [↓reduceIte, Nat.reduceEqDiff])
    | with_reducible refine lpP_normal_i ?_)
  all_goals (try clear zzr0; try clear Kzzr0)
  all_goals (try clear zzr1; try clear Kzzr1)
  all_goals (try clear zzr2; try clear Kzzr2)
  all_goals (try clear zzr4; try clear Kzzr4)
  all_goals (try clear zzr6; try clear Kzzr6)
  all_goals (try clear zzr8; try clear Kzzr8)
  all_goals (try clear zzr10; try clear Kzzr10)
  all_goals (try clear zzr12; try clear Kzzr12)
  all_goals (try clear zzr14; try clear Kzzr14)
  all_goals (try clear zzr16; try clear Kzzr16)
  all_goals (try clear zzsr16; try clear Kzzsr16)
  all_goals (try clear zzr19; try clear Kzzr19)
  all_goals (try clear zzsr19; try clear Kzzsr19)
  all_goals (try clear zzr22; try clear Kzzr22)
  all_goals (try clear zzsr22; try clear Kzzsr22)
  all_goals (try clear zzr3; try clear Kzzr3)
  all_goals (try clear zzsr2; try clear Kzzsr2)
  all_goals (try clear zzr25; try clear Kzzr25)
  all_goals (try clear zzr26; try clear Kzzr26)
  all_goals (try clear zzr30; try clear Kzzr30)
  all_goals (try clear zzr31; try clear Kzzr31)
  all_goals (try clear zzr27; try clear Kzzr27)
  all_goals (try clear zzr28; try clear Kzzr28)
  all_goals (try clear zzsr26; try clear Kzzsr26)
  all_goals (try clear zzr34; try clear Kzzr34)
  all_goals (try clear zzr35; try clear Kzzr35)
  all_goals rfl
noncomputable def s29w : CSpec := fun ds => match ds with
  | [.v (.int .i64 n)] => some (¬ (1 ≤ n ∧ n ≤ 12), .many [.v infoZ, .v (.int .i64 1)])
  | _ => none
theorem sound_29w : Sound Tryz.prog 29 .body s29w := by
  refine sound_body Tryz.func29 (show Tryz.f29.body = some (code Tryz.f29) from rfl) (by kernel_rfl) tysOk G29_ok (drawOk_ok (by kernel_rfl) tysOk G29_ok) (by kernel_rfl) fun ds p r hs hp => ?_
  unfold s29w at hs
  split at hs
  · cases hs; exact ⟨Nat.le_of_ble_eq_true (by kernel_rfl), wk29 _ hp⟩
  · cases hs
theorem sound_29c : ∀ n : Int, 1 ≤ n ∧ n ≤ 12 → ∃ spec : CSpec, Sound Tryz.prog 29 .body spec ∧ spec [.v (.int .i64 n)] = some (True, .many [.v (infoT n), .v (.int .i64 0)]) := by
  intro n hn
  have hg := (GamN_ok (fuel := 1000) (P := Tryz.prog) (by kernel_rfl) tysOk extB_ok extB_free bodies_ok bodies_some 10).1
  have h : rofR n = some (True, .many [.v (infoT n), .v (.int .i64 0)]) := by
    have hn' : n = 1 ∨ n = 2 ∨ n = 3 ∨ n = 4 ∨ n = 5 ∨ n = 6 ∨ n = 7 ∨ n = 8 ∨ n = 9 ∨ n = 10 ∨ n = 11 ∨ n = 12 := by omega
    rcases hn' with rfl | rfl | rfl | rfl | rfl | rfl | rfl | rfl | rfl | rfl | rfl | rfl
    · exact rofR_1
    · exact rofR_2
    · exact rofR_3
    · exact rofR_4
    · exact rofR_5
    · exact rofR_6
    · exact rofR_7
    · exact rofR_8
    · exact rofR_9
    · exact rofR_10
    · exact rofR_11
    · exact rofR_12
  unfold rofR at h
  obtain ⟨⟨fk, spec⟩, h1, h2⟩ := Option.bind_eq_some_iff.1 h
  have hs := hg 29 fk spec h1
  have hfk : fk = .body := by
    have : (lk (GamN ty 1000 bodies extB 10) 29).map (·.1) = some .body := by kernel_rfl
    rw [h1] at this
    exact Option.some.inj this
  subst hfk
  exact ⟨spec, hs, h2⟩
theorem sound_29 : Sound Tryz.prog 29 .body (norm s29) := by
  refine sound_norm ?_
  obtain ⟨fn, h1, h2, h3, h4⟩ := sound_29w
  refine ⟨fn, h1, h2, h3, fun ds p r hs hp w vs hr => ?_⟩
  unfold s29 at hs
  split at hs
  · rename_i n
    cases hs
    by_cases hn : 1 ≤ n ∧ n ≤ 12
    · obtain ⟨spec, ⟨fn', h1', h2', h3', h4'⟩, h5⟩ := sound_29c n hn
      rw [infoV_in hn, errV_in hn]
      exact h4' _ _ _ h5 trivial w vs hr
    · rw [infoV_out hn, errV_out hn]
      exact h4 _ _ _ rfl hn w vs hr
  · cases hs
end Go.Proofs.AMT
set_option maxRecDepth 20000
namespace Go.Proofs.AMT
open Go.AM Go.AM.LN
attribute [local congr] bindO_congr bindS_congr bindG_congr awpOps_congr aOne_congr awp_congr aCond_congr awpD_congr dOne_congr keysB_congr nOne_congr thenP_congr blockP_congr Chk_congr Brk_congr
noncomputable def s55 : CSpec := fun ds => match ds with
  | [.v (.int .i64 n), .v (.agg ⟨[.int .u64 b0, .int .u64 b1, .int .u64 b2, .int .u64 b3]⟩)] => some ((1 ≤ n ∧ n ≤ 12) ∧ (0 ≤ b0 ∧ b0 < 18446744073709551616) ∧ (0 ≤ b1 ∧ b1 < 18446744073709551616) ∧ (0 ≤ b2 ∧ b2 < 18446744073709551616) ∧ (0 ≤ b3 ∧ b3 < 18446744073709551616), .one (.v (.bool (decide ((blen (V4 b0 b1 b2 b3) : Int) ≤ fw n)))))
  | _ => none
theorem s55_eq (n : Int) (b0 b1 b2 b3 : Int) : norm s55 [.v (.int .i64 n), .v (.agg #[.int .u64 b0, .int .u64 b1, .int .u64 b2, .int .u64 b3])] = some ((1 ≤ n ∧ n ≤ 12) ∧ (0 ≤ b0 ∧ b0 < 18446744073709551616) ∧ (0 ≤ b1 ∧ b1 < 18446744073709551616) ∧ (0 ≤ b2 ∧ b2 < 18446744073709551616) ∧ (0 ≤ b3 ∧ b3 < 18446744073709551616), .one (.v (.bool (decide ((blen (V4 b0 b1 b2 b3) : Int) ≤ fw n))))) := rfl
noncomputable def G55 : Gam := [(14, .body, norm s14), (29, .body, norm s29)]
theorem G55_ok : GamOk Tryz.prog G55 := gamOk_cons sound_14 (gamOk_cons sound_29 gamOk_nil)
theorem k55_14 : lk G55 14 = some (.body, norm s14) := rfl
theorem k55_29 : lk G55 29 = some (.body, norm s29) := rfl
set_option maxHeartbeats 20000000 in
theorem wk55 (n : Int) (b0 b1 b2 b3 : Int) (hp : (1 ≤ n ∧ n ≤ 12) ∧ (0 ≤ b0 ∧ b0 < 18446744073709551616) ∧ (0 ≤ b1 ∧ b1 < 18446744073709551616) ∧ (0 ≤ b2 ∧ b2 < 18446744073709551616) ∧ (0 ≤ b3 ∧ b3 < 18446744073709551616)) : awp ty G55 (code Tryz.f55) (retP ty Tryz.f55.results.toList (.one (.v (.bool (decide ((blen (V4 b0 b1 b2 b3) : Int) ≤ fw n)))))) (entry 0 [.v (.int .i64 n), .v (.agg #[.int .u64 b0, .int .u64 b1, .int .u64 b2, .int .u64 b3])]) [] := by
  unfold code
  simp only [Tryz.f55, Option.getD_some]
  have hI := infoV_in hp.1
  have hE := errV_in hp.1
  have hV : val [b0, b1, b2, b3] = (V4 b0 b1 b2 b3) := rfl
  have l4 := lim4 hp.2.1 hp.2.2.1 hp.2.2.2.1 hp.2.2.2.2
  all_goals repeat' (first
    | ((first
       | (with_reducible refine ops_k ?_; intro X hX)
       | (with_reducible refine opsN_k ?_; intro X hX)
       | (with_reducible show awp _ _ _ _ (keepL _ _) _)
       | with_reducible refine awp_cond_k ?_
       | (with_reducible refine Brk_i ?_ ?_ <;> intro hb <;> (try simp only [hb]) <;> have hq := hb <;> try simp only [decide_eq_true_eq, decide_eq_false_iff_not, gt_iff_lt, ge_iff_le, Int.not_lt, Int.not_le, beq_iff_eq, beq_eq_false_iff_ne, Bool.not_eq_true', Bool.not_eq_false', Bool.and_eq_true, Bool.or_eq_true, Bool.and_eq_false_imp, Bool.or_eq_false_iff, ne_eq, Classical.not_not] at hq)
       | with_reducible refine retP_ret_i ?_
       | with_reducible refine retP_normal_i ?_
       | (with_reducible (show bindG _ _ _ _ _); simp only [hall])) <;> try simp only [Go.AM.S1, Go.AM.S2, Go.AM.S3, Go.AM.S4, Go.AM.S5, Go.AM.S6, Go.AM.S7, Go.AM.S8, Go.AM.S9, Nat.reduceAdd, Nat.reduceMul, Nat.reduceSub, ↓reduceIte, Nat.reduceEqDiff, Nat.reduceLT, Nat.reduceLeDiff, reduceCtorEq, Int.reduceBEq, Int.reduceBNe, Nat.reduceBEq, Int.reduceEq, Int.reduceToNat, Int.reduceLE, Int.reduceLT, Nat.reduceDiv, Int.reduceAdd, Int.reduceSub, Int.reduceMul, Int.reduceNeg, Int.reduceGT, Int.reduceGE, Nat.reduceMod, k55_14, s14_eq, s14_nil1, k55_29, s29_eq, ty_3, ty_4, ty_9, ty_22, ty_24, ty_26, ty_40, ty_56, hI, hE, infoT, hV, toInts])
    | (with_reducible refine hX _ _ ?_; clear hX X)
    | (with_reducible refine ops_nil_i ?_; try clear hall all)
    | (with_reducible refine opsN_nil_i ?_; try clear hall all)
    | (with_reducible refine hK _ _ ?_; clear hK K)
    | with_reducible refine thenP_normal_i ?_
    | (with_reducible refine zzr2 _ _ ?_; try clear zzr2 Kzzr2)
    | (with_reducible refine zzr1 _ _ ?_; try clear zzr1 Kzzr1)
    | (with_reducible refine zzr0 _ _ ?_; try clear zzr0 Kzzr0)
    | (with_reducible refine awp_seq_l (a := .region 2 _ _) [4] ?_; intro Kzzr2 zzr2)
    | (with_reducible refine awp_seq_l (a := .region 1 _ _) [3, 5, 6] ?_; intro Kzzr1 zzr1)
    | (with_reducible refine awp_seq_l (a := .region 0 _ _) [0, 3] ?_; intro Kzzr0 zzr0)
    | (with_reducible refine awp_seq_k ?_; intro K hK)
    | (with_reducible refine awp_region_a ?_; intro all hall K hK)
    | (with_reducible refine awp_draw_n ?_ ?_; kernel_rfl; intro all hall K hK)
    | (with_reducible refine Chk_i ?_ ?_)
    | (with_reducible refine keysC_i ?_; kernel_rfl)
    | (with_reducible first | refine awp_block_i ?_ | refine awp_skip_i ?_ | refine awp_ret_i ?_ | refine awp_exit_i ?_ | refine thenP_ret_i ?_ | refine thenP_exit_i ?_ | refine lpP_ret_i ?_ | refine lpP_exit_i ?_ | refine unrP_succ_i ?_ | refine unrP_ret_i ?_ | refine unrP_exit_i ?_ | refine blockP_normal_i ?_ | refine blockP_ret_i ?_)
    | (with_reducible refine blockP_exit_i ?_; simp only [↓reduceIte, Nat.reduceEqDiff])
    | with_reducible refine lpP_normal_i ?_)
  all_goals (try clear zzr0; try clear Kzzr0)
  all_goals (try clear zzr1; try clear Kzzr1)
  all_goals (try clear zzr2; try clear Kzzr2)
  all_goals (try simp only [inR])
  all_goals first
    | omega
    | exact l4
    | exact ⟨l4, Nat.le_of_ble_eq_true rfl⟩
    | skip
theorem sound_55 : Sound Tryz.prog 55 .body (norm s55) := by
  refine sound_norm (sound_body Tryz.func55 (show Tryz.f55.body = some (code Tryz.f55) from rfl) (by kernel_rfl) tysOk G55_ok (drawOk_ok (by kernel_rfl) tysOk G55_ok) (by kernel_rfl) fun ds p r hs hp => ?_)
  unfold s55 at hs
  split at hs
  · cases hs; exact ⟨Nat.le_of_ble_eq_true (by kernel_rfl), wk55 _ _ _ _ _ hp⟩
  · cases hs
end Go.Proofs.AMT
set_option maxRecDepth 20000
namespace Go.Proofs.AMT
open Go.AM Go.AM.LN
attribute [local congr] bindO_congr bindS_congr bindG_congr awpOps_congr aOne_congr awp_congr aCond_congr awpD_congr dOne_congr keysB_congr nOne_congr thenP_congr blockP_congr Chk_congr Brk_congr
noncomputable def s28 : CSpec := fun ds => match ds with
  | [.v (.int .i64 n), .v (.agg ⟨[.int .u64 b0, .int .u64 b1, .int .u64 b2, .int .u64 b3]⟩)] => some ((0 ≤ b0 ∧ b0 < 18446744073709551616) ∧ (0 ≤ b1 ∧ b1 < 18446744073709551616) ∧ (0 ≤ b2 ∧ b2 < 18446744073709551616) ∧ (0 ≤ b3 ∧ b3 < 18446744073709551616), .one (.v (.bool (okB n (V4 b0 b1 b2 b3)))))
  | _ => none
theorem s28_eq (n : Int) (b0 b1 b2 b3 : Int) : norm s28 [.v (.int .i64 n), .v (.agg #[.int .u64 b0, .int .u64 b1, .int .u64 b2, .int .u64 b3])] = some ((0 ≤ b0 ∧ b0 < 18446744073709551616) ∧ (0 ≤ b1 ∧ b1 < 18446744073709551616) ∧ (0 ≤ b2 ∧ b2 < 18446744073709551616) ∧ (0 ≤ b3 ∧ b3 < 18446744073709551616), .one (.v (.bool (okB n (V4 b0 b1 b2 b3))))) := rfl
noncomputable def G28 : Gam := [(54, .body, norm s54), (55, .body, norm s55)]
theorem G28_ok : GamOk Tryz.prog G28 := gamOk_cons sound_54 (gamOk_cons sound_55 gamOk_nil)
theorem k28_54 : lk G28 54 = some (.body, norm s54) := rfl
theorem k28_55 : lk G28 55 = some (.body, norm s55) := rfl
set_option maxHeartbeats 20000000 in
theorem wk28 (n : Int) (b0 b1 b2 b3 : Int) (hp : (0 ≤ b0 ∧ b0 < 18446744073709551616) ∧ (0 ≤ b1 ∧ b1 < 18446744073709551616) ∧ (0 ≤ b2 ∧ b2 < 18446744073709551616) ∧ (0 ≤ b3 ∧ b3 < 18446744073709551616)) : awp ty G28 (code Tryz.f28) (retP ty Tryz.f28.results.toList (.one (.v (.bool (okB n (V4 b0 b1 b2 b3)))))) (entry 0 [.v (.int .i64 n), .v (.agg #[.int .u64 b0, .int .u64 b1, .int .u64 b2, .int .u64 b3])]) [] := by
  unfold code
  simp only [Tryz.f28, Option.getD_some]
  have hb := hp
  have hk : okB n (V4 b0 b1 b2 b3) = (decide (1 ≤ n ∧ n ≤ 6) && decide ((blen (V4 b0 b1 b2 b3) : Int) ≤ fw n)) := rfl
  have hcase : (1 ≤ n ∧ n ≤ 6) ∨ ¬ (1 ≤ n ∧ n ≤ 6) := by omega
  rcases hcase with hn | hn
  all_goals first
    | (have gk : (decide (n ≥ 1) && decide (n ≤ 6)) = true := by rw [decide_eq_true (by omega : n ≥ 1), decide_eq_true (by omega : n ≤ 6)]; rfl)
    | (have gk : (decide (n ≥ 1) && decide (n ≤ 6)) = false := by
         rw [Bool.and_eq_false_iff, decide_eq_false_iff_not, decide_eq_false_iff_not]; omega)
  all_goals first
    | (rw [decide_eq_true hn, Bool.true_and] at hk)
    | (rw [decide_eq_false hn, Bool.false_and] at hk)
  all_goals repeat' (first
    | ((first
       | (with_reducible refine ops_k ?_; intro X hX)
       | (with_reducible refine opsN_k ?_; intro X hX)
       | (with_reducible show awp _ _ _ _ (keepL _ _) _)
       | with_reducible refine awp_cond_k ?_
       | (with_reducible refine Brk_i ?_ ?_ <;> intro hb <;> (try simp only [hb]) <;> have hq := hb <;> try simp only [decide_eq_true_eq, decide_eq_false_iff_not, gt_iff_lt, ge_iff_le, Int.not_lt, Int.not_le, beq_iff_eq, beq_eq_false_iff_ne, Bool.not_eq_true', Bool.not_eq_false', Bool.and_eq_true, Bool.or_eq_true, Bool.and_eq_false_imp, Bool.or_eq_false_iff, ne_eq, Classical.not_not] at hq)
       | with_reducible refine retP_ret_i ?_
       | with_reducible refine retP_normal_i ?_
       | (with_reducible (show bindG _ _ _ _ _); simp only [hall])) <;> try simp only [Go.AM.S1, Go.AM.S2, Go.AM.S3, Go.AM.S4, Go.AM.S5, Go.AM.S6, Go.AM.S7, Go.AM.S8, Go.AM.S9, Nat.reduceAdd, Nat.reduceMul, Nat.reduceSub, ↓reduceIte, Nat.reduceEqDiff, Nat.reduceLT, Nat.reduceLeDiff, reduceCtorEq, Int.reduceBEq, Int.reduceBNe, Nat.reduceBEq, Int.reduceEq, Int.reduceToNat, Int.reduceLE, Int.reduceLT, Nat.reduceDiv, Int.reduceAdd, Int.reduceSub, Int.reduceMul, Int.reduceNeg, Int.reduceGT, Int.reduceGE, Nat.reduceMod, k28_54, s54_eq, k28_55, s55_eq, ty_3, ty_22, ty_24, gk, hk])
    | (with_reducible refine hX _ _ ?_; clear hX X)
    | (with_reducible refine ops_nil_i ?_; try clear hall all)
    | (with_reducible refine opsN_nil_i ?_; try clear hall all)
    | (with_reducible refine hK _ _ ?_; clear hK K)
    | with_reducible refine thenP_normal_i ?_
    | (with_reducible refine zzr1 _ _ ?_; try clear zzr1 Kzzr1)
    | (with_reducible refine zzr0 _ _ ?_; try clear zzr0 Kzzr0)
    | (with_reducible refine awp_seq_l (a := .region 1 _ _) [4] ?_; intro Kzzr1 zzr1)
    | (with_reducible refine awp_seq_l (a := .region 0 _ _) [0, 3] ?_; intro Kzzr0 zzr0)
    | (with_reducible refine awp_seq_k ?_; intro K hK)
    | (with_reducible refine awp_region_a ?_; intro all hall K hK)
    | (with_reducible refine awp_draw_n ?_ ?_; kernel_rfl; intro all hall K hK)
    | (with_reducible refine Chk_i ?_ ?_)
    | (with_reducible refine keysC_i ?_; kernel_rfl)
    | (with_reducible first | refine awp_block_i ?_ | refine awp_skip_i ?_ | refine awp_ret_i ?_ | refine awp_exit_i ?_ | refine thenP_ret_i ?_ | refine thenP_exit_i ?_ | refine lpP_ret_i ?_ | refine lpP_exit_i ?_ | refine unrP_succ_i ?_ | refine unrP_ret_i ?_ | refine unrP_exit_i ?_ | refine blockP_normal_i ?_ | refine blockP_ret_i ?_)
    | (with_reducible refine blockP_exit_i ?_; simp only [↓reduceIte, Nat.reduceEqDiff])
    | with_reducible refine lpP_normal_i ?_)
  all_goals (try clear zzr0; try clear Kzzr0)
  all_goals (try clear zzr1; try clear Kzzr1)
  all_goals (try simp only [inR])
  all_goals first
    | omega
    | exact ⟨by omega, hb⟩
    | skip
theorem sound_28 : Sound Tryz.prog 28 .body (norm s28) := by
  refine sound_norm (sound_body Tryz.func28 (show Tryz.f28.body = some (code Tryz.f28) from rfl) (by kernel_rfl) tysOk G28_ok (drawOk_ok (by kernel_rfl) tysOk G28_ok) (by kernel_rfl) fun ds p r hs hp => ?_)
  unfold s28 at hs
  split at hs
  · cases hs; exact ⟨Nat.le_of_ble_eq_true (by kernel_rfl), wk28 _ _ _ _ _ hp⟩
  · cases hs
end Go.Proofs.AMT
set_option maxRecDepth 20000
namespace Go.Proofs.AMT
open Go.AM Go.AM.LN
attribute [local congr] bindO_congr bindS_congr bindG_congr awpOps_congr aOne_congr awp_congr aCond_congr awpD_congr dOne_congr keysB_congr nOne_congr thenP_congr blockP_congr Chk_congr Brk_congr
noncomputable def s30 : CSpec := fun ds => match ds with
  | [.sl .u64 a] => some ((lim a ∧ limbs (val a) = a ∧ a.length ≤ 1000) ∧ val a < 9223372036854775808, .one (.v (.int .i64 (val a))))
  | _ => none
theorem s30_eq (a : List Int) : norm s30 [.sl .u64 a] = some ((lim a ∧ limbs (val a) = a ∧ a.length ≤ 1000) ∧ val a < 9223372036854775808, .one (.v (.int .i64 (val a)))) := rfl
theorem s30_nil1  : norm s30 [.v (.slice none 0 0)] = some ((lim ([] : List Int) ∧ limbs (val ([] : List Int)) = ([] : List Int) ∧ ([] : List Int).length ≤ 1000) ∧ val ([] : List Int) < 9223372036854775808, .one (.v (.int .i64 (val ([] : List Int))))) := rfl
noncomputable def G30 : Gam := []
theorem G30_ok : GamOk Tryz.prog G30 := gamOk_nil
set_option maxHeartbeats 20000000 in
theorem wk30 (a : List Int) (hp : (lim a ∧ limbs (val a) = a ∧ a.length ≤ 1000) ∧ val a < 9223372036854775808) : awp ty G30 (code Tryz.f30) (retP ty Tryz.f30.results.toList (.one (.v (.int .i64 (val a))))) (entry 0 [.sl .u64 a]) [] := by
  unfold code
  simp only [Tryz.f30, Option.getD_some]
  have hz := @len_zero (val a)
  have hg := lim_get hp.1.1 (i := 0)
  have h0 := limbs_getD0 (val a)
  rw [hp.1.2.1] at h0
  have hl := congrArg List.length hp.1.2.1
  all_goals repeat' (first
    | ((first
       | (with_reducible refine ops_k ?_; intro X hX)
       | (with_reducible refine opsN_k ?_; intro X hX)
       | (with_reducible show awp _ _ _ _ (keepL _ _) _)
       | with_reducible refine awp_cond_k ?_
       | (with_reducible refine Brk_i ?_ ?_ <;> intro hb <;> (try simp only [hb]) <;> have hq := hb <;> try simp only [decide_eq_true_eq, decide_eq_false_iff_not, gt_iff_lt, ge_iff_le, Int.not_lt, Int.not_le, beq_iff_eq, beq_eq_false_iff_ne, Bool.not_eq_true', Bool.not_eq_false', Bool.and_eq_true, Bool.or_eq_true, Bool.and_eq_false_imp, Bool.or_eq_false_iff, ne_eq, Classical.not_not] at hq)
       | with_reducible refine retP_ret_i ?_
       | with_reducible refine retP_normal_i ?_
       | (with_reducible (show bindG _ _ _ _ _); simp only [hall])) <;> try simp only [Go.AM.S1, Go.AM.S2, Go.AM.S3, Go.AM.S4, Go.AM.S5, Go.AM.S6, Go.AM.S7, Go.AM.S8, Go.AM.S9, Nat.reduceAdd, Nat.reduceMul, Nat.reduceSub, ↓reduceIte, Nat.reduceEqDiff, Nat.reduceLT, Nat.reduceLeDiff, reduceCtorEq, Int.reduceBEq, Int.reduceBNe, Nat.reduceBEq, Int.reduceEq, Int.reduceToNat, Int.reduceLE, Int.reduceLT, Nat.reduceDiv, Int.reduceAdd, Int.reduceSub, Int.reduceMul, Int.reduceNeg, Int.reduceGT, Int.reduceGE, Nat.reduceMod, ty_3, ty_22, ty_40])
    | (with_reducible refine hX _ _ ?_; clear hX X)
    | (with_reducible refine ops_nil_i ?_; try clear hall all)
    | (with_reducible refine opsN_nil_i ?_; try clear hall all)
    | (with_reducible refine hK _ _ ?_; clear hK K)
    | with_reducible refine thenP_normal_i ?_
    | (with_reducible refine zzr3 _ _ ?_; try clear zzr3 Kzzr3)
    | (with_reducible refine zzsr1 _ _ ?_; try clear zzsr1 Kzzsr1)
    | (with_reducible refine zzr2 _ _ ?_; try clear zzr2 Kzzr2)
    | (with_reducible refine zzr1 _ _ ?_; try clear zzr1 Kzzr1)
    | (with_reducible refine zzr0 _ _ ?_; try clear zzr0 Kzzr0)
    | (with_reducible refine awp_seq_l (a := .region 3 _ _) [2] ?_; intro Kzzr3 zzr3)
    | (with_reducible refine awp_seq_l (a := .seq (.region 1 _ _) _) [0] ?_; intro Kzzsr1 zzsr1)
    | (with_reducible refine awp_seq_l (a := .region 2 _ _) [2] ?_; intro Kzzr2 zzr2)
    | (with_reducible refine awp_seq_l (a := .region 1 _ _) [0, 5] ?_; intro Kzzr1 zzr1)
    | (with_reducible refine awp_seq_l (a := .region 0 _ _) [0] ?_; intro Kzzr0 zzr0)
    | (with_reducible refine awp_seq_k ?_; intro K hK)
    | (with_reducible refine awp_region_a ?_; intro all hall K hK)
    | (with_reducible refine awp_draw_n ?_ ?_; kernel_rfl; intro all hall K hK)
    | (with_reducible refine Chk_i ?_ ?_)
    | (with_reducible refine keysC_i ?_; kernel_rfl)
    | (with_reducible first | refine awp_block_i ?_ | refine awp_skip_i ?_ | refine awp_ret_i ?_ | refine awp_exit_i ?_ | refine thenP_ret_i ?_ | refine thenP_exit_i ?_ | refine lpP_ret_i ?_ | refine lpP_exit_i ?_ | refine unrP_succ_i ?_ | refine unrP_ret_i ?_ | refine unrP_exit_i ?_ | refine blockP_normal_i ?_ | refine blockP_ret_i ?_)
    | (with_reducible refine blockP_exit_i ?_; simp only [↓reduceIte, Nat.reduceEqDiff])
    | with_reducible refine lpP_normal_i ?_)
  all_goals (try clear zzr0; try clear Kzzr0)
  all_goals (try clear zzr1; try clear Kzzr1)
  all_goals (try clear zzr2; try clear Kzzr2)
  all_goals (try clear zzsr1; try clear Kzzsr1)
  all_goals (try clear zzr3; try clear Kzzr3)
  all_goals (try simp only [inR])
  all_goals first
    | omega
    | (rw [show val a = 0 by omega]; rfl)
    | (rw [h0, show val a % 18446744073709551616 = val a by omega]; done)
    | skip
theorem sound_30 : Sound Tryz.prog 30 .body (norm s30) := by
  refine sound_norm (sound_body Tryz.func30 (show Tryz.f30.body = some (code Tryz.f30) from rfl) (by kernel_rfl) tysOk G30_ok (drawOk_ok (by kernel_rfl) tysOk G30_ok) (by kernel_rfl) fun ds p r hs hp => ?_)
  unfold s30 at hs
  split at hs
  · cases hs; exact ⟨Nat.le_of_ble_eq_true (by kernel_rfl), wk30 _ hp⟩
  · cases hs
end Go.Proofs.AMT
set_option maxRecDepth 20000
namespace Go.Proofs.AMT
open Go.AM Go.AM.LN
attribute [local congr] bindO_congr bindS_congr bindG_congr awpOps_congr aOne_congr awp_congr aCond_congr awpD_congr dOne_congr keysB_congr nOne_congr thenP_congr blockP_congr Chk_congr Brk_congr
noncomputable def s31 : CSpec := fun ds => match ds with
  | [.sl .u64 a] => some (True, .one (.v (.agg #[.int .u64 (a.getD 0 0), .int .u64 (a.getD 1 0), .int .u64 (a.getD 2 0), .int .u64 (a.getD 3 0)])))
  | _ => none
theorem s31_eq (a : List Int) : norm s31 [.sl .u64 a] = some (True, .one (.v (.agg #[.int .u64 (a.getD 0 0), .int .u64 (a.getD 1 0), .int .u64 (a.getD 2 0), .int .u64 (a.getD 3 0)]))) := rfl
theorem s31_nil1  : norm s31 [.v (.slice none 0 0)] = some (True, .one (.v (.agg #[.int .u64 (([] : List Int).getD 0 0), .int .u64 (([] : List Int).getD 1 0), .int .u64 (([] : List Int).getD 2 0), .int .u64 (([] : List Int).getD 3 0)]))) := rfl
noncomputable def G31 : Gam := [(39, .body, norm s39)]
theorem G31_ok : GamOk Tryz.prog G31 := gamOk_cons sound_39 gamOk_nil
theorem k31_39 : lk G31 39 = some (.body, norm s39) := rfl
set_option maxHeartbeats 20000000 in
theorem wk31 (a : List Int) (hp : True) : awp ty G31 (code Tryz.f31) (retP ty Tryz.f31.results.toList (.one (.v (.agg #[.int .u64 (a.getD 0 0), .int .u64 (a.getD 1 0), .int .u64 (a.getD 2 0), .int .u64 (a.getD 3 0)])))) (entry 0 [.sl .u64 a]) [] := by
  unfold code
  simp only [Tryz.f31, Option.getD_some]
  all_goals repeat' (first
    | ((first
       | (with_reducible refine ops_k ?_; intro X hX)
       | (with_reducible refine opsN_k ?_; intro X hX)
       | (with_reducible show awp _ _ _ _ (keepL _ _) _)
       | with_reducible refine awp_cond_k ?_
       | (with_reducible refine Brk_i ?_ ?_ <;> intro hb <;> (try simp only [hb]) <;> have hq := hb <;> try simp only [decide_eq_true_eq, decide_eq_false_iff_not, gt_iff_lt, ge_iff_le, Int.not_lt, Int.not_le, beq_iff_eq, beq_eq_false_iff_ne, Bool.not_eq_true', Bool.not_eq_false', Bool.and_eq_true, Bool.or_eq_true, Bool.and_eq_false_imp, Bool.or_eq_false_iff, ne_eq, Classical.not_not] at hq)
       | with_reducible refine retP_ret_i ?_
       | with_reducible refine retP_normal_i ?_
       | (with_reducible (show bindG _ _ _ _ _); simp only [hall])) <;> try simp only [Go.AM.S1, Go.AM.S2, Go.AM.S3, Go.AM.S4, Go.AM.S5, Go.AM.S6, Go.AM.S7, Go.AM.S8, Go.AM.S9, Nat.reduceAdd, Nat.reduceMul, Nat.reduceSub, ↓reduceIte, Nat.reduceEqDiff, Nat.reduceLT, Nat.reduceLeDiff, reduceCtorEq, Int.reduceBEq, Int.reduceBNe, Nat.reduceBEq, Int.reduceEq, Int.reduceToNat, Int.reduceLE, Int.reduceLT, Nat.reduceDiv, Int.reduceAdd, Int.reduceSub, Int.reduceMul, Int.reduceNeg, Int.reduceGT, Int.reduceGE, Nat.reduceMod, k31_39, s39_eq, s39_nil1, ty_3, ty_22, ty_24, ty_40])
    | (with_reducible refine hX _ _ ?_; clear hX X)
    | (with_reducible refine ops_nil_i ?_; try clear hall all)
    | (with_reducible refine opsN_nil_i ?_; try clear hall all)
    | (with_reducible refine hK _ _ ?_; clear hK K)
    | with_reducible refine thenP_normal_i ?_
    | (with_reducible refine zzr7 _ _ ?_; try clear zzr7 Kzzr7)
    | (with_reducible refine zzsr2 _ _ ?_; try clear zzsr2 Kzzsr2)
    | (with_reducible refine zzb1 _ _ ?_; try clear zzb1 Kzzb1)
    | (with_reducible refine zzr4 _ _ ?_; try clear zzr4 Kzzr4)
    | (with_reducible refine zzctmp6 _ _ ?_; try clear zzctmp6 Kzzctmp6)
    | (with_reducible refine zzr3 _ _ ?_; try clear zzr3 Kzzr3)
    | (with_reducible refine zzr2 _ _ ?_; try clear zzr2 Kzzr2)
    | (with_reducible refine zzr1 _ _ ?_; try clear zzr1 Kzzr1)
    | (with_reducible refine zzr0 _ _ ?_; try clear zzr0 Kzzr0)
    | (with_reducible refine awp_unroll (Nat.succ (Nat.succ (Nat.succ (Nat.succ (Nat.succ Nat.zero))))) ?_)
    | (with_reducible refine awp_seq_l (a := .region 7 _ _) [2] ?_; intro Kzzr7 zzr7)
    | (with_reducible refine awp_seq_l (a := .seq (.region 2 _ _) _) [2, 3] ?_; intro Kzzsr2 zzsr2)
    | (with_reducible refine awp_seq_l (a := .block 1 _) [0, 2, 3, 5] ?_; intro Kzzb1 zzb1)
    | (with_reducible refine awp_seq_l (a := .region 4 _ _) [0, 2, 3, 4, 5] ?_; intro Kzzr4 zzr4)
    | (with_reducible refine awp_seq_l (a := .cond (.tmp 6) _ _) [0, 2, 3, 5] ?_; intro Kzzctmp6 zzctmp6)
    | (with_reducible refine awp_seq_l (a := .region 3 _ _) [0, 2, 3, 5, 6] ?_; intro Kzzr3 zzr3)
    | (with_reducible refine awp_seq_l (a := .region 2 _ _) [0, 2, 3, 5] ?_; intro Kzzr2 zzr2)
    | (with_reducible refine awp_seq_l (a := .region 1 _ _) [0, 2, 3] ?_; intro Kzzr1 zzr1)
    | (with_reducible refine awp_seq_l (a := .region 0 _ _) [0, 2] ?_; intro Kzzr0 zzr0)
    | (with_reducible refine awp_seq_k ?_; intro K hK)
    | (with_reducible refine awp_region_a ?_; intro all hall K hK)
    | (with_reducible refine awp_draw_n ?_ ?_; kernel_rfl; intro all hall K hK)
    | (with_reducible refine Chk_i ?_ ?_)
    | (with_reducible refine keysC_i ?_; kernel_rfl)
    | (with_reducible first | refine awp_block_i ?_ | refine awp_skip_i ?_ | refine awp_ret_i ?_ | refine awp_exit_i ?_ | refine thenP_ret_i ?_ | refine thenP_exit_i ?_ | refine lpP_ret_i ?_ | refine lpP_exit_i ?_ | refine unrP_succ_i ?_ | refine unrP_ret_i ?_ | refine unrP_exit_i ?_ | refine blockP_normal_i ?_ | refine blockP_ret_i ?_)
    | (with_reducible refine blockP_exit_i ?_; simp only [↓reduceIte, Nat.reduceEqDiff])
    | with_reducible refine lpP_normal_i ?_)
  all_goals (try clear zzr0; try clear Kzzr0)
  all_goals (try clear zzr1; try clear Kzzr1)
  all_goals (try clear zzr2; try clear Kzzr2)
  all_goals (try clear zzr3; try clear Kzzr3)
  all_goals (try clear zzctmp6; try clear Kzzctmp6)
  all_goals (try clear zzr4; try clear Kzzr4)
  all_goals (try clear zzb1; try clear Kzzb1)
  all_goals (try clear zzsr2; try clear Kzzsr2)
  all_goals (try clear zzr7; try clear Kzzr7)
  all_goals (try simp only [inR])
  all_goals first
    | omega
    | rfl
    | skip
theorem sound_31 : Sound Tryz.prog 31 .body (norm s31) := by
  refine sound_norm (sound_body Tryz.func31 (show Tryz.f31.body = some (code Tryz.f31) from rfl) (by kernel_rfl) tysOk G31_ok (drawOk_ok (by kernel_rfl) tysOk G31_ok) (by kernel_rfl) fun ds p r hs hp => ?_)
  unfold s31 at hs
  split at hs
  · cases hs; exact ⟨Nat.le_of_ble_eq_true (by kernel_rfl), wk31 _ hp⟩
  · cases hs
end Go.Proofs.AMT
set_option maxRecDepth 20000
namespace Go.Proofs.AMT
open Go.AM Go.AM.LN
attribute [local congr] bindO_congr bindS_congr bindG_congr awpOps_congr aOne_congr awp_congr aCond_congr awpD_congr dOne_congr keysB_congr nOne_congr thenP_congr blockP_congr Chk_congr Brk_congr
noncomputable def s32 : CSpec := fun ds => match ds with
  | [.sl .u64 a, .sl .u64 b] => some ((lim a ∧ a.length ≤ 50000000) ∧ lim b ∧ b.length ≤ 50000000, .one (.fresh .u64 (limbs (val a + val b))))
  | _ => none
theorem s32_eq (a : List Int) (b : List Int) : norm s32 [.sl .u64 a, .sl .u64 b] = some ((lim a ∧ a.length ≤ 50000000) ∧ lim b ∧ b.length ≤ 50000000, .one (.fresh .u64 (limbs (val a + val b)))) := rfl
theorem s32_nil1  (b : List Int) : norm s32 [.v (.slice none 0 0), .sl .u64 b] = some ((lim ([] : List Int) ∧ ([] : List Int).length ≤ 50000000) ∧ lim b ∧ b.length ≤ 50000000, .one (.fresh .u64 (limbs (val ([] : List Int) + val b)))) := rfl
theorem s32_nil2 (a : List Int)  : norm s32 [.sl .u64 a, .v (.slice none 0 0)] = some ((lim a ∧ a.length ≤ 50000000) ∧ lim ([] : List Int) ∧ ([] : List Int).length ≤ 50000000, .one (.fresh .u64 (limbs (val a + val ([] : List Int))))) := rfl
theorem s32_nil3   : norm s32 [.v (.slice none 0 0), .v (.slice none 0 0)] = some ((lim ([] : List Int) ∧ ([] : List Int).length ≤ 50000000) ∧ lim ([] : List Int) ∧ ([] : List Int).length ≤ 50000000, .one (.fresh .u64 (limbs (val ([] : List Int) + val ([] : List Int))))) := rfl
noncomputable def G32 : Gam := [(38, .body, norm s38), (39, .body, norm s39), (56, .ext, sAdd64)]
theorem G32_ok : GamOk Tryz.prog G32 := gamOk_cons sound_38 (gamOk_cons sound_39 (gamOk_cons ext_56 gamOk_nil))
theorem k32_38 : lk G32 38 = some (.body, norm s38) := rfl
theorem k32_39 : lk G32 39 = some (.body, norm s39) := rfl
theorem k32_56 : lk G32 56 = some (.ext, sAdd64) := rfl
set_option maxHeartbeats 20000000 in
theorem wk32 (a : List Int) (b : List Int) (hp : (lim a ∧ a.length ≤ 50000000) ∧ lim b ∧ b.length ≤ 50000000) : awp ty G32 (code Tryz.f32) (retP ty Tryz.f32.results.toList (.one (.fresh .u64 (limbs (val a + val b))))) (entry 0 [.sl .u64 a, .sl .u64 b]) [] := by
  unfold code
  simp only [Tryz.f32, Option.getD_some]
  obtain ⟨N, hN⟩ : ∃ N, max a.length b.length + 1 = N := ⟨_, rfl⟩
  have mE : max (a.length : Int) (b.length : Int) + 1 = (N : Int) := by omega
  have mT : ((N : Int)).toNat = N := Int.toNat_natCast N
  all_goals repeat' (first
    | ((first
       | (with_reducible refine ops_k ?_; intro X hX)
       | (with_reducible refine opsN_k ?_; intro X hX)
       | (with_reducible show awp _ _ _ _ (keepL _ _) _)
       | with_reducible refine awp_cond_k ?_
       | (with_reducible refine Brk_i ?_ ?_ <;> intro hb <;> (try simp only [hb]) <;> have hq := hb <;> try simp only [decide_eq_true_eq, decide_eq_false_iff_not, gt_iff_lt, ge_iff_le, Int.not_lt, Int.not_le, beq_iff_eq, beq_eq_false_iff_ne, Bool.not_eq_true', Bool.not_eq_false', Bool.and_eq_true, Bool.or_eq_true, Bool.and_eq_false_imp, Bool.or_eq_false_iff, ne_eq, Classical.not_not] at hq)
       | with_reducible refine retP_ret_i ?_
       | with_reducible refine retP_normal_i ?_
       | (with_reducible (show bindG _ _ _ _ _); simp only [hall])) <;> try simp only [Go.AM.S1, Go.AM.S2, Go.AM.S3, Go.AM.S4, Go.AM.S5, Go.AM.S6, Go.AM.S7, Go.AM.S8, Go.AM.S9, Nat.reduceAdd, Nat.reduceMul, Nat.reduceSub, ↓reduceIte, Nat.reduceEqDiff, Nat.reduceLT, Nat.reduceLeDiff, reduceCtorEq, Int.reduceBEq, Int.reduceBNe, Nat.reduceBEq, Int.reduceEq, Int.reduceToNat, Int.reduceLE, Int.reduceLT, Nat.reduceDiv, Int.reduceAdd, Int.reduceSub, Int.reduceMul, Int.reduceNeg, Int.reduceGT, Int.reduceGE, Nat.reduceMod, k32_38, s38_eq, s38_nil1, k32_39, s39_eq, s39_nil1, k32_56, sAdd64_eq, ty_3, ty_22, ty_40, mE, mT, List.length_replicate])
    | (with_reducible refine hX _ _ ?_; clear hX X)
    | (with_reducible refine ops_nil_i ?_; try clear hall all)
    | (with_reducible refine opsN_nil_i ?_; try clear hall all)
    | (with_reducible refine hK _ _ ?_; clear hK K)
    | with_reducible refine thenP_normal_i ?_
    | (with_reducible refine zzr8 _ _ ?_; try clear zzr8 Kzzr8)
    | (with_reducible refine zzsr3 _ _ ?_; try clear zzsr3 Kzzsr3)
    | (with_reducible refine zzb1 _ _ ?_; try clear zzb1 Kzzb1)
    | (with_reducible refine zzr5 _ _ ?_; try clear zzr5 Kzzr5)
    | (with_reducible refine zzctmp18 _ _ ?_; try clear zzctmp18 Kzzctmp18)
    | (with_reducible refine zzr4 _ _ ?_; try clear zzr4 Kzzr4)
    | (with_reducible refine zzr3 _ _ ?_; try clear zzr3 Kzzr3)
    | (with_reducible refine zzr2 _ _ ?_; try clear zzr2 Kzzr2)
    | (with_reducible refine zzr1 _ _ ?_; try clear zzr1 Kzzr1)
    | (with_reducible refine zzr0 _ _ ?_; try clear zzr0 Kzzr0)
    | (with_reducible refine awp_lp (σ := Nat × Nat × List Int) (fun s => (s.1 ≤ N ∧ s.2.1 ≤ 1 ∧ s.2.2.length = N) ∧ lim s.2.2 ∧ val (s.2.2.take s.1) + s.2.1 * 2 ^ (64 * s.1) = val (a.take s.1) + val (b.take s.1)) (fun s => [(0, .rd .u64 a), (1, .rd .u64 b), (5, .ow 224), (6, .v (.int .u64 s.2.1)), (16, .v (.int .i64 N)), (17, .v (.int .i64 s.1))]) (fun s => [(224, .ints .u64 s.2.2, false)]) (fun s => N - s.1) (0, 0, List.replicate N 0) ?_ ?_ (fun s hs => ?_))
    | (with_reducible refine awp_seq_l (a := .region 8 _ _) [4] ?_; intro Kzzr8 zzr8)
    | (with_reducible refine awp_seq_l (a := .seq (.region 3 _ _) _) [5] ?_; intro Kzzsr3 zzsr3)
    | (with_reducible refine awp_seq_l (a := .block 1 _) [0, 1, 5, 6, 16, 17] ?_; intro Kzzb1 zzb1)
    | (with_reducible refine awp_seq_l (a := .region 5 _ _) [0, 1, 5, 6, 7, 16, 17] ?_; intro Kzzr5 zzr5)
    | (with_reducible refine awp_seq_l (a := .cond (.tmp 18) _ _) [0, 1, 5, 6, 16, 17] ?_; intro Kzzctmp18 zzctmp18)
    | (with_reducible refine awp_seq_l (a := .region 4 _ _) [0, 1, 5, 6, 16, 17, 18] ?_; intro Kzzr4 zzr4)
    | (with_reducible refine awp_seq_l (a := .region 3 _ _) [0, 1, 5, 6, 16, 17] ?_; intro Kzzr3 zzr3)
    | (with_reducible refine awp_seq_l (a := .region 2 _ _) [0, 1, 5, 6] ?_; intro Kzzr2 zzr2)
    | (with_reducible refine awp_seq_l (a := .region 1 _ _) [0, 1, 5] ?_; intro Kzzr1 zzr1)
    | (with_reducible refine awp_seq_l (a := .region 0 _ _) [0, 1] ?_; intro Kzzr0 zzr0)
    | (with_reducible refine awp_seq_k ?_; intro K hK)
    | (with_reducible refine awp_region_a ?_; intro all hall K hK)
    | (with_reducible refine awp_draw_n ?_ ?_; kernel_rfl; intro all hall K hK)
    | (with_reducible refine Chk_i ?_ ?_)
    | (with_reducible refine keysC_i ?_; kernel_rfl)
    | (with_reducible first | refine awp_block_i ?_ | refine awp_skip_i ?_ | refine awp_ret_i ?_ | refine awp_exit_i ?_ | refine thenP_ret_i ?_ | refine thenP_exit_i ?_ | refine lpP_ret_i ?_ | refine lpP_exit_i ?_ | refine unrP_succ_i ?_ | refine unrP_ret_i ?_ | refine unrP_exit_i ?_ | refine blockP_normal_i ?_ | refine blockP_ret_i ?_)
    | (with_reducible refine blockP_exit_i ?_; simp only [↓reduceIte, Nat.reduceEqDiff])
    | with_reducible refine lpP_normal_i ?_)
  all_goals (try clear zzr0; try clear Kzzr0)
  all_goals (try clear zzr1; try clear Kzzr1)
  all_goals (try clear zzr2; try clear Kzzr2)
  all_goals (try clear zzr3; try clear Kzzr3)
  all_goals (try clear zzr4; try clear Kzzr4)
  all_goals (try clear zzctmp18; try clear Kzzctmp18)
  all_goals (try clear zzr5; try clear Kzzr5)
  all_goals (try clear zzb1; try clear Kzzb1)
  all_goals (try clear zzsr3; try clear Kzzsr3)
  all_goals (try clear zzr8; try clear Kzzr8)
  all_goals clear mE mT
  all_goals (try (rcases s with ⟨i, c, o⟩))
  all_goals (try (obtain ⟨ss, hs⟩ := hs))
  all_goals (try dsimp only at *)
  all_goals (try simp only [inR])
  all_goals (try omega)
  · exact ⟨⟨Nat.zero_le _, by omega, by simp⟩, lim_rep _, by simp [val]⟩
  · exact Ent.refl _ _
  · have h1 := lim_get hp.1.1 (i := i)
    have h2 := lim_get hp.2.1 (i := i)
    omega
  · obtain ⟨c', s', e1, e2, e3, e4, e5⟩ := add_step' hp.1.1 hp.2.1 (show c ≤ 1 by omega) (show i < o.length by omega) hs.2
    rw [e1, e2]
    exact ⟨(i + 1, c', o.set i (s' : Int)), (by (refine ent_ok [(224, 224)] rfl ?_ ?_ <;> simp only [memLe, slotsLe, AvLe, lk, ↓reduceIte, Nat.reduceEqDiff, Option.isSome_some, and_self, and_true, true_and, reduceCtorEq, List.map_nil, List.map_cons, Option.some.injEq, AV.v.injEq, Value.int.injEq, Value.bool.injEq, AV.rd.injEq, AV.ow.injEq, AV.al.injEq, AV.ref.injEq] <;> omega)), ⟨⟨by dsimp only; omega, e3, by simp; omega⟩, lim_set hs.1 (nat_lim e4) _, e5⟩, by dsimp only; omega⟩
  · exact ⟨hs.1, by omega⟩
  · have hi : i = N := by omega
    subst hi
    rw [add_fin hp.1.1 hp.2.1 (by omega) (by omega) (by omega) hs.2]
theorem sound_32 : Sound Tryz.prog 32 .body (norm s32) := by
  refine sound_norm (sound_body Tryz.func32 (show Tryz.f32.body = some (code Tryz.f32) from rfl) (by kernel_rfl) tysOk G32_ok (drawOk_ok (by kernel_rfl) tysOk G32_ok) (by kernel_rfl) fun ds p r hs hp => ?_)
  unfold s32 at hs
  split at hs
  · cases hs; exact ⟨Nat.le_of_ble_eq_true (by kernel_rfl), wk32 _ _ hp⟩
  · cases hs
end Go.Proofs.AMT
set_option maxRecDepth 20000
namespace Go.Proofs.AMT
open Go.AM Go.AM.LN
attribute [local congr] bindO_congr bindS_congr bindG_congr awpOps_congr aOne_congr awp_congr aCond_congr awpD_congr dOne_congr keysB_congr nOne_congr thenP_congr blockP_congr Chk_congr Brk_congr
noncomputable def s78 : CSpec := fun ds => match ds with
  | [.v (.int .u64 x), .v (.int .u64 y)] => some ((0 ≤ x ∧ x < 18446744073709551616) ∧ 0 ≤ y ∧ y < 18446744073709551616, .many [.v (.int .u64 ((x.toNat * y.toNat / 18446744073709551616 : Nat))), .v (.int .u64 ((x.toNat * y.toNat % 18446744073709551616 : Nat)))])
  | _ => none
theorem s78_eq (x : Int) (y : Int) : norm s78 [.v (.int .u64 x), .v (.int .u64 y)] = some ((0 ≤ x ∧ x < 18446744073709551616) ∧ 0 ≤ y ∧ y < 18446744073709551616, .many [.v (.int .u64 ((x.toNat * y.toNat / 18446744073709551616 : Nat))), .v (.int .u64 ((x.toNat * y.toNat % 18446744073709551616 : Nat)))]) := rfl
noncomputable def G78 : Gam := []
theorem G78_ok : GamOk Tryz.prog G78 := gamOk_nil
set_option maxHeartbeats 20000000 in
theorem wk78 (x : Int) (y : Int) (hp : (0 ≤ x ∧ x < 18446744073709551616) ∧ 0 ≤ y ∧ y < 18446744073709551616) : awp ty G78 (code Tryz.f78) (retP ty Tryz.f78.results.toList (.many [.v (.int .u64 ((x.toNat * y.toNat / 18446744073709551616 : Nat))), .v (.int .u64 ((x.toNat * y.toNat % 18446744073709551616 : Nat)))])) (entry 0 [.v (.int .u64 x), .v (.int .u64 y)]) [] := by
  unfold code
  simp only [Tryz.f78, Option.getD_some]
  obtain ⟨x, rfl⟩ := Int.eq_ofNat_of_zero_le hp.1.1
  obtain ⟨y, rfl⟩ := Int.eq_ofNat_of_zero_le hp.2.1
  simp only [Int.toNat_natCast]
  obtain ⟨x0, hx0⟩ : ∃ x0, x % 4294967296 = x0 := ⟨_, rfl⟩
  obtain ⟨x1, hx1⟩ : ∃ x1, x / 4294967296 = x1 := ⟨_, rfl⟩
  obtain ⟨y0, hy0⟩ : ∃ y0, y % 4294967296 = y0 := ⟨_, rfl⟩
  obtain ⟨y1, hy1⟩ : ∃ y1, y / 4294967296 = y1 := ⟨_, rfl⟩
  have m1 : AM.bits .and .u64 (x : Int) 4294967295 = (x0 : Int) := by rw [and32 (by omega), hx0]
  have m2 : AM.bits .and .u64 (y : Int) 4294967295 = (y0 : Int) := by rw [and32 (by omega), hy0]
  have d1 : (x : Int) / 4294967296 = (x1 : Int) := by omega
  have d2 : (y : Int) / 4294967296 = (y1 : Int) := by omega
  have ex : x = x1 * 4294967296 + x0 := by omega
  have ey : y = y1 * 4294967296 + y0 := by omega
  have bx0 : x0 < 4294967296 := by omega
  have by0 : y0 < 4294967296 := by omega
  have bx1 : x1 < 4294967296 := by omega
  have by1 : y1 < 4294967296 := by omega
  obtain ⟨A, hA⟩ : ∃ A, x0 * y0 = A := ⟨_, rfl⟩
  obtain ⟨B, hB⟩ : ∃ B, x1 * y0 = B := ⟨_, rfl⟩
  obtain ⟨C, hC⟩ : ∃ C, x0 * y1 = C := ⟨_, rfl⟩
  obtain ⟨D, hD⟩ : ∃ D, x1 * y1 = D := ⟨_, rfl⟩
  obtain ⟨P, hP⟩ : ∃ P, x * y = P := ⟨_, rfl⟩
  have eP : P = D * 18446744073709551616 + (B + C) * 4294967296 + A := by rw [← hP, ← hA, ← hB, ← hC, ← hD, ex, ey]; grind
  have lA : A ≤ 18446744065119617025 := by rw [← hA]; exact Nat.mul_le_mul (show x0 ≤ 4294967295 by omega) (show y0 ≤ 4294967295 by omega)
  have lB : B ≤ 18446744065119617025 := by rw [← hB]; exact Nat.mul_le_mul (show x1 ≤ 4294967295 by omega) (show y0 ≤ 4294967295 by omega)
  have lC : C ≤ 18446744065119617025 := by rw [← hC]; exact Nat.mul_le_mul (show x0 ≤ 4294967295 by omega) (show y1 ≤ 4294967295 by omega)
  have lD : D ≤ 18446744065119617025 := by rw [← hD]; exact Nat.mul_le_mul (show x1 ≤ 4294967295 by omega) (show y1 ≤ 4294967295 by omega)
  have eA : (x0 : Int) * (y0 : Int) = (A : Int) := by omega
  have eB : (x1 : Int) * (y0 : Int) = (B : Int) := by omega
  have eC : (x0 : Int) * (y1 : Int) = (C : Int) := by omega
  have eD : (x1 : Int) * (y1 : Int) = (D : Int) := by omega
  have eXY : (x : Int) * (y : Int) = (P : Int) := by omega
  have wA : (A : Int) % 18446744073709551616 = (A : Int) := by omega
  obtain ⟨t, ht⟩ : ∃ t, B + A / 4294967296 = t := ⟨_, rfl⟩
  have et : ((B : Int) % 18446744073709551616 + (A : Int) / 4294967296) % 18446744073709551616 = (t : Int) := by omega
  have tl : t < 18446744073709551616 := by omega
  have m3 : AM.bits .and .u64 (t : Int) 4294967295 = ((t % 4294967296 : Nat) : Int) := by rw [and32 tl]
  obtain ⟨w, hw⟩ : ∃ w, t % 4294967296 + C = w := ⟨_, rfl⟩
  have ew : (((t % 4294967296 : Nat) : Int) + (C : Int) % 18446744073709551616) % 18446744073709551616 = (w : Int) := by omega
  have eh : (((D : Int) % 18446744073709551616 + (t : Int) / 4294967296) % 18446744073709551616 + (w : Int) / 4294967296) % 18446744073709551616 = ((P / 18446744073709551616 : Nat) : Int) := by omega
  have el : (P : Int) % 18446744073709551616 = ((P % 18446744073709551616 : Nat) : Int) := by omega
  clear hx0 hx1 hy0 hy1 hA hB hC hD ex ey eP
  all_goals repeat' (first
    | ((first
       | (with_reducible refine ops_k ?_; intro X hX)
       | (with_reducible refine opsN_k ?_; intro X hX)
       | (with_reducible show awp _ _ _ _ (keepL _ _) _)
       | with_reducible refine awp_cond_k ?_
       | (with_reducible refine Brk_i ?_ ?_ <;> intro hb <;> (try simp only [hb]) <;> have hq := hb <;> try simp only [decide_eq_true_eq, decide_eq_false_iff_not, gt_iff_lt, ge_iff_le, Int.not_lt, Int.not_le, beq_iff_eq, beq_eq_false_iff_ne, Bool.not_eq_true', Bool.not_eq_false', Bool.and_eq_true, Bool.or_eq_true, Bool.and_eq_false_imp, Bool.or_eq_false_iff, ne_eq, Classical.not_not] at hq)
       | with_reducible refine retP_ret_i ?_
       | with_reducible refine retP_normal_i ?_
       | (with_reducible (show bindG _ _ _ _ _); simp only [hall])) <;> try simp only [Go.AM.S1, Go.AM.S2, Go.AM.S3, Go.AM.S4, Go.AM.S5, Go.AM.S6, Go.AM.S7, Go.AM.S8, Go.AM.S9, Nat.reduceAdd, Nat.reduceMul, Nat.reduceSub, ↓reduceIte, Nat.reduceEqDiff, Nat.reduceLT, Nat.reduceLeDiff, reduceCtorEq, Int.reduceBEq, Int.reduceBNe, Nat.reduceBEq, Int.reduceEq, Int.reduceToNat, Int.reduceLE, Int.reduceLT, Nat.reduceDiv, Int.reduceAdd, Int.reduceSub, Int.reduceMul, Int.reduceNeg, Int.reduceGT, Int.reduceGE, Nat.reduceMod, ty_22, ty_37, IntKind.bits, minLit, Int.reducePow, m1, m2, d1, d2, eA, eB, eC, eD, eXY, wA, et, m3, ew, eh, el, hP])
    | (with_reducible refine hX _ _ ?_; clear hX X)
    | (with_reducible refine ops_nil_i ?_; try clear hall all)
    | (with_reducible refine opsN_nil_i ?_; try clear hall all)
    | (with_reducible refine hK _ _ ?_; clear hK K)
    | with_reducible refine thenP_normal_i ?_
    | (with_reducible refine zzr11 _ _ ?_; try clear zzr11 Kzzr11)
    | (with_reducible refine zzr10 _ _ ?_; try clear zzr10 Kzzr10)
    | (with_reducible refine zzr9 _ _ ?_; try clear zzr9 Kzzr9)
    | (with_reducible refine zzr8 _ _ ?_; try clear zzr8 Kzzr8)
    | (with_reducible refine zzr7 _ _ ?_; try clear zzr7 Kzzr7)
    | (with_reducible refine zzr6 _ _ ?_; try clear zzr6 Kzzr6)
    | (with_reducible refine zzr5 _ _ ?_; try clear zzr5 Kzzr5)
    | (with_reducible refine zzr4 _ _ ?_; try clear zzr4 Kzzr4)
    | (with_reducible refine zzr3 _ _ ?_; try clear zzr3 Kzzr3)
    | (with_reducible refine zzr2 _ _ ?_; try clear zzr2 Kzzr2)
    | (with_reducible refine zzr1 _ _ ?_; try clear zzr1 Kzzr1)
    | (with_reducible refine zzr0 _ _ ?_; try clear zzr0 Kzzr0)
    | (with_reducible refine awp_seq_l (a := .region 11 _ _) [4, 5] ?_; intro Kzzr11 zzr11)
    | (with_reducible refine awp_seq_l (a := .region 10 _ _) [0, 1, 4] ?_; intro Kzzr10 zzr10)
    | (with_reducible refine awp_seq_l (a := .region 9 _ _) [0, 1, 7, 9, 12, 13] ?_; intro Kzzr9 zzr9)
    | (with_reducible refine awp_seq_l (a := .region 8 _ _) [0, 1, 6, 7, 9, 12, 13] ?_; intro Kzzr8 zzr8)
    | (with_reducible refine awp_seq_l (a := .region 7 _ _) [0, 1, 6, 7, 9, 11, 12] ?_; intro Kzzr7 zzr7)
    | (with_reducible refine awp_seq_l (a := .region 6 _ _) [0, 1, 6, 7, 9, 11] ?_; intro Kzzr6 zzr6)
    | (with_reducible refine awp_seq_l (a := .region 5 _ _) [0, 1, 6, 7, 8, 9, 10] ?_; intro Kzzr5 zzr5)
    | (with_reducible refine awp_seq_l (a := .region 4 _ _) [0, 1, 6, 7, 8, 9] ?_; intro Kzzr4 zzr4)
    | (with_reducible refine awp_seq_l (a := .region 3 _ _) [0, 1, 6, 7, 8] ?_; intro Kzzr3 zzr3)
    | (with_reducible refine awp_seq_l (a := .region 2 _ _) [0, 1, 6, 7] ?_; intro Kzzr2 zzr2)
    | (with_reducible refine awp_seq_l (a := .region 1 _ _) [0, 1, 6] ?_; intro Kzzr1 zzr1)
    | (with_reducible refine awp_seq_l (a := .region 0 _ _) [0, 1] ?_; intro Kzzr0 zzr0)
    | (with_reducible refine awp_seq_k ?_; intro K hK)
    | (with_reducible refine awp_region_a ?_; intro all hall K hK)
    | (with_reducible refine awp_draw_n ?_ ?_; kernel_rfl; intro all hall K hK)
    | (with_reducible refine Chk_i ?_ ?_)
    | (with_reducible refine keysC_i ?_; kernel_rfl)
    | (with_reducible first | refine awp_block_i ?_ | refine awp_skip_i ?_ | refine awp_ret_i ?_ | refine awp_exit_i ?_ | refine thenP_ret_i ?_ | refine thenP_exit_i ?_ | refine lpP_ret_i ?_ | refine lpP_exit_i ?_ | refine unrP_succ_i ?_ | refine unrP_ret_i ?_ | refine unrP_exit_i ?_ | refine blockP_normal_i ?_ | refine blockP_ret_i ?_)
    | (with_reducible refine blockP_exit_i ?_; simp only [↓reduceIte, Nat.reduceEqDiff])
    | with_reducible refine lpP_normal_i ?_)
  all_goals (try clear zzr0; try clear Kzzr0)
  all_goals (try clear zzr1; try clear Kzzr1)
  all_goals (try clear zzr2; try clear Kzzr2)
  all_goals (try clear zzr3; try clear Kzzr3)
  all_goals (try clear zzr4; try clear Kzzr4)
  all_goals (try clear zzr5; try clear Kzzr5)
  all_goals (try clear zzr6; try clear Kzzr6)
  all_goals (try clear zzr7; try clear Kzzr7)
  all_goals (try clear zzr8; try clear Kzzr8)
  all_goals (try clear zzr9; try clear Kzzr9)
  all_goals (try clear zzr10; try clear Kzzr10)
  all_goals (try clear zzr11; try clear Kzzr11)
theorem sound_78 : Sound Tryz.prog 78 .body (norm s78) := by
  refine sound_norm (sound_body Tryz.func78 (show Tryz.f78.body = some (code Tryz.f78) from rfl) (by kernel_rfl) tysOk G78_ok (drawOk_ok (by kernel_rfl) tysOk G78_ok) (by kernel_rfl) fun ds p r hs hp => ?_)
  unfold s78 at hs
  split at hs
  · cases hs; exact ⟨Nat.le_of_ble_eq_true (by kernel_rfl), wk78 _ _ hp⟩
  · cases hs
end Go.Proofs.AMT
set_option maxRecDepth 20000
namespace Go.Proofs.AMT
open Go.AM Go.AM.LN
attribute [local congr] bindO_congr bindS_congr bindG_congr awpOps_congr aOne_congr awp_congr aCond_congr awpD_congr dOne_congr keysB_congr nOne_congr thenP_congr blockP_congr Chk_congr Brk_congr
noncomputable def s57 : CSpec := fun ds => match ds with
  | [.sl .u64 a, .sl .u64 b] => some ((lim a ∧ a.length ≤ 40000000) ∧ lim b ∧ b.length ≤ 40000000, .one (.fresh .u64 (limbs (val a * val b))))
  | _ => none
theorem s57_eq (a : List Int) (b : List Int) : norm s57 [.sl .u64 a, .sl .u64 b] = some ((lim a ∧ a.length ≤ 40000000) ∧ lim b ∧ b.length ≤ 40000000, .one (.fresh .u64 (limbs (val a * val b)))) := rfl
theorem s57_nil1  (b : List Int) : norm s57 [.v (.slice none 0 0), .sl .u64 b] = some ((lim ([] : List Int) ∧ ([] : List Int).length ≤ 40000000) ∧ lim b ∧ b.length ≤ 40000000, .one (.fresh .u64 (limbs (val ([] : List Int) * val b)))) := rfl
theorem s57_nil2 (a : List Int)  : norm s57 [.sl .u64 a, .v (.slice none 0 0)] = some ((lim a ∧ a.length ≤ 40000000) ∧ lim ([] : List Int) ∧ ([] : List Int).length ≤ 40000000, .one (.fresh .u64 (limbs (val a * val ([] : List Int))))) := rfl
theorem s57_nil3   : norm s57 [.v (.slice none 0 0), .v (.slice none 0 0)] = some ((lim ([] : List Int) ∧ ([] : List Int).length ≤ 40000000) ∧ lim ([] : List Int) ∧ ([] : List Int).length ≤ 40000000, .one (.fresh .u64 (limbs (val ([] : List Int) * val ([] : List Int))))) := rfl
noncomputable def G57 : Gam := [(38, .body, norm s38), (56, .ext, sAdd64), (78, .body, norm s78)]
theorem G57_ok : GamOk Tryz.prog G57 := gamOk_cons sound_38 (gamOk_cons ext_56 (gamOk_cons sound_78 gamOk_nil))
theorem k57_38 : lk G57 38 = some (.body, norm s38) := rfl
theorem k57_56 : lk G57 56 = some (.ext, sAdd64) := rfl
theorem k57_78 : lk G57 78 = some (.body, norm s78) := rfl
set_option maxHeartbeats 20000000 in
theorem wk57 (a : List Int) (b : List Int) (hp : (lim a ∧ a.length ≤ 40000000) ∧ lim b ∧ b.length ≤ 40000000) : awp ty G57 (code Tryz.f57) (retP ty Tryz.f57.results.toList (.one (.fresh .u64 (limbs (val a * val b))))) (entry 0 [.sl .u64 a, .sl .u64 b]) [] := by
  unfold code
  simp only [Tryz.f57, Option.getD_some]
  obtain ⟨N, hN⟩ : ∃ N, a.length + b.length + 1 = N := ⟨_, rfl⟩
  have lenE : ((a.length : Int) + (b.length : Int) + 1).toNat = N := by omega
  all_goals repeat' (first
    | ((first
       | (with_reducible refine ops_k ?_; intro X hX)
       | (with_reducible refine opsN_k ?_; intro X hX)
       | (with_reducible show awp _ _ _ _ (keepL _ _) _)
       | with_reducible refine awp_cond_k ?_
       | (with_reducible refine Brk_i ?_ ?_ <;> intro hb <;> (try simp only [hb]) <;> have hq := hb <;> try simp only [decide_eq_true_eq, decide_eq_false_iff_not, gt_iff_lt, ge_iff_le, Int.not_lt, Int.not_le, beq_iff_eq, beq_eq_false_iff_ne, Bool.not_eq_true', Bool.not_eq_false', Bool.and_eq_true, Bool.or_eq_true, Bool.and_eq_false_imp, Bool.or_eq_false_iff, ne_eq, Classical.not_not] at hq)
       | with_reducible refine retP_ret_i ?_
       | with_reducible refine retP_normal_i ?_
       | (with_reducible (show bindG _ _ _ _ _); simp only [hall])) <;> try simp only [Go.AM.S1, Go.AM.S2, Go.AM.S3, Go.AM.S4, Go.AM.S5, Go.AM.S6, Go.AM.S7, Go.AM.S8, Go.AM.S9, Nat.reduceAdd, Nat.reduceMul, Nat.reduceSub, ↓reduceIte, Nat.reduceEqDiff, Nat.reduceLT, Nat.reduceLeDiff, reduceCtorEq, Int.reduceBEq, Int.reduceBNe, Nat.reduceBEq, Int.reduceEq, Int.reduceToNat, Int.reduceLE, Int.reduceLT, Nat.reduceDiv, Int.reduceAdd, Int.reduceSub, Int.reduceMul, Int.reduceNeg, Int.reduceGT, Int.reduceGE, Nat.reduceMod, k57_38, s38_eq, s38_nil1, k57_56, sAdd64_eq, k57_78, s78_eq, ty_3, ty_22, ty_40, List.length_replicate, lenE])
    | (with_reducible refine hX _ _ ?_; clear hX X)
    | (with_reducible refine ops_nil_i ?_; try clear hall all)
    | (with_reducible refine opsN_nil_i ?_; try clear hall all)
    | (with_reducible refine hK _ _ ?_; clear hK K)
    | with_reducible refine thenP_normal_i ?_
    | (with_reducible refine zzr18 _ _ ?_; try clear zzr18 Kzzr18)
    | (with_reducible refine zzsr2 _ _ ?_; try clear zzsr2 Kzzsr2)
    | (with_reducible refine zzb1 _ _ ?_; try clear zzb1 Kzzb1)
    | (with_reducible refine zzsr6 _ _ ?_; try clear zzsr6 Kzzsr6)
    | (with_reducible refine zzb3 _ _ ?_; try clear zzb3 Kzzb3)
    | (with_reducible refine zzr13 _ _ ?_; try clear zzr13 Kzzr13)
    | (with_reducible refine zzr12 _ _ ?_; try clear zzr12 Kzzr12)
    | (with_reducible refine zzr11 _ _ ?_; try clear zzr11 Kzzr11)
    | (with_reducible refine zzr10 _ _ ?_; try clear zzr10 Kzzr10)
    | (with_reducible refine zzr9 _ _ ?_; try clear zzr9 Kzzr9)
    | (with_reducible refine zzr8 _ _ ?_; try clear zzr8 Kzzr8)
    | (with_reducible refine zzctmp28 _ _ ?_; try clear zzctmp28 Kzzctmp28)
    | (with_reducible refine zzr7 _ _ ?_; try clear zzr7 Kzzr7)
    | (with_reducible refine zzr6 _ _ ?_; try clear zzr6 Kzzr6)
    | (with_reducible refine zzr5 _ _ ?_; try clear zzr5 Kzzr5)
    | (with_reducible refine zzr4 _ _ ?_; try clear zzr4 Kzzr4)
    | (with_reducible refine zzctmp23 _ _ ?_; try clear zzctmp23 Kzzctmp23)
    | (with_reducible refine zzr3 _ _ ?_; try clear zzr3 Kzzr3)
    | (with_reducible refine zzr2 _ _ ?_; try clear zzr2 Kzzr2)
    | (with_reducible refine zzr1 _ _ ?_; try clear zzr1 Kzzr1)
    | (with_reducible refine zzr0 _ _ ?_; try clear zzr0 Kzzr0)
    | (with_reducible refine awp_lp (c := .seq (.region 3 _ _) _) (σ := Nat × List Int) (fun s => (s.1 ≤ a.length ∧ s.2.length = N) ∧ lim s.2 ∧ val s.2 = val (a.take s.1) * val b) (fun s => [(0, .rd .u64 a), (1, .rd .u64 b), (5, .ow 304), (21, .v (.int .i64 a.length)), (22, .v (.int .i64 s.1))]) (fun s => [(304, .ints .u64 s.2, false)]) (fun s => a.length - s.1) (0, List.replicate N 0) ?_ ?_ (fun s hs => ?_))
    | (with_reducible refine awp_lp (c := .seq (.region 7 _ _) _) (σ := Nat × Nat × List Int) (fun z => (z.1 ≤ b.length ∧ z.2.1 < 18446744073709551616 ∧ z.2.2.length = N) ∧ lim z.2.2 ∧ z.2.2.getD (s.1 + b.length) 0 = 0 ∧ val z.2.2 + z.2.1 * 2 ^ (64 * (s.1 + z.1)) = val (a.take s.1) * val b + (a.getD s.1 0).toNat * 2 ^ (64 * s.1) * val (b.take z.1)) (fun z => [(0, .rd .u64 a), (1, .rd .u64 b), (5, .ow 304), (6, .v (.int .i64 s.1)), (7, .v (.int .u64 z.2.1)), (21, .v (.int .i64 a.length)), (22, .v (.int .i64 s.1)), (26, .v (.int .i64 b.length)), (27, .v (.int .i64 z.1))]) (fun z => [(304, .ints .u64 z.2.2, false)]) (fun z => b.length - z.1) (0, 0, s.2) ?_ ?_ (fun z hz => ?_))
    | (with_reducible refine awp_seq_l (a := .region 18 _ _) [4] ?_; intro Kzzr18 zzr18)
    | (with_reducible refine awp_seq_l (a := .seq (.region 2 _ _) _) [5] ?_; intro Kzzsr2 zzsr2)
    | (with_reducible refine awp_seq_l (a := .block 1 _) [0, 1, 5, 21, 22] ?_; intro Kzzb1 zzb1)
    | (with_reducible refine awp_seq_l (a := .seq (.region 6 _ _) _) [0, 1, 5, 6, 7, 21, 22] ?_; intro Kzzsr6 zzsr6)
    | (with_reducible refine awp_seq_l (a := .block 3 _) [0, 1, 5, 6, 7, 21, 22, 26, 27] ?_; intro Kzzb3 zzb3)
    | (with_reducible refine awp_seq_l (a := .region 13 _ _) [0, 1, 5, 6, 8, 9, 11, 21, 22, 26, 27] ?_; intro Kzzr13 zzr13)
    | (with_reducible refine awp_seq_l (a := .region 12 _ _) [0, 1, 5, 6, 8, 9, 11, 12, 21, 22, 26, 27] ?_; intro Kzzr12 zzr12)
    | (with_reducible refine awp_seq_l (a := .region 11 _ _) [0, 1, 5, 6, 7, 8, 9, 11, 21, 22, 26, 27] ?_; intro Kzzr11 zzr11)
    | (with_reducible refine awp_seq_l (a := .region 10 _ _) [0, 1, 5, 6, 7, 8, 9, 11, 12, 21, 22, 26, 27] ?_; intro Kzzr10 zzr10)
    | (with_reducible refine awp_seq_l (a := .region 9 _ _) [0, 1, 5, 6, 7, 8, 9, 10, 21, 22, 26, 27] ?_; intro Kzzr9 zzr9)
    | (with_reducible refine awp_seq_l (a := .region 8 _ _) [0, 1, 5, 6, 7, 8, 21, 22, 26, 27] ?_; intro Kzzr8 zzr8)
    | (with_reducible refine awp_seq_l (a := .cond (.tmp 28) _ _) [0, 1, 5, 6, 7, 21, 22, 26, 27] ?_; intro Kzzctmp28 zzctmp28)
    | (with_reducible refine awp_seq_l (a := .region 7 _ _) [0, 1, 5, 6, 7, 21, 22, 26, 27, 28] ?_; intro Kzzr7 zzr7)
    | (with_reducible refine awp_seq_l (a := .region 6 _ _) [0, 1, 5, 6, 7, 21, 22, 26, 27] ?_; intro Kzzr6 zzr6)
    | (with_reducible refine awp_seq_l (a := .region 5 _ _) [0, 1, 5, 6, 7, 21, 22] ?_; intro Kzzr5 zzr5)
    | (with_reducible refine awp_seq_l (a := .region 4 _ _) [0, 1, 5, 6, 21, 22] ?_; intro Kzzr4 zzr4)
    | (with_reducible refine awp_seq_l (a := .cond (.tmp 23) _ _) [0, 1, 5, 21, 22] ?_; intro Kzzctmp23 zzctmp23)
    | (with_reducible refine awp_seq_l (a := .region 3 _ _) [0, 1, 5, 21, 22, 23] ?_; intro Kzzr3 zzr3)
    | (with_reducible refine awp_seq_l (a := .region 2 _ _) [0, 1, 5, 21, 22] ?_; intro Kzzr2 zzr2)
    | (with_reducible refine awp_seq_l (a := .region 1 _ _) [0, 1, 5] ?_; intro Kzzr1 zzr1)
    | (with_reducible refine awp_seq_l (a := .region 0 _ _) [0, 1] ?_; intro Kzzr0 zzr0)
    | (with_reducible refine awp_seq_k ?_; intro K hK)
    | (with_reducible refine awp_region_a ?_; intro all hall K hK)
    | (with_reducible refine awp_draw_n ?_ ?_; kernel_rfl; intro all hall K hK)
    | (with_reducible refine Chk_i ?_ ?_)
    | (with_reducible refine keysC_i ?_; kernel_rfl)
    | (with_reducible first | refine awp_block_i ?_ | refine awp_skip_i ?_ | refine awp_ret_i ?_ | refine awp_exit_i ?_ | refine thenP_ret_i ?_ | refine thenP_exit_i ?_ | refine lpP_ret_i ?_ | refine lpP_exit_i ?_ | refine unrP_succ_i ?_ | refine unrP_ret_i ?_ | refine unrP_exit_i ?_ | refine blockP_normal_i ?_ | refine blockP_ret_i ?_)
    | (with_reducible refine blockP_exit_i ?_; simp only [↓reduceIte, Nat.reduceEqDiff])
    | with_reducible refine lpP_normal_i ?_)
  all_goals (try clear zzr0; try clear Kzzr0)
  all_goals (try clear zzr1; try clear Kzzr1)
  all_goals (try clear zzr2; try clear Kzzr2)
  all_goals (try clear zzr3; try clear Kzzr3)
  all_goals (try clear zzctmp23; try clear Kzzctmp23)
  all_goals (try clear zzr4; try clear Kzzr4)
  all_goals (try clear zzr5; try clear Kzzr5)
  all_goals (try clear zzr6; try clear Kzzr6)
  all_goals (try clear zzr7; try clear Kzzr7)
  all_goals (try clear zzctmp28; try clear Kzzctmp28)
  all_goals (try clear zzr8; try clear Kzzr8)
  all_goals (try clear zzr9; try clear Kzzr9)
  all_goals (try clear zzr10; try clear Kzzr10)
  all_goals (try clear zzr11; try clear Kzzr11)
  all_goals (try clear zzr12; try clear Kzzr12)
  all_goals (try clear zzr13; try clear Kzzr13)
  all_goals (try clear zzb3; try clear Kzzb3)
  all_goals (try clear zzsr6; try clear Kzzsr6)
  all_goals (try clear zzb1; try clear Kzzb1)
  all_goals (try clear zzsr2; try clear Kzzsr2)
  all_goals (try clear zzr18; try clear Kzzr18)
  all_goals clear lenE
  all_goals (try simp only [inR])
  all_goals (try (rcases z with ⟨k, c, o2⟩))
  all_goals (try (rcases s with ⟨i, o⟩))
  all_goals (try (obtain ⟨zz, hz⟩ := hz))
  all_goals (try (obtain ⟨ss, hs⟩ := hs))
  all_goals (try dsimp only at *)
  all_goals (try omega)
  · exact ⟨⟨Nat.zero_le _, by simp⟩, lim_rep _, by simp [val_rep, val]⟩
  · exact Ent.refl _ _
  · exact ⟨⟨Nat.zero_le _, by omega, by omega⟩, hs.1, getD_zero_of_lt hs.1 (by rw [hs.2]; exact prod_lt hp.1.1 hp.2.1 i), by rw [hs.2]; simp [val]⟩
  · exact Ent.refl _ _
  · exact ⟨lim_get hp.1.1, lim_get hp.2.1⟩
  · have e : ((i : Int) + (k : Int)).toNat = i + k := by omega
    have h1 := lim_get hz.1 (i := i + k)
    rw [e]
    omega
  · have e : ((i : Int) + (k : Int)).toNat = i + k := by omega
    have h1 := lim_get hz.1 (i := i + k)
    rw [e]
    have h2 := lim_get hp.1.1 (i := i)
    have h3 := lim_get hp.2.1 (i := k)
    obtain ⟨c', s', e1, e2, e3, e4, e5⟩ := mul_word' (prod_le (x := (a.getD i 0).toNat) (y := (b.getD k 0).toNat) (by omega) (by omega)) (c := (c : Int)) ⟨by omega, by omega⟩ h1
    rw [e1, e2]
    rw [Int.toNat_natCast] at e3
    exact ⟨(k + 1, c', o2.set (i + k) (s' : Int)), (by (refine ent_ok [(304, 304)] rfl ?_ ?_ <;> simp only [memLe, slotsLe, AvLe, lk, ↓reduceIte, Nat.reduceEqDiff, Option.isSome_some, and_self, and_true, true_and, reduceCtorEq, List.map_nil, List.map_cons, Option.some.injEq, AV.v.injEq, Value.int.injEq, Value.bool.injEq, AV.rd.injEq, AV.ow.injEq, AV.al.injEq, AV.ref.injEq] <;> omega)), ⟨⟨by dsimp only; omega, e4, by simp; omega⟩, lim_set hz.1 (nat_lim e5) _, by rw [getD_set_other (by omega)]; exact hz.2.1, mul_step (by omega) hz.2.2 e3⟩, by dsimp only; omega⟩
  · have e : ((i : Int) + (b.length : Int)).toNat = i + b.length := by omega
    rw [e]
    have hk : k = b.length := by omega
    have h5 := hz.2.2
    rw [hk, List.take_length] at h5
    exact ⟨(i + 1, o2.set (i + b.length) (c : Int)), (by (refine ent_ok [(304, 304)] rfl ?_ ?_ <;> simp only [memLe, slotsLe, AvLe, lk, ↓reduceIte, Nat.reduceEqDiff, Option.isSome_some, and_self, and_true, true_and, reduceCtorEq, List.map_nil, List.map_cons, Option.some.injEq, AV.v.injEq, Value.int.injEq, Value.bool.injEq, AV.rd.injEq, AV.ow.injEq, AV.al.injEq, AV.ref.injEq] <;> omega)), ⟨⟨by dsimp only; omega, by simp; omega⟩, lim_set hz.1 (nat_lim (by omega)) _, mul_row (by omega) hz.2.1 h5⟩, by dsimp only; omega⟩
  · exact ⟨hs.1, by omega⟩
  · have hi : i = a.length := by omega
    rw [hs.2, hi, List.take_length]
theorem sound_57 : Sound Tryz.prog 57 .body (norm s57) := by
  refine sound_norm (sound_body Tryz.func57 (show Tryz.f57.body = some (code Tryz.f57) from rfl) (by kernel_rfl) tysOk G57_ok (drawOk_ok (by kernel_rfl) tysOk G57_ok) (by kernel_rfl) fun ds p r hs hp => ?_)
  unfold s57 at hs
  split at hs
  · cases hs; exact ⟨Nat.le_of_ble_eq_true (by kernel_rfl), wk57 _ _ hp⟩
  · cases hs
end Go.Proofs.AMT
set_option maxRecDepth 20000
namespace Go.Proofs.AMT
open Go.AM Go.AM.LN
attribute [local congr] bindO_congr bindS_congr bindG_congr awpOps_congr aOne_congr awp_congr aCond_congr awpD_congr dOne_congr keysB_congr nOne_congr thenP_congr blockP_congr Chk_congr Brk_congr
noncomputable def s33 : CSpec := fun ds => match ds with
  | [.v (.int .u64 b), .v (.int .i64 n)] => some ((0 < b ∧ b < 18446744073709551616) ∧ 0 ≤ n ∧ n ≤ 1000000, .one (.view .u64 (limbs (b.toNat ^ n.toNat))))
  | _ => none
theorem s33_eq (b : Int) (n : Int) : norm s33 [.v (.int .u64 b), .v (.int .i64 n)] = some ((0 < b ∧ b < 18446744073709551616) ∧ 0 ≤ n ∧ n ≤ 1000000, .one (.view .u64 (limbs (b.toNat ^ n.toNat)))) := rfl
noncomputable def G33 : Gam := [(57, .body, norm s57)]
theorem G33_ok : GamOk Tryz.prog G33 := gamOk_cons sound_57 gamOk_nil
theorem k33_57 : lk G33 57 = some (.body, norm s57) := rfl
set_option maxHeartbeats 20000000 in
theorem wk33 (b : Int) (n : Int) (hp : (0 < b ∧ b < 18446744073709551616) ∧ 0 ≤ n ∧ n ≤ 1000000) : awp ty G33 (code Tryz.f33) (retP ty Tryz.f33.results.toList (.one (.view .u64 (limbs (b.toNat ^ n.toNat))))) (entry 0 [.v (.int .u64 b), .v (.int .i64 n)]) [] := by
  unfold code
  simp only [Tryz.f33, Option.getD_some]
  obtain ⟨B, rfl⟩ := Int.eq_ofNat_of_zero_le (show 0 ≤ b by omega)
  obtain ⟨N, rfl⟩ := Int.eq_ofNat_of_zero_le hp.2.1
  have hmr : ∀ m : Nat, (m : Int).tmod 2 = ((m % 2 : Nat) : Int) := fun m => by rw [Int.tmod_eq_emod_of_nonneg (by omega)]; omega
  have hmq : ∀ m : Nat, (m : Int).tdiv 2 = ((m / 2 : Nat) : Int) := fun m => by rw [Int.tdiv_eq_ediv_of_nonneg (by omega)]; omega
  have l1 : limbs 1 = [1] := limbs_of_lt (by omega) (by omega)
  have lb : limbs B = [(B : Int)] := limbs_of_lt (by omega) (by omega)
  have hBN : 0 < B ^ N := Nat.pow_pos (by omega)
  have hlen := pw_len (b := B) (n := N) (by omega)
  have e1 : ((B : Int)).toNat = B := Int.toNat_natCast B
  have e2 : ((N : Int)).toNat = N := Int.toNat_natCast N
  all_goals repeat' (first
    | ((first
       | (with_reducible refine ops_k ?_; intro X hX)
       | (with_reducible refine opsN_k ?_; intro X hX)
       | (with_reducible show awp _ _ _ _ (keepL _ _) _)
       | with_reducible refine awp_cond_k ?_
       | (with_reducible refine Brk_i ?_ ?_ <;> intro hb <;> (try simp only [hb]) <;> have hq := hb <;> try simp only [decide_eq_true_eq, decide_eq_false_iff_not, gt_iff_lt, ge_iff_le, Int.not_lt, Int.not_le, beq_iff_eq, beq_eq_false_iff_ne, Bool.not_eq_true', Bool.not_eq_false', Bool.and_eq_true, Bool.or_eq_true, Bool.and_eq_false_imp, Bool.or_eq_false_iff, ne_eq, Classical.not_not] at hq)
       | with_reducible refine retP_ret_i ?_
       | with_reducible refine retP_normal_i ?_
       | (with_reducible (show bindG _ _ _ _ _); simp only [hall])) <;> try simp only [Go.AM.S1, Go.AM.S2, Go.AM.S3, Go.AM.S4, Go.AM.S5, Go.AM.S6, Go.AM.S7, Go.AM.S8, Go.AM.S9, Nat.reduceAdd, Nat.reduceMul, Nat.reduceSub, ↓reduceIte, Nat.reduceEqDiff, Nat.reduceLT, Nat.reduceLeDiff, reduceCtorEq, Int.reduceBEq, Int.reduceBNe, Nat.reduceBEq, Int.reduceEq, Int.reduceToNat, Int.reduceLE, Int.reduceLT, Nat.reduceDiv, Int.reduceAdd, Int.reduceSub, Int.reduceMul, Int.reduceNeg, Int.reduceGT, Int.reduceGE, Nat.reduceMod, k33_57, s57_eq, s57_nil1, s57_nil2, s57_nil3, ty_3, ty_22, ty_40, toInts, hmr, hmq, val_limbs])
    | (with_reducible refine hX _ _ ?_; clear hX X)
    | (with_reducible refine ops_nil_i ?_; try clear hall all)
    | (with_reducible refine opsN_nil_i ?_; try clear hall all)
    | (with_reducible refine hK _ _ ?_; clear hK K)
    | with_reducible refine thenP_normal_i ?_
    | (with_reducible refine zzr8 _ _ ?_; try clear zzr8 Kzzr8)
    | (with_reducible refine zzb0 _ _ ?_; try clear zzb0 Kzzb0)
    | (with_reducible refine zzr6 _ _ ?_; try clear zzr6 Kzzr6)
    | (with_reducible refine zzr5 _ _ ?_; try clear zzr5 Kzzr5)
    | (with_reducible refine zzsr3 _ _ ?_; try clear zzsr3 Kzzsr3)
    | (with_reducible refine zzr3 _ _ ?_; try clear zzr3 Kzzr3)
    | (with_reducible refine zzsr2 _ _ ?_; try clear zzsr2 Kzzsr2)
    | (with_reducible refine zzr2 _ _ ?_; try clear zzr2 Kzzr2)
    | (with_reducible refine zzr1 _ _ ?_; try clear zzr1 Kzzr1)
    | (with_reducible refine zzr0 _ _ ?_; try clear zzr0 Kzzr0)
    | (with_reducible refine awp_lp (c := .seq (.seq (.region 2 _ _) _) _) (σ := Nat × Nat × Nat) (fun s => s.1 ≤ N ∧ s.2.1 * s.2.2 ^ s.1 = B ^ N) (fun s => [(1, .v (.int .i64 s.1)), (5, .rd .u64 (limbs s.2.1)), (6, .rd .u64 (limbs s.2.2))]) (fun s => []) (fun s => s.1) (N, 1, B) ?_ ?_ (fun s hs => ?_))
    | (with_reducible refine awp_seq_l (a := .region 8 _ _) [4] ?_; intro Kzzr8 zzr8)
    | (with_reducible refine awp_seq_l (a := .block 0 _) [5] ?_; intro Kzzb0 zzb0)
    | (with_reducible refine awp_seq_l (a := .region 6 _ _) [1, 5, 6, 21] ?_; intro Kzzr6 zzr6)
    | (with_reducible refine awp_seq_l (a := .region 5 _ _) [1, 5, 6] ?_; intro Kzzr5 zzr5)
    | (with_reducible refine awp_seq_l (a := .seq (.region 3 _ _) _) [1, 5, 6] ?_; intro Kzzsr3 zzsr3)
    | (with_reducible refine awp_seq_l (a := .region 3 _ _) [1, 5, 6, 14] ?_; intro Kzzr3 zzr3)
    | (with_reducible refine awp_seq_l (a := .seq (.region 2 _ _) _) [1, 5, 6] ?_; intro Kzzsr2 zzsr2)
    | (with_reducible refine awp_seq_l (a := .region 2 _ _) [1, 5, 6, 11] ?_; intro Kzzr2 zzr2)
    | (with_reducible refine awp_seq_l (a := .region 1 _ _) [1, 5, 6] ?_; intro Kzzr1 zzr1)
    | (with_reducible refine awp_seq_l (a := .region 0 _ _) [0, 1] ?_; intro Kzzr0 zzr0)
    | (with_reducible refine awp_seq_k ?_; intro K hK)
    | (with_reducible refine awp_region_a ?_; intro all hall K hK)
    | (with_reducible refine awp_draw_n ?_ ?_; kernel_rfl; intro all hall K hK)
    | (with_reducible refine Chk_i ?_ ?_)
    | (with_reducible refine keysC_i ?_; kernel_rfl)
    | (with_reducible first | refine awp_block_i ?_ | refine awp_skip_i ?_ | refine awp_ret_i ?_ | refine awp_exit_i ?_ | refine thenP_ret_i ?_ | refine thenP_exit_i ?_ | refine lpP_ret_i ?_ | refine lpP_exit_i ?_ | refine unrP_succ_i ?_ | refine unrP_ret_i ?_ | refine unrP_exit_i ?_ | refine blockP_normal_i ?_ | refine blockP_ret_i ?_)
    | (with_reducible refine blockP_exit_i ?_; simp only [↓reduceIte, Nat.reduceEqDiff])
    | with_reducible refine lpP_normal_i ?_)
  all_goals (try clear zzr0; try clear Kzzr0)
  all_goals (try clear zzr1; try clear Kzzr1)
  all_goals (try clear zzr2; try clear Kzzr2)
  all_goals (try clear zzsr2; try clear Kzzsr2)
  all_goals (try clear zzr3; try clear Kzzr3)
  all_goals (try clear zzsr3; try clear Kzzsr3)
  all_goals (try clear zzr5; try clear Kzzr5)
  all_goals (try clear zzr6; try clear Kzzr6)
  all_goals (try clear zzb0; try clear Kzzb0)
  all_goals (try clear zzr8; try clear Kzzr8)
  all_goals clear hmr hmq
  all_goals (try simp only [inR])
  all_goals (try (rcases s with ⟨m, x, y⟩))
  all_goals (try dsimp only at *)
  · exact ⟨Nat.le_refl _, by rw [Nat.one_mul]⟩
  · rw [l1, lb]; (refine ent_ok [] rfl ?_ ?_ <;> simp only [memLe, slotsLe, AvLe, lk, ↓reduceIte, Nat.reduceEqDiff, Option.isSome_some, List.contains_cons, List.contains_nil, Bool.or_false, Nat.reduceBEq, and_self, and_true, true_and, reduceCtorEq, List.map_nil, List.map_cons, Option.some.injEq, AV.v.injEq, Value.int.injEq, Value.bool.injEq, AV.rd.injEq, AV.ow.injEq, AV.al.injEq, AV.ref.injEq] <;> (first | omega | (refine ⟨?_, ?_, ?_⟩ <;> omega)))
  · obtain ⟨hx, hy, hx0, hy0⟩ := pw_le hs.2 hBN (by omega)
    have xl := len_mono hx
    have yl := len_mono hy
    exact ⟨⟨lim_limbs _, by omega⟩, lim_limbs _, by omega⟩
  · omega
  · obtain ⟨hx, hy, hx0, hy0⟩ := pw_le hs.2 hBN (by omega)
    have yl := len_mono hy
    exact ⟨lim_limbs _, by omega⟩
  · exact ⟨(m / 2, x * y, y * y), (by (refine ent_ok [] rfl ?_ ?_ <;> simp only [memLe, slotsLe, AvLe, lk, ↓reduceIte, Nat.reduceEqDiff, Option.isSome_some, List.contains_cons, List.contains_nil, Bool.or_false, Nat.reduceBEq, and_self, and_true, true_and, reduceCtorEq, List.map_nil, List.map_cons, Option.some.injEq, AV.v.injEq, Value.int.injEq, Value.bool.injEq, AV.rd.injEq, AV.ow.injEq, AV.al.injEq, AV.ref.injEq] <;> (first | omega | (refine ⟨?_, ?_, ?_⟩ <;> omega)))), ⟨by dsimp only; omega, pw_odd hs.2 (by omega)⟩, by dsimp only; omega⟩
  · refine ⟨(m / 2, x * y, y), (by (refine ent_ok [] rfl ?_ ?_ <;> simp only [memLe, slotsLe, AvLe, lk, ↓reduceIte, Nat.reduceEqDiff, Option.isSome_some, List.contains_cons, List.contains_nil, Bool.or_false, Nat.reduceBEq, and_self, and_true, true_and, reduceCtorEq, List.map_nil, List.map_cons, Option.some.injEq, AV.v.injEq, Value.int.injEq, Value.bool.injEq, AV.rd.injEq, AV.ow.injEq, AV.al.injEq, AV.ref.injEq] <;> (first | omega | (refine ⟨?_, ?_, ?_⟩ <;> omega)))), ⟨by dsimp only; omega, ?_⟩, by dsimp only; omega⟩
    have h0 : m / 2 = 0 := by omega
    have h1 := pw_odd hs.2 (by omega)
    dsimp only
    rw [h0, Nat.pow_zero, Nat.mul_one] at h1 ⊢
    exact h1
  · omega
  · obtain ⟨hx, hy, hx0, hy0⟩ := pw_le hs.2 hBN (by omega)
    have yl := len_mono hy
    exact ⟨lim_limbs _, by omega⟩
  · exact ⟨(m / 2, x, y * y), (by (refine ent_ok [] rfl ?_ ?_ <;> simp only [memLe, slotsLe, AvLe, lk, ↓reduceIte, Nat.reduceEqDiff, Option.isSome_some, List.contains_cons, List.contains_nil, Bool.or_false, Nat.reduceBEq, and_self, and_true, true_and, reduceCtorEq, List.map_nil, List.map_cons, Option.some.injEq, AV.v.injEq, Value.int.injEq, Value.bool.injEq, AV.rd.injEq, AV.ow.injEq, AV.al.injEq, AV.ref.injEq] <;> (first | omega | (refine ⟨?_, ?_, ?_⟩ <;> omega)))), ⟨by dsimp only; omega, pw_even hs.2 (by omega)⟩, by dsimp only; omega⟩
  · refine ⟨(m / 2, x, y), (by (refine ent_ok [] rfl ?_ ?_ <;> simp only [memLe, slotsLe, AvLe, lk, ↓reduceIte, Nat.reduceEqDiff, Option.isSome_some, List.contains_cons, List.contains_nil, Bool.or_false, Nat.reduceBEq, and_self, and_true, true_and, reduceCtorEq, List.map_nil, List.map_cons, Option.some.injEq, AV.v.injEq, Value.int.injEq, Value.bool.injEq, AV.rd.injEq, AV.ow.injEq, AV.al.injEq, AV.ref.injEq] <;> (first | omega | (refine ⟨?_, ?_, ?_⟩ <;> omega)))), ⟨by dsimp only; omega, ?_⟩, by dsimp only; omega⟩
    have h0 : m / 2 = 0 := by omega
    have h1 := pw_even hs.2 (by omega)
    dsimp only
    rw [h0, Nat.pow_zero, Nat.mul_one] at h1 ⊢
    exact h1
  · have h0 : m = 0 := by omega
    have h1 := hs.2
    rw [h0, Nat.pow_zero, Nat.mul_one] at h1
    rw [h1]
theorem sound_33 : Sound Tryz.prog 33 .body (norm s33) := by
  refine sound_norm (sound_body Tryz.func33 (show Tryz.f33.body = some (code Tryz.f33) from rfl) (by kernel_rfl) tysOk G33_ok (drawOk_ok (by kernel_rfl) tysOk G33_ok) (by kernel_rfl) fun ds p r hs hp => ?_)
  unfold s33 at hs
  split at hs
  · cases hs; exact ⟨Nat.le_of_ble_eq_true (by kernel_rfl), wk33 _ _ hp⟩
  · cases hs
end Go.Proofs.AMT
set_option maxRecDepth 20000
namespace Go.Proofs.AMT
open Go.AM Go.AM.LN
attribute [local congr] bindO_congr bindS_congr bindG_congr awpOps_congr aOne_congr awp_congr aCond_congr awpD_congr dOne_congr keysB_congr nOne_congr thenP_congr blockP_congr Chk_congr Brk_congr
noncomputable def s12 : CSpec := fun ds => match ds with
  | [.v (.int .i64 n), .v (.agg ⟨[.int .u64 b0, .int .u64 b1, .int .u64 b2, .int .u64 b3]⟩)] => some ((0 ≤ b0 ∧ b0 < 18446744073709551616) ∧ (0 ≤ b1 ∧ b1 < 18446744073709551616) ∧ (0 ≤ b2 ∧ b2 < 18446744073709551616) ∧ (0 ≤ b3 ∧ b3 < 18446744073709551616), .many [.v (.agg #[.int .i64 (dC n (V4 b0 b1 b2 b3)), .bool (dS n (V4 b0 b1 b2 b3)), .bool (dQ n (V4 b0 b1 b2 b3)), .int .i64 (dX n (V4 b0 b1 b2 b3)), .int .u64 (w4 (dV n (V4 b0 b1 b2 b3)) 0), .int .u64 (w4 (dV n (V4 b0 b1 b2 b3)) 1), .int .u64 (w4 (dV n (V4 b0 b1 b2 b3)) 2), .int .u64 (w4 (dV n (V4 b0 b1 b2 b3)) 3)]), .v (.int .i64 (if okB n (V4 b0 b1 b2 b3) then 0 else 1))])
  | _ => none
theorem s12_eq (n : Int) (b0 b1 b2 b3 : Int) : norm s12 [.v (.int .i64 n), .v (.agg #[.int .u64 b0, .int .u64 b1, .int .u64 b2, .int .u64 b3])] = some ((0 ≤ b0 ∧ b0 < 18446744073709551616) ∧ (0 ≤ b1 ∧ b1 < 18446744073709551616) ∧ (0 ≤ b2 ∧ b2 < 18446744073709551616) ∧ (0 ≤ b3 ∧ b3 < 18446744073709551616), .many [.v (.agg #[.int .i64 (dC n (V4 b0 b1 b2 b3)), .bool (dS n (V4 b0 b1 b2 b3)), .bool (dQ n (V4 b0 b1 b2 b3)), .int .i64 (dX n (V4 b0 b1 b2 b3)), .int .u64 (w4 (dV n (V4 b0 b1 b2 b3)) 0), .int .u64 (w4 (dV n (V4 b0 b1 b2 b3)) 1), .int .u64 (w4 (dV n (V4 b0 b1 b2 b3)) 2), .int .u64 (w4 (dV n (V4 b0 b1 b2 b3)) 3)]), .v (.int .i64 (if okB n (V4 b0 b1 b2 b3) then 0 else 1))]) := rfl
noncomputable def G12 : Gam := [(15, .body, norm s15), (28, .body, norm s28), (29, .body, norm s29), (30, .body, norm s30), (31, .body, norm s31), (32, .body, norm s32), (33, .body, norm s33)]
theorem G12_ok : GamOk Tryz.prog G12 := gamOk_cons sound_15 (gamOk_cons sound_28 (gamOk_cons sound_29 (gamOk_cons sound_30 (gamOk_cons sound_31 (gamOk_cons sound_32 (gamOk_cons sound_33 gamOk_nil))))))
theorem k12_15 : lk G12 15 = some (.body, norm s15) := rfl
theorem k12_28 : lk G12 28 = some (.body, norm s28) := rfl
theorem k12_29 : lk G12 29 = some (.body, norm s29) := rfl
theorem k12_30 : lk G12 30 = some (.body, norm s30) := rfl
theorem k12_31 : lk G12 31 = some (.body, norm s31) := rfl
theorem k12_32 : lk G12 32 = some (.body, norm s32) := rfl
theorem k12_33 : lk G12 33 = some (.body, norm s33) := rfl
set_option maxHeartbeats 20000000 in
theorem wk12 (n : Int) (b0 b1 b2 b3 : Int) (hp : (0 ≤ b0 ∧ b0 < 18446744073709551616) ∧ (0 ≤ b1 ∧ b1 < 18446744073709551616) ∧ (0 ≤ b2 ∧ b2 < 18446744073709551616) ∧ (0 ≤ b3 ∧ b3 < 18446744073709551616)) : awp ty G12 (code Tryz.f12) (retP ty Tryz.f12.results.toList (.many [.v (.agg #[.int .i64 (dC n (V4 b0 b1 b2 b3)), .bool (dS n (V4 b0 b1 b2 b3)), .bool (dQ n (V4 b0 b1 b2 b3)), .int .i64 (dX n (V4 b0 b1 b2 b3)), .int .u64 (w4 (dV n (V4 b0 b1 b2 b3)) 0), .int .u64 (w4 (dV n (V4 b0 b1 b2 b3)) 1), .int .u64 (w4 (dV n (V4 b0 b1 b2 b3)) 2), .int .u64 (w4 (dV n (V4 b0 b1 b2 b3)) 3)]), .v (.int .i64 (if okB n (V4 b0 b1 b2 b3) then 0 else 1))])) (entry 0 [.v (.int .i64 n), .v (.agg #[.int .u64 b0, .int .u64 b1, .int .u64 b2, .int .u64 b3])]) [] := by
  unfold code
  simp only [Tryz.f12, Option.getD_some]
  rcases Bool.eq_false_or_eq_true (okB n (V4 b0 b1 b2 b3)) with hO | hO
  case' inr =>
    have hI : decide ((4 : Int) ≥ 5) = false := rfl
    have hErr : decide ((4 : Int) ≥ 5) = false := rfl
    have hmin : decide ((4 : Int) ≥ 5) = false := rfl
    have hEE : decide ((4 : Int) ≥ 5) = false := rfl
    have hFF : decide ((4 : Int) ≥ 5) = false := rfl
    have eP : decide ((4 : Int) ≥ 5) = false := rfl
    have eW : decide ((4 : Int) ≥ 5) = false := rfl
    have g1 : decide ((4 : Int) ≥ 5) = false := rfl
    have g2 : decide ((4 : Int) ≥ 5) = false := rfl
    have g3 : decide ((4 : Int) ≥ 5) = false := rfl
    have gQ : decide ((4 : Int) ≥ 5) = false := rfl
    have gS : decide ((4 : Int) ≥ 5) = false := rfl
    have hPW : decide ((4 : Int) ≥ 5) = false := rfl
    rw [show dC n (V4 b0 b1 b2 b3) = 0 by simp [dC, hO], show dS n (V4 b0 b1 b2 b3) = false by simp [dS, hO], show dQ n (V4 b0 b1 b2 b3) = false by simp [dQ, hO], show dX n (V4 b0 b1 b2 b3) = 0 by simp [dX, hO], show dV n (V4 b0 b1 b2 b3) = 0 by simp [dV, hO]]
  case' inl =>
    obtain ⟨hn, hbl⟩ := okB_in hO
    obtain ⟨F1, F2, F3, F4, F5, F6, F7, F8, F9, F10, F11⟩ := bfmt hn
    have hI := infoV_in (n := n) (by omega)
    have hErr := errV_in (n := n) (by omega)
    have hmin : min (fx n % 18446744073709551616).toNat 64 = (fx n).toNat := by omega
    have eP : fp n - 1 - 1 = fp n - 2 := by omega
    have eW : fp n - 1 + fx n = fw n - 1 := by omega
    have hEl := uE_lt hn (V4 b0 b1 b2 b3)
    have hFl := uF_lt hn (V4 b0 b1 b2 b3)
    have hF2 : (V4 b0 b1 b2 b3) % 2 ^ (fp n - 1).toNat < 2 ^ (fp n - 1).toNat := Nat.mod_lt _ (Nat.pow_pos (by omega))
    have hE2 : (V4 b0 b1 b2 b3) / 2 ^ (fp n - 1).toNat % 2 ^ (fx n).toNat < 2 ^ (fx n).toNat := Nat.mod_lt _ (Nat.pow_pos (by omega))
    have hQ2 : (V4 b0 b1 b2 b3) % 2 ^ (fp n - 1).toNat % 2 ^ (fp n - 2).toNat = (V4 b0 b1 b2 b3) % 2 ^ (fp n - 2).toNat := Nat.mod_mod_of_dvd _ (Nat.pow_dvd_pow 2 (by omega))
    have hPl : 1 * 2 ^ (fp n - 1).toNat % 2 ^ 256 = 1 * 2 ^ (fp n - 1).toNat := Nat.mod_eq_of_lt (by rw [Nat.one_mul]; exact Nat.pow_lt_pow_right (by omega) (by omega))
    obtain ⟨E, hE⟩ : ∃ E, uE n (V4 b0 b1 b2 b3) = E := ⟨_, rfl⟩
    obtain ⟨Fr, hF⟩ : ∃ Fr, uF n (V4 b0 b1 b2 b3) = Fr := ⟨_, rfl⟩
    have hEE : (V4 b0 b1 b2 b3) / 2 ^ (fp n - 1).toNat % 2 ^ (fx n).toNat = E := hE
    have hFF : (V4 b0 b1 b2 b3) % 2 ^ (fp n - 1).toNat = Fr := hF
    rw [hE] at hEl
    rw [hF] at hFl
    rw [hFF] at hF2 hQ2
    rw [hEE] at hE2
    have hPW : ∀ k : Nat, (2 : Int).toNat ^ k = 2 ^ k := fun k => rfl
    have hE3 : (E : Int) < 2 ^ (fx n).toNat := by exact_mod_cast hE2
    have gS : ((((V4 b0 b1 b2 b3) / 2 ^ (fw n - 1).toNat % 2 : Nat) : Int) == 1) = uS n (V4 b0 b1 b2 b3) := by unfold uS; rw [Bool.eq_iff_iff]; simp only [beq_iff_eq]; omega
    have gQ : ((((V4 b0 b1 b2 b3) / 2 ^ (fp n - 2).toNat % 2 : Nat) : Int) == 0) = ((V4 b0 b1 b2 b3) / 2 ^ (fp n - 2).toNat % 2 == 0) := by rw [Bool.eq_iff_iff]; simp only [beq_iff_eq]; omega
    have hxp : (2 : Int) ^ (fx n).toNat ≤ 32768 := by omega
    have hx1 : (1 : Int) ≤ 2 ^ (fx n).toNat := by exact_mod_cast Nat.one_le_two_pow
    have gz := len_zero (x := Fr)
    rw [show dC n (V4 b0 b1 b2 b3) = uC n (V4 b0 b1 b2 b3) by simp [dC, hO], show dS n (V4 b0 b1 b2 b3) = uS n (V4 b0 b1 b2 b3) by simp [dS, hO], show dQ n (V4 b0 b1 b2 b3) = uQ n (V4 b0 b1 b2 b3) by simp [dQ, hO], show dX n (V4 b0 b1 b2 b3) = uX n (V4 b0 b1 b2 b3) by simp [dX, hO], show dV n (V4 b0 b1 b2 b3) = uV n (V4 b0 b1 b2 b3) by simp [dV, hO]]
    have hcase : ((E : Int) < 2 ^ (fx n).toNat - 1 ∧ E = 0) ∨ ((E : Int) < 2 ^ (fx n).toNat - 1 ∧ E ≠ 0) ∨ (¬ (E : Int) < 2 ^ (fx n).toNat - 1 ∧ Fr = 0) ∨ (¬ (E : Int) < 2 ^ (fx n).toNat - 1 ∧ Fr ≠ 0) := by omega
    rcases hcase with ⟨h1, h2⟩ | ⟨h1, h2⟩ | ⟨h1, h2⟩ | ⟨h1, h2⟩
    all_goals first
      | (have g1 : ((E : Int) == 2 ^ (fx n).toNat - 1) = true := by rw [beq_iff_eq]; omega)
      | (have g1 : ((E : Int) == 2 ^ (fx n).toNat - 1) = false := by rw [beq_eq_false_iff_ne]; omega)
    all_goals first
      | (have g2 : ((E : Int) == 0) = true := by rw [beq_iff_eq]; omega)
      | (have g2 : ((E : Int) == 0) = false := by rw [beq_eq_false_iff_ne]; omega)
    all_goals first
      | (have g3 : (((limbs Fr).length : Int) == 0) = true := by rw [beq_iff_eq]; omega)
      | (have g3 : (((limbs Fr).length : Int) == 0) = false := by rw [beq_eq_false_iff_ne]; omega)
      | (have g3 : decide ((4 : Int) ≥ 5) = false := rfl)
  all_goals repeat' (first
    | ((first
       | (with_reducible refine ops_k ?_; intro X hX)
       | (with_reducible refine opsN_k ?_; intro X hX)
       | (with_reducible show awp _ _ _ _ (keepL _ _) _)
       | (with_reducible refine hX _ _ _ _ ?_; clear hX X)
       | (with_reducible refine opsD_k ?_; intro X hX)
       | with_reducible refine awp_cond_k ?_
       | (with_reducible refine Brk_i ?_ ?_ <;> intro hb <;> (try simp only [hb]) <;> have hq := hb <;> try simp only [decide_eq_true_eq, decide_eq_false_iff_not, gt_iff_lt, ge_iff_le, Int.not_lt, Int.not_le, beq_iff_eq, beq_eq_false_iff_ne, Bool.not_eq_true', Bool.not_eq_false', Bool.and_eq_true, Bool.or_eq_true, Bool.and_eq_false_imp, Bool.or_eq_false_iff, ne_eq, Classical.not_not] at hq)
       | with_reducible refine retP_ret_i ?_
       | with_reducible refine retP_normal_i ?_
       | (with_reducible (show bindG _ _ _ _ _); simp only [hall])) <;> try simp only [Go.AM.S1, Go.AM.S2, Go.AM.S3, Go.AM.S4, Go.AM.S5, Go.AM.S6, Go.AM.S7, Go.AM.S8, Go.AM.S9, Nat.reduceAdd, Nat.reduceMul, Nat.reduceSub, ↓reduceIte, Nat.reduceEqDiff, Nat.reduceLT, Nat.reduceLeDiff, reduceCtorEq, Int.reduceBEq, Int.reduceBNe, Nat.reduceBEq, Int.reduceEq, Int.reduceToNat, Int.reduceLE, Int.reduceLT, Nat.reduceDiv, Int.reduceAdd, Int.reduceSub, Int.reduceMul, Int.reduceNeg, Int.reduceGT, Int.reduceGE, Nat.reduceMod, k12_15, s15_eq, k12_28, s28_eq, k12_29, s29_eq, k12_30, s30_eq, s30_nil1, k12_31, s31_eq, s31_nil1, k12_32, s32_eq, s32_nil1, s32_nil2, s32_nil3, k12_33, s33_eq, ty_3, ty_4, ty_9, ty_22, ty_24, ty_31, ty_37, ty_40, ty_56, hI, hErr, infoT, hO, hmin, IntKind.bits, Nat.pow_zero, Nat.div_one, Int.one_mul, Int.toNat_zero, Int.toNat_one, Int.reduceToNat, Nat.pow_one, val_limbs, limbs_getD, hEE, hFF, eP, eW, g1, g2, g3, gQ, gS, hPW, toInts])
    | (with_reducible refine hX _ _ ?_; clear hX X)
    | (with_reducible refine opsD_nil_i ?_; try clear hall all)
    | (with_reducible refine keysB_i ?_; kernel_rfl)
    | ((with_reducible show clashK _ _ _ = true); kernel_rfl)
    | (with_reducible refine ops_nil_i ?_; try clear hall all)
    | (with_reducible refine opsN_nil_i ?_; try clear hall all)
    | (with_reducible refine hK _ _ ?_; clear hK K)
    | with_reducible refine thenP_normal_i ?_
    | (with_reducible refine zzr16 _ _ ?_; try clear zzr16 Kzzr16)
    | (with_reducible refine zzb0 _ _ ?_; try clear zzb0 Kzzb0)
    | (with_reducible refine zzr12 _ _ ?_; try clear zzr12 Kzzr12)
    | (with_reducible refine zzr11 _ _ ?_; try clear zzr11 Kzzr11)
    | (with_reducible refine zzr14 _ _ ?_; try clear zzr14 Kzzr14)
    | (with_reducible refine zzr10 _ _ ?_; try clear zzr10 Kzzr10)
    | (with_reducible refine zzr8 _ _ ?_; try clear zzr8 Kzzr8)
    | (with_reducible refine zzr6 _ _ ?_; try clear zzr6 Kzzr6)
    | (with_reducible refine zzr5 _ _ ?_; try clear zzr5 Kzzr5)
    | (with_reducible refine zzr4 _ _ ?_; try clear zzr4 Kzzr4)
    | (with_reducible refine zzr3 _ _ ?_; try clear zzr3 Kzzr3)
    | (with_reducible refine zzsr1 _ _ ?_; try clear zzsr1 Kzzsr1)
    | (with_reducible refine zzr2 _ _ ?_; try clear zzr2 Kzzr2)
    | (with_reducible refine zzr1 _ _ ?_; try clear zzr1 Kzzr1)
    | (with_reducible refine zzr0 _ _ ?_; try clear zzr0 Kzzr0)
    | (with_reducible refine awp_seq_l (a := .region 16 _ _) [4, 5] ?_; intro Kzzr16 zzr16)
    | (with_reducible refine awp_seq_l (a := .block 0 _) [4, 11] ?_; intro Kzzb0 zzb0)
    | (with_reducible refine awp_seq_l (a := .region 12 _ _) [3, 4, 8, 11] ?_; intro Kzzr12 zzr12)
    | (with_reducible refine awp_seq_l (a := .region 11 _ _) [3, 4, 8, 11] ?_; intro Kzzr11 zzr11)
    | (with_reducible refine awp_seq_l (a := .region 14 _ _) [4, 6, 8, 9, 10, 11, 91] ?_; intro Kzzr14 zzr14)
    | (with_reducible refine awp_seq_l (a := .region 10 _ _) [3, 4, 6, 8, 9, 10, 11, 69] ?_; intro Kzzr10 zzr10)
    | (with_reducible refine awp_seq_l (a := .region 8 _ _) [3, 4, 6, 8, 9, 10, 11, 55] ?_; intro Kzzr8 zzr8)
    | (with_reducible refine awp_seq_l (a := .region 6 _ _) [3, 4, 6, 8, 9, 10, 11] ?_; intro Kzzr6 zzr6)
    | (with_reducible refine awp_seq_l (a := .region 5 _ _) [3, 4, 6, 8, 9, 10] ?_; intro Kzzr5 zzr5)
    | (with_reducible refine awp_seq_l (a := .region 4 _ _) [3, 4, 6, 8] ?_; intro Kzzr4 zzr4)
    | (with_reducible refine awp_seq_l (a := .region 3 _ _) [3, 4, 6] ?_; intro Kzzr3 zzr3)
    | (with_reducible refine awp_seq_l (a := .seq (.region 1 _ _) _) [0, 3, 4] ?_; intro Kzzsr1 zzsr1)
    | (with_reducible refine awp_seq_l (a := .region 2 _ _) [4, 5] ?_; intro Kzzr2 zzr2)
    | (with_reducible refine awp_seq_l (a := .region 1 _ _) [0, 3, 4, 15] ?_; intro Kzzr1 zzr1)
    | (with_reducible refine awp_seq_l (a := .region 0 _ _) [0, 3, 4] ?_; intro Kzzr0 zzr0)
    | (with_reducible refine awp_seq_k ?_; intro K hK)
    | (with_reducible refine awp_region_a ?_; intro all hall K hK)
    | (with_reducible refine awp_draw_a (id := 15) ?_ ?_; kernel_rfl; intro all hall K hK)
    | (with_reducible refine awp_draw_a (id := 7) ?_ ?_; kernel_rfl; intro all hall K hK)
    | (with_reducible refine awp_draw_n ?_ ?_; kernel_rfl; intro all hall K hK)
    | (with_reducible refine Chk_i ?_ ?_)
    | (with_reducible refine keysC_i ?_; kernel_rfl)
    | (with_reducible first | refine awp_block_i ?_ | refine awp_skip_i ?_ | refine awp_ret_i ?_ | refine awp_exit_i ?_ | refine thenP_ret_i ?_ | refine thenP_exit_i ?_ | refine lpP_ret_i ?_ | refine lpP_exit_i ?_ | refine unrP_succ_i ?_ | refine unrP_ret_i ?_ | refine unrP_exit_i ?_ | refine blockP_normal_i ?_ | refine blockP_ret_i ?_)
    | (with_reducible refine blockP_exit_i ?_; simp only [↓reduceIte, Nat.reduceEqDiff])
    | with_reducible refine lpP_normal_i ?_)
  all_goals (try clear zzr0; try clear Kzzr0)
  all_goals (try clear zzr1; try clear Kzzr1)
  all_goals (try clear zzr2; try clear Kzzr2)
  all_goals (try clear zzsr1; try clear Kzzsr1)
  all_goals (try clear zzr3; try clear Kzzr3)
  all_goals (try clear zzr4; try clear Kzzr4)
  all_goals (try clear zzr5; try clear Kzzr5)
  all_goals (try clear zzr6; try clear Kzzr6)
  all_goals (try clear zzr8; try clear Kzzr8)
  all_goals (try clear zzr10; try clear Kzzr10)
  all_goals (try clear zzr14; try clear Kzzr14)
  all_goals (try clear zzr11; try clear Kzzr11)
  all_goals (try clear zzr12; try clear Kzzr12)
  all_goals (try clear zzb0; try clear Kzzb0)
  all_goals (try clear zzr16; try clear Kzzr16)
  all_goals (try clear hmin)
  all_goals (try simp only [inR])
  all_goals first
    | omega
    | exact hp
    | exact num_ok (by omega)
    | exact ⟨⟨lim_limbs _, Nat.le_trans (len4 hFl) (by omega)⟩, lim_limbs _, Nat.le_trans (len4 (Nat.pow_lt_pow_right (by omega) (by omega))) (by omega)⟩
    | (simp only [w4_zero]; done)
    | exact num_ok (Nat.lt_of_lt_of_le (Nat.mod_lt _ (by decide)) (by decide))
    | (obtain ⟨e1, e2, e3, e4⟩ := u_num (n := n) (V := (V4 b0 b1 b2 b3)) (by rw [hE]; exact h1)
       rw [e1, e2, e3, e4, hE, hF]
       first
         | (rw [if_pos h2, show 2 - fe n - fp n + max ((E : Int) - 1) 0 = 2 - fe n - fp n by omega]; done)
         | (rw [if_neg h2, hPl, or_add hF2, Nat.one_mul, show 2 - fe n - fp n + max ((E : Int) - 1) 0 = 2 - fe n - fp n - 1 + (E : Int) by omega]; done))
    | (have hh : uF n (V4 b0 b1 b2 b3) = 0 := hF.trans h2
       obtain ⟨e1, e2, e3, e4⟩ := u_inf (n := n) (V := (V4 b0 b1 b2 b3)) (by rw [hE]; exact h1) hh
       rw [e1, e2, e3, e4]
       simp only [w4_zero])
    | (have hh : uF n (V4 b0 b1 b2 b3) ≠ 0 := fun hz => h2 (hF.symm.trans hz)
       obtain ⟨e1, e2, e3, e4⟩ := u_nan (n := n) (V := (V4 b0 b1 b2 b3)) (by rw [hE]; exact h1) hh
       rw [e1, e2, e3, e4, hF, hQ2])
    | skip
theorem sound_12 : Sound Tryz.prog 12 .body (norm s12) := by
  refine sound_norm (sound_body Tryz.func12 (show Tryz.f12.body = some (code Tryz.f12) from rfl) (by kernel_rfl) tysOk G12_ok (drawOk_ok (by kernel_rfl) tysOk G12_ok) (by kernel_rfl) fun ds p r hs hp => ?_)
  unfold s12 at hs
  split at hs
  · cases hs; exact ⟨Nat.le_of_ble_eq_true (by kernel_rfl), wk12 _ _ _ _ _ hp⟩
  · cases hs
end Go.Proofs.AMT
set_option maxRecDepth 20000
namespace Go.Proofs.AMT
open Go.AM Go.AM.LN
attribute [local congr] bindO_congr bindS_congr bindG_congr awpOps_congr aOne_congr awp_congr aCond_congr awpD_congr dOne_congr keysB_congr nOne_congr thenP_congr blockP_congr Chk_congr Brk_congr
noncomputable def s34 : CSpec := fun ds => match ds with
  | [.v (.agg ⟨[.int .i64 cl, .bool sg, .bool si, .string D, .int .i64 ex]⟩)] => some ((cl = 2 ∨ cl = 3) ∧ D.size ≤ 10000, .one (.v (.string (bs (nanT cl sg si D.toList)))))
  | _ => none
theorem s34_eq (cl : Int) (sg : Bool) (si : Bool) (D : ByteArray) (ex : Int) : norm s34 [.v (.agg #[.int .i64 cl, .bool sg, .bool si, .string D, .int .i64 ex])] = some ((cl = 2 ∨ cl = 3) ∧ D.size ≤ 10000, .one (.v (.string (bs (nanT cl sg si D.toList))))) := rfl
noncomputable def G34 : Gam := [(11, .body, norm sItoa)]
theorem G34_ok : GamOk Tryz.prog G34 := gamOk_cons sound_itoa gamOk_nil
theorem k34_11 : lk G34 11 = some (.body, norm sItoa) := rfl
set_option maxHeartbeats 20000000 in
theorem wk34 (cl : Int) (sg : Bool) (si : Bool) (D : ByteArray) (ex : Int) (hp : (cl = 2 ∨ cl = 3) ∧ D.size ≤ 10000) : awp ty G34 (code Tryz.f34) (retP ty Tryz.f34.results.toList (.one (.v (.string (bs (nanT cl sg si D.toList)))))) (entry 0 [.v (.agg #[.int .i64 cl, .bool sg, .bool si, .string D, .int .i64 ex])]) [] := by
  unfold code
  simp only [Tryz.f34, Option.getD_some]
  obtain ⟨hc, hD⟩ := hp
  rw [bs_toList D] at hD ⊢
  rw [bs_list]
  rw [bs_size] at hD
  obtain ⟨l, hl⟩ : ∃ l, D.toList = l := ⟨_, rfl⟩
  rw [hl] at hD ⊢
  rcases hc with rfl | rfl
  all_goals cases sg
  all_goals cases si
  all_goals repeat' (first
    | ((first
       | (with_reducible refine ops_k ?_; intro X hX)
       | (with_reducible refine opsN_k ?_; intro X hX)
       | (with_reducible show awp _ _ _ _ (keepL _ _) _)
       | with_reducible refine awp_cond_k ?_
       | (with_reducible refine Brk_i ?_ ?_ <;> intro hb <;> (try simp only [hb]) <;> have hq := hb <;> try simp only [decide_eq_true_eq, decide_eq_false_iff_not, gt_iff_lt, ge_iff_le, Int.not_lt, Int.not_le, beq_iff_eq, beq_eq_false_iff_ne, Bool.not_eq_true', Bool.not_eq_false', Bool.and_eq_true, Bool.or_eq_true, Bool.and_eq_false_imp, Bool.or_eq_false_iff, ne_eq, Classical.not_not] at hq)
       | with_reducible refine retP_ret_i ?_
       | with_reducible refine retP_normal_i ?_
       | (with_reducible (show bindG _ _ _ _ _); simp only [hall])) <;> try simp only [Go.AM.S1, Go.AM.S2, Go.AM.S3, Go.AM.S4, Go.AM.S5, Go.AM.S6, Go.AM.S7, Go.AM.S8, Go.AM.S9, Nat.reduceAdd, Nat.reduceMul, Nat.reduceSub, ↓reduceIte, Nat.reduceEqDiff, Nat.reduceLT, Nat.reduceLeDiff, reduceCtorEq, Int.reduceBEq, Int.reduceBNe, Nat.reduceBEq, Int.reduceEq, Int.reduceToNat, Int.reduceLE, Int.reduceLT, Nat.reduceDiv, Int.reduceAdd, Int.reduceSub, Int.reduceMul, Int.reduceNeg, Int.reduceGT, Int.reduceGE, Nat.reduceMod, k34_11, sItoa_eq, ty_3, ty_4, ty_9, ty_65, bs_lit, bs_app, bs_size, bs_beq, bs_list, List.length_append, List.append_nil, List.nil_append, List.cons_append])
    | (with_reducible refine hX _ _ ?_; clear hX X)
    | (with_reducible refine ops_nil_i ?_; try clear hall all)
    | (with_reducible refine opsN_nil_i ?_; try clear hall all)
    | (with_reducible refine hK _ _ ?_; clear hK K)
    | with_reducible refine thenP_normal_i ?_
    | (with_reducible refine zzr19 _ _ ?_; try clear zzr19 Kzzr19)
    | (with_reducible refine zzsr17 _ _ ?_; try clear zzsr17 Kzzsr17)
    | (with_reducible refine zzr17 _ _ ?_; try clear zzr17 Kzzr17)
    | (with_reducible refine zzr16 _ _ ?_; try clear zzr16 Kzzr16)
    | (with_reducible refine zzsr14 _ _ ?_; try clear zzsr14 Kzzsr14)
    | (with_reducible refine zzr14 _ _ ?_; try clear zzr14 Kzzr14)
    | (with_reducible refine zzsr4 _ _ ?_; try clear zzsr4 Kzzsr4)
    | (with_reducible refine zzr6 _ _ ?_; try clear zzr6 Kzzr6)
    | (with_reducible refine zzr13 _ _ ?_; try clear zzr13 Kzzr13)
    | (with_reducible refine zzsr11 _ _ ?_; try clear zzsr11 Kzzsr11)
    | (with_reducible refine zzr11 _ _ ?_; try clear zzr11 Kzzr11)
    | (with_reducible refine zzr10 _ _ ?_; try clear zzr10 Kzzr10)
    | (with_reducible refine zzsr8 _ _ ?_; try clear zzsr8 Kzzsr8)
    | (with_reducible refine zzr8 _ _ ?_; try clear zzr8 Kzzr8)
    | (with_reducible refine zzr7 _ _ ?_; try clear zzr7 Kzzr7)
    | (with_reducible refine zzr5 _ _ ?_; try clear zzr5 Kzzr5)
    | (with_reducible refine zzr4 _ _ ?_; try clear zzr4 Kzzr4)
    | (with_reducible refine zzsr2 _ _ ?_; try clear zzsr2 Kzzsr2)
    | (with_reducible refine zzr2 _ _ ?_; try clear zzr2 Kzzr2)
    | (with_reducible refine zzr1 _ _ ?_; try clear zzr1 Kzzr1)
    | (with_reducible refine zzr0 _ _ ?_; try clear zzr0 Kzzr0)
    | (with_reducible refine awp_seq_l (a := .region 19 _ _) [2] ?_; intro Kzzr19 zzr19)
    | (with_reducible refine awp_seq_l (a := .seq (.region 17 _ _) _) [3] ?_; intro Kzzsr17 zzsr17)
    | (with_reducible refine awp_seq_l (a := .region 17 _ _) [1, 3, 41] ?_; intro Kzzr17 zzr17)
    | (with_reducible refine awp_seq_l (a := .region 16 _ _) [1, 3] ?_; intro Kzzr16 zzr16)
    | (with_reducible refine awp_seq_l (a := .seq (.region 14 _ _) _) [1, 3] ?_; intro Kzzsr14 zzsr14)
    | (with_reducible refine awp_seq_l (a := .region 14 _ _) [1, 3, 32] ?_; intro Kzzr14 zzr14)
    | (with_reducible refine awp_seq_l (a := .seq (.region 4 _ _) _) [1, 3] ?_; intro Kzzsr4 zzsr4)
    | (with_reducible refine awp_seq_l (a := .region 6 _ _) [2] ?_; intro Kzzr6 zzr6)
    | (with_reducible refine awp_seq_l (a := .region 13 _ _) [2] ?_; intro Kzzr13 zzr13)
    | (with_reducible refine awp_seq_l (a := .seq (.region 11 _ _) _) [3] ?_; intro Kzzsr11 zzsr11)
    | (with_reducible refine awp_seq_l (a := .region 11 _ _) [1, 3, 22] ?_; intro Kzzr11 zzr11)
    | (with_reducible refine awp_seq_l (a := .region 10 _ _) [1, 3] ?_; intro Kzzr10 zzr10)
    | (with_reducible refine awp_seq_l (a := .seq (.region 8 _ _) _) [1, 3] ?_; intro Kzzsr8 zzsr8)
    | (with_reducible refine awp_seq_l (a := .region 8 _ _) [1, 3, 15] ?_; intro Kzzr8 zzr8)
    | (with_reducible refine awp_seq_l (a := .region 7 _ _) [1, 3, 12] ?_; intro Kzzr7 zzr7)
    | (with_reducible refine awp_seq_l (a := .region 5 _ _) [1, 3, 7, 8] ?_; intro Kzzr5 zzr5)
    | (with_reducible refine awp_seq_l (a := .region 4 _ _) [1, 3, 7] ?_; intro Kzzr4 zzr4)
    | (with_reducible refine awp_seq_l (a := .seq (.region 2 _ _) _) [1, 3] ?_; intro Kzzsr2 zzsr2)
    | (with_reducible refine awp_seq_l (a := .region 2 _ _) [1, 3, 5] ?_; intro Kzzr2 zzr2)
    | (with_reducible refine awp_seq_l (a := .region 1 _ _) [1, 3] ?_; intro Kzzr1 zzr1)
    | (with_reducible refine awp_seq_l (a := .region 0 _ _) [1] ?_; intro Kzzr0 zzr0)
    | (with_reducible refine awp_seq_k ?_; intro K hK)
    | (with_reducible refine awp_region_a ?_; intro all hall K hK)
    | (with_reducible refine awp_draw_n ?_ ?_; kernel_rfl; intro all hall K hK)
    | (with_reducible refine Chk_i ?_ ?_)
    | (with_reducible refine keysC_i ?_; kernel_rfl)
    | (with_reducible first | refine awp_block_i ?_ | refine awp_skip_i ?_ | refine awp_ret_i ?_ | refine awp_exit_i ?_ | refine thenP_ret_i ?_ | refine thenP_exit_i ?_ | refine lpP_ret_i ?_ | refine lpP_exit_i ?_ | refine unrP_succ_i ?_ | refine unrP_ret_i ?_ | refine unrP_exit_i ?_ | refine blockP_normal_i ?_ | refine blockP_ret_i ?_)
    | (with_reducible refine blockP_exit_i ?_; simp only [↓reduceIte, Nat.reduceEqDiff])
    | with_reducible refine lpP_normal_i ?_)
  all_goals (try clear zzr0; try clear Kzzr0)
  all_goals (try clear zzr1; try clear Kzzr1)
  all_goals (try clear zzr2; try clear Kzzr2)
  all_goals (try clear zzsr2; try clear Kzzsr2)
  all_goals (try clear zzr4; try clear Kzzr4)
  all_goals (try clear zzr5; try clear Kzzr5)
  all_goals (try clear zzr7; try clear Kzzr7)
  all_goals (try clear zzr8; try clear Kzzr8)
  all_goals (try clear zzsr8; try clear Kzzsr8)
  all_goals (try clear zzr10; try clear Kzzr10)
  all_goals (try clear zzr11; try clear Kzzr11)
  all_goals (try clear zzsr11; try clear Kzzsr11)
  all_goals (try clear zzr13; try clear Kzzr13)
  all_goals (try clear zzr6; try clear Kzzr6)
  all_goals (try clear zzsr4; try clear Kzzsr4)
  all_goals (try clear zzr14; try clear Kzzr14)
  all_goals (try clear zzsr14; try clear Kzzsr14)
  all_goals (try clear zzr16; try clear Kzzr16)
  all_goals (try clear zzr17; try clear Kzzr17)
  all_goals (try clear zzsr17; try clear Kzzsr17)
  all_goals (try clear zzr19; try clear Kzzr19)
  all_goals (try simp only [inR])
  all_goals first
    | omega
    | rfl
    | (rw [hq]; rfl)
    | (unfold nanT; rw [if_neg hq]; rfl)
    | (rw [hl]; rfl)
    | skip
theorem sound_34 : Sound Tryz.prog 34 .body (norm s34) := by
  refine sound_norm (sound_body Tryz.func34 (show Tryz.f34.body = some (code Tryz.f34) from rfl) (by kernel_rfl) tysOk G34_ok (drawOk_ok (by kernel_rfl) tysOk G34_ok) (by kernel_rfl) fun ds p r hs hp => ?_)
  unfold s34 at hs
  split at hs
  · cases hs; exact ⟨Nat.le_of_ble_eq_true (by kernel_rfl), wk34 _ _ _ _ _ hp⟩
  · cases hs
end Go.Proofs.AMT
set_option maxRecDepth 20000
namespace Go.Proofs.AMT
open Go.AM Go.AM.LN
attribute [local congr] bindO_congr bindS_congr bindG_congr awpOps_congr aOne_congr awp_congr aCond_congr awpD_congr dOne_congr keysB_congr nOne_congr thenP_congr blockP_congr Chk_congr Brk_congr
noncomputable def s79 : CSpec := fun ds => match ds with
  | [.v (.int .u64 n)] => some (0 ≤ n ∧ n < 18446744073709551616, .one (.fresh .u64 (limbs n.toNat)))
  | _ => none
theorem s79_eq (n : Int) : norm s79 [.v (.int .u64 n)] = some (0 ≤ n ∧ n < 18446744073709551616, .one (.fresh .u64 (limbs n.toNat))) := rfl
noncomputable def G79 : Gam := [(38, .body, norm s38)]
theorem G79_ok : GamOk Tryz.prog G79 := gamOk_cons sound_38 gamOk_nil
theorem k79_38 : lk G79 38 = some (.body, norm s38) := rfl
set_option maxHeartbeats 20000000 in
theorem wk79 (n : Int) (hp : 0 ≤ n ∧ n < 18446744073709551616) : awp ty G79 (code Tryz.f79) (retP ty Tryz.f79.results.toList (.one (.fresh .u64 (limbs n.toNat)))) (entry 0 [.v (.int .u64 n)]) [] := by
  unfold code
  simp only [Tryz.f79, Option.getD_some]
  all_goals repeat' (first
    | ((first
       | (with_reducible refine ops_k ?_; intro X hX)
       | (with_reducible refine opsN_k ?_; intro X hX)
       | (with_reducible show awp _ _ _ _ (keepL _ _) _)
       | with_reducible refine awp_cond_k ?_
       | (with_reducible refine Brk_i ?_ ?_ <;> intro hb <;> (try simp only [hb]) <;> have hq := hb <;> try simp only [decide_eq_true_eq, decide_eq_false_iff_not, gt_iff_lt, ge_iff_le, Int.not_lt, Int.not_le, beq_iff_eq, beq_eq_false_iff_ne, Bool.not_eq_true', Bool.not_eq_false', Bool.and_eq_true, Bool.or_eq_true, Bool.and_eq_false_imp, Bool.or_eq_false_iff, ne_eq, Classical.not_not] at hq)
       | with_reducible refine retP_ret_i ?_
       | with_reducible refine retP_normal_i ?_
       | (with_reducible (show bindG _ _ _ _ _); simp only [hall])) <;> try simp only [Go.AM.S1, Go.AM.S2, Go.AM.S3, Go.AM.S4, Go.AM.S5, Go.AM.S6, Go.AM.S7, Go.AM.S8, Go.AM.S9, Nat.reduceAdd, Nat.reduceMul, Nat.reduceSub, ↓reduceIte, Nat.reduceEqDiff, Nat.reduceLT, Nat.reduceLeDiff, reduceCtorEq, Int.reduceBEq, Int.reduceBNe, Nat.reduceBEq, Int.reduceEq, Int.reduceToNat, Int.reduceLE, Int.reduceLT, Nat.reduceDiv, Int.reduceAdd, Int.reduceSub, Int.reduceMul, Int.reduceNeg, Int.reduceGT, Int.reduceGE, Nat.reduceMod, k79_38, s38_eq, s38_nil1, ty_22, ty_40, sz_one, toInts])
    | (with_reducible refine hX _ _ ?_; clear hX X)
    | (with_reducible refine ops_nil_i ?_; try clear hall all)
    | (with_reducible refine opsN_nil_i ?_; try clear hall all)
    | (with_reducible refine hK _ _ ?_; clear hK K)
    | with_reducible refine thenP_normal_i ?_
    | (with_reducible refine zzr1 _ _ ?_; try clear zzr1 Kzzr1)
    | (with_reducible refine zzr0 _ _ ?_; try clear zzr0 Kzzr0)
    | (with_reducible refine awp_seq_l (a := .region 1 _ _) [2] ?_; intro Kzzr1 zzr1)
    | (with_reducible refine awp_seq_l (a := .region 0 _ _) [0] ?_; intro Kzzr0 zzr0)
    | (with_reducible refine awp_seq_k ?_; intro K hK)
    | (with_reducible refine awp_region_a ?_; intro all hall K hK)
    | (with_reducible refine awp_draw_n ?_ ?_; kernel_rfl; intro all hall K hK)
    | (with_reducible refine Chk_i ?_ ?_)
    | (with_reducible refine keysC_i ?_; kernel_rfl)
    | (with_reducible first | refine awp_block_i ?_ | refine awp_skip_i ?_ | refine awp_ret_i ?_ | refine awp_exit_i ?_ | refine thenP_ret_i ?_ | refine thenP_exit_i ?_ | refine lpP_ret_i ?_ | refine lpP_exit_i ?_ | refine unrP_succ_i ?_ | refine unrP_ret_i ?_ | refine unrP_exit_i ?_ | refine blockP_normal_i ?_ | refine blockP_ret_i ?_)
    | (with_reducible refine blockP_exit_i ?_; simp only [↓reduceIte, Nat.reduceEqDiff])
    | with_reducible refine lpP_normal_i ?_)
  all_goals (try clear zzr0; try clear Kzzr0)
  all_goals (try clear zzr1; try clear Kzzr1)
  all_goals first
    | exact lim_one hp
    | exact ⟨lim_one hp, Nat.le_of_ble_eq_true rfl⟩
theorem sound_79 : Sound Tryz.prog 79 .body (norm s79) := by
  refine sound_norm (sound_body Tryz.func79 (show Tryz.f79.body = some (code Tryz.f79) from rfl) (by kernel_rfl) tysOk G79_ok (drawOk_ok (by kernel_rfl) tysOk G79_ok) (by kernel_rfl) fun ds p r hs hp => ?_)
  unfold s79 at hs
  split at hs
  · cases hs; exact ⟨Nat.le_of_ble_eq_true (by kernel_rfl), wk79 _ hp⟩
  · cases hs
end Go.Proofs.AMT
