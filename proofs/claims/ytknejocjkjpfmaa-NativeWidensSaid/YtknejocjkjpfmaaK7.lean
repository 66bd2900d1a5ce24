/- Part 7 of the proof: own text (A9, A10, LN7, A11, A12, LN8, A13, LN9, A14). -/
import Derived.Test.YtknejocjkjpfmaaK0
import Derived.Test.YtknejocjkjpfmaaK1
import Derived.Test.YtknejocjkjpfmaaK2
import Derived.Test.YtknejocjkjpfmaaK3
import Derived.Test.YtknejocjkjpfmaaK4
import Derived.Test.YtknejocjkjpfmaaK5
import Derived.Test.YtknejocjkjpfmaaK6
set_option linter.all false
set_option maxRecDepth 20000
namespace Go.Proofs.AMT
open Go.AM Go.AM.LN
attribute [local congr] bindO_congr bindS_congr bindG_congr awpOps_congr aOne_congr awp_congr aCond_congr awpD_congr dOne_congr keysB_congr nOne_congr thenP_congr blockP_congr Chk_congr Brk_congr
noncomputable def s97 : CSpec := fun ds => match ds with
  | [.sl .u64 a, .sl .u64 b] => some (((lim a ∧ sz a = a.length) ∧ a.length ≤ 90000000) ∧ ((lim b ∧ sz b = b.length) ∧ b.length ≤ 90000000) ∧ val b ≠ 0 ∧ (val a < val b ∨ val b = 1), .many [.fresh .u64 (limbs (val a / val b)), .fresh .u64 (limbs (val a % val b))])
  | _ => none
theorem s97_eq (a : List Int) (b : List Int) : norm s97 [.sl .u64 a, .sl .u64 b] = some (((lim a ∧ sz a = a.length) ∧ a.length ≤ 90000000) ∧ ((lim b ∧ sz b = b.length) ∧ b.length ≤ 90000000) ∧ val b ≠ 0 ∧ (val a < val b ∨ val b = 1), .many [.fresh .u64 (limbs (val a / val b)), .fresh .u64 (limbs (val a % val b))]) := rfl
theorem s97_nil1  (b : List Int) : norm s97 [.v (.slice none 0 0), .sl .u64 b] = some (((lim ([] : List Int) ∧ sz ([] : List Int) = ([] : List Int).length) ∧ ([] : List Int).length ≤ 90000000) ∧ ((lim b ∧ sz b = b.length) ∧ b.length ≤ 90000000) ∧ val b ≠ 0 ∧ (val ([] : List Int) < val b ∨ val b = 1), .many [.fresh .u64 (limbs (val ([] : List Int) / val b)), .fresh .u64 (limbs (val ([] : List Int) % val b))]) := rfl
theorem s97_nil2 (a : List Int)  : norm s97 [.sl .u64 a, .v (.slice none 0 0)] = some (((lim a ∧ sz a = a.length) ∧ a.length ≤ 90000000) ∧ ((lim ([] : List Int) ∧ sz ([] : List Int) = ([] : List Int).length) ∧ ([] : List Int).length ≤ 90000000) ∧ val ([] : List Int) ≠ 0 ∧ (val a < val ([] : List Int) ∨ val ([] : List Int) = 1), .many [.fresh .u64 (limbs (val a / val ([] : List Int))), .fresh .u64 (limbs (val a % val ([] : List Int)))]) := rfl
theorem s97_nil3   : norm s97 [.v (.slice none 0 0), .v (.slice none 0 0)] = some (((lim ([] : List Int) ∧ sz ([] : List Int) = ([] : List Int).length) ∧ ([] : List Int).length ≤ 90000000) ∧ ((lim ([] : List Int) ∧ sz ([] : List Int) = ([] : List Int).length) ∧ ([] : List Int).length ≤ 90000000) ∧ val ([] : List Int) ≠ 0 ∧ (val ([] : List Int) < val ([] : List Int) ∨ val ([] : List Int) = 1), .many [.fresh .u64 (limbs (val ([] : List Int) / val ([] : List Int))), .fresh .u64 (limbs (val ([] : List Int) % val ([] : List Int)))]) := rfl
theorem k97_28 : lk G103 28 = some (.body, norm s28) := rfl
theorem k97_43 : lk G103 43 = some (.body, norm s43) := rfl
theorem k97_46 : lk G103 46 = some (.body, norm s46) := rfl
theorem k97_103 : lk G103 103 = some (.body, norm s103) := rfl
theorem k97_104 : lk G103 104 = some (.body, norm s104) := rfl
set_option maxHeartbeats 20000000 in
theorem w97 (a : List Int) (b : List Int) (hp : ((lim a ∧ sz a = a.length) ∧ a.length ≤ 90000000) ∧ ((lim b ∧ sz b = b.length) ∧ b.length ≤ 90000000) ∧ val b ≠ 0 ∧ (val a < val b ∨ val b = 1)) : awp ty G103 (code Try.f97) (retP ty Try.f97.results.toList (.many [.fresh .u64 (limbs (val a / val b)), .fresh .u64 (limbs (val a % val b))])) (entry 0 [.sl .u64 a, .sl .u64 b]) [] := by
  unfold code
  simp only [Try.f97, Option.getD_some]
  have za := sz_le a
  have zb := sz_le b
  have hb1 : val b = 1 → b.length = 1 ∧ b.getD 0 0 = 1 := fun h => by
    have e : b = [1] := by rw [← limbs_val hp.2.1.1.1 hp.2.1.1.2, h]; rfl
    rw [e]; all_goals (first | rfl | exact ⟨rfl, rfl⟩)
  all_goals repeat' (first
    | ((first
       | (with_reducible refine ops_k ?_; intro X hX)
       | (with_reducible refine opsN_k ?_; intro X hX)
       | (with_reducible show awp _ _ _ _ (keepL _ _) _)
       | with_reducible refine awp_cond_k ?_
       | (with_reducible refine Brk_i ?_ ?_ <;> intro hb <;> (try simp only [hb]) <;> have hq := hb <;> try simp only [decide_eq_true_eq, decide_eq_false_iff_not, gt_iff_lt, ge_iff_le, Int.not_lt, Int.not_le, beq_iff_eq, beq_eq_false_iff_ne, Bool.not_eq_true', Bool.not_eq_false', Bool.and_eq_true, Bool.or_eq_true, Bool.and_eq_false_imp, Bool.or_eq_false_iff, ne_eq, Classical.not_not] at hq)
       | with_reducible refine retP_ret_i ?_
       | with_reducible refine retP_normal_i ?_
       | (with_reducible (show bindG _ _ _ _ _); simp only [hall])) <;> try simp only [Go.AM.S1, Go.AM.S2, Go.AM.S3, Go.AM.S4, Go.AM.S5, Go.AM.S6, Go.AM.S7, Go.AM.S8, Go.AM.S9, Nat.reduceAdd, Nat.reduceMul, Nat.reduceSub, ↓reduceIte, Nat.reduceEqDiff, Nat.reduceLT, Nat.reduceLeDiff, reduceCtorEq, Int.reduceBEq, Int.reduceBNe, Nat.reduceBEq, Int.reduceEq, Int.reduceToNat, Int.reduceLE, Int.reduceLT, Nat.reduceDiv, Int.reduceAdd, Int.reduceSub, Int.reduceMul, Int.reduceNeg, Int.reduceGT, Int.reduceGE, Nat.reduceMod, k97_28, s28_eq, k97_43, s43_eq, s43_nil1, k97_46, s46_eq, s46_nil1, s46_nil2, s46_nil3, k97_103, s103_eq, s103_nil1, k97_104, s104_eq, ty_3, ty_26, ty_42, cmpI_neg])
    | (with_reducible refine hX _ _ ?_; clear hX X)
    | with_reducible refine ops_nil_i ?_
    | with_reducible refine opsN_nil_i ?_
    | (with_reducible refine hK _ _ ?_; clear hK K)
    | with_reducible refine thenP_normal_i ?_
    | with_reducible refine zzr11 _ _ ?_
    | with_reducible refine zzr10 _ _ ?_
    | with_reducible refine zzr9 _ _ ?_
    | with_reducible refine zzr8 _ _ ?_
    | with_reducible refine zzr7 _ _ ?_
    | with_reducible refine zzr6 _ _ ?_
    | with_reducible refine zzb0 _ _ ?_
    | with_reducible refine zzr2 _ _ ?_
    | with_reducible refine zzr5 _ _ ?_
    | with_reducible refine zzr4 _ _ ?_
    | with_reducible refine zzr3 _ _ ?_
    | with_reducible refine zzr1 _ _ ?_
    | with_reducible refine zzr0 _ _ ?_
    | (with_reducible refine awp_seq_l (a := .region 11 _ _) [4, 5] ?_; intro Kzzr11 zzr11)
    | (with_reducible refine awp_seq_l (a := .region 10 _ _) [13, 14] ?_; intro Kzzr10 zzr10)
    | (with_reducible refine awp_seq_l (a := .region 9 _ _) [8, 13, 14] ?_; intro Kzzr9 zzr9)
    | (with_reducible refine awp_seq_l (a := .region 8 _ _) [8, 9, 11] ?_; intro Kzzr8 zzr8)
    | (with_reducible refine awp_seq_l (a := .region 7 _ _) [1, 8, 9] ?_; intro Kzzr7 zzr7)
    | (with_reducible refine awp_seq_l (a := .region 6 _ _) [0, 1, 8] ?_; intro Kzzr6 zzr6)
    | (with_reducible refine awp_seq_l (a := .block 0 _) [0, 1] ?_; intro Kzzb0 zzb0)
    | (with_reducible refine awp_seq_l (a := .region 2 _ _) [4, 5] ?_; intro Kzzr2 zzr2)
    | (with_reducible refine awp_seq_l (a := .region 5 _ _) [4, 5] ?_; intro Kzzr5 zzr5)
    | (with_reducible refine awp_seq_l (a := .region 4 _ _) [6, 7] ?_; intro Kzzr4 zzr4)
    | (with_reducible refine awp_seq_l (a := .region 3 _ _) [0, 1, 22] ?_; intro Kzzr3 zzr3)
    | (with_reducible refine awp_seq_l (a := .region 1 _ _) [0, 1, 15] ?_; intro Kzzr1 zzr1)
    | (with_reducible refine awp_seq_l (a := .region 0 _ _) [0, 1] ?_; intro Kzzr0 zzr0)
    | (with_reducible refine awp_seq_k ?_; intro K hK)
    | (with_reducible refine awp_region_a ?_; intro all hall K hK)
    | (with_reducible refine awp_draw_n ?_ ?_; kernel_rfl; intro all hall K hK)
    | (with_reducible refine Chk_i ?_ ?_)
    | (with_reducible refine keysC_i ?_; kernel_rfl)
    | (with_reducible first | refine awp_block_i ?_ | refine awp_skip_i ?_ | refine awp_ret_i ?_ | refine awp_exit_i ?_ | refine thenP_ret_i ?_ | refine thenP_exit_i ?_ | refine lpP_ret_i ?_ | refine lpP_exit_i ?_ | refine unrP_succ_i ?_ | refine unrP_ret_i ?_ | refine unrP_exit_i ?_ | refine blockP_normal_i ?_ | refine blockP_ret_i ?_)
    | (with_reducible refine blockP_exit_i ?_; simp only [↓reduceIte, Nat.reduceEqDiff])
    | with_reducible refine lpP_normal_i ?_)
  all_goals (try simp only [inR])
  all_goals first
    | omega
    | exact ⟨⟨hp.1.1.1, by omega⟩, hp.2.1.1.1, by omega⟩
    | exact ⟨hp.1.1.1, by omega⟩
    | (rw [Nat.div_eq_of_lt (by assumption), Nat.mod_eq_of_lt (by assumption)]; all_goals (first | rfl | exact ⟨rfl, rfl⟩ | exact ⟨⟨rfl, rfl⟩, rfl⟩))
    | (exfalso; omega)
    | skip
  all_goals (obtain ⟨h1, h2⟩ := hb1 (by omega))
  · exact ⟨⟨hp.1.1.1, by omega⟩, ⟨by omega, by omega⟩, h2⟩
  · rw [h2]; simp [Nat.mod_one]
  · have h3 : val b = 1 := by omega
    rw [h2, h3]; all_goals (first | rfl | exact ⟨rfl, rfl⟩ | exact ⟨⟨rfl, rfl⟩, rfl⟩)
theorem sound_97 : Sound Try.prog 97 .body (norm s97) := by
  refine sound_norm (sound_body Try.func97 (show Try.f97.body = some (code Try.f97) from rfl) (by kernel_rfl) tysOk G103_ok (drawOk_ok (by kernel_rfl) tysOk G103_ok) (by kernel_rfl) fun ds p r hs hp => ?_)
  unfold s97 at hs
  split at hs
  · cases hs; exact ⟨Nat.le_of_ble_eq_true (by kernel_rfl), w97 _ _ hp⟩
  · cases hs
noncomputable def G97 : Gam := (97, .body, norm s97) :: G103
theorem G97_ok : GamOk Try.prog G97 := gamOk_cons sound_97 G103_ok
noncomputable def s75 : CSpec := fun ds => match ds with
  | [.sl .u64 a, .sl .u64 b] => some ((lim a ∧ a.length ≤ 90000000) ∧ (lim b ∧ b.length ≤ 90000000) ∧ val b ≠ 0 ∧ (val a < val b ∨ val b = 1) ∧ sz a ≤ 2000 ∧ sz b ≤ 2000, .many [.fresh .u64 (limbs (val a / val b)), .fresh .u64 (limbs (val a % val b)), .v (.int .i64 0)])
  | _ => none
theorem s75_eq (a : List Int) (b : List Int) : norm s75 [.sl .u64 a, .sl .u64 b] = some ((lim a ∧ a.length ≤ 90000000) ∧ (lim b ∧ b.length ≤ 90000000) ∧ val b ≠ 0 ∧ (val a < val b ∨ val b = 1) ∧ sz a ≤ 2000 ∧ sz b ≤ 2000, .many [.fresh .u64 (limbs (val a / val b)), .fresh .u64 (limbs (val a % val b)), .v (.int .i64 0)]) := rfl
theorem s75_nil1  (b : List Int) : norm s75 [.v (.slice none 0 0), .sl .u64 b] = some ((lim ([] : List Int) ∧ ([] : List Int).length ≤ 90000000) ∧ (lim b ∧ b.length ≤ 90000000) ∧ val b ≠ 0 ∧ (val ([] : List Int) < val b ∨ val b = 1) ∧ sz ([] : List Int) ≤ 2000 ∧ sz b ≤ 2000, .many [.fresh .u64 (limbs (val ([] : List Int) / val b)), .fresh .u64 (limbs (val ([] : List Int) % val b)), .v (.int .i64 0)]) := rfl
theorem s75_nil2 (a : List Int)  : norm s75 [.sl .u64 a, .v (.slice none 0 0)] = some ((lim a ∧ a.length ≤ 90000000) ∧ (lim ([] : List Int) ∧ ([] : List Int).length ≤ 90000000) ∧ val ([] : List Int) ≠ 0 ∧ (val a < val ([] : List Int) ∨ val ([] : List Int) = 1) ∧ sz a ≤ 2000 ∧ sz ([] : List Int) ≤ 2000, .many [.fresh .u64 (limbs (val a / val ([] : List Int))), .fresh .u64 (limbs (val a % val ([] : List Int))), .v (.int .i64 0)]) := rfl
theorem s75_nil3   : norm s75 [.v (.slice none 0 0), .v (.slice none 0 0)] = some ((lim ([] : List Int) ∧ ([] : List Int).length ≤ 90000000) ∧ (lim ([] : List Int) ∧ ([] : List Int).length ≤ 90000000) ∧ val ([] : List Int) ≠ 0 ∧ (val ([] : List Int) < val ([] : List Int) ∨ val ([] : List Int) = 1) ∧ sz ([] : List Int) ≤ 2000 ∧ sz ([] : List Int) ≤ 2000, .many [.fresh .u64 (limbs (val ([] : List Int) / val ([] : List Int))), .fresh .u64 (limbs (val ([] : List Int) % val ([] : List Int))), .v (.int .i64 0)]) := rfl
theorem k75_71 : lk G97 71 = some (.body, norm s71) := rfl
theorem k75_97 : lk G97 97 = some (.body, norm s97) := rfl
set_option maxHeartbeats 20000000 in
theorem w75 (a : List Int) (b : List Int) (hp : (lim a ∧ a.length ≤ 90000000) ∧ (lim b ∧ b.length ≤ 90000000) ∧ val b ≠ 0 ∧ (val a < val b ∨ val b = 1) ∧ sz a ≤ 2000 ∧ sz b ≤ 2000) : awp ty G97 (code Try.f75) (retP ty Try.f75.results.toList (.many [.fresh .u64 (limbs (val a / val b)), .fresh .u64 (limbs (val a % val b)), .v (.int .i64 0)])) (entry 0 [.sl .u64 a, .sl .u64 b]) [] := by
  unfold code
  simp only [Try.f75, Option.getD_some]
  have za := sz_le a
  have zb := sz_le b
  have ya := len_limbs_sz hp.1.1
  have yb := len_limbs_sz hp.2.1.1
  have xb := (not_congr (sz_zero hp.2.1.1)).2 hp.2.2.1
  have wa := sz_limbs (val a)
  have wb := sz_limbs (val b)
  all_goals repeat' (first
    | ((first
       | (with_reducible refine ops_k ?_; intro X hX)
       | (with_reducible refine opsN_k ?_; intro X hX)
       | (with_reducible show awp _ _ _ _ (keepL _ _) _)
       | with_reducible refine awp_cond_k ?_
       | (with_reducible refine Brk_i ?_ ?_ <;> intro hb <;> (try simp only [hb]) <;> have hq := hb <;> try simp only [decide_eq_true_eq, decide_eq_false_iff_not, gt_iff_lt, ge_iff_le, Int.not_lt, Int.not_le, beq_iff_eq, beq_eq_false_iff_ne, Bool.not_eq_true', Bool.not_eq_false', Bool.and_eq_true, Bool.or_eq_true, Bool.and_eq_false_imp, Bool.or_eq_false_iff, ne_eq, Classical.not_not] at hq)
       | with_reducible refine retP_ret_i ?_
       | with_reducible refine retP_normal_i ?_
       | (with_reducible (show bindG _ _ _ _ _); simp only [hall])) <;> try simp only [Go.AM.S1, Go.AM.S2, Go.AM.S3, Go.AM.S4, Go.AM.S5, Go.AM.S6, Go.AM.S7, Go.AM.S8, Go.AM.S9, Nat.reduceAdd, Nat.reduceMul, Nat.reduceSub, ↓reduceIte, Nat.reduceEqDiff, Nat.reduceLT, Nat.reduceLeDiff, reduceCtorEq, Int.reduceBEq, Int.reduceBNe, Nat.reduceBEq, Int.reduceEq, Int.reduceToNat, Int.reduceLE, Int.reduceLT, Nat.reduceDiv, Int.reduceAdd, Int.reduceSub, Int.reduceMul, Int.reduceNeg, Int.reduceGT, Int.reduceGE, Nat.reduceMod, k75_71, s71_eq, s71_nil1, k75_97, s97_eq, s97_nil1, s97_nil2, s97_nil3, ty_3, ty_26, ty_42, take_sz hp.1.1, take_sz hp.2.1.1, val_limbs])
    | (with_reducible refine hX _ _ ?_; clear hX X)
    | with_reducible refine ops_nil_i ?_
    | with_reducible refine opsN_nil_i ?_
    | (with_reducible refine hK _ _ ?_; clear hK K)
    | with_reducible refine thenP_normal_i ?_
    | with_reducible refine zzr7 _ _ ?_
    | with_reducible refine zzr6 _ _ ?_
    | with_reducible refine zzb0 _ _ ?_
    | with_reducible refine zzr3 _ _ ?_
    | with_reducible refine zzr5 _ _ ?_
    | with_reducible refine zzr4 _ _ ?_
    | with_reducible refine zzr2 _ _ ?_
    | with_reducible refine zzr1 _ _ ?_
    | with_reducible refine zzr0 _ _ ?_
    | (with_reducible refine awp_seq_l (a := .region 7 _ _) [4, 5, 6] ?_; intro Kzzr7 zzr7)
    | (with_reducible refine awp_seq_l (a := .region 6 _ _) [7, 8] ?_; intro Kzzr6 zzr6)
    | (with_reducible refine awp_seq_l (a := .block 0 _) [0, 1] ?_; intro Kzzb0 zzb0)
    | (with_reducible refine awp_seq_l (a := .region 3 _ _) [4, 5, 6] ?_; intro Kzzr3 zzr3)
    | (with_reducible refine awp_seq_l (a := .region 5 _ _) [4, 5, 6] ?_; intro Kzzr5 zzr5)
    | (with_reducible refine awp_seq_l (a := .region 4 _ _) [0, 1, 21] ?_; intro Kzzr4 zzr4)
    | (with_reducible refine awp_seq_l (a := .region 2 _ _) [0, 1, 17] ?_; intro Kzzr2 zzr2)
    | (with_reducible refine awp_seq_l (a := .region 1 _ _) [0, 1] ?_; intro Kzzr1 zzr1)
    | (with_reducible refine awp_seq_l (a := .region 0 _ _) [0, 1] ?_; intro Kzzr0 zzr0)
    | (with_reducible refine awp_seq_k ?_; intro K hK)
    | (with_reducible refine awp_region_a ?_; intro all hall K hK)
    | (with_reducible refine awp_draw_n ?_ ?_; kernel_rfl; intro all hall K hK)
    | (with_reducible refine Chk_i ?_ ?_)
    | (with_reducible refine keysC_i ?_; kernel_rfl)
    | (with_reducible first | refine awp_block_i ?_ | refine awp_skip_i ?_ | refine awp_ret_i ?_ | refine awp_exit_i ?_ | refine thenP_ret_i ?_ | refine thenP_exit_i ?_ | refine lpP_ret_i ?_ | refine lpP_exit_i ?_ | refine unrP_succ_i ?_ | refine unrP_ret_i ?_ | refine unrP_exit_i ?_ | refine blockP_normal_i ?_ | refine blockP_ret_i ?_)
    | (with_reducible refine blockP_exit_i ?_; simp only [↓reduceIte, Nat.reduceEqDiff])
    | with_reducible refine lpP_normal_i ?_)
  all_goals (try simp only [inR])
  all_goals first
    | omega
    | exact ⟨⟨⟨lim_limbs _, sz_limbs _⟩, by omega⟩, ⟨⟨lim_limbs _, sz_limbs _⟩, by omega⟩, hp.2.2.1, hp.2.2.2.1⟩
    | rfl
theorem sound_75 : Sound Try.prog 75 .body (norm s75) := by
  refine sound_norm (sound_body Try.func75 (show Try.f75.body = some (code Try.f75) from rfl) (by kernel_rfl) tysOk G97_ok (drawOk_ok (by kernel_rfl) tysOk G97_ok) (by kernel_rfl) fun ds p r hs hp => ?_)
  unfold s75 at hs
  split at hs
  · cases hs; exact ⟨Nat.le_of_ble_eq_true (by kernel_rfl), w75 _ _ hp⟩
  · cases hs
noncomputable def G75 : Gam := (75, .body, norm s75) :: G97
theorem G75_ok : GamOk Try.prog G75 := gamOk_cons sound_75 G97_ok
end Go.Proofs.AMT
set_option maxRecDepth 20000
namespace Go.Proofs.AMT
open Go.AM Go.AM.LN
attribute [local congr] bindO_congr bindS_congr bindG_congr awpOps_congr aOne_congr awp_congr aCond_congr awpD_congr dOne_congr keysB_congr nOne_congr thenP_congr blockP_congr Chk_congr Brk_congr
def upS (dir : Int) (sign odd : Bool) (half : Int) : Bool := if dir = 0 then decide (half > 0) || (half == 0 && odd) else if dir = 1 then decide (half ≥ 0) else if dir = 3 then !sign else if dir = 4 then sign else false
def divS (dir : Int) (sign : Bool) (x y : Nat) : Nat × Bool := if x % y = 0 then (x / y, true) else (if upS dir sign (x / y % 2 == 1) (cmpI (x % y) (y - x % y)) then x / y + 1 else x / y, false)
theorem divS_ex {d : Int} {s : Bool} {x y : Nat} (h : x % y = 0) : divS d s x y = (x / y, true) := if_pos h
theorem divS_up {d : Int} {s : Bool} {x y : Nat} (h : ¬ x % y = 0) (hu : upS d s (x / y % 2 == 1) (cmpI (x % y) (y - x % y)) = true) : divS d s x y = (x / y + 1, false) := by
  unfold divS; rw [if_neg h, if_pos hu]
theorem divS_dn {d : Int} {s : Bool} {x y : Nat} (h : ¬ x % y = 0) (hu : upS d s (x / y % 2 == 1) (cmpI (x % y) (y - x % y)) = false) : divS d s x y = (x / y, false) := by
  unfold divS; rw [if_neg h, if_neg (by rw [hu]; exact Bool.false_ne_true)]
theorem odd0 {q : Nat} (h : q = 0) : (q % 2 == 1) = false := by subst h; rfl
noncomputable def s77 : CSpec := fun ds => match ds with
  | [.v (.int .i64 d), .v (.bool s), .v (.bool o), .v (.int .i64 h)] => some (True, .one (.v (.bool (upS d s o h))))
  | _ => none
theorem s77_eq (d : Int) (s : Bool) (o : Bool) (h : Int) : norm s77 [.v (.int .i64 d), .v (.bool s), .v (.bool o), .v (.int .i64 h)] = some (True, .one (.v (.bool (upS d s o h)))) := rfl
set_option maxHeartbeats 20000000 in
theorem w77 (d : Int) (s : Bool) (o : Bool) (h : Int) (hp : True) : awp ty G75 (code Try.f77) (retP ty Try.f77.results.toList (.one (.v (.bool (upS d s o h))))) (entry 0 [.v (.int .i64 d), .v (.bool s), .v (.bool o), .v (.int .i64 h)]) [] := by
  unfold code
  simp only [Try.f77, Option.getD_some]
  all_goals repeat' (first
    | ((first
       | (with_reducible refine ops_k ?_; intro X hX)
       | (with_reducible refine opsN_k ?_; intro X hX)
       | (with_reducible show awp _ _ _ _ (keepL _ _) _)
       | with_reducible refine awp_cond_k ?_
       | (with_reducible refine Brk_i ?_ ?_ <;> intro hb <;> (try simp only [hb]) <;> have hq := hb <;> try simp only [decide_eq_true_eq, decide_eq_false_iff_not, gt_iff_lt, ge_iff_le, Int.not_lt, Int.not_le, beq_iff_eq, beq_eq_false_iff_ne, Bool.not_eq_true', Bool.not_eq_false', Bool.and_eq_true, Bool.or_eq_true, Bool.and_eq_false_imp, Bool.or_eq_false_iff, ne_eq, Classical.not_not] at hq)
       | with_reducible refine retP_ret_i ?_
       | with_reducible refine retP_normal_i ?_
       | (with_reducible (show bindG _ _ _ _ _); simp only [hall])) <;> try simp only [Go.AM.S1, Go.AM.S2, Go.AM.S3, Go.AM.S4, Go.AM.S5, Go.AM.S6, Go.AM.S7, Go.AM.S8, Go.AM.S9, Nat.reduceAdd, Nat.reduceMul, Nat.reduceSub, ↓reduceIte, Nat.reduceEqDiff, Nat.reduceLT, Nat.reduceLeDiff, reduceCtorEq, Int.reduceBEq, Int.reduceBNe, Nat.reduceBEq, Int.reduceEq, Int.reduceToNat, Int.reduceLE, Int.reduceLT, Nat.reduceDiv, Int.reduceAdd, Int.reduceSub, Int.reduceMul, Int.reduceNeg, Int.reduceGT, Int.reduceGE, Nat.reduceMod, ty_3, ty_4])
    | (with_reducible refine hX _ _ ?_; clear hX X)
    | with_reducible refine ops_nil_i ?_
    | with_reducible refine opsN_nil_i ?_
    | (with_reducible refine hK _ _ ?_; clear hK K)
    | with_reducible refine thenP_normal_i ?_
    | with_reducible refine zzr10 _ _ ?_
    | with_reducible refine zzsr1 _ _ ?_
    | with_reducible refine zzr3 _ _ ?_
    | with_reducible refine zzr5 _ _ ?_
    | with_reducible refine zzr7 _ _ ?_
    | with_reducible refine zzr9 _ _ ?_
    | with_reducible refine zzr8 _ _ ?_
    | with_reducible refine zzr6 _ _ ?_
    | with_reducible refine zzr4 _ _ ?_
    | with_reducible refine zzr2 _ _ ?_
    | with_reducible refine zzr1 _ _ ?_
    | with_reducible refine zzr0 _ _ ?_
    | (with_reducible refine awp_seq_l (a := .region 10 _ _) [8] ?_; intro Kzzr10 zzr10)
    | (with_reducible refine awp_seq_l (a := .seq (.region 1 _ _) _) [] ?_; intro Kzzsr1 zzsr1)
    | (with_reducible refine awp_seq_l (a := .region 3 _ _) [8] ?_; intro Kzzr3 zzr3)
    | (with_reducible refine awp_seq_l (a := .region 5 _ _) [8] ?_; intro Kzzr5 zzr5)
    | (with_reducible refine awp_seq_l (a := .region 7 _ _) [8] ?_; intro Kzzr7 zzr7)
    | (with_reducible refine awp_seq_l (a := .region 9 _ _) [8] ?_; intro Kzzr9 zzr9)
    | (with_reducible refine awp_seq_l (a := .region 8 _ _) [1, 29] ?_; intro Kzzr8 zzr8)
    | (with_reducible refine awp_seq_l (a := .region 6 _ _) [1, 9, 25] ?_; intro Kzzr6 zzr6)
    | (with_reducible refine awp_seq_l (a := .region 4 _ _) [1, 3, 9, 21] ?_; intro Kzzr4 zzr4)
    | (with_reducible refine awp_seq_l (a := .region 2 _ _) [1, 2, 3, 9, 10] ?_; intro Kzzr2 zzr2)
    | (with_reducible refine awp_seq_l (a := .region 1 _ _) [1, 2, 3, 9] ?_; intro Kzzr1 zzr1)
    | (with_reducible refine awp_seq_l (a := .region 0 _ _) [0, 1, 2, 3] ?_; intro Kzzr0 zzr0)
    | (with_reducible refine awp_seq_k ?_; intro K hK)
    | (with_reducible refine awp_region_a ?_; intro all hall K hK)
    | (with_reducible refine awp_draw_n ?_ ?_; kernel_rfl; intro all hall K hK)
    | (with_reducible refine Chk_i ?_ ?_)
    | (with_reducible refine keysC_i ?_; kernel_rfl)
    | (with_reducible first | refine awp_block_i ?_ | refine awp_skip_i ?_ | refine awp_ret_i ?_ | refine awp_exit_i ?_ | refine thenP_ret_i ?_ | refine thenP_exit_i ?_ | refine lpP_ret_i ?_ | refine lpP_exit_i ?_ | refine unrP_succ_i ?_ | refine unrP_ret_i ?_ | refine unrP_exit_i ?_ | refine blockP_normal_i ?_ | refine blockP_ret_i ?_)
    | (with_reducible refine blockP_exit_i ?_; simp only [↓reduceIte, Nat.reduceEqDiff])
    | with_reducible refine lpP_normal_i ?_)
  all_goals (unfold upS)
  all_goals (refine congrArg _ ?_; repeat' split)
  all_goals first
    | (exfalso; omega)
    | rfl
    | (have hh : h = 0 := by omega
       simp [hh])
    | (have hh : ¬ h = 0 := by omega
       have h2 : ¬ h > 0 := by omega
       simp [hh, h2])
    | (have h2 : h > 0 := by omega
       simp [h2])
theorem sound_77 : Sound Try.prog 77 .body (norm s77) := by
  refine sound_norm (sound_body Try.func77 (show Try.f77.body = some (code Try.f77) from rfl) (by kernel_rfl) tysOk G75_ok (drawOk_ok (by kernel_rfl) tysOk G75_ok) (by kernel_rfl) fun ds p r hs hp => ?_)
  unfold s77 at hs
  split at hs
  · cases hs; exact ⟨Nat.le_of_ble_eq_true (by kernel_rfl), w77 _ _ _ _ hp⟩
  · cases hs
noncomputable def G77 : Gam := (77, .body, norm s77) :: G75
theorem G77_ok : GamOk Try.prog G77 := gamOk_cons sound_77 G75_ok
def infS (d : Int) (s : Bool) : Bool := if d = 0 then true else if d = 1 then true else if d = 3 then !s else if d = 4 then s else false
noncomputable def s74 : CSpec := fun ds => match ds with
  | [.v (.int .i64 d), .v (.bool s)] => some (True, .one (.v (.bool (infS d s))))
  | _ => none
theorem s74_eq (d : Int) (s : Bool) : norm s74 [.v (.int .i64 d), .v (.bool s)] = some (True, .one (.v (.bool (infS d s)))) := rfl
set_option maxHeartbeats 20000000 in
theorem w74 (d : Int) (s : Bool) (hp : True) : awp ty G77 (code Try.f74) (retP ty Try.f74.results.toList (.one (.v (.bool (infS d s))))) (entry 0 [.v (.int .i64 d), .v (.bool s)]) [] := by
  unfold code
  simp only [Try.f74, Option.getD_some]
  all_goals repeat' (first
    | ((first
       | (with_reducible refine ops_k ?_; intro X hX)
       | (with_reducible refine opsN_k ?_; intro X hX)
       | (with_reducible show awp _ _ _ _ (keepL _ _) _)
       | with_reducible refine awp_cond_k ?_
       | (with_reducible refine Brk_i ?_ ?_ <;> intro hb <;> (try simp only [hb]) <;> have hq := hb <;> try simp only [decide_eq_true_eq, decide_eq_false_iff_not, gt_iff_lt, ge_iff_le, Int.not_lt, Int.not_le, beq_iff_eq, beq_eq_false_iff_ne, Bool.not_eq_true', Bool.not_eq_false', Bool.and_eq_true, Bool.or_eq_true, Bool.and_eq_false_imp, Bool.or_eq_false_iff, ne_eq, Classical.not_not] at hq)
       | with_reducible refine retP_ret_i ?_
       | with_reducible refine retP_normal_i ?_
       | (with_reducible (show bindG _ _ _ _ _); simp only [hall])) <;> try simp only [Go.AM.S1, Go.AM.S2, Go.AM.S3, Go.AM.S4, Go.AM.S5, Go.AM.S6, Go.AM.S7, Go.AM.S8, Go.AM.S9, Nat.reduceAdd, Nat.reduceMul, Nat.reduceSub, ↓reduceIte, Nat.reduceEqDiff, Nat.reduceLT, Nat.reduceLeDiff, reduceCtorEq, Int.reduceBEq, Int.reduceBNe, Nat.reduceBEq, Int.reduceEq, Int.reduceToNat, Int.reduceLE, Int.reduceLT, Nat.reduceDiv, Int.reduceAdd, Int.reduceSub, Int.reduceMul, Int.reduceNeg, Int.reduceGT, Int.reduceGE, Nat.reduceMod, ty_3, ty_4])
    | (with_reducible refine hX _ _ ?_; clear hX X)
    | with_reducible refine ops_nil_i ?_
    | with_reducible refine opsN_nil_i ?_
    | (with_reducible refine hK _ _ ?_; clear hK K)
    | with_reducible refine thenP_normal_i ?_
    | with_reducible refine zzr1 _ _ ?_
    | with_reducible refine zzr0 _ _ ?_
    | (with_reducible refine awp_seq_l (a := .region 1 _ _) [4] ?_; intro Kzzr1 zzr1)
    | (with_reducible refine awp_seq_l (a := .region 0 _ _) [0, 1] ?_; intro Kzzr0 zzr0)
    | (with_reducible refine awp_seq_k ?_; intro K hK)
    | (with_reducible refine awp_region_a ?_; intro all hall K hK)
    | (with_reducible refine awp_draw_n ?_ ?_; kernel_rfl; intro all hall K hK)
    | (with_reducible refine Chk_i ?_ ?_)
    | (with_reducible refine keysC_i ?_; kernel_rfl)
    | (with_reducible first | refine awp_block_i ?_ | refine awp_skip_i ?_ | refine awp_ret_i ?_ | refine awp_exit_i ?_ | refine thenP_ret_i ?_ | refine thenP_exit_i ?_ | refine lpP_ret_i ?_ | refine lpP_exit_i ?_ | refine unrP_succ_i ?_ | refine unrP_ret_i ?_ | refine unrP_exit_i ?_ | refine blockP_normal_i ?_ | refine blockP_ret_i ?_)
    | (with_reducible refine blockP_exit_i ?_; simp only [↓reduceIte, Nat.reduceEqDiff])
    | with_reducible refine lpP_normal_i ?_)
  all_goals (unfold infS; refine congrArg _ ?_; repeat' split)
  all_goals first
    | (exfalso; omega)
    | rfl
    | (cases s <;> first | rfl | simp at * | (exfalso; omega))
theorem sound_74 : Sound Try.prog 74 .body (norm s74) := by
  refine sound_norm (sound_body Try.func74 (show Try.f74.body = some (code Try.f74) from rfl) (by kernel_rfl) tysOk G77_ok (drawOk_ok (by kernel_rfl) tysOk G77_ok) (by kernel_rfl) fun ds p r hs hp => ?_)
  unfold s74 at hs
  split at hs
  · cases hs; exact ⟨Nat.le_of_ble_eq_true (by kernel_rfl), w74 _ _ hp⟩
  · cases hs
noncomputable def G74 : Gam := (74, .body, norm s74) :: G77
theorem G74_ok : GamOk Try.prog G74 := gamOk_cons sound_74 G77_ok
end Go.Proofs.AMT
namespace Go.AM.LN
theorem len_mono {x y : Nat} (h : x ≤ y) : (limbs x).length ≤ (limbs y).length := by
  rw [len_limbs, len_limbs]; have := blen_mono h; omega
theorem len_zero {x : Nat} : (limbs x).length = 0 ↔ x = 0 := by
  rw [len_limbs]; have := @blen_zero x; omega
theorem limbs_getD0 (n : Nat) : (limbs n).getD 0 0 = ((n % 18446744073709551616 : Nat) : Int) := by
  by_cases h : n = 0
  · subst h; rfl
  · rw [limbs_pos h]; rfl
theorem odd_eq (q : Nat) : (bits .and .u64 ((limbs q).getD 0 0) 1 == 1) = (q % 2 == 1) := by
  have h := and_mask (a := (limbs q).getD 0 0) 1 (lim_get (lim_limbs q)) (by omega)
  rw [show (2 : Int) ^ 1 - 1 = 1 by decide, show (2 : Int) ^ 1 = 2 by decide] at h
  rw [h, limbs_getD0, Bool.eq_iff_iff]
  simp
  omega
theorem len_le_of {n k : Nat} (h : n < 2 ^ (64 * k)) : (limbs n).length ≤ k := by
  rw [len_limbs]; have := blen_lt.2 h; omega
theorem lt_of_len {n k : Nat} (h : (limbs n).length ≤ k) : n < 2 ^ (64 * k) := by
  rw [len_limbs] at h; exact blen_lt.1 (by omega)
theorem bits_list {a : List Int} (h : a.length ≤ 4) : List.map (Value.int .u64) (List.take 4 a) ++ List.drop (List.take 4 a).length [Value.int .u64 0, Value.int .u64 0, Value.int .u64 0, Value.int .u64 0] = [Value.int .u64 (a.getD 0 0), Value.int .u64 (a.getD 1 0), Value.int .u64 (a.getD 2 0), Value.int .u64 (a.getD 3 0)] := by
  match a, h with
  | [], _ => rfl
  | [_], _ => rfl
  | [_, _], _ => rfl
  | [_, _, _], _ => rfl
  | [_, _, _, _], _ => rfl
/-! to the right -/
theorem shr_word {x y : Int} {s : Nat} (hx : 0 ≤ x ∧ x < 18446744073709551616) (hy : 0 ≤ y ∧ y < 18446744073709551616) (hs : s ≤ 64) :
    bits .or .u64 (x / 2 ^ s) (y * 2 ^ (64 - s) % 18446744073709551616) = ((x.toNat / 2 ^ s + (y.toNat * 2 ^ (64 - s)) % 18446744073709551616 : Nat) : Int) := by
  have h := shl_word (x := y) (y := x) (s := 64 - s) hy hx (by omega)
  rw [show 64 - (64 - s) = s by omega] at h
  have hc : bits .or .u64 (x / 2 ^ s) (y * 2 ^ (64 - s) % 18446744073709551616) = bits .or .u64 (y * 2 ^ (64 - s) % 18446744073709551616) (x / 2 ^ s) := by
    simp only [bits]; rw [BitVec.or_comm]
  rw [hc, h, Nat.add_comm]
theorem shr_val {x d s : Nat} (hs : s ≤ 64) : (x + 18446744073709551616 * d) / 2 ^ s = x / 2 ^ s + d * 2 ^ (64 - s) := by
  have e : (18446744073709551616 : Nat) = 2 ^ s * 2 ^ (64 - s) := by rw [← Nat.pow_add, show s + (64 - s) = 64 by omega]
  rw [e, Nat.mul_assoc, Nat.add_mul_div_left _ _ (Nat.two_pow_pos s), Nat.mul_comm d]
theorem shr_step {a o : List Int} {i s : Nat} (la : lim a) (hi : i < a.length) (hl : o.length = a.length) (hs : s ≤ 64)
    (h : val (o.take i) + 2 ^ (64 * i) * (val (a.drop i) / 2 ^ s) = val a / 2 ^ s) :
    val ((o.set i (((a.getD i 0).toNat / 2 ^ s + ((a.getD (i + 1) 0).toNat * 2 ^ (64 - s)) % 18446744073709551616 : Nat) : Int)).take (i + 1)) + 2 ^ (64 * (i + 1)) * (val (a.drop (i + 1)) / 2 ^ s) = val a / 2 ^ s := by
  rw [val_take_set (by omega), Int.toNat_natCast, p64, ← h, drop_cons hi]
  simp only [val]
  rw [shr_val hs]
  have hy : (val (a.drop (i + 1)) * 2 ^ (64 - s)) % 18446744073709551616 = ((a.getD (i + 1) 0).toNat * 2 ^ (64 - s)) % 18446744073709551616 := by
    have : val (a.drop (i + 1)) % 18446744073709551616 = (a.getD (i + 1) 0).toNat := by
      rw [val_drop a _ la, val_getD a _ la]
    rw [Nat.mul_mod, this, ← Nat.mul_mod_mod]
    rw [Nat.mod_mod]
    rw [Nat.mul_mod, Nat.mod_mod, ← Nat.mul_mod]
  have hd : (val (a.drop (i + 1)) * 2 ^ (64 - s)) / 18446744073709551616 = val (a.drop (i + 1)) / 2 ^ s := by
    have e : (18446744073709551616 : Nat) = 2 ^ s * 2 ^ (64 - s) := by rw [← Nat.pow_add, show s + (64 - s) = 64 by omega]
    rw [e, Nat.mul_div_mul_right _ _ (Nat.two_pow_pos _)]
  have e := Nat.div_add_mod (val (a.drop (i + 1)) * 2 ^ (64 - s)) 18446744073709551616
  rw [hy, hd] at e
  rw [← e, Nat.mul_add, Nat.mul_add, Nat.mul_add]
  have : 2 ^ (64 * i) * (18446744073709551616 * (val (a.drop (i + 1)) / 2 ^ s)) = 18446744073709551616 * 2 ^ (64 * i) * (val (a.drop (i + 1)) / 2 ^ s) := by ac_rfl
  rw [this]
  omega
theorem mod_word {a : List Int} {s : Nat} (la : lim a) (hs : s ≤ 64) : val a % 2 ^ s = (a.getD 0 0).toNat % 2 ^ s := by
  cases a with
  | nil => simp [val]
  | cons x r =>
    simp only [val, List.getD_cons_zero]
    have e : (18446744073709551616 : Nat) = 2 ^ s * 2 ^ (64 - s) := by rw [← Nat.pow_add, show s + (64 - s) = 64 by omega]
    rw [e, Nat.mul_assoc, Nat.add_mul_mod_self_left]
end Go.AM.LN
set_option maxRecDepth 20000
namespace Go.Proofs.AMT
open Go.AM Go.AM.LN
attribute [local congr] bindO_congr bindS_congr bindG_congr awpOps_congr aOne_congr awp_congr aCond_congr awpD_congr dOne_congr keysB_congr nOne_congr thenP_congr blockP_congr Chk_congr Brk_congr
noncomputable def s48 : CSpec := fun ds => match ds with
  | [.v (.int .i64 d), .v (.bool s), .sl .u64 a, .sl .u64 b] => some ((lim a ∧ a.length ≤ 90000000) ∧ (lim b ∧ b.length ≤ 90000000) ∧ val b ≠ 0 ∧ (val a < val b ∨ val b = 1) ∧ sz a ≤ 2000 ∧ sz b ≤ 2000, .many [.fresh .u64 (limbs (divS d s (val a) (val b)).1), .v (.bool (divS d s (val a) (val b)).2)])
  | _ => none
theorem s48_eq (d : Int) (s : Bool) (a : List Int) (b : List Int) : norm s48 [.v (.int .i64 d), .v (.bool s), .sl .u64 a, .sl .u64 b] = some ((lim a ∧ a.length ≤ 90000000) ∧ (lim b ∧ b.length ≤ 90000000) ∧ val b ≠ 0 ∧ (val a < val b ∨ val b = 1) ∧ sz a ≤ 2000 ∧ sz b ≤ 2000, .many [.fresh .u64 (limbs (divS d s (val a) (val b)).1), .v (.bool (divS d s (val a) (val b)).2)]) := rfl
theorem s48_nil1 (d : Int) (s : Bool)  (b : List Int) : norm s48 [.v (.int .i64 d), .v (.bool s), .v (.slice none 0 0), .sl .u64 b] = some ((lim ([] : List Int) ∧ ([] : List Int).length ≤ 90000000) ∧ (lim b ∧ b.length ≤ 90000000) ∧ val b ≠ 0 ∧ (val ([] : List Int) < val b ∨ val b = 1) ∧ sz ([] : List Int) ≤ 2000 ∧ sz b ≤ 2000, .many [.fresh .u64 (limbs (divS d s (val ([] : List Int)) (val b)).1), .v (.bool (divS d s (val ([] : List Int)) (val b)).2)]) := rfl
theorem s48_nil2 (d : Int) (s : Bool) (a : List Int)  : norm s48 [.v (.int .i64 d), .v (.bool s), .sl .u64 a, .v (.slice none 0 0)] = some ((lim a ∧ a.length ≤ 90000000) ∧ (lim ([] : List Int) ∧ ([] : List Int).length ≤ 90000000) ∧ val ([] : List Int) ≠ 0 ∧ (val a < val ([] : List Int) ∨ val ([] : List Int) = 1) ∧ sz a ≤ 2000 ∧ sz ([] : List Int) ≤ 2000, .many [.fresh .u64 (limbs (divS d s (val a) (val ([] : List Int))).1), .v (.bool (divS d s (val a) (val ([] : List Int))).2)]) := rfl
theorem s48_nil3 (d : Int) (s : Bool)   : norm s48 [.v (.int .i64 d), .v (.bool s), .v (.slice none 0 0), .v (.slice none 0 0)] = some ((lim ([] : List Int) ∧ ([] : List Int).length ≤ 90000000) ∧ (lim ([] : List Int) ∧ ([] : List Int).length ≤ 90000000) ∧ val ([] : List Int) ≠ 0 ∧ (val ([] : List Int) < val ([] : List Int) ∨ val ([] : List Int) = 1) ∧ sz ([] : List Int) ≤ 2000 ∧ sz ([] : List Int) ≤ 2000, .many [.fresh .u64 (limbs (divS d s (val ([] : List Int)) (val ([] : List Int))).1), .v (.bool (divS d s (val ([] : List Int)) (val ([] : List Int))).2)]) := rfl
theorem k48_28 : lk G74 28 = some (.body, norm s28) := rfl
theorem k48_46 : lk G74 46 = some (.body, norm s46) := rfl
theorem k48_75 : lk G74 75 = some (.body, norm s75) := rfl
theorem k48_76 : lk G74 76 = some (.body, norm s76) := rfl
theorem k48_77 : lk G74 77 = some (.body, norm s77) := rfl
theorem k48_78 : lk G74 78 = some (.body, norm s78) := rfl
set_option maxHeartbeats 20000000 in
theorem w48 (d : Int) (s : Bool) (a : List Int) (b : List Int) (hp : (lim a ∧ a.length ≤ 90000000) ∧ (lim b ∧ b.length ≤ 90000000) ∧ val b ≠ 0 ∧ (val a < val b ∨ val b = 1) ∧ sz a ≤ 2000 ∧ sz b ≤ 2000) : awp ty G74 (code Try.f48) (retP ty Try.f48.results.toList (.many [.fresh .u64 (limbs (divS d s (val a) (val b)).1), .v (.bool (divS d s (val a) (val b)).2)])) (entry 0 [.v (.int .i64 d), .v (.bool s), .sl .u64 a, .sl .u64 b]) [] := by
  unfold code
  simp only [Try.f48, Option.getD_some]
  have za := sz_le a
  have zb := sz_le b
  have hr := Nat.mod_lt (val a) (show 0 < val b by omega)
  have hq1 := Nat.div_le_self (val a) (val b)
  have l1 := len_mono hq1
  have l2 := len_mono (Nat.le_of_lt hr)
  have l3 := len_mono (Nat.sub_le (val b) (val a % val b))
  have ya := len_limbs_sz hp.1.1
  have yb := len_limbs_sz hp.2.1.1
  have z1 := @len_zero (val a % val b)
  have z2 := @len_zero (val a / val b)
  have l4 : (limbs 1).length = 1 := rfl
  have l5 : val (limbs 1) = 1 := rfl
  all_goals repeat' (first
    | ((first
       | (with_reducible refine ops_k ?_; intro X hX)
       | (with_reducible refine opsN_k ?_; intro X hX)
       | (with_reducible show awp _ _ _ _ (keepL _ _) _)
       | with_reducible refine awp_cond_k ?_
       | (with_reducible refine Brk_i ?_ ?_ <;> intro hb <;> (try simp only [hb]) <;> have hq := hb <;> try simp only [decide_eq_true_eq, decide_eq_false_iff_not, gt_iff_lt, ge_iff_le, Int.not_lt, Int.not_le, beq_iff_eq, beq_eq_false_iff_ne, Bool.not_eq_true', Bool.not_eq_false', Bool.and_eq_true, Bool.or_eq_true, Bool.and_eq_false_imp, Bool.or_eq_false_iff, ne_eq, Classical.not_not] at hq)
       | with_reducible refine retP_ret_i ?_
       | with_reducible refine retP_normal_i ?_
       | (with_reducible (show bindG _ _ _ _ _); simp only [hall])) <;> try simp only [Go.AM.S1, Go.AM.S2, Go.AM.S3, Go.AM.S4, Go.AM.S5, Go.AM.S6, Go.AM.S7, Go.AM.S8, Go.AM.S9, Nat.reduceAdd, Nat.reduceMul, Nat.reduceSub, ↓reduceIte, Nat.reduceEqDiff, Nat.reduceLT, Nat.reduceLeDiff, reduceCtorEq, Int.reduceBEq, Int.reduceBNe, Nat.reduceBEq, Int.reduceEq, Int.reduceToNat, Int.reduceLE, Int.reduceLT, Nat.reduceDiv, Int.reduceAdd, Int.reduceSub, Int.reduceMul, Int.reduceNeg, Int.reduceGT, Int.reduceGE, Nat.reduceMod, k48_28, s28_eq, k48_46, s46_eq, s46_nil1, s46_nil2, s46_nil3, k48_75, s75_eq, s75_nil1, s75_nil2, s75_nil3, k48_76, s76_eq, s76_nil1, s76_nil2, s76_nil3, k48_77, s77_eq, k48_78, s78_eq, s78_nil1, s78_nil2, s78_nil3, ty_3, ty_4, ty_26, ty_42, val_limbs, odd_eq, Int.toNat_one])
    | (with_reducible refine hX _ _ ?_; clear hX X)
    | with_reducible refine ops_nil_i ?_
    | with_reducible refine opsN_nil_i ?_
    | (with_reducible refine hK _ _ ?_; clear hK K)
    | with_reducible refine thenP_normal_i ?_
    | with_reducible refine zzr7 _ _ ?_
    | with_reducible refine zzsr5 _ _ ?_
    | with_reducible refine zzr5 _ _ ?_
    | with_reducible refine zzr4 _ _ ?_
    | with_reducible refine zzsr2 _ _ ?_
    | with_reducible refine zzr3 _ _ ?_
    | with_reducible refine zzr2 _ _ ?_
    | with_reducible refine zzr1 _ _ ?_
    | with_reducible refine zzr0 _ _ ?_
    | (with_reducible refine awp_seq_l (a := .region 7 _ _) [8, 9] ?_; intro Kzzr7 zzr7)
    | (with_reducible refine awp_seq_l (a := .seq (.region 5 _ _) _) [10] ?_; intro Kzzsr5 zzsr5)
    | (with_reducible refine awp_seq_l (a := .region 5 _ _) [10, 47] ?_; intro Kzzr5 zzr5)
    | (with_reducible refine awp_seq_l (a := .region 4 _ _) [0, 1, 10, 11, 13] ?_; intro Kzzr4 zzr4)
    | (with_reducible refine awp_seq_l (a := .seq (.region 2 _ _) _) [0, 1, 3, 10, 11] ?_; intro Kzzsr2 zzsr2)
    | (with_reducible refine awp_seq_l (a := .region 3 _ _) [8, 9] ?_; intro Kzzr3 zzr3)
    | (with_reducible refine awp_seq_l (a := .region 2 _ _) [0, 1, 3, 10, 11, 24] ?_; intro Kzzr2 zzr2)
    | (with_reducible refine awp_seq_l (a := .region 1 _ _) [0, 1, 3, 10, 11] ?_; intro Kzzr1 zzr1)
    | (with_reducible refine awp_seq_l (a := .region 0 _ _) [0, 1, 2, 3] ?_; intro Kzzr0 zzr0)
    | (with_reducible refine awp_seq_k ?_; intro K hK)
    | (with_reducible refine awp_region_a ?_; intro all hall K hK)
    | (with_reducible refine awp_draw_n ?_ ?_; kernel_rfl; intro all hall K hK)
    | (with_reducible refine Chk_i ?_ ?_)
    | (with_reducible refine keysC_i ?_; kernel_rfl)
    | (with_reducible first | refine awp_block_i ?_ | refine awp_skip_i ?_ | refine awp_ret_i ?_ | refine awp_exit_i ?_ | refine thenP_ret_i ?_ | refine thenP_exit_i ?_ | refine lpP_ret_i ?_ | refine lpP_exit_i ?_ | refine unrP_succ_i ?_ | refine unrP_ret_i ?_ | refine unrP_exit_i ?_ | refine blockP_normal_i ?_ | refine blockP_ret_i ?_)
    | (with_reducible refine blockP_exit_i ?_; simp only [↓reduceIte, Nat.reduceEqDiff])
    | with_reducible refine lpP_normal_i ?_)
  all_goals (try simp only [inR])
  all_goals first
    | omega
    | exact ⟨hp.2.1, ⟨lim_limbs _, by omega⟩, by omega⟩
    | exact ⟨⟨lim_limbs _, by omega⟩, lim_limbs _, by omega⟩
    | (rw [divS_ex (by omega)]; all_goals (first | rfl | exact ⟨rfl, rfl⟩ | exact ⟨⟨rfl, rfl⟩, rfl⟩))
    | (rw [divS_up (by omega) (by assumption)]; all_goals (first | rfl | exact ⟨rfl, rfl⟩ | exact ⟨⟨rfl, rfl⟩, rfl⟩))
    | (rw [divS_dn (by omega) (by assumption)]; all_goals (first | rfl | exact ⟨rfl, rfl⟩ | exact ⟨⟨rfl, rfl⟩, rfl⟩))
    | (rw [divS_up (by omega) (by rw [odd0 (by omega)]; assumption)]; all_goals (first | rfl | exact ⟨rfl, rfl⟩ | exact ⟨⟨rfl, rfl⟩, rfl⟩))
    | (rw [divS_dn (by omega) (by rw [odd0 (by omega)]; assumption)]; all_goals (first | rfl | exact ⟨rfl, rfl⟩ | exact ⟨⟨rfl, rfl⟩, rfl⟩))
theorem sound_48 : Sound Try.prog 48 .body (norm s48) := by
  refine sound_norm (sound_body Try.func48 (show Try.f48.body = some (code Try.f48) from rfl) (by kernel_rfl) tysOk G74_ok (drawOk_ok (by kernel_rfl) tysOk G74_ok) (by kernel_rfl) fun ds p r hs hp => ?_)
  unfold s48 at hs
  split at hs
  · cases hs; exact ⟨Nat.le_of_ble_eq_true (by kernel_rfl), w48 _ _ _ _ hp⟩
  · cases hs
noncomputable def G48 : Gam := (48, .body, norm s48) :: G74
theorem G48_ok : GamOk Try.prog G48 := gamOk_cons sound_48 G74_ok
end Go.Proofs.AMT
set_option maxRecDepth 20000
namespace Go.Proofs.AMT
open Go.AM Go.AM.LN
attribute [local congr] bindO_congr bindS_congr bindG_congr awpOps_congr aOne_congr awp_congr aCond_congr awpD_congr dOne_congr keysB_congr nOne_congr thenP_congr blockP_congr Chk_congr Brk_congr
noncomputable def s45 : CSpec := fun ds => match ds with
  | [.sl .u64 a, .sl .u64 b, .v (.int .i64 n)] => some ((lim a ∧ a.length ≤ 90000000) ∧ (lim b ∧ b.length ≤ 90000000) ∧ (0 ≤ n → (sz a : Int) + (n + 63) / 64 ≤ 2000) ∧ (n < 0 → (sz b : Int) + (-n + 63) / 64 ≤ 2000) ∧ -9000000 < n ∧ n < 9000000, .many [.view .u64 (if 0 ≤ n then limbs (val a * 2 ^ n.toNat) else a), .view .u64 (if 0 ≤ n then b else limbs (val b * 2 ^ (-n).toNat))])
  | _ => none
theorem s45_eq (a : List Int) (b : List Int) (n : Int) : norm s45 [.sl .u64 a, .sl .u64 b, .v (.int .i64 n)] = some ((lim a ∧ a.length ≤ 90000000) ∧ (lim b ∧ b.length ≤ 90000000) ∧ (0 ≤ n → (sz a : Int) + (n + 63) / 64 ≤ 2000) ∧ (n < 0 → (sz b : Int) + (-n + 63) / 64 ≤ 2000) ∧ -9000000 < n ∧ n < 9000000, .many [.view .u64 (if 0 ≤ n then limbs (val a * 2 ^ n.toNat) else a), .view .u64 (if 0 ≤ n then b else limbs (val b * 2 ^ (-n).toNat))]) := rfl
theorem s45_nil1  (b : List Int) (n : Int) : norm s45 [.v (.slice none 0 0), .sl .u64 b, .v (.int .i64 n)] = some ((lim ([] : List Int) ∧ ([] : List Int).length ≤ 90000000) ∧ (lim b ∧ b.length ≤ 90000000) ∧ (0 ≤ n → (sz ([] : List Int) : Int) + (n + 63) / 64 ≤ 2000) ∧ (n < 0 → (sz b : Int) + (-n + 63) / 64 ≤ 2000) ∧ -9000000 < n ∧ n < 9000000, .many [.view .u64 (if 0 ≤ n then limbs (val ([] : List Int) * 2 ^ n.toNat) else ([] : List Int)), .view .u64 (if 0 ≤ n then b else limbs (val b * 2 ^ (-n).toNat))]) := rfl
theorem s45_nil2 (a : List Int)  (n : Int) : norm s45 [.sl .u64 a, .v (.slice none 0 0), .v (.int .i64 n)] = some ((lim a ∧ a.length ≤ 90000000) ∧ (lim ([] : List Int) ∧ ([] : List Int).length ≤ 90000000) ∧ (0 ≤ n → (sz a : Int) + (n + 63) / 64 ≤ 2000) ∧ (n < 0 → (sz ([] : List Int) : Int) + (-n + 63) / 64 ≤ 2000) ∧ -9000000 < n ∧ n < 9000000, .many [.view .u64 (if 0 ≤ n then limbs (val a * 2 ^ n.toNat) else a), .view .u64 (if 0 ≤ n then ([] : List Int) else limbs (val ([] : List Int) * 2 ^ (-n).toNat))]) := rfl
theorem s45_nil3   (n : Int) : norm s45 [.v (.slice none 0 0), .v (.slice none 0 0), .v (.int .i64 n)] = some ((lim ([] : List Int) ∧ ([] : List Int).length ≤ 90000000) ∧ (lim ([] : List Int) ∧ ([] : List Int).length ≤ 90000000) ∧ (0 ≤ n → (sz ([] : List Int) : Int) + (n + 63) / 64 ≤ 2000) ∧ (n < 0 → (sz ([] : List Int) : Int) + (-n + 63) / 64 ≤ 2000) ∧ -9000000 < n ∧ n < 9000000, .many [.view .u64 (if 0 ≤ n then limbs (val ([] : List Int) * 2 ^ n.toNat) else ([] : List Int)), .view .u64 (if 0 ≤ n then ([] : List Int) else limbs (val ([] : List Int) * 2 ^ (-n).toNat))]) := rfl
theorem k45_72 : lk G48 72 = some (.body, norm s72) := rfl
set_option maxHeartbeats 20000000 in
theorem w45 (a : List Int) (b : List Int) (n : Int) (hp : (lim a ∧ a.length ≤ 90000000) ∧ (lim b ∧ b.length ≤ 90000000) ∧ (0 ≤ n → (sz a : Int) + (n + 63) / 64 ≤ 2000) ∧ (n < 0 → (sz b : Int) + (-n + 63) / 64 ≤ 2000) ∧ -9000000 < n ∧ n < 9000000) : awp ty G48 (code Try.f45) (retP ty Try.f45.results.toList (.many [.view .u64 (if 0 ≤ n then limbs (val a * 2 ^ n.toNat) else a), .view .u64 (if 0 ≤ n then b else limbs (val b * 2 ^ (-n).toNat))])) (entry 0 [.sl .u64 a, .sl .u64 b, .v (.int .i64 n)]) [] := by
  unfold code
  simp only [Try.f45, Option.getD_some]
  have en : 0 - n = -n := by omega
  all_goals repeat' (first
    | ((first
       | (with_reducible refine ops_k ?_; intro X hX)
       | (with_reducible refine opsN_k ?_; intro X hX)
       | (with_reducible show awp _ _ _ _ (keepL _ _) _)
       | with_reducible refine awp_cond_k ?_
       | (with_reducible refine Brk_i ?_ ?_ <;> intro hb <;> (try simp only [hb]) <;> have hq := hb <;> try simp only [decide_eq_true_eq, decide_eq_false_iff_not, gt_iff_lt, ge_iff_le, Int.not_lt, Int.not_le, beq_iff_eq, beq_eq_false_iff_ne, Bool.not_eq_true', Bool.not_eq_false', Bool.and_eq_true, Bool.or_eq_true, Bool.and_eq_false_imp, Bool.or_eq_false_iff, ne_eq, Classical.not_not] at hq)
       | with_reducible refine retP_ret_i ?_
       | with_reducible refine retP_normal_i ?_
       | (with_reducible (show bindG _ _ _ _ _); simp only [hall])) <;> try simp only [Go.AM.S1, Go.AM.S2, Go.AM.S3, Go.AM.S4, Go.AM.S5, Go.AM.S6, Go.AM.S7, Go.AM.S8, Go.AM.S9, Nat.reduceAdd, Nat.reduceMul, Nat.reduceSub, ↓reduceIte, Nat.reduceEqDiff, Nat.reduceLT, Nat.reduceLeDiff, reduceCtorEq, Int.reduceBEq, Int.reduceBNe, Nat.reduceBEq, Int.reduceEq, Int.reduceToNat, Int.reduceLE, Int.reduceLT, Nat.reduceDiv, Int.reduceAdd, Int.reduceSub, Int.reduceMul, Int.reduceNeg, Int.reduceGT, Int.reduceGE, Nat.reduceMod, k45_72, s72_eq, s72_nil1, ty_3, ty_26, ty_42, en])
    | (with_reducible refine hX _ _ ?_; clear hX X)
    | with_reducible refine ops_nil_i ?_
    | with_reducible refine opsN_nil_i ?_
    | (with_reducible refine hK _ _ ?_; clear hK K)
    | with_reducible refine thenP_normal_i ?_
    | with_reducible refine zzr4 _ _ ?_
    | with_reducible refine zzsr1 _ _ ?_
    | with_reducible refine zzr1 _ _ ?_
    | with_reducible refine zzr0 _ _ ?_
    | (with_reducible refine awp_seq_l (a := .region 4 _ _) [6, 7] ?_; intro Kzzr4 zzr4)
    | (with_reducible refine awp_seq_l (a := .seq (.region 1 _ _) _) [0, 1] ?_; intro Kzzsr1 zzsr1)
    | (with_reducible refine awp_seq_l (a := .region 1 _ _) [0, 1, 2, 9] ?_; intro Kzzr1 zzr1)
    | (with_reducible refine awp_seq_l (a := .region 0 _ _) [0, 1, 2] ?_; intro Kzzr0 zzr0)
    | (with_reducible refine awp_seq_k ?_; intro K hK)
    | (with_reducible refine awp_region_a ?_; intro all hall K hK)
    | (with_reducible refine awp_draw_n ?_ ?_; kernel_rfl; intro all hall K hK)
    | (with_reducible refine Chk_i ?_ ?_)
    | (with_reducible refine keysC_i ?_; kernel_rfl)
    | (with_reducible first | refine awp_block_i ?_ | refine awp_skip_i ?_ | refine awp_ret_i ?_ | refine awp_exit_i ?_ | refine thenP_ret_i ?_ | refine thenP_exit_i ?_ | refine lpP_ret_i ?_ | refine lpP_exit_i ?_ | refine unrP_succ_i ?_ | refine unrP_ret_i ?_ | refine unrP_exit_i ?_ | refine blockP_normal_i ?_ | refine blockP_ret_i ?_)
    | (with_reducible refine blockP_exit_i ?_; simp only [↓reduceIte, Nat.reduceEqDiff])
    | with_reducible refine lpP_normal_i ?_)
  all_goals (try simp only [inR])
  all_goals first
    | omega
    | exact ⟨⟨hp.1.1, by omega⟩, by omega, hp.2.2.1 (by omega)⟩
    | exact ⟨⟨hp.2.1.1, by omega⟩, by omega, hp.2.2.2.1 (by omega)⟩
    | (rw [if_pos (by omega), if_pos (by omega)]; all_goals (first | rfl | exact ⟨rfl, rfl⟩))
    | (rw [if_neg (by omega), if_neg (by omega)]; all_goals (first | rfl | exact ⟨rfl, rfl⟩))
theorem sound_45 : Sound Try.prog 45 .body (norm s45) := by
  refine sound_norm (sound_body Try.func45 (show Try.f45.body = some (code Try.f45) from rfl) (by kernel_rfl) tysOk G48_ok (drawOk_ok (by kernel_rfl) tysOk G48_ok) (by kernel_rfl) fun ds p r hs hp => ?_)
  unfold s45 at hs
  split at hs
  · cases hs; exact ⟨Nat.le_of_ble_eq_true (by kernel_rfl), w45 _ _ _ hp⟩
  · cases hs
noncomputable def G45 : Gam := (45, .body, norm s45) :: G48
theorem G45_ok : GamOk Try.prog G45 := gamOk_cons sound_45 G48_ok
noncomputable def s50 : CSpec := fun ds => match ds with
  | [.sl .u64 a] => some (lim a ∧ a.length ≤ 4, .one (.v (.agg #[.int .u64 (a.getD 0 0), .int .u64 (a.getD 1 0), .int .u64 (a.getD 2 0), .int .u64 (a.getD 3 0)])))
  | _ => none
theorem s50_eq (a : List Int) : norm s50 [.sl .u64 a] = some (lim a ∧ a.length ≤ 4, .one (.v (.agg #[.int .u64 (a.getD 0 0), .int .u64 (a.getD 1 0), .int .u64 (a.getD 2 0), .int .u64 (a.getD 3 0)]))) := rfl
theorem s50_nil1  : norm s50 [.v (.slice none 0 0)] = some (lim ([] : List Int) ∧ ([] : List Int).length ≤ 4, .one (.v (.agg #[.int .u64 (([] : List Int).getD 0 0), .int .u64 (([] : List Int).getD 1 0), .int .u64 (([] : List Int).getD 2 0), .int .u64 (([] : List Int).getD 3 0)]))) := rfl
set_option maxHeartbeats 20000000 in
theorem w50 (a : List Int) (hp : lim a ∧ a.length ≤ 4) : awp ty G45 (code Try.f50) (retP ty Try.f50.results.toList (.one (.v (.agg #[.int .u64 (a.getD 0 0), .int .u64 (a.getD 1 0), .int .u64 (a.getD 2 0), .int .u64 (a.getD 3 0)])))) (entry 0 [.sl .u64 a]) [] := by
  unfold code
  simp only [Try.f50, Option.getD_some]
  all_goals repeat' (first
    | ((first
       | (with_reducible refine ops_k ?_; intro X hX)
       | (with_reducible refine opsN_k ?_; intro X hX)
       | (with_reducible show awp _ _ _ _ (keepL _ _) _)
       | with_reducible refine awp_cond_k ?_
       | (with_reducible refine Brk_i ?_ ?_ <;> intro hb <;> (try simp only [hb]) <;> have hq := hb <;> try simp only [decide_eq_true_eq, decide_eq_false_iff_not, gt_iff_lt, ge_iff_le, Int.not_lt, Int.not_le, beq_iff_eq, beq_eq_false_iff_ne, Bool.not_eq_true', Bool.not_eq_false', Bool.and_eq_true, Bool.or_eq_true, Bool.and_eq_false_imp, Bool.or_eq_false_iff, ne_eq, Classical.not_not] at hq)
       | with_reducible refine retP_ret_i ?_
       | with_reducible refine retP_normal_i ?_
       | (with_reducible (show bindG _ _ _ _ _); simp only [hall])) <;> try simp only [Go.AM.S1, Go.AM.S2, Go.AM.S3, Go.AM.S4, Go.AM.S5, Go.AM.S6, Go.AM.S7, Go.AM.S8, Go.AM.S9, Nat.reduceAdd, Nat.reduceMul, Nat.reduceSub, ↓reduceIte, Nat.reduceEqDiff, Nat.reduceLT, Nat.reduceLeDiff, reduceCtorEq, Int.reduceBEq, Int.reduceBNe, Nat.reduceBEq, Int.reduceEq, Int.reduceToNat, Int.reduceLE, Int.reduceLT, Nat.reduceDiv, Int.reduceAdd, Int.reduceSub, Int.reduceMul, Int.reduceNeg, Int.reduceGT, Int.reduceGE, Nat.reduceMod, ty_26, ty_28, ty_42, aOne_copy, bindP_some, spCopy, spAppend, intSl, yInts, layAt, bits_list hp.2])
    | (with_reducible refine hX _ _ ?_; clear hX X)
    | with_reducible refine ops_nil_i ?_
    | with_reducible refine opsN_nil_i ?_
    | (with_reducible refine hK _ _ ?_; clear hK K)
    | with_reducible refine thenP_normal_i ?_
    | with_reducible refine zzr2 _ _ ?_
    | with_reducible refine zzr1 _ _ ?_
    | with_reducible refine zzr0 _ _ ?_
    | (with_reducible refine awp_seq_l (a := .region 2 _ _) [2] ?_; intro Kzzr2 zzr2)
    | (with_reducible refine awp_seq_l (a := .region 1 _ _) [2] ?_; intro Kzzr1 zzr1)
    | (with_reducible refine awp_seq_l (a := .region 0 _ _) [0, 2] ?_; intro Kzzr0 zzr0)
    | (with_reducible refine awp_seq_k ?_; intro K hK)
    | (with_reducible refine awp_region_a ?_; intro all hall K hK)
    | (with_reducible refine awp_draw_n ?_ ?_; kernel_rfl; intro all hall K hK)
    | (with_reducible refine Chk_i ?_ ?_)
    | (with_reducible refine keysC_i ?_; kernel_rfl)
    | (with_reducible first | refine awp_block_i ?_ | refine awp_skip_i ?_ | refine awp_ret_i ?_ | refine awp_exit_i ?_ | refine thenP_ret_i ?_ | refine thenP_exit_i ?_ | refine lpP_ret_i ?_ | refine lpP_exit_i ?_ | refine unrP_succ_i ?_ | refine unrP_ret_i ?_ | refine unrP_exit_i ?_ | refine blockP_normal_i ?_ | refine blockP_ret_i ?_)
    | (with_reducible refine blockP_exit_i ?_; simp only [↓reduceIte, Nat.reduceEqDiff])
    | with_reducible refine lpP_normal_i ?_)
  all_goals (try simp only [inR])
  all_goals first
    | omega
    | decide
theorem sound_50 : Sound Try.prog 50 .body (norm s50) := by
  refine sound_norm (sound_body Try.func50 (show Try.f50.body = some (code Try.f50) from rfl) (by kernel_rfl) tysOk G45_ok (drawOk_ok (by kernel_rfl) tysOk G45_ok) (by kernel_rfl) fun ds p r hs hp => ?_)
  unfold s50 at hs
  split at hs
  · cases hs; exact ⟨Nat.le_of_ble_eq_true (by kernel_rfl), w50 _ hp⟩
  · cases hs
noncomputable def G50 : Gam := (50, .body, norm s50) :: G45
theorem G50_ok : GamOk Try.prog G50 := gamOk_cons sound_50 G45_ok
end Go.Proofs.AMT
namespace Go.AM.LN
theorem getD_of_drop {o a : List Int} {i : Nat} (h : o.drop i = a.drop i) (ho : i < o.length) (ha : i < a.length) : o.getD i 0 = a.getD i 0 := by
  rw [drop_cons ho, drop_cons ha] at h
  exact (List.cons.inj h).1
theorem getD_set_self {o : List Int} {i : Nat} (h : i < o.length) (v : Int) : (o.set i v).getD i 0 = v := by simp [List.getD, h]
theorem shr_next {a o : List Int} {i s : Nat} (la : lim a) (hi : i < a.length) (hl : o.length = a.length) (hs : s ≤ 64) (lo : lim o) (hd : o.drop i = a.drop i)
    (h : val (o.take i) + 2 ^ (64 * i) * (val (a.drop i) / 2 ^ s) = val a / 2 ^ s) :
    (o.set i (o.getD i 0 / 2 ^ s)).set i (bits .or .u64 ((o.set i (o.getD i 0 / 2 ^ s)).getD i 0) (a.getD (i + 1) 0 * 2 ^ (64 - s) % 18446744073709551616)) = o.set i (((a.getD i 0).toNat / 2 ^ s + ((a.getD (i + 1) 0).toNat * 2 ^ (64 - s)) % 18446744073709551616 : Nat) : Int) ∧
    (a.length ≤ i + 1 → o.set i (o.getD i 0 / 2 ^ s) = o.set i (((a.getD i 0).toNat / 2 ^ s + ((a.getD (i + 1) 0).toNat * 2 ^ (64 - s)) % 18446744073709551616 : Nat) : Int)) ∧
    (0 ≤ (((a.getD i 0).toNat / 2 ^ s + ((a.getD (i + 1) 0).toNat * 2 ^ (64 - s)) % 18446744073709551616 : Nat) : Int) ∧ (((a.getD i 0).toNat / 2 ^ s + ((a.getD (i + 1) 0).toNat * 2 ^ (64 - s)) % 18446744073709551616 : Nat) : Int) < 18446744073709551616) ∧
    (o.set i (((a.getD i 0).toNat / 2 ^ s + ((a.getD (i + 1) 0).toNat * 2 ^ (64 - s)) % 18446744073709551616 : Nat) : Int)).drop (i + 1) = a.drop (i + 1) := by
  have hg := getD_of_drop hd (by omega) hi
  have h1 := shr_word (x := a.getD i 0) (y := a.getD (i + 1) 0) (s := s) (lim_get la) (lim_get la) hs
  have h2 := or_lim (a.getD i 0 / 2 ^ s) (a.getD (i + 1) 0 * 2 ^ (64 - s) % 18446744073709551616)
  rw [h1] at h2
  refine ⟨?_, fun hle => ?_, h2, ?_⟩
  · rw [List.set_set, getD_set_self (by omega), hg, h1]
  · rw [hg]
    have hx := lim_get la (i := i)
    obtain ⟨x, hx2⟩ := Int.eq_ofNat_of_zero_le hx.1
    rw [getD_out hle, hx2, Int.toNat_zero, Nat.zero_mul, Nat.zero_mod, Nat.add_zero, Int.natCast_ediv, Int.natCast_pow]
    rfl
  · rw [drop_set_succ]; exact drop_succ_of hd
end Go.AM.LN
set_option maxRecDepth 20000
namespace Go.Proofs.AMT
open Go.AM Go.AM.LN
attribute [local congr] bindO_congr bindS_congr bindG_congr awpOps_congr aOne_congr awp_congr aCond_congr awpD_congr dOne_congr keysB_congr nOne_congr thenP_congr blockP_congr Chk_congr Brk_congr
noncomputable def s49 : CSpec := fun ds => match ds with
  | [.sl .u64 a, .v (.int .i64 n)] => some ((lim a ∧ a.length ≤ 90000000) ∧ 1 ≤ n ∧ n ≤ 63, .many [.fresh .u64 (limbs (val a / 2 ^ n.toNat)), .v (.bool (val a % 2 ^ n.toNat != 0))])
  | _ => none
theorem s49_eq (a : List Int) (n : Int) : norm s49 [.sl .u64 a, .v (.int .i64 n)] = some ((lim a ∧ a.length ≤ 90000000) ∧ 1 ≤ n ∧ n ≤ 63, .many [.fresh .u64 (limbs (val a / 2 ^ n.toNat)), .v (.bool (val a % 2 ^ n.toNat != 0))]) := rfl
theorem s49_nil1  (n : Int) : norm s49 [.v (.slice none 0 0), .v (.int .i64 n)] = some ((lim ([] : List Int) ∧ ([] : List Int).length ≤ 90000000) ∧ 1 ≤ n ∧ n ≤ 63, .many [.fresh .u64 (limbs (val ([] : List Int) / 2 ^ n.toNat)), .v (.bool (val ([] : List Int) % 2 ^ n.toNat != 0))]) := rfl
theorem k49_43 : lk G50 43 = some (.body, norm s43) := rfl
theorem k49_70 : lk G50 70 = some (.body, norm sClone) := rfl
theorem k49_71 : lk G50 71 = some (.body, norm s71) := rfl
set_option maxHeartbeats 20000000 in
theorem w49 (a : List Int) (n : Int) (hp : (lim a ∧ a.length ≤ 90000000) ∧ 1 ≤ n ∧ n ≤ 63) : awp ty G50 (code Try.f49) (retP ty Try.f49.results.toList (.many [.fresh .u64 (limbs (val a / 2 ^ n.toNat)), .v (.bool (val a % 2 ^ n.toNat != 0))])) (entry 0 [.sl .u64 a, .v (.int .i64 n)]) [] := by
  unfold code
  simp only [Try.f49, Option.getD_some]
  have za := sz_le a
  have ya := len_limbs_sz hp.1.1
  obtain ⟨s, rfl⟩ := Int.eq_ofNat_of_zero_le (show 0 ≤ n by omega)
  have hd : (s : Int).tdiv 64 = 0 := by rw [Int.tdiv_eq_ediv_of_nonneg (by omega)]; omega
  have hm : (s : Int).tmod 64 = (s : Int) := by rw [Int.tmod_eq_emod_of_nonneg (by omega)]; omega
  have g1 : decide ((s : Int) < 1) = false := by simp; omega
  have dec0 : decide ((0 : Int) > 0) = false := rfl
  have g5 : decide ((s : Int) > 0) = true := by simp; omega
  have m1 : min s 64 = s := by omega
  have m2 : (64 - (s : Int)).toNat = 64 - s := by omega
  have m3 : min (64 - s) 64 = 64 - s := by omega
  have p1 : (2 : Int) ^ s < 2 ^ 64 := by exact_mod_cast Nat.pow_lt_pow_right (by omega) (show s < 64 by omega)
  have p2 : (1 : Int) ≤ 2 ^ s := by exact_mod_cast Nat.one_le_two_pow
  have p3 : (2 : Int) ^ 64 = 18446744073709551616 := by decide
  have mk : 1 * (2 : Int) ^ s % 18446744073709551616 = 2 ^ s := by omega
  have mk2 : ((2 : Int) ^ s - 1) % 18446744073709551616 = 2 ^ s - 1 := by omega
  have gone : (AM.bits .and .u64 ((limbs (val a)).getD 0 0) (2 ^ s - 1) == 0) = (val a % 2 ^ s == 0) := by
    rw [and_mask s (lim_get (lim_limbs _)) (by omega), ← val_limbs (val a), mod_word (lim_limbs _) (by omega), val_limbs]
    have h1 := lim_get (lim_limbs (val a)) (i := 0)
    generalize (limbs (val a)).getD 0 0 = x at *
    obtain ⟨y, rfl⟩ := Int.eq_ofNat_of_zero_le h1.1
    rw [Int.toNat_natCast, Bool.eq_iff_iff, beq_iff_eq, beq_iff_eq]
    have : (y : Int) % 2 ^ s = ((y % 2 ^ s : Nat) : Int) := by rw [Int.natCast_emod, Int.natCast_pow]; rfl
    rw [this]
    omega
  all_goals repeat' (first
    | ((first
       | (with_reducible refine ops_k ?_; intro X hX)
       | (with_reducible refine opsN_k ?_; intro X hX)
       | (with_reducible show awp _ _ _ _ (keepL _ _) _)
       | (with_reducible refine hX _ _ _ _ ?_; clear hX X)
       | (with_reducible refine opsD_k ?_; intro X hX)
       | with_reducible refine awp_cond_k ?_
       | (with_reducible refine Brk_i ?_ ?_ <;> intro hb <;> (try simp only [hb]) <;> have hq := hb <;> try simp only [decide_eq_true_eq, decide_eq_false_iff_not, gt_iff_lt, ge_iff_le, Int.not_lt, Int.not_le, beq_iff_eq, beq_eq_false_iff_ne, Bool.not_eq_true', Bool.not_eq_false', Bool.and_eq_true, Bool.or_eq_true, Bool.and_eq_false_imp, Bool.or_eq_false_iff, ne_eq, Classical.not_not] at hq)
       | with_reducible refine retP_ret_i ?_
       | with_reducible refine retP_normal_i ?_
       | (with_reducible (show bindG _ _ _ _ _); simp only [hall])) <;> try simp only [Go.AM.S1, Go.AM.S2, Go.AM.S3, Go.AM.S4, Go.AM.S5, Go.AM.S6, Go.AM.S7, Go.AM.S8, Go.AM.S9, Nat.reduceAdd, Nat.reduceMul, Nat.reduceSub, ↓reduceIte, Nat.reduceEqDiff, Nat.reduceLT, Nat.reduceLeDiff, reduceCtorEq, Int.reduceBEq, Int.reduceBNe, Nat.reduceBEq, Int.reduceEq, Int.reduceToNat, Int.reduceLE, Int.reduceLT, Nat.reduceDiv, Int.reduceAdd, Int.reduceSub, Int.reduceMul, Int.reduceNeg, Int.reduceGT, Int.reduceGE, Nat.reduceMod, k49_43, s43_eq, s43_nil1, k49_70, sClone_eq, sClone_nil, k49_71, s71_eq, s71_nil1, ty_3, ty_26, ty_42, take_sz hp.1.1, hd, hm, g1, m1, m2, m3, IntKind.bits, mk, mk2, sz, gone, List.take_length, dec0, g5])
    | (with_reducible refine hX _ _ ?_; clear hX X)
    | with_reducible refine opsD_nil_i ?_
    | (with_reducible refine keysB_i ?_; kernel_rfl)
    | ((with_reducible show clashK _ _ _ = true); kernel_rfl)
    | with_reducible refine ops_nil_i ?_
    | with_reducible refine opsN_nil_i ?_
    | (with_reducible refine hK _ _ ?_; clear hK K)
    | with_reducible refine thenP_normal_i ?_
    | with_reducible refine zzr18 _ _ ?_
    | with_reducible refine zzsr10 _ _ ?_
    | with_reducible refine zzb1 _ _ ?_
    | with_reducible refine zzr15 _ _ ?_
    | with_reducible refine zzr14 _ _ ?_
    | with_reducible refine zzr13 _ _ ?_
    | with_reducible refine zzctmp55 _ _ ?_
    | with_reducible refine zzr12 _ _ ?_
    | with_reducible refine zzr11 _ _ ?_
    | with_reducible refine zzr10 _ _ ?_
    | with_reducible refine zzr9 _ _ ?_
    | with_reducible refine zzr8 _ _ ?_
    | with_reducible refine zzr7 _ _ ?_
    | with_reducible refine zzsr5 _ _ ?_
    | with_reducible refine zzr6 _ _ ?_
    | with_reducible refine zzr5 _ _ ?_
    | with_reducible refine zzr4 _ _ ?_
    | with_reducible refine zzsr2 _ _ ?_
    | with_reducible refine zzr3 _ _ ?_
    | with_reducible refine zzr2 _ _ ?_
    | with_reducible refine zzr1 _ _ ?_
    | with_reducible refine zzr0 _ _ ?_
    | with_reducible refine hJ8 _ _ ?_
    | (with_reducible refine awp_seq_e (a := .region 8 _ _) [(0, .rd .u64 (limbs (val a))), (6, .v (.int .i64 0)), (7, .v (.int .i64 s)), (8, .v (.bool (!(val a % 2 ^ s == 0))))] [] ?_ ?_; rotate_left; intro KJ hJ8)
    | (with_reducible refine awp_lp (σ := Nat × List Int) (fun s1 => s1.1 ≤ (limbs (val a)).length ∧ s1.2.length = (limbs (val a)).length ∧ lim s1.2 ∧ s1.2.drop s1.1 = (limbs (val a)).drop s1.1 ∧ val (s1.2.take s1.1) + 2 ^ (64 * s1.1) * (val ((limbs (val a)).drop s1.1) / 2 ^ s) = val (limbs (val a)) / 2 ^ s) (fun s1 => [(0, .rd .u64 (limbs (val a))), (6, .v (.int .i64 0)), (7, .v (.int .i64 s)), (8, .v (.bool (!(val a % 2 ^ s == 0)))), (9, .ow 784), (53, .v (.int .i64 (limbs (val a)).length)), (54, .v (.int .i64 s1.1))]) (fun s1 => [(784, .ints .u64 s1.2, false)]) (fun s1 => (limbs (val a)).length - s1.1) (0, limbs (val a)) ?_ ?_ (fun s1 hs1 => ?_))
    | (with_reducible refine awp_seq_l (a := .region 18 _ _) [4, 5] ?_; intro Kzzr18 zzr18)
    | (with_reducible refine awp_seq_l (a := .seq (.region 10 _ _) _) [8, 9] ?_; intro Kzzsr10 zzsr10)
    | (with_reducible refine awp_seq_l (a := .block 1 _) [0, 6, 7, 8, 9, 53, 54] ?_; intro Kzzb1 zzb1)
    | (with_reducible refine awp_seq_l (a := .region 15 _ _) [0, 6, 7, 8, 9, 10, 53, 54, 68] ?_; intro Kzzr15 zzr15)
    | (with_reducible refine awp_seq_l (a := .region 14 _ _) [0, 6, 7, 8, 9, 10, 53, 54] ?_; intro Kzzr14 zzr14)
    | (with_reducible refine awp_seq_l (a := .region 13 _ _) [0, 6, 7, 8, 9, 10, 53, 54] ?_; intro Kzzr13 zzr13)
    | (with_reducible refine awp_seq_l (a := .cond (.tmp 55) _ _) [0, 6, 7, 8, 9, 53, 54] ?_; intro Kzzctmp55 zzctmp55)
    | (with_reducible refine awp_seq_l (a := .region 12 _ _) [0, 6, 7, 8, 9, 53, 54, 55] ?_; intro Kzzr12 zzr12)
    | (with_reducible refine awp_seq_l (a := .region 11 _ _) [0, 6, 7, 8, 9, 53, 54] ?_; intro Kzzr11 zzr11)
    | (with_reducible refine awp_seq_l (a := .region 10 _ _) [0, 6, 7, 8, 9, 51] ?_; intro Kzzr10 zzr10)
    | (with_reducible refine awp_seq_l (a := .region 9 _ _) [0, 6, 7, 8, 9] ?_; intro Kzzr9 zzr9)
    | (with_reducible refine awp_seq_l (a := .region 8 _ _) [0, 6, 7, 8] ?_; intro Kzzr8 zzr8)
    | (with_reducible refine awp_seq_l (a := .region 7 _ _) [0, 6, 7] ?_; intro Kzzr7 zzr7)
    | (with_reducible refine awp_seq_l (a := .seq (.region 5 _ _) _) [0, 1, 6] ?_; intro Kzzsr5 zzsr5)
    | (with_reducible refine awp_seq_l (a := .region 6 _ _) [4, 5] ?_; intro Kzzr6 zzr6)
    | (with_reducible refine awp_seq_l (a := .region 5 _ _) [0, 1, 6, 24] ?_; intro Kzzr5 zzr5)
    | (with_reducible refine awp_seq_l (a := .region 4 _ _) [0, 1, 6] ?_; intro Kzzr4 zzr4)
    | (with_reducible refine awp_seq_l (a := .seq (.region 2 _ _) _) [0, 1] ?_; intro Kzzsr2 zzsr2)
    | (with_reducible refine awp_seq_l (a := .region 3 _ _) [4, 5] ?_; intro Kzzr3 zzr3)
    | (with_reducible refine awp_seq_l (a := .region 2 _ _) [0, 1, 16] ?_; intro Kzzr2 zzr2)
    | (with_reducible refine awp_seq_l (a := .region 1 _ _) [0, 1] ?_; intro Kzzr1 zzr1)
    | (with_reducible refine awp_seq_l (a := .region 0 _ _) [0, 1] ?_; intro Kzzr0 zzr0)
    | (with_reducible refine awp_seq_k ?_; intro K hK)
    | (with_reducible refine awp_region_a ?_; intro all hall K hK)
    | (with_reducible refine awp_draw_a (id := 16) ?_ ?_; kernel_rfl; intro all hall K hK)
    | (with_reducible refine awp_draw_n ?_ ?_; kernel_rfl; intro all hall K hK)
    | (with_reducible refine Chk_i ?_ ?_)
    | (with_reducible refine keysC_i ?_; kernel_rfl)
    | (with_reducible first | refine awp_block_i ?_ | refine awp_skip_i ?_ | refine awp_ret_i ?_ | refine awp_exit_i ?_ | refine thenP_ret_i ?_ | refine thenP_exit_i ?_ | refine lpP_ret_i ?_ | refine lpP_exit_i ?_ | refine unrP_succ_i ?_ | refine unrP_ret_i ?_ | refine unrP_exit_i ?_ | refine blockP_normal_i ?_ | refine blockP_ret_i ?_)
    | (with_reducible refine blockP_exit_i ?_; simp only [↓reduceIte, Nat.reduceEqDiff])
    | with_reducible refine lpP_normal_i ?_)
  all_goals (try (rcases s1 with ⟨i, o⟩))
  all_goals (try dsimp only at *)
  all_goals (try simp only [inR])
  all_goals (try omega)
  · have h0 : val a = 0 := len_zero.1 (by omega)
    rw [h0]; simp [limbs_zero]
  · (refine ent_ok [] rfl ?_ ?_ <;> simp only [memLe, slotsLe, AvLe, lk, ↓reduceIte, Nat.reduceEqDiff, Option.isSome_some, and_self, and_true, true_and, reduceCtorEq, List.map_nil, List.map_cons, Option.some.injEq, AV.v.injEq, Value.int.injEq, Value.bool.injEq, AV.rd.injEq, AV.ow.injEq, AV.al.injEq, AV.ref.injEq]) <;> simp [hq]
  · (refine ent_ok [] rfl ?_ ?_ <;> simp only [memLe, slotsLe, AvLe, lk, ↓reduceIte, Nat.reduceEqDiff, Option.isSome_some, and_self, and_true, true_and, reduceCtorEq, List.map_nil, List.map_cons, Option.some.injEq, AV.v.injEq, Value.int.injEq, Value.bool.injEq, AV.rd.injEq, AV.ow.injEq, AV.al.injEq, AV.ref.injEq]) <;> simp [hq]

  · refine ⟨Nat.zero_le _, trivial, lim_limbs _, trivial, ?_⟩
    simp [val]
  · exact Ent.refl _ _
  · have e : (0 + (i : Int) + 1).toNat = i + 1 := by omega
    have h1 := shr_next (s := s) (lim_limbs (val a)) (by omega) hs1.2.1 (by omega) hs1.2.2.1 hs1.2.2.2.1 hs1.2.2.2.2
    have h2 := shr_step (s := s) (o := o) (lim_limbs (val a)) (show i < (limbs (val a)).length by omega) hs1.2.1 (by omega) hs1.2.2.2.2
    rw [e, h1.1]
    exact ⟨(i + 1, _), (by (refine ent_ok [(784, 784)] rfl ?_ ?_ <;> simp only [memLe, slotsLe, AvLe, lk, ↓reduceIte, Nat.reduceEqDiff, Option.isSome_some, and_self, and_true, true_and, reduceCtorEq, List.map_nil, List.map_cons, Option.some.injEq, AV.v.injEq, Value.int.injEq, Value.bool.injEq, AV.rd.injEq, AV.ow.injEq, AV.al.injEq, AV.ref.injEq] <;> omega)), ⟨by dsimp only; omega, by simp [hs1.2.1], lim_set hs1.2.2.1 h1.2.2.1 i, h1.2.2.2, h2⟩, by dsimp only; omega⟩
  · have h1 := shr_next (s := s) (lim_limbs (val a)) (by omega) hs1.2.1 (by omega) hs1.2.2.1 hs1.2.2.2.1 hs1.2.2.2.2
    have h2 := shr_step (s := s) (o := o) (lim_limbs (val a)) (show i < (limbs (val a)).length by omega) hs1.2.1 (by omega) hs1.2.2.2.2
    rw [h1.2.1 (by omega)]
    exact ⟨(i + 1, _), (by (refine ent_ok [(784, 784)] rfl ?_ ?_ <;> simp only [memLe, slotsLe, AvLe, lk, ↓reduceIte, Nat.reduceEqDiff, Option.isSome_some, and_self, and_true, true_and, reduceCtorEq, List.map_nil, List.map_cons, Option.some.injEq, AV.v.injEq, Value.int.injEq, Value.bool.injEq, AV.rd.injEq, AV.ow.injEq, AV.al.injEq, AV.ref.injEq] <;> omega)), ⟨by dsimp only; omega, by simp [hs1.2.1], lim_set hs1.2.2.1 h1.2.2.1 i, h1.2.2.2, h2⟩, by dsimp only; omega⟩
  · have h6 := sz_le o
    omega
  · have hi : i = (limbs (val a)).length := by omega
    subst hi
    have h5 := hs1.2.2.2.2
    rw [List.drop_length, List.take_of_length_le (by omega), val_limbs] at h5
    simp only [val, Nat.zero_div, Nat.mul_zero, Nat.add_zero] at h5
    rw [take_sz hs1.2.2.1, h5]
    all_goals (first | rfl | exact ⟨rfl, rfl⟩)
theorem sound_49 : Sound Try.prog 49 .body (norm s49) := by
  refine sound_norm (sound_body Try.func49 (show Try.f49.body = some (code Try.f49) from rfl) (by kernel_rfl) tysOk G50_ok (drawOk_ok (by kernel_rfl) tysOk G50_ok) (by kernel_rfl) fun ds p r hs hp => ?_)
  unfold s49 at hs
  split at hs
  · cases hs; exact ⟨Nat.le_of_ble_eq_true (by kernel_rfl), w49 _ _ hp⟩
  · cases hs
noncomputable def G49 : Gam := (49, .body, norm s49) :: G50
theorem G49_ok : GamOk Try.prog G49 := gamOk_cons sound_49 G50_ok
end Go.Proofs.AMT
namespace Go.AM
variable {ty : Ty} {Γ : Gam} {Q : Post} {env : List (Nat × AV)} {mem : List (Nat × Ct × Bool)} {c : Code}
theorem unrP_succ {n : Nat} : unrP (ty := ty) (Γ := Γ) c Q (Nat.succ n) .normal env mem = awp ty Γ c (unrP (ty := ty) (Γ := Γ) c Q n) env mem := rfl
theorem unrP_exit {n j : Nat} : unrP (ty := ty) (Γ := Γ) c Q n (.exit j) env mem = Q (.exit j) env mem := by cases n <;> rfl
theorem unrP_ret {n : Nat} : unrP (ty := ty) (Γ := Γ) c Q n .ret env mem = Q .ret env mem := by cases n <;> rfl
namespace LN
def w4 (n i : Nat) : Int := ((n / 2 ^ (64 * i) % 18446744073709551616 : Nat) : Int)
def V4 (a b c d : Int) : Nat := val [a, b, c, d]
theorem w4_lim (n i : Nat) : 0 ≤ w4 n i ∧ w4 n i < 18446744073709551616 := by unfold w4; omega
theorem V4_lt {a b c d : Int} (ha : 0 ≤ a ∧ a < 18446744073709551616) (hb : 0 ≤ b ∧ b < 18446744073709551616) (hc : 0 ≤ c ∧ c < 18446744073709551616) (hd : 0 ≤ d ∧ d < 18446744073709551616) : V4 a b c d < 2 ^ 256 := by
  have h : lim [a, b, c, d] := by
    intro x hx
    simp only [List.mem_cons, List.not_mem_nil, or_false] at hx
    rcases hx with rfl | rfl | rfl | rfl <;> assumption
  exact val_lt h
theorem lim4 {a b c d : Int} (ha : 0 ≤ a ∧ a < 18446744073709551616) (hb : 0 ≤ b ∧ b < 18446744073709551616) (hc : 0 ≤ c ∧ c < 18446744073709551616) (hd : 0 ≤ d ∧ d < 18446744073709551616) : lim [a, b, c, d] := by
  intro x hx
  simp only [List.mem_cons, List.not_mem_nil, or_false] at hx
  rcases hx with rfl | rfl | rfl | rfl <;> assumption
theorem w4_V4 {a b c d : Int} (ha : 0 ≤ a ∧ a < 18446744073709551616) (hb : 0 ≤ b ∧ b < 18446744073709551616) (hc : 0 ≤ c ∧ c < 18446744073709551616) (hd : 0 ≤ d ∧ d < 18446744073709551616) :
    w4 (V4 a b c d) 0 = a ∧ w4 (V4 a b c d) 1 = b ∧ w4 (V4 a b c d) 2 = c ∧ w4 (V4 a b c d) 3 = d := by
  have h := lim4 ha hb hc hd
  have e : ∀ i, w4 (V4 a b c d) i = (([a, b, c, d].getD i 0).toNat : Int) := fun i => by unfold w4 V4; rw [val_getD _ i h]
  rw [e, e, e, e]
  simp
  omega
theorem V4_w4 {n : Nat} (h : n < 2 ^ 256) : V4 (w4 n 0) (w4 n 1) (w4 n 2) (w4 n 3) = n := by
  unfold V4 w4
  simp only [val, Int.toNat_natCast]
  have e1 : n / 2 ^ (64 * 1) = n / 18446744073709551616 := rfl
  have e2 : n / 2 ^ (64 * 2) = n / 18446744073709551616 / 18446744073709551616 := by rw [Nat.div_div_eq_div_mul]
  have e3 : n / 2 ^ (64 * 3) = n / 18446744073709551616 / 18446744073709551616 / 18446744073709551616 := by rw [Nat.div_div_eq_div_mul, Nat.div_div_eq_div_mul]
  have e0 : n / 2 ^ (64 * 0) = n := by simp
  rw [e0, e1, e2, e3]
  have h' : n < 115792089237316195423570985008687907853269984665640564039457584007913129639936 := h
  omega
theorem and_w4 (x y i : Nat) : AM.bits .and .u64 (w4 x i) (w4 y i) = w4 (x &&& y) i := by
  rw [and_u64 (w4_lim x i) (w4_lim y i)]
  unfold w4
  simp only [Int.toNat_natCast]
  congr 1
  have e : (18446744073709551616 : Nat) = 2 ^ 64 := rfl
  rw [e]
  apply Nat.eq_of_testBit_eq
  intro j
  simp only [Nat.testBit_and, Nat.testBit_mod_two_pow, Nat.testBit_div_two_pow]
  cases decide (j < 64) <;> simp
theorem or_w4 (x y i : Nat) : AM.bits .or .u64 (w4 x i) (w4 y i) = w4 (x ||| y) i := by
  rw [or_u64 (w4_lim x i) (w4_lim y i)]
  unfold w4
  simp only [Int.toNat_natCast]
  congr 1
  have e : (18446744073709551616 : Nat) = 2 ^ 64 := rfl
  rw [e]
  apply Nat.eq_of_testBit_eq
  intro j
  simp only [Nat.testBit_or, Nat.testBit_mod_two_pow, Nat.testBit_div_two_pow]
  cases decide (j < 64) <;> simp
end LN
end Go.AM
set_option maxRecDepth 20000
namespace Go.Proofs.AMT
open Go.AM Go.AM.LN
attribute [local congr] bindO_congr bindS_congr bindG_congr awpOps_congr aOne_congr awp_congr aCond_congr awpD_congr dOne_congr keysB_congr nOne_congr thenP_congr blockP_congr Chk_congr Brk_congr
noncomputable def s61 : CSpec := fun ds => match ds with
  | [.v (.agg ⟨[.int .u64 a0, .int .u64 a1, .int .u64 a2, .int .u64 a3]⟩), .v (.agg ⟨[.int .u64 b0, .int .u64 b1, .int .u64 b2, .int .u64 b3]⟩)] => some (True, .one (.v (.agg #[.int .u64 (AM.bits .and .u64 a0 b0), .int .u64 (AM.bits .and .u64 a1 b1), .int .u64 (AM.bits .and .u64 a2 b2), .int .u64 (AM.bits .and .u64 a3 b3)])))
  | _ => none
theorem s61_eq (a0 a1 a2 a3 : Int) (b0 b1 b2 b3 : Int) : norm s61 [.v (.agg #[.int .u64 a0, .int .u64 a1, .int .u64 a2, .int .u64 a3]), .v (.agg #[.int .u64 b0, .int .u64 b1, .int .u64 b2, .int .u64 b3])] = some (True, .one (.v (.agg #[.int .u64 (AM.bits .and .u64 a0 b0), .int .u64 (AM.bits .and .u64 a1 b1), .int .u64 (AM.bits .and .u64 a2 b2), .int .u64 (AM.bits .and .u64 a3 b3)]))) := rfl
set_option maxHeartbeats 20000000 in
theorem w61 (a0 a1 a2 a3 : Int) (b0 b1 b2 b3 : Int) (hp : True) : awp ty G49 (code Try.f61) (retP ty Try.f61.results.toList (.one (.v (.agg #[.int .u64 (AM.bits .and .u64 a0 b0), .int .u64 (AM.bits .and .u64 a1 b1), .int .u64 (AM.bits .and .u64 a2 b2), .int .u64 (AM.bits .and .u64 a3 b3)])))) (entry 0 [.v (.agg #[.int .u64 a0, .int .u64 a1, .int .u64 a2, .int .u64 a3]), .v (.agg #[.int .u64 b0, .int .u64 b1, .int .u64 b2, .int .u64 b3])]) [] := by
  unfold code
  simp only [Try.f61, Option.getD_some]
  all_goals repeat' (first
    | ((first
       | (with_reducible refine ops_k ?_; intro X hX)
       | (with_reducible refine opsN_k ?_; intro X hX)
       | (with_reducible show awp _ _ _ _ (keepL _ _) _)
       | (with_reducible refine hX _ _ _ _ ?_; clear hX X)
       | (with_reducible refine opsD_k ?_; intro X hX)
       | with_reducible refine awp_cond_k ?_
       | (with_reducible refine Brk_i ?_ ?_ <;> intro hb <;> (try simp only [hb]) <;> have hq := hb <;> try simp only [decide_eq_true_eq, decide_eq_false_iff_not, gt_iff_lt, ge_iff_le, Int.not_lt, Int.not_le, beq_iff_eq, beq_eq_false_iff_ne, Bool.not_eq_true', Bool.not_eq_false', Bool.and_eq_true, Bool.or_eq_true, Bool.and_eq_false_imp, Bool.or_eq_false_iff, ne_eq, Classical.not_not] at hq)
       | with_reducible refine retP_ret_i ?_
       | with_reducible refine retP_normal_i ?_
       | (with_reducible (show bindG _ _ _ _ _); simp only [hall])) <;> try simp only [Go.AM.S1, Go.AM.S2, Go.AM.S3, Go.AM.S4, Go.AM.S5, Go.AM.S6, Go.AM.S7, Go.AM.S8, Go.AM.S9, Nat.reduceAdd, Nat.reduceMul, Nat.reduceSub, ↓reduceIte, Nat.reduceEqDiff, Nat.reduceLT, Nat.reduceLeDiff, reduceCtorEq, Int.reduceBEq, Int.reduceBNe, Nat.reduceBEq, Int.reduceEq, Int.reduceToNat, Int.reduceLE, Int.reduceLT, Nat.reduceDiv, Int.reduceAdd, Int.reduceSub, Int.reduceMul, Int.reduceNeg, Int.reduceGT, Int.reduceGE, Nat.reduceMod, ty_3, ty_26, ty_28])
    | (with_reducible refine hX _ _ ?_; clear hX X)
    | with_reducible refine opsD_nil_i ?_
    | (with_reducible refine keysB_i ?_; kernel_rfl)
    | ((with_reducible show clashK _ _ _ = true); kernel_rfl)
    | with_reducible refine ops_nil_i ?_
    | with_reducible refine opsN_nil_i ?_
    | (with_reducible refine hK _ _ ?_; clear hK K)
    | with_reducible refine thenP_normal_i ?_
    | with_reducible refine zzr6 _ _ ?_
    | with_reducible refine zzsr1 _ _ ?_
    | with_reducible refine zzb1 _ _ ?_
    | with_reducible refine zzr3 _ _ ?_
    | with_reducible refine zzctmp7 _ _ ?_
    | with_reducible refine zzr2 _ _ ?_
    | with_reducible refine zzr1 _ _ ?_
    | with_reducible refine zzr0 _ _ ?_
    | (with_reducible refine awp_unroll (Nat.succ (Nat.succ (Nat.succ (Nat.succ (Nat.succ Nat.zero))))) ?_)
    | (with_reducible refine awp_seq_l (a := .region 6 _ _) [4] ?_; intro Kzzr6 zzr6)
    | (with_reducible refine awp_seq_l (a := .seq (.region 1 _ _) _) [2, 4] ?_; intro Kzzsr1 zzsr1)
    | (with_reducible refine awp_seq_l (a := .block 1 _) [2, 3, 4, 6] ?_; intro Kzzb1 zzb1)
    | (with_reducible refine awp_seq_l (a := .region 3 _ _) [2, 3, 4, 5, 6] ?_; intro Kzzr3 zzr3)
    | (with_reducible refine awp_seq_l (a := .cond (.tmp 7) _ _) [2, 3, 4, 6] ?_; intro Kzzctmp7 zzctmp7)
    | (with_reducible refine awp_seq_l (a := .region 2 _ _) [2, 3, 4, 6, 7] ?_; intro Kzzr2 zzr2)
    | (with_reducible refine awp_seq_l (a := .region 1 _ _) [2, 3, 4, 6] ?_; intro Kzzr1 zzr1)
    | (with_reducible refine awp_seq_l (a := .region 0 _ _) [2, 3, 4] ?_; intro Kzzr0 zzr0)
    | (with_reducible refine awp_seq_k ?_; intro K hK)
    | (with_reducible refine awp_region_a ?_; intro all hall K hK)
    | (with_reducible refine awp_draw_a (id := 4) ?_ ?_; kernel_rfl; intro all hall K hK)
    | (with_reducible refine awp_draw_n ?_ ?_; kernel_rfl; intro all hall K hK)
    | (with_reducible refine Chk_i ?_ ?_)
    | (with_reducible refine keysC_i ?_; kernel_rfl)
    | (with_reducible first | refine awp_block_i ?_ | refine awp_skip_i ?_ | refine awp_ret_i ?_ | refine awp_exit_i ?_ | refine thenP_ret_i ?_ | refine thenP_exit_i ?_ | refine lpP_ret_i ?_ | refine lpP_exit_i ?_ | refine unrP_succ_i ?_ | refine unrP_ret_i ?_ | refine unrP_exit_i ?_ | refine blockP_normal_i ?_ | refine blockP_ret_i ?_)
    | (with_reducible refine blockP_exit_i ?_; simp only [↓reduceIte, Nat.reduceEqDiff])
    | with_reducible refine lpP_normal_i ?_)
  all_goals (simp only [inR]; omega)
theorem sound_61 : Sound Try.prog 61 .body (norm s61) := by
  refine sound_norm (sound_body Try.func61 (show Try.f61.body = some (code Try.f61) from rfl) (by kernel_rfl) tysOk G49_ok (drawOk_ok (by kernel_rfl) tysOk G49_ok) (by kernel_rfl) fun ds p r hs hp => ?_)
  unfold s61 at hs
  split at hs
  · cases hs; exact ⟨Nat.le_of_ble_eq_true (by kernel_rfl), w61 _ _ _ _ _ _ _ _ hp⟩
  · cases hs
noncomputable def G61 : Gam := (61, .body, norm s61) :: G49
theorem G61_ok : GamOk Try.prog G61 := gamOk_cons sound_61 G49_ok
noncomputable def s64 : CSpec := fun ds => match ds with
  | [.v (.agg ⟨[.int .u64 a0, .int .u64 a1, .int .u64 a2, .int .u64 a3]⟩), .v (.agg ⟨[.int .u64 b0, .int .u64 b1, .int .u64 b2, .int .u64 b3]⟩)] => some (True, .one (.v (.agg #[.int .u64 (AM.bits .or .u64 a0 b0), .int .u64 (AM.bits .or .u64 a1 b1), .int .u64 (AM.bits .or .u64 a2 b2), .int .u64 (AM.bits .or .u64 a3 b3)])))
  | _ => none
theorem s64_eq (a0 a1 a2 a3 : Int) (b0 b1 b2 b3 : Int) : norm s64 [.v (.agg #[.int .u64 a0, .int .u64 a1, .int .u64 a2, .int .u64 a3]), .v (.agg #[.int .u64 b0, .int .u64 b1, .int .u64 b2, .int .u64 b3])] = some (True, .one (.v (.agg #[.int .u64 (AM.bits .or .u64 a0 b0), .int .u64 (AM.bits .or .u64 a1 b1), .int .u64 (AM.bits .or .u64 a2 b2), .int .u64 (AM.bits .or .u64 a3 b3)]))) := rfl
set_option maxHeartbeats 20000000 in
theorem w64 (a0 a1 a2 a3 : Int) (b0 b1 b2 b3 : Int) (hp : True) : awp ty G61 (code Try.f64) (retP ty Try.f64.results.toList (.one (.v (.agg #[.int .u64 (AM.bits .or .u64 a0 b0), .int .u64 (AM.bits .or .u64 a1 b1), .int .u64 (AM.bits .or .u64 a2 b2), .int .u64 (AM.bits .or .u64 a3 b3)])))) (entry 0 [.v (.agg #[.int .u64 a0, .int .u64 a1, .int .u64 a2, .int .u64 a3]), .v (.agg #[.int .u64 b0, .int .u64 b1, .int .u64 b2, .int .u64 b3])]) [] := by
  unfold code
  simp only [Try.f64, Option.getD_some]
  all_goals repeat' (first
    | ((first
       | (with_reducible refine ops_k ?_; intro X hX)
       | (with_reducible refine opsN_k ?_; intro X hX)
       | (with_reducible show awp _ _ _ _ (keepL _ _) _)
       | (with_reducible refine hX _ _ _ _ ?_; clear hX X)
       | (with_reducible refine opsD_k ?_; intro X hX)
       | with_reducible refine awp_cond_k ?_
       | (with_reducible refine Brk_i ?_ ?_ <;> intro hb <;> (try simp only [hb]) <;> have hq := hb <;> try simp only [decide_eq_true_eq, decide_eq_false_iff_not, gt_iff_lt, ge_iff_le, Int.not_lt, Int.not_le, beq_iff_eq, beq_eq_false_iff_ne, Bool.not_eq_true', Bool.not_eq_false', Bool.and_eq_true, Bool.or_eq_true, Bool.and_eq_false_imp, Bool.or_eq_false_iff, ne_eq, Classical.not_not] at hq)
       | with_reducible refine retP_ret_i ?_
       | with_reducible refine retP_normal_i ?_
       | (with_reducible (show bindG _ _ _ _ _); simp only [hall])) <;> try simp only [Go.AM.S1, Go.AM.S2, Go.AM.S3, Go.AM.S4, Go.AM.S5, Go.AM.S6, Go.AM.S7, Go.AM.S8, Go.AM.S9, Nat.reduceAdd, Nat.reduceMul, Nat.reduceSub, ↓reduceIte, Nat.reduceEqDiff, Nat.reduceLT, Nat.reduceLeDiff, reduceCtorEq, Int.reduceBEq, Int.reduceBNe, Nat.reduceBEq, Int.reduceEq, Int.reduceToNat, Int.reduceLE, Int.reduceLT, Nat.reduceDiv, Int.reduceAdd, Int.reduceSub, Int.reduceMul, Int.reduceNeg, Int.reduceGT, Int.reduceGE, Nat.reduceMod, ty_3, ty_26, ty_28])
    | (with_reducible refine hX _ _ ?_; clear hX X)
    | with_reducible refine opsD_nil_i ?_
    | (with_reducible refine keysB_i ?_; kernel_rfl)
    | ((with_reducible show clashK _ _ _ = true); kernel_rfl)
    | with_reducible refine ops_nil_i ?_
    | with_reducible refine opsN_nil_i ?_
    | (with_reducible refine hK _ _ ?_; clear hK K)
    | with_reducible refine thenP_normal_i ?_
    | with_reducible refine zzr6 _ _ ?_
    | with_reducible refine zzsr1 _ _ ?_
    | with_reducible refine zzb1 _ _ ?_
    | with_reducible refine zzr3 _ _ ?_
    | with_reducible refine zzctmp7 _ _ ?_
    | with_reducible refine zzr2 _ _ ?_
    | with_reducible refine zzr1 _ _ ?_
    | with_reducible refine zzr0 _ _ ?_
    | (with_reducible refine awp_unroll (Nat.succ (Nat.succ (Nat.succ (Nat.succ (Nat.succ Nat.zero))))) ?_)
    | (with_reducible refine awp_seq_l (a := .region 6 _ _) [4] ?_; intro Kzzr6 zzr6)
    | (with_reducible refine awp_seq_l (a := .seq (.region 1 _ _) _) [2, 4] ?_; intro Kzzsr1 zzsr1)
    | (with_reducible refine awp_seq_l (a := .block 1 _) [2, 3, 4, 6] ?_; intro Kzzb1 zzb1)
    | (with_reducible refine awp_seq_l (a := .region 3 _ _) [2, 3, 4, 5, 6] ?_; intro Kzzr3 zzr3)
    | (with_reducible refine awp_seq_l (a := .cond (.tmp 7) _ _) [2, 3, 4, 6] ?_; intro Kzzctmp7 zzctmp7)
    | (with_reducible refine awp_seq_l (a := .region 2 _ _) [2, 3, 4, 6, 7] ?_; intro Kzzr2 zzr2)
    | (with_reducible refine awp_seq_l (a := .region 1 _ _) [2, 3, 4, 6] ?_; intro Kzzr1 zzr1)
    | (with_reducible refine awp_seq_l (a := .region 0 _ _) [2, 3, 4] ?_; intro Kzzr0 zzr0)
    | (with_reducible refine awp_seq_k ?_; intro K hK)
    | (with_reducible refine awp_region_a ?_; intro all hall K hK)
    | (with_reducible refine awp_draw_a (id := 4) ?_ ?_; kernel_rfl; intro all hall K hK)
    | (with_reducible refine awp_draw_n ?_ ?_; kernel_rfl; intro all hall K hK)
    | (with_reducible refine Chk_i ?_ ?_)
    | (with_reducible refine keysC_i ?_; kernel_rfl)
    | (with_reducible first | refine awp_block_i ?_ | refine awp_skip_i ?_ | refine awp_ret_i ?_ | refine awp_exit_i ?_ | refine thenP_ret_i ?_ | refine thenP_exit_i ?_ | refine lpP_ret_i ?_ | refine lpP_exit_i ?_ | refine unrP_succ_i ?_ | refine unrP_ret_i ?_ | refine unrP_exit_i ?_ | refine blockP_normal_i ?_ | refine blockP_ret_i ?_)
    | (with_reducible refine blockP_exit_i ?_; simp only [↓reduceIte, Nat.reduceEqDiff])
    | with_reducible refine lpP_normal_i ?_)
  all_goals (simp only [inR]; omega)
theorem sound_64 : Sound Try.prog 64 .body (norm s64) := by
  refine sound_norm (sound_body Try.func64 (show Try.f64.body = some (code Try.f64) from rfl) (by kernel_rfl) tysOk G61_ok (drawOk_ok (by kernel_rfl) tysOk G61_ok) (by kernel_rfl) fun ds p r hs hp => ?_)
  unfold s64 at hs
  split at hs
  · cases hs; exact ⟨Nat.le_of_ble_eq_true (by kernel_rfl), w64 _ _ _ _ _ _ _ _ hp⟩
  · cases hs
noncomputable def G64 : Gam := (64, .body, norm s64) :: G61
theorem G64_ok : GamOk Try.prog G64 := gamOk_cons sound_64 G61_ok
noncomputable def s93 : CSpec := fun ds => match ds with
  | [.v (.int .u64 x)] => some (True, .one (.v (.agg #[.int .u64 x, .int .u64 0, .int .u64 0, .int .u64 0])))
  | _ => none
theorem s93_eq (x : Int) : norm s93 [.v (.int .u64 x)] = some (True, .one (.v (.agg #[.int .u64 x, .int .u64 0, .int .u64 0, .int .u64 0]))) := rfl
set_option maxHeartbeats 20000000 in
theorem w93 (x : Int) (hp : True) : awp ty G64 (code Try.f93) (retP ty Try.f93.results.toList (.one (.v (.agg #[.int .u64 x, .int .u64 0, .int .u64 0, .int .u64 0])))) (entry 0 [.v (.int .u64 x)]) [] := by
  unfold code
  simp only [Try.f93, Option.getD_some]
  all_goals repeat' (first
    | ((first
       | (with_reducible refine ops_k ?_; intro X hX)
       | (with_reducible refine opsN_k ?_; intro X hX)
       | (with_reducible show awp _ _ _ _ (keepL _ _) _)
       | with_reducible refine awp_cond_k ?_
       | (with_reducible refine Brk_i ?_ ?_ <;> intro hb <;> (try simp only [hb]) <;> have hq := hb <;> try simp only [decide_eq_true_eq, decide_eq_false_iff_not, gt_iff_lt, ge_iff_le, Int.not_lt, Int.not_le, beq_iff_eq, beq_eq_false_iff_ne, Bool.not_eq_true', Bool.not_eq_false', Bool.and_eq_true, Bool.or_eq_true, Bool.and_eq_false_imp, Bool.or_eq_false_iff, ne_eq, Classical.not_not] at hq)
       | with_reducible refine retP_ret_i ?_
       | with_reducible refine retP_normal_i ?_
       | (with_reducible (show bindG _ _ _ _ _); simp only [hall])) <;> try simp only [Go.AM.S1, Go.AM.S2, Go.AM.S3, Go.AM.S4, Go.AM.S5, Go.AM.S6, Go.AM.S7, Go.AM.S8, Go.AM.S9, Nat.reduceAdd, Nat.reduceMul, Nat.reduceSub, ↓reduceIte, Nat.reduceEqDiff, Nat.reduceLT, Nat.reduceLeDiff, reduceCtorEq, Int.reduceBEq, Int.reduceBNe, Nat.reduceBEq, Int.reduceEq, Int.reduceToNat, Int.reduceLE, Int.reduceLT, Nat.reduceDiv, Int.reduceAdd, Int.reduceSub, Int.reduceMul, Int.reduceNeg, Int.reduceGT, Int.reduceGE, Nat.reduceMod, ty_26, ty_27])
    | (with_reducible refine hX _ _ ?_; clear hX X)
    | with_reducible refine ops_nil_i ?_
    | with_reducible refine opsN_nil_i ?_
    | (with_reducible refine hK _ _ ?_; clear hK K)
    | with_reducible refine thenP_normal_i ?_
    | with_reducible refine zzr3 _ _ ?_
    | with_reducible refine zzr2 _ _ ?_
    | with_reducible refine zzr1 _ _ ?_
    | with_reducible refine zzr0 _ _ ?_
    | (with_reducible refine awp_seq_l (a := .region 3 _ _) [2] ?_; intro Kzzr3 zzr3)
    | (with_reducible refine awp_seq_l (a := .region 2 _ _) [2, 3] ?_; intro Kzzr2 zzr2)
    | (with_reducible refine awp_seq_l (a := .region 1 _ _) [0, 2, 3] ?_; intro Kzzr1 zzr1)
    | (with_reducible refine awp_seq_l (a := .region 0 _ _) [0, 2] ?_; intro Kzzr0 zzr0)
    | (with_reducible refine awp_seq_k ?_; intro K hK)
    | (with_reducible refine awp_region_a ?_; intro all hall K hK)
    | (with_reducible refine awp_draw_n ?_ ?_; kernel_rfl; intro all hall K hK)
    | (with_reducible refine Chk_i ?_ ?_)
    | (with_reducible refine keysC_i ?_; kernel_rfl)
    | (with_reducible first | refine awp_block_i ?_ | refine awp_skip_i ?_ | refine awp_ret_i ?_ | refine awp_exit_i ?_ | refine thenP_ret_i ?_ | refine thenP_exit_i ?_ | refine lpP_ret_i ?_ | refine lpP_exit_i ?_ | refine unrP_succ_i ?_ | refine unrP_ret_i ?_ | refine unrP_exit_i ?_ | refine blockP_normal_i ?_ | refine blockP_ret_i ?_)
    | (with_reducible refine blockP_exit_i ?_; simp only [↓reduceIte, Nat.reduceEqDiff])
    | with_reducible refine lpP_normal_i ?_)
theorem sound_93 : Sound Try.prog 93 .body (norm s93) := by
  refine sound_norm (sound_body Try.func93 (show Try.f93.body = some (code Try.f93) from rfl) (by kernel_rfl) tysOk G64_ok (drawOk_ok (by kernel_rfl) tysOk G64_ok) (by kernel_rfl) fun ds p r hs hp => ?_)
  unfold s93 at hs
  split at hs
  · cases hs; exact ⟨Nat.le_of_ble_eq_true (by kernel_rfl), w93 _ hp⟩
  · cases hs
noncomputable def G93 : Gam := (93, .body, norm s93) :: G64
theorem G93_ok : GamOk Try.prog G93 := gamOk_cons sound_93 G64_ok
end Go.Proofs.AMT
